import Derived.Laws.CopyRow
import Derived.Test.YtaomejbaocehnaaProg
import Derived.KernelRfl
import Derived.Test.YtaomejbaocehnaaPackSuiteAnswers1

/- Loops in the calculus: counting loops, the search of slices.IndexFunc. -/

namespace Go.V
open Go Go.RowKit Go.Q

theorem _root_.Go.Q.Sl.up {w w' : World} {a : Option Addr} {n c sz : Nat} {xs : List Value} (h : Sl w a n c sz xs) (hb : bel w w') : Sl w' a n c sz xs := h.kept hb
/-- a loop that counts from 0 to n -/
theorem loop_up {w0 : World} {body : ((Int × Unit) → World → Prop) → (Int × Unit) → World → Prop} (n : Nat) (I : Nat → World → Prop) (h0 : I 0 w0)
    (h : ∀ i w, i ≤ n → I i w → ∀ again : (Int × Unit) → World → Prop, (∀ w', i < n → I (i + 1) w' → again ((i : Int) + 1, ()) w') → body again ((i : Int), ()) w) : loop (0, ()) w0 body := by
  refine loop_gh (G := Nat) (fun i s w' => s = ((i : Int), ()) ∧ i ≤ n ∧ I i w') (fun i => n - i) 0 ⟨rfl, Nat.zero_le _, h0⟩ ?_
  rintro i s w ⟨rfl, hi, hI⟩ again hag
  exact h i w hi hI again fun w' hlt hI' => hag (i + 1) _ _ ⟨rfl, hlt, hI'⟩ (by omega)
/-- the same with a value that is built; the counter stands behind it -/
theorem loop_upA {A : Type} {a0 : A} {w0 : World} {body : ((A × Int × Unit) → World → Prop) → (A × Int × Unit) → World → Prop} (n : Nat) (I : Nat → A → World → Prop) (h0 : I 0 a0 w0)
    (h : ∀ i a w, i ≤ n → I i a w → ∀ again : (A × Int × Unit) → World → Prop, (∀ a' w', i < n → I (i + 1) a' w' → again (a', (i : Int) + 1, ()) w') → body again (a, (i : Int), ()) w) : loop (a0, 0, ()) w0 body := by
  refine loop_gh (G := Nat) (fun i s w' => s.2 = ((i : Int), ()) ∧ i ≤ n ∧ I i s.1 w') (fun i => n - i) 0 ⟨rfl, Nat.zero_le _, h0⟩ ?_
  rintro i ⟨a, s⟩ w ⟨rfl, hi, hI⟩ again hag
  exact h i a w hi hI again fun a' w' hlt hI' => hag (i + 1) _ _ ⟨rfl, hlt, hI'⟩ (by omega)
/-- the counter stands ahead -/
theorem loop_upB {A : Type} {a0 : A} {w0 : World} {body : ((Int × A × Unit) → World → Prop) → (Int × A × Unit) → World → Prop} (n : Nat) (I : Nat → A → World → Prop) (h0 : I 0 a0 w0)
    (h : ∀ i a w, i ≤ n → I i a w → ∀ again : (Int × A × Unit) → World → Prop, (∀ a' w', i < n → I (i + 1) a' w' → again ((i : Int) + 1, a', ()) w') → body again ((i : Int), a, ()) w) : loop (0, a0, ()) w0 body := by
  refine loop_gh (G := Nat) (fun i s w' => s.1 = (i : Int) ∧ i ≤ n ∧ I i s.2.1 w') (fun i => n - i) 0 ⟨rfl, Nat.zero_le _, h0⟩ ?_
  rintro i ⟨_, a, _⟩ w ⟨rfl, hi, hI⟩ again hag
  exact h i a w hi hI again fun a' w' hlt hI' => hag (i + 1) _ _ ⟨rfl, hlt, hI'⟩ (by omega)

/-- what holds of the first elements -/
theorem pre_step {α : Type} {p : α → Prop} {l : List α} {i : Nat} {y : α} (h : ∀ j, j < i → ∀ x, l[j]? = some x → p x) (hy : l[i]? = some y) (hp : p y) : ∀ j, j < i + 1 → ∀ x, l[j]? = some x → p x := by
  intro j hj x hx
  rcases Nat.lt_or_ge j i with q | q
  · exact h j q x hx
  · have : j = i := by omega
    subst this
    rw [hy] at hx; cases hx; exact hp
theorem pre_zero {α : Type} {p : α → Prop} {l : List α} : ∀ j, j < 0 → ∀ x, l[j]? = some x → p x := fun j h => by omega
theorem pre_all {α : Type} {p : α → Prop} {l : List α} {n : Nat} (h : ∀ j, j < n → ∀ x, l[j]? = some x → p x) (hn : l.length ≤ n) : ∀ x ∈ l, p x := by
  intro x hx
  obtain ⟨j, hj, rfl⟩ := List.mem_iff_getElem.1 hx
  exact h j (by omega) _ (List.getElem?_eq_getElem hj)
theorem mem_at {α : Type} {l : List α} {i : Nat} {y : α} (h : l[i]? = some y) : y ∈ l := List.mem_of_getElem? h

/-- a function is read from memory, and called -/
theorem rdF_box0 {P : Program} {t : TypeId} {w : World} {a : Addr} {cs : List Value} {h : Nat} {fi ca : Array Value} {k : Nat → Array Value → Array Value → Prop} (ht : scal P t = true) (hb : Box w a cs) (hi : cs[0]? = some (.func (.func h) fi ca)) (hk : k h fi ca) :
    rdF P bel (Instr.loadAt t (.pointer (some a))) w k := ⟨h, fi, ca, fun w' hw => by rw [run_loadAt, run_loadVar1 ht (hw.cell (hb.cell0 hi))], hk⟩
theorem callX_of {P : Program} {h : Nat} {args args' : List Value} {r : RS} {w : World} {k : r.T → World → Prop} {fn : Func} (hf : P.funcs[h]? = some fn) (hp : plainF fn = true) (ha : args = args') (hc : call P h args' r w k) : callX P h args r w k := by
  unfold callX; rw [hf]; dsimp only; rw [hp]; subst ha; exact hc

/-- a variable is made and written at once -/
theorem var_mk {P : Program} {e : TypeId} {z v : Value} {w : World} {k : Addr → World → Prop} (hz : zeroOf P e = some z) (hs : sizeIs P e v.cells.size = true) (hl : v.cells.size = z.cells.size) (hp : plainV v.cells.toList = true)
    (hk : ∀ a w', Box w' a v.cells.toList → bel w w' → a.block = w.heap.size → k a w') :
    wr P (Instr.alloc e true (.tuple #[])) (.one .addr) w fun x w1 => wu P (Instr.storeAt e (.pointer (some x)) v) w1 fun w2 => k x w2 := by
  refine wr_alloc hz fun a w1 Z h ha _ => ?_
  refine wu_box Z hs (by rw [hl]; simp) hp fun w2 Z hg _ => ?_
  have e2 : putAt z.cells.toList 0 v.cells.toList = v.cells.toList := by
    have key : ∀ (vs pre cs : List Value), cs.length = vs.length → putAt (pre ++ cs) pre.length vs = pre ++ vs := by
      intro vs
      induction vs with
      | nil => intro pre cs h; rw [List.eq_nil_of_length_eq_zero h]; rfl
      | cons x vs ih =>
        intro pre cs h
        cases cs with
        | nil => simp at h
        | cons c cs =>
          simp only [putAt]
          have h1 : (pre ++ c :: cs).set pre.length x = (pre ++ [x]) ++ cs := by simp
          rw [h1]
          have := ih (pre ++ [x]) cs (by simpa using h)
          simp only [List.length_append, List.length_cons, List.length_nil, Nat.zero_add] at this
          rw [this]; simp
    have := key v.cells.toList [] z.cells.toList (by simp [hl])
    simpa using this
  rw [e2] at Z
  exact hk _ _ Z (h.grownAt hg (by omega)) ha

/-- where a test first holds; -1: nowhere -/
def idxI {β : Type} (q : β → Bool) (ys : List β) : Int :=
  match ys.findIdx? q with
  | some i => (i : Int) | none => -1
theorem idxI_any {β : Type} (q : β → Bool) (ys : List β) : decide (idxI q ys ≥ 0) = ys.any q := by
  unfold idxI
  rw [← List.findIdx?_isSome]
  cases ys.findIdx? q with
  | none => rfl
  | some i => simp
/-- the loop of slices.IndexFunc -/
theorem idx_loop {P : Program} {t e : TypeId} {vs : VS} {f : FuncId} {fargs : vs.T → List Value} {a : Option Addr} {n c : Nat} {R : Value → World → Prop} {w0 : World} {β : Type} (xs : List vs.T) (ys : List β) (q : β → Bool) (hn : xs.length = n) (hy : ys.length = n) (hm : n ≤ 9223372036854775807)
    (RD : ∀ (j : Nat) (x : vs.T), xs[j]? = some x → ∀ w', bel w0 w' → ∀ K : vs.T → Prop, K x → rdp P (Instr.indexAt t (.slice a n c) (.int .i64 (j : Int))) (.one .addr) fun ad => rd P (Instr.loadAt e (.pointer (some ad))) vs w' K)
    (CALL : ∀ (j : Nat) (x : vs.T) (y : β), xs[j]? = some x → ys[j]? = some y → ∀ w', bel w0 w' → call P f (fargs x) (.one (.one .bool)) w' fun b w'' => b = q y ∧ bel w' w'')
    (hk : ∀ w', bel w0 w' → R (.int .i64 (idxI q ys)) w') :
    loop (T := (Int × Unit)) (0, ()) w0 fun (again1 : (Int × Unit) → World → Prop) (s2 : (Int × Unit)) w3 => ∀ _ : Nat → Value,
      br (decide (s2.1 < ((n : Nat) : Int))) (rdp P (Instr.indexAt t (.slice a n c) (.int .i64 s2.1)) (.one .addr) fun (x4 : Addr) =>
      rd P (Instr.loadAt e (.pointer (some x4))) vs w3 fun x5 =>
      call P f (fargs x5) (.one (.one .bool)) w3 fun (x6 : Bool) (w7 : World) =>
      br x6 (R (.int .i64 s2.1) w7)
      (z (IntKind.wrap .i64 (s2.1 + 1)) fun (z8 : Int) =>
      again1 (z8, ()) w7))
      (R (.int .i64 (-1)) w3) := by
  refine loop_up n (fun i w' => bel w0 w' ∧ ∀ j, j < i → ∀ y, ys[j]? = some y → q y = false) ⟨bel.refl _, fun j h => by omega⟩ ?_
  rintro i w hi ⟨hb, hq⟩ again hag _
  refine br_dec (fun e => ?_) (fun e => ?_)
  · dsimp only at e
    have hi' : i < n := by omega
    have hx : xs[i]? = some (xs[i]'(by omega)) := List.getElem?_eq_getElem (by omega)
    have hy' : ys[i]? = some (ys[i]'(by omega)) := List.getElem?_eq_getElem (by omega)
    refine RD i _ hx w hb _ ?_
    refine call_mono (CALL i _ _ hx hy' w hb) ?_
    rintro b w2 ⟨rfl, hb2⟩
    refine br_mk (fun hq' => ?_) (fun hq' => ?_)
    · have : idxI q ys = (i : Int) := by
        unfold idxI
        rw [List.findIdx?_eq_some_iff_getElem.2 ⟨by omega, hq', fun j hj => by
          have := hq j hj _ (List.getElem?_eq_getElem (by omega))
          simp [this]⟩]
      rw [← this]
      exact hk _ (hb.trans hb2)
    · refine z_i64 (by dsimp only; omega) ?_
      refine hag _ hi' ⟨hb.trans hb2, fun j hj y hy2 => ?_⟩
      rcases Nat.lt_or_ge j i with h | h
      · exact hq j h y hy2
      · have : j = i := by omega
        subst this
        rw [hy'] at hy2; cases hy2; exact hq'
  · dsimp only at e
    have hi' : i = n := by omega
    have : idxI q ys = -1 := by
      unfold idxI
      rw [List.findIdx?_eq_none_iff.2 fun y hy' => by
        obtain ⟨j, hj, rfl⟩ := List.mem_iff_getElem.1 hy'
        exact hq j (by omega) _ (List.getElem?_eq_getElem hj)]
    rw [← this]
    exact hk _ hb
/-- .. over numbers -/
theorem idx_ints {P : Program} {t e : TypeId} {z0 : Value} {bytes : Nat} (TS : TyS P t e z0 1 bytes) (he : scal P e = true) {kk : IntKind} {f : FuncId} {fargs : Int → List Value} {a : Option Addr} {n c : Nat} {w0 : World} {xs : List Int} (H : Sl w0 a n c 1 (ints kk xs)) (q : Int → Bool)
    (CALL : ∀ (j : Nat) (x : Int), xs[j]? = some x → ∀ w', bel w0 w' → call P f (fargs x) (.one (.one .bool)) w' fun b w'' => b = q x ∧ bel w' w'') :
    loop (T := (Int × Unit)) (0, ()) w0 fun (again1 : (Int × Unit) → World → Prop) (s2 : (Int × Unit)) w3 => ∀ _ : Nat → Value,
      br (decide (s2.1 < ((n : Nat) : Int))) (rdp P (Instr.indexAt t (.slice a n c) (.int .i64 s2.1)) (.one .addr) fun (x4 : Addr) =>
      rd P (Instr.loadAt e (.pointer (some x4))) (.one (.int kk)) w3 fun (x5 : Int) =>
      call P f (fargs x5) (.one (.one .bool)) w3 fun (x6 : Bool) (w7 : World) =>
      br x6 ((fun (v : Value) (w' : World) => ∃ x : Int, v = (RS.one (.one (.int .i64))).val x ∧ x = idxI q xs ∧ bel w0 w') (.int .i64 s2.1) w7)
      (z (IntKind.wrap .i64 (s2.1 + 1)) fun (z8 : Int) =>
      again1 (z8, ()) w7))
      ((fun (v : Value) (w' : World) => ∃ x : Int, v = (RS.one (.one (.int .i64))).val x ∧ x = idxI q xs ∧ bel w0 w') (.int .i64 (-1)) w3) := by
  have hl := H.int
  refine idx_loop (R := (fun (v : Value) (w' : World) => ∃ x : Int, v = (RS.one (.one (.int .i64))).val x ∧ x = idxI q xs ∧ bel w0 w')) (vs := .one (.int kk)) (fargs := fargs) xs xs q hl hl H.le (fun j x hx w' hb K hk => ?_) (fun j x y hx hy w' hb => ?_) (fun w' hb => ⟨_, rfl, rfl, hb⟩)
  · have hx' : (xs : List Int)[j]? = some (x : Int) := hx
    exact at_int TS he (H.kept hb) rfl (by have := (List.getElem?_eq_some_iff.1 hx').1; omega) (fun y hy => by rw [hx'] at hy; cases hy; exact hk)
  · have hx' : (xs : List Int)[j]? = some (x : Int) := hx
    rw [hx'] at hy; cases hy
    exact CALL j x hx' w' hb
/-- .. over the rows of a table -/
theorem idx_tab {P : Program} {t e : TypeId} {z0 : Value} {bytes : Nat} (TS : TyS P t e z0 1 bytes) (he : scal P e = true) {α : Type} {g : α → Value} {f : FuncId} {fargs : Hdr → List Value} {r : Hdr} {w0 : World} {T : List (List α)} (H : Tab g w0 r T) (q : List α → Bool)
    (CALL : ∀ (j : Nat) (x : Hdr) (y : List α), T[j]? = some y → Sl w0 x.1 x.2.1 x.2.2 1 (y.map g) → ∀ w', bel w0 w' → call P f (fargs x) (.one (.one .bool)) w' fun b w'' => b = q y ∧ bel w' w'') :
    loop (T := (Int × Unit)) (0, ()) w0 fun (again1 : (Int × Unit) → World → Prop) (s2 : (Int × Unit)) w3 => ∀ _ : Nat → Value,
      br (decide (s2.1 < ((r.2.1 : Nat) : Int))) (rdp P (Instr.indexAt t (.slice r.1 r.2.1 r.2.2) (.int .i64 s2.1)) (.one .addr) fun (x4 : Addr) =>
      rd P (Instr.loadAt e (.pointer (some x4))) (.one .slice) w3 fun (x5 : Option Addr × Nat × Nat) =>
      call P f (fargs x5) (.one (.one .bool)) w3 fun (x6 : Bool) (w7 : World) =>
      br x6 ((fun (v : Value) (w' : World) => ∃ x : Int, v = (RS.one (.one (.int .i64))).val x ∧ x = idxI q T ∧ bel w0 w') (.int .i64 s2.1) w7)
      (z (IntKind.wrap .i64 (s2.1 + 1)) fun (z8 : Int) =>
      again1 (z8, ()) w7))
      ((fun (v : Value) (w' : World) => ∃ x : Int, v = (RS.one (.one (.int .i64))).val x ∧ x = idxI q T ∧ bel w0 w') (.int .i64 (-1)) w3) := by
  obtain ⟨hs, h1, h2, h3⟩ := H.ex
  have hl : hs.length = r.2.1 := by have := h1.len; simpa using this
  refine idx_loop (R := (fun (v : Value) (w' : World) => ∃ x : Int, v = (RS.one (.one (.int .i64))).val x ∧ x = idxI q T ∧ bel w0 w')) (vs := .one .slice) (fargs := fargs) hs T q hl (by omega) h1.le (fun j x hx w' hb K hk => ?_) (fun j x y hx hy w' hb => ?_) (fun w' hb => ⟨_, rfl, rfl, hb⟩)
  · have hx' : (hs : List Hdr)[j]? = some (x : Hdr) := hx
    exact at_hdr TS he (h1.kept hb) rfl (by have := (List.getElem?_eq_some_iff.1 hx').1; omega) (fun y hy => by rw [hx'] at hy; cases hy; exact hk)
  · have hx' : (hs : List Hdr)[j]? = some (x : Hdr) := hx
    exact CALL j x y hy (h3 j x y hx' hy) w' hb
/-- .. over records -/
theorem idx_aggs {P : Program} {t e : TypeId} {z0 : Value} {sz bytes : Nat} (TS : TyS P t e z0 sz bytes) (ht : aggOf P e sz = true) {α : Type} {enc : α → List Value} (he : ∀ a, (enc a).length = sz) (h0 : 0 < sz) {l : List Sh} {dec : α → LT l} (hd : ∀ a, Lget l (enc a) = some (dec a)) {f : FuncId} {fargs : LT l → List Value} {a : Option Addr} {n c : Nat} {w0 : World} {L : List α} (H : Sl w0 a n c sz (L.flatMap enc)) (q : α → Bool)
    (CALL : ∀ (j : Nat) (x : α), L[j]? = some x → ∀ w', bel w0 w' → call P f (fargs (dec x)) (.one (.one .bool)) w' fun b w'' => b = q x ∧ bel w' w'') :
    loop (T := (Int × Unit)) (0, ()) w0 fun (again1 : (Int × Unit) → World → Prop) (s2 : (Int × Unit)) w3 => ∀ _ : Nat → Value,
      br (decide (s2.1 < ((n : Nat) : Int))) (rdp P (Instr.indexAt t (.slice a n c) (.int .i64 s2.1)) (.one .addr) fun (x4 : Addr) =>
      rd P (Instr.loadAt e (.pointer (some x4))) (.agg l) w3 fun (x5 : LT l) =>
      call P f (fargs x5) (.one (.one .bool)) w3 fun (x6 : Bool) (w7 : World) =>
      br x6 ((fun (v : Value) (w' : World) => ∃ x : Int, v = (RS.one (.one (.int .i64))).val x ∧ x = idxI q L ∧ bel w0 w') (.int .i64 s2.1) w7)
      (z (IntKind.wrap .i64 (s2.1 + 1)) fun (z8 : Int) =>
      again1 (z8, ()) w7))
      ((fun (v : Value) (w' : World) => ∃ x : Int, v = (RS.one (.one (.int .i64))).val x ∧ x = idxI q L ∧ bel w0 w') (.int .i64 (-1)) w3) := by
  have hl : L.length = n := by
    have := H.len
    rw [flat_len he] at this
    exact Nat.eq_of_mul_eq_mul_right h0 this
  refine idx_loop (R := (fun (v : Value) (w' : World) => ∃ x : Int, v = (RS.one (.one (.int .i64))).val x ∧ x = idxI q L ∧ bel w0 w')) (vs := .agg l) (fargs := fargs) (L.map dec) L q ((List.length_map ..).trans hl) hl H.le (fun j x hx w' hb K hk => ?_) (fun j x y hx hy w' hb => ?_) (fun w' hb => ⟨_, rfl, rfl, hb⟩)
  · have hx' : (L.map dec)[j]? = some x := hx
    rw [List.getElem?_map] at hx'
    cases hp : L[j]? with
    | none => rw [hp] at hx'; cases hx'
    | some p =>
      rw [hp] at hx'
      cases hx'
      exact at_agg TS ht he h0 (H.kept hb) rfl hp (hd p) hk
  · have hx' : (L.map dec)[j]? = some x := hx
    rw [List.getElem?_map, hy] at hx'
    cases hx'
    exact CALL j y hy w' hb
end Go.V

/- A block of one's own that others may write: relations for regions that tell their states. -/

namespace Go.V
open Go Go.RowKit Go.Q

/-- only one block that was there may have turned -/
abbrev Xg (b : Nat) : Rel := fun w w' => w.grownBy w' (some b)
theorem bel.xg {w w' : World} (h : bel w w') (b : Nat) : Xg b w w' := grown_of_bel h _
theorem Box.xg {w w' : World} {a : Addr} {cs : List Value} {b : Nat} (X : Box w a cs) (h : Xg b w w') (hne : a.block ≠ b) : Box w' a cs := X.grown h (by intro e; injection e; omega)
theorem _root_.Go.Q.Sl.xg {w w' : World} {a : Option Addr} {n c sz : Nat} {xs : List Value} {b : Nat} (S : Sl w a n c sz xs) (h : Xg b w w') (hne : ∀ ad, a = some ad → xs ≠ [] → ad.block ≠ b) : Sl w' a n c sz xs :=
  S.grown h fun ad ha hx e => hne ad ha hx (by injection e)
theorem Own.xg {w w' : World} {B : Nat} {e : TypeId} {sz : Nat} {a : Option Addr} {n c : Nat} {xs : List Value} {b : Nat} (O : Own w B e sz a n c xs) (h : Xg b w w') (hb : b < B) : Own w' B e sz a n c xs := by
  refine O.keptBy h ?_
  cases hk : blk a with
  | none => exact .inl rfl
  | some k => exact .inr fun q => by have := (O.lt k hk).1; injection q; omega
theorem rdE_box0 {P : Program} {E : Rel} {t : TypeId} {s : Sh} {w : World} {a : Addr} {cs : List Value} {v : Value} {x : s.T} {k : s.T → Prop} (ht : scal P t = true) (h : ∀ w', E w w' → Box w' a cs) (hi : cs[0]? = some v) (hx : s.get v = some x) (hk : k x) :
    rdE P E (Instr.loadAt t (.pointer (some a))) (.one s) w k := ⟨x, fun w' hw => by rw [run_loadAt, run_loadVar1 ht ((h w' hw).cell0 hi), Sh.get_spec hx]; rfl, hk⟩
theorem rdE_box {P : Program} {E : Rel} {t : TypeId} {s : Sh} {w : World} {a : Addr} {cs : List Value} {i : Nat} {v : Value} {x : s.T} {k : s.T → Prop} (ht : scal P t = true) (h : ∀ w', E w w' → Box w' a cs) (hi : cs[i]? = some v) (hx : s.get v = some x) (hk : k x) :
    rdE P E (Instr.loadAt t (.pointer (some (a.add i)))) (.one s) w k := ⟨x, fun w' hw => by rw [run_loadAt, run_loadVar1 ht ((h w' hw).cell hi), Sh.get_spec hx]; rfl, hk⟩
theorem flExC_mk {w0 : World} {B : Rel → (Nat → Rel) → ((Nat → Bool) → World → Prop) → Facts → Prop} (E : Rel) (G : Nat → Rel) (St : (Nat → Bool) → World → Prop) (Φ : Facts) (h1 : ∀ w, E w w) (h2 : ∀ a b c, E a b → E b c → E a c)
    (h3 : ∀ i j ags v w w', i ≠ j → Φ i ags v w → E w w' → G j w w' → Φ i ags v w') (h4 : St (fun _ => false) w0) (h5 : B E G St Φ) : flExC w0 B := ⟨E, G, St, Φ, h1, h2, h3, h4, h5⟩
theorem flcC_mk {St : (Nat → Bool) → World → Prop} {j : Nat} {E : Rel} {w0 : World} {pre : World → Prop} {ob : (Nat → Bool) → World → Prop} {T : Type} {nxt : T → Prop} (h1 : ∀ D w, D j = false → E w0 w → St D w → pre w → ob D w) (h2 : ∀ x, nxt x) : flcC St j E w0 pre ob nxt := ⟨h1, h2⟩
theorem flendC_mk {St : (Nat → Bool) → World → Prop} {L : List Nat} {E : Rel} {w0 : World} {pre k : World → Prop} (h : ∀ w, E w0 w → St (fun i => L.contains i) w → pre w → k w) : flendC St L E w0 pre k := h
theorem setD_self (D : Nat → Bool) (j : Nat) : setD D j j = true := by simp [setD]
theorem setD_ne {D : Nat → Bool} {i j : Nat} (h : i ≠ j) : setD D j i = D i := by simp [setD, h]
/-- frames over several blocks -/
structure Xb (S : Nat → Prop) (w w' : World) : Prop where
  os : w'.os = w.os
  tape : w'.tape = w.tape
  output : w'.output = w.output
  size : w.heap.size ≤ w'.heap.size
  block : ∀ k, k < w.heap.size → ¬ S k → w'.heap[k]? = w.heap[k]?
theorem Xb.refl (S : Nat → Prop) (w : World) : Xb S w w := ⟨rfl, rfl, rfl, Nat.le_refl _, fun _ _ _ => rfl⟩
theorem Xb.trans {S : Nat → Prop} {a b c : World} (h : Xb S a b) (h' : Xb S b c) : Xb S a c :=
  ⟨h'.os.trans h.os, h'.tape.trans h.tape, h'.output.trans h.output, Nat.le_trans h.size h'.size, fun k hk hs => by rw [h'.block k (by have := h.size; omega) hs, h.block k hk hs]⟩
theorem Xb.of {S : Nat → Prop} {w w' : World} {o : Option Nat} (h : w.grownBy w' o) (ho : ∀ k, o = some k → S k) : Xb S w w' :=
  ⟨h.os, h.tape, h.output, h.size, fun k hk hs => h.block k hk (fun e => hs (ho k e.symm))⟩
theorem Xb.bel {S : Nat → Prop} {a w w' : World} (h : bel a w) (h' : Xb S w w') (hs : ∀ k, S k → a.heap.size ≤ k) : bel a w' :=
  ⟨h'.os.trans h.os, h'.tape.trans h.tape, h'.output.trans h.output, Nat.le_trans h.size h'.size, fun k hk => by rw [h'.block k (by have := h.size; omega) (fun q => by have := hs k q; omega), h.block k hk]⟩
theorem Xb.grown {S : Nat → Prop} {w w' : World} (h : Xb S w w') {o : Option Nat} (hs : ∀ k, S k → k < w.heap.size → o = some k) : w.grownBy w' o :=
  ⟨h.os, h.tape, h.output, h.size, fun k hk hne => h.block k hk fun q => hne (hs k q hk).symm⟩
theorem Xb.more {S S' : Nat → Prop} {a w w' : World} (h : Xb S a w) (h' : Xb S' w w') (hs : ∀ k, S' k → S k ∨ a.heap.size ≤ k) : Xb S a w' :=
  ⟨h'.os.trans h.os, h'.tape.trans h.tape, h'.output.trans h.output, Nat.le_trans h.size h'.size, fun k hk hn => by
    rw [h'.block k (by have := h.size; omega) (fun q => by
      rcases hs k q with q | q
      · exact hn q
      · omega), h.block k hk hn]⟩
theorem _root_.Go.Q.Sl.xb {S : Nat → Prop} {w w' : World} {a : Option Addr} {n c sz : Nat} {xs : List Value} (H : Sl w a n c sz xs) (hX : Xb S w w') (hne : ∀ ad, a = some ad → xs ≠ [] → ¬ S ad.block) : Sl w' a n c sz xs := by
  refine ⟨H.len, H.cap, H.most, H.nil', fun k u hu => ?_⟩
  obtain ⟨ad, q1, q2, q3⟩ := H.at' k u hu
  have hx : xs ≠ [] := by rintro rfl; simp at hu
  refine ⟨ad, q1, ?_, by have := hX.size; omega⟩
  have := hX.block ad.block q3 (hne ad q1 hx)
  unfold World.cell? at q2 ⊢
  rw [add_block] at q2 ⊢
  rw [this]; exact q2
theorem Box.xb {S : Nat → Prop} {w w' : World} {a : Addr} {cs : List Value} (X : Box w a cs) (hX : Xb S w w') (hne : ¬ S a.block) : Box w' a cs :=
  ⟨X.off, X.spot, by obtain ⟨T, hT⟩ := X.blk; exact ⟨T, by rw [hX.block _ X.lt hne]; exact hT⟩⟩
/-- slices of different kinds of elements do not lie in one block -/
theorem Own.apart {w : World} {B B' : Nat} {e e' : TypeId} {sz sz' : Nat} {a a' : Option Addr} {n c n' c' : Nat} {xs ys : List Value} (h : Own w B e sz a n c xs) (h' : Own w B' e' sz' a' n' c' ys) (hne : e ≠ e') : ∀ k, blk a = some k → blk a' = some k → False := by
  intro k hk hk'
  obtain ⟨_, h2⟩ := h
  obtain ⟨_, h2'⟩ := h'
  rcases h2 with ⟨hv, _⟩ | ⟨g, cap, cur, hv, _, hh, _⟩
  · injection hv with ha; rw [ha] at hk; cases hk
  · rcases h2' with ⟨hv', _⟩ | ⟨g', cap', cur', hv', _, hh', _⟩
    · injection hv' with ha'; rw [ha'] at hk'; cases hk'
    · injection hv with ha
      injection hv' with ha'
      subst ha ha'
      have q1 : g = k := by simpa [blk] using hk
      have q2 : g' = k := by simpa [blk] using hk'
      subst q1
      subst q2
      rw [hh] at hh'
      injection hh' with hh'
      injection hh' with _ he _
      exact hne he
theorem xg_put {w w' w'' : World} {t : Nat} {o : Option Nat} (h : w.grownBy w' (some t)) (hg : w'.grownBy w'' o) (ho : ∀ k, o = some k → w.heap.size ≤ k ∨ k = t) : w.grownBy w'' (some t) :=
  ⟨hg.os.trans h.os, hg.tape.trans h.tape, hg.output.trans h.output, Nat.le_trans h.size hg.size, fun k hk hne => by
    rw [hg.block k (by have := h.size; omega) (fun e => by
      rcases ho k e.symm with q | q
      · omega
      · exact hne (by rw [q])), h.block k hk hne]⟩
end Go.V

/- copy, and regions with a relation. -/


namespace Go.V
open Go Go.RowKit Go.Q

theorem putAt_at : ∀ (vs pre cs : List Value), vs.length ≤ cs.length → putAt (pre ++ cs) pre.length vs = pre ++ vs ++ cs.drop vs.length
  | [], pre, cs, _ => by simp [putAt]
  | v :: vs, pre, [], h => by simp at h
  | v :: vs, pre, c :: cs, h => by
    simp only [putAt]
    have h1 : (pre ++ c :: cs).set pre.length v = (pre ++ [v]) ++ cs := by simp
    rw [h1]
    have := putAt_at vs (pre ++ [v]) cs (by simpa using h)
    simp only [List.length_append, List.length_cons, List.length_nil, Nat.zero_add] at this
    rw [this]; simp
theorem run_storeOwn {P : Program} {B : Nat} {e : TypeId} {ad : Addr} {n c : Nat} : ∀ (vs : List Value) (i : Nat) (w : World) (xs : List Value), Own w B e 1 (some ad) n c xs → i + vs.length ≤ xs.length → plainV vs = true →
    ∃ w', (storeCells ad vs i).run P w = .ok () w' ∧ Own w' B e 1 (some ad) n c (putAt xs i vs) ∧ w.grownBy w' (some ad.block) ∧ w'.heap.size = w.heap.size
  | [], i, w, xs, hb, _, _ => ⟨w, rfl, hb, grown_refl _ _, rfl⟩
  | v :: vs, i, w, xs, hb, hl, hp => by
    simp only [plainV, List.all_cons, Bool.and_eq_true] at hp
    simp only [List.length_cons] at hl
    obtain ⟨u, hu⟩ : ∃ u, xs[i]? = some u := ⟨_, List.getElem?_eq_getElem (by omega)⟩
    obtain ⟨ad', h1, hc, hfz, _⟩ := hb.cell (j := i) hu
    cases h1
    obtain ⟨w', h1, h2, h3, h4⟩ := run_storeOwn (P := P) vs (i + 1) (w.setCell (ad.add i) v) (xs.set i v) (hb.set i v) (by simp; omega) hp.2
    refine ⟨w', ?_, h2, ?_, by rw [h4, setCell_size]⟩
    · simp only [storeCells, Sem.run_bind]
      rw [run_store P w (ad.add i) v .plain hp.1, hc]
      simp only [hfz, Bool.false_eq_true, if_false, Result.andThen_ok, h1]
    · refine World.grownBy.trans ?_ h3
      have := setCell_grown w (ad.add i) v
      rwa [add_block] at this
/-- copy into a slice of one's own -/
theorem wr_copy {P : Program} {t e : TypeId} {z : Value} {bytes : Nat} (T : TyS P t e z 1 bytes) {w : World} {B : Nat} {a b : Option Addr} {n c m c' : Nat} {xs ys : List Value} {ty : TypeId} {k : Int → World → Prop}
    (O : Own w B e 1 a n c xs) (S : Sl w b m c' 1 ys) (hp : plainV ys = true)
    (hk : ∀ w', Own w' B e 1 a n c (ys.take n ++ xs.drop m) → w.grownBy w' (blk a) → w'.heap.size = w.heap.size → k ((Nat.min m n : Nat) : Int) w') :
    wr P (Builtin.copy_ #[t, t] ty #[.slice a n c, .slice b m c']) (.one (.int .i64)) w k := by
  obtain ⟨i, h1, _, h2, _⟩ := info_parts T.hi
  have hxs : xs.length = n := by have := O.1; omega
  have hys : ys.length = m := by have := S.len; omega
  have hi : i.size = 1 := h2
  have hmin : (Nat.min m n) = min m n := rfl
  have hcl : (ys.take n).length = Nat.min m n := by rw [List.length_take, hys, hmin]; omega
  have key : putAt xs 0 (ys.take n) = ys.take n ++ xs.drop m := by
    have := putAt_at (ys.take n) [] xs (by rw [hcl, hmin]; omega)
    simp only [List.nil_append, List.length_nil] at this
    rw [this, hcl, hmin]
    rcases Nat.le_total m n with q | q
    · rw [show min m n = m by omega]
    · rw [show min m n = n by omega, List.drop_of_length_le (by omega), List.drop_of_length_le (by omega)]
  have hpl : plainV (ys.take n) = true := by
    unfold plainV at hp ⊢
    rw [List.all_eq_true] at hp ⊢
    exact fun x hx => hp x (List.mem_of_mem_take hx)
  cases a with
  | none =>
    have hn0 : n = 0 := by
      rcases O.2 with ⟨hv, _⟩ | ⟨g, cap, cur, hv, _⟩
      · injection hv
      · cases hv
    subst hn0
    have hx0 : xs = [] := List.eq_nil_of_length_eq_zero hxs
    subst hx0
    refine ⟨(0 : Int), w, ?_, ?_⟩
    · cases b with
      | none => simp [Builtin.copy_, run_underlying T.ht, Builtin.lenOf, Builtin.firstCells, sizeOf, typeInfo, h1, goInt]; rfl
      | some b =>
        have hl := run_loadCells_list (P := P) w b [] (fun j v h => by simp at h)
        simp [Builtin.copy_, run_underlying T.ht, Builtin.lenOf, Builtin.firstCells, sizeOf, typeInfo, h1] at hl ⊢
        simp [hl, goInt]; rfl
    · have := hk w (by simpa using O) (grown_refl _ _) rfl
      simpa [hmin] using this
  | some ad =>
    obtain ⟨w', r1, r2, r3, r4⟩ := run_storeOwn (P := P) (ys.take n) 0 w xs O (by rw [hcl, hmin]; omega) hpl
    rw [key] at r2
    refine ⟨((Nat.min m n : Nat) : Int), w', ?_, hk w' r2 r3 r4⟩
    cases b with
    | none =>
      have hm0 : m = 0 := (S.nil' rfl).1
      subst hm0
      have hy0 : ys = [] := List.eq_nil_of_length_eq_zero hys
      subst hy0
      simp at r1
      simp [Builtin.copy_, run_underlying T.ht, Builtin.lenOf, Builtin.firstCells, sizeOf, typeInfo, h1, goInt, r1]; rfl
    | some b =>
      have hl := run_loadCells_list (P := P) w b (ys.take n) (fun j v h => by
        have hj : ys[j]? = some v := by
          rw [List.getElem?_take] at h
          split at h
          · exact h
          · cases h
        obtain ⟨ad', q1, q2, _⟩ := S.at' j v hj
        cases q1; exact q2)
      rw [hcl] at hl
      simp [Builtin.copy_, run_underlying T.ht, Builtin.lenOf, Builtin.firstCells, sizeOf, typeInfo, h1, hi, hl, r1, goInt]; rfl
theorem Own.putNew {w w' : World} {B : Nat} {e : TypeId} {sz : Nat} {a : Option Addr} {n c : Nat} {xs : List Value} {k : Nat} (O : Own w B e sz a n c xs) (h : w.grownBy w' (some k)) (hk : ∀ j, blk a = some j → j ≠ k) : Own w' B e sz a n c xs := by
  refine O.keptBy h ?_
  cases hj : blk a with
  | none => exact .inl rfl
  | some j => exact .inr fun q => hk j hj (by injection q)
theorem flExE_mk {B : Rel → Facts → Prop} (E : Rel) (Φ : Facts) (h1 : ∀ w, E w w) (h2 : ∀ a b c, E a b → E b c → E a c) (h3 : ∀ i ags v w w', Φ i ags v w → E w w' → Φ i ags v w') (h4 : B E Φ) : flExE B := ⟨E, Φ, h1, h2, h3, h4⟩
end Go.V

/- Queues: the tail of a block of one's own; two stores in one region. -/

namespace Go.V
open Go Go.RowKit Go.Q

/-- a queue: the cells from some place on -/
structure QAt (w : World) (B : Nat) (e : TypeId) (q : Option Addr × Nat × Nat) (xs : List Value) : Prop where
  len : xs.length = q.2.1
  cap : q.2.1 ≤ q.2.2
  most : q.2.2 ≤ maxLen
  nil' : q.1 = none → q.2.1 = 0 ∧ q.2.2 = 0
  mem : 0 < q.2.2 → ∃ g p cur, q.1 = some ⟨g, p, none⟩ ∧ B ≤ g ∧ w.heap[g]? = some (.cells cur e (0, 0)) ∧ p + q.2.2 = cur.size ∧ (cur.toList.drop p).take q.2.1 = xs
theorem QAt.nil (w : World) (B : Nat) (e : TypeId) : QAt w B e (none, 0, 0) [] := ⟨rfl, Nat.le_refl _, Nat.zero_le _, fun _ => ⟨rfl, rfl⟩, fun h => absurd h (by simp)⟩
theorem QAt.xg {w w' : World} {B : Nat} {e : TypeId} {q : Option Addr × Nat × Nat} {xs : List Value} {b : Nat} (h : QAt w B e q xs) (hg : w.grownBy w' (some b)) (hb : b < B) : QAt w' B e q xs :=
  ⟨h.len, h.cap, h.most, h.nil', fun hc => by
    obtain ⟨g, p, cur, h1, h2, h3, h4, h5⟩ := h.mem hc
    exact ⟨g, p, cur, h1, h2, (hg.block g (Array.getElem?_eq_some_iff.1 h3).1 (by intro e; injection e; omega)).trans h3, h4, h5⟩⟩
theorem QAt.up {w w' : World} {B : Nat} {e : TypeId} {q : Option Addr × Nat × Nat} {xs : List Value} (h : QAt w B e q xs) (hg : bel w w') : QAt w' B e q xs :=
  ⟨h.len, h.cap, h.most, h.nil', fun hc => by
    obtain ⟨g, p, cur, h1, h2, h3, h4, h5⟩ := h.mem hc
    exact ⟨g, p, cur, h1, h2, (Below.block hg g (Array.getElem?_eq_some_iff.1 h3).1).trans h3, h4, h5⟩⟩
theorem QAt.sl {w : World} {B : Nat} {e : TypeId} {q : Option Addr × Nat × Nat} {xs : List Value} (h : QAt w B e q xs) : Sl w q.1 q.2.1 q.2.2 1 xs := by
  have := h.most
  refine ⟨by rw [h.len, Nat.mul_one], h.cap, by unfold maxLen at this; omega, h.nil', fun j u hu => ?_⟩
  have hj : j < xs.length := (List.getElem?_eq_some_iff.1 hu).1
  obtain ⟨g, p, cur, h1, h2, h3, h4, h5⟩ := h.mem (by have := h.len; have := h.cap; omega)
  refine ⟨⟨g, p, none⟩, h1, ?_, (Array.getElem?_eq_some_iff.1 h3).1⟩
  rw [Addr.add_lit]
  unfold World.cell?
  simp only [h3, Option.isSome_none, Bool.false_eq_true, if_false]
  rw [← h5, List.getElem?_take] at hu
  split at hu
  · rw [List.getElem?_drop] at hu
    simpa using hu
  · cases hu
/-- the head falls off -/
theorem QAt.tail {w : World} {B : Nat} {e : TypeId} {q : Option Addr × Nat × Nat} {x : Value} {xs : List Value} (h : QAt w B e q (x :: xs)) : ∃ q' : Option Addr × Nat × Nat, (sliced q.1 1 q.2.1 q.2.2 1 = .slice q'.1 q'.2.1 q'.2.2) ∧ QAt w B e q' xs := by
  have hl := h.len
  have hc := h.cap
  have hm := h.most
  simp only [List.length_cons] at hl
  obtain ⟨g, p, cur, h1, h2, h3, h4, h5⟩ := h.mem (by omega)
  refine ⟨((if q.2.2 = 1 then q.1 else q.1.map (·.add (1 * 1))), q.2.1 - 1, q.2.2 - 1), rfl, by dsimp only; omega, by dsimp only; omega, by dsimp only; omega, fun e => ?_, fun hc' => ?_⟩
  · dsimp only at e
    rw [h1] at e
    split at e <;> cases e
  · dsimp only at hc' ⊢
    refine ⟨g, p + 1, cur, ?_, h2, h3, by omega, ?_⟩
    · rw [if_neg (by omega), h1]; simp [Addr.add_lit]
    · have e1 : q.2.1 = (q.2.1 - 1) + 1 := by omega
      rw [e1] at h5
      have hp : p < cur.toList.length := by rw [Array.length_toList]; omega
      rw [List.drop_eq_getElem_cons hp, List.take_succ_cons] at h5
      injection h5
theorem q_tail {P : Program} {t e : TypeId} {z : Value} {bytes : Nat} (T : TyS P t e z 1 bytes) {w : World} {B : Nat} {q : Option Addr × Nat × Nat} {x : Value} {xs : List Value} {K : (Option Addr × Nat × Nat) → Prop} (h : QAt w B e q (x :: xs)) (hk : ∀ q', QAt w B e q' xs → K q') :
    rdp P (Instr.sliceAt t (.slice q.1 q.2.1 q.2.2) (some (.int .i64 1)) none none) (.one .slice) K := by
  obtain ⟨q', h1, h2⟩ := h.tail
  refine ⟨q', fun w => ?_, hk q' h2⟩
  have hl := h.len
  simp only [List.length_cons] at hl
  have ht : P.underlying t = some (.slice (P.elem t)) := by rw [T.elem]; exact T.ht
  rw [run_sliceAt_slice _ _ _ _ _ _ ht, run_slice_l _ _ _ _ _ ht _ _ (by omega) (by omega), T.elem, T.size]
  simp only [Result.andThen_ok]
  rw [show (1 : Int).toNat = 1 from rfl, h1]; rfl
/-- an element is laid behind -/
theorem wr_appQ {P : Program} {t e : TypeId} {z : Value} {bytes : Nat} (T : TyS P t e z 1 bytes) {w : World} {B : Nat} {q : Option Addr × Nat × Nat} {xs : List Value} (O : QAt w B e q xs) {ty : TypeId} {v : Value} {k : (Option Addr × Nat × Nat) → World → Prop}
    (hB : B ≤ w.heap.size) (hz : z.cells.size = 1) (hv : v.cells.size = 1) (hp : plainV v.cells.toList = true) (hb : (q.2.1 + 1) * bytes ≤ 140737488355328) (hn : q.2.1 + 1 ≤ maxLen)
    (hk : ∀ q' w', QAt w' B e q' (xs ++ v.cells.toList) → Below B w w' → k q' w') :
    wr P (Instr.buildSlice t 1 #[(0, v)]) (.one .slice) w fun x w1 => wr P (Builtin.append_ #[t, t] ty #[.slice q.1 q.2.1 q.2.2, .slice x.1 x.2.1 x.2.2]) (.one .slice) w1 k := by
  refine wr_lit T v.cells (fill_one 1 v _ hv (by simp)) (by omega) (by omega) (by omega) (by unfold maxLen; omega) fun ad w1 L h1 h2 h3 => ?_
  have L1 := L B hB
  replace O := O.up h1
  have hl : v.cells.toList.length = 1 := by simpa using hv
  have hne : ∀ j u, v.cells.toList[j]? = some u → w1.cell? (ad.add j) = some u := fun j u hj => by
    obtain ⟨ad', q1, q2, _⟩ := L1.cell (j := j) hj
    cases q1; exact q2
  have h1c : ∀ u ∈ v.cells.toList, u.oneCell' = true := fun u hu => by unfold plainV at hp; rw [List.all_eq_true] at hp; exact hp u hu
  obtain ⟨i, hi0, hz0, hz1, hz2⟩ := info_parts T.hi
  have hx := O.len
  have hcm := O.most
  have b1 : Below B w w1 := ⟨h1.os, h1.tape, h1.output, h1.size, fun k hk => h1.block k (by omega)⟩
  by_cases hroom : q.2.1 + 1 ≤ q.2.2
  · obtain ⟨g, p, cur, g1, g2, g3, g4, g5⟩ := O.mem (by omega)
    have hst := run_storeCells_at P g (p + q.2.1) e v.cells.toList 0 cur w1 g3 (by rw [hl]; omega) h1c
    simp only [Nat.add_zero] at hst
    have hf := run_firstCells_some (P := P) w1 1 1 ad 1 1 v.cells.toList (by rw [hl]) hne
    refine ⟨((q.1, q.2.1 + 1, q.2.2) : Option Addr × Nat × Nat), w1.setRow g (cur.toList.take (p + q.2.1) ++ v.cells.toList ++ cur.toList.drop (p + q.2.1 + v.cells.toList.length)).toArray, ?_, hk _ _ ?_ ?_⟩
    · rw [g1]
      simp [Builtin.append_, run_underlying T.ht, sizeOf, typeInfo, hi0, hz1, Builtin.lenOf, hroom, hf, Addr.add_lit, hst]
      rfl
    · have hcs : cur.toList.length = cur.size := Array.length_toList
      refine ⟨by simp [hx, hv], by dsimp only; omega, hcm, (fun e => by rw [g1] at e; cases e), fun _ => ⟨g, p, _, g1, g2, setRow_heap w1 g cur _ e _ g3, ?_, ?_⟩⟩
      · simp only [List.size_toArray, List.length_append, List.length_take, List.length_drop, hl]
        omega
      · dsimp only
        rw [hl]
        have e1 : List.drop p (List.take (p + q.2.1) cur.toList) = xs := by
          rw [← g5, List.drop_take, show p + q.2.1 - p = q.2.1 by omega]
        rw [List.append_assoc, List.drop_append_of_le_length (by rw [List.length_take]; omega), e1, ← List.append_assoc]
        have e2 : q.2.1 + 1 = (xs ++ v.cells.toList).length := by rw [List.length_append, hx, hl]
        rw [e2]; exact List.take_left
    · exact ⟨b1.os, b1.tape, b1.output, by simpa using b1.size, fun k hk => (setRow_other w1 g k _ (by omega)).trans (b1.block k hk)⟩
  · have hcm' : grownCap w1 (q.2.1 + 1) q.2.2 e ≤ maxLen := grownCap_le_maxLen w1 _ _ e hn
    have hge := grownCap_ge w1 (q.2.1 + 1) q.2.2 e
    have hA : ∀ cs, Below B w (w1.drew.alloc (.cells cs e)) := fun cs => ⟨b1.os, b1.tape, b1.output, by have := b1.size; simp; omega, fun k hk => (Go.RowKit.Below.heap_alloc w1.drew _ k (by have := b1.size; show k < w1.heap.size; omega)).trans (b1.block k hk)⟩
    have hQ : ∀ olds : List Value, olds = xs → QAt (w1.drew.alloc (.cells (olds.toArray ++ v.cells.toList.toArray ++ Builtin.zeroCells z.cells (grownCap w1 (q.2.1 + 1) q.2.2 e - (q.2.1 + 1))) e)) B e (some ⟨w1.heap.size, 0, none⟩, q.2.1 + 1, grownCap w1 (q.2.1 + 1) q.2.2 e) (xs ++ v.cells.toList) := by
      intro olds ho
      subst ho
      refine ⟨by rw [List.length_append, hl, hx], hge, hcm', (fun e => by cases e), fun _ => ⟨w1.heap.size, 0, _, rfl, by have := b1.size; omega, heap_alloc_new w1.drew _, ?_, ?_⟩⟩
      · simp only [Array.size_append, List.size_toArray, size_zeroCells, hz, hl, hx]
        omega
      · simp only [Array.toList_append, List.append_assoc, List.drop_zero]
        have e2 : q.2.1 + 1 = (olds ++ v.cells.toList).length := by rw [List.length_append, hx, hl]
        rw [← List.append_assoc, e2]; exact List.take_left
    cases hq : q.1 with
    | none =>
      obtain ⟨n1, n2⟩ := O.nil' hq
      have hx0 : xs = [] := List.eq_nil_of_length_eq_zero (by omega)
      have hr := run_append_nil (P := P) w1 t ty e i z T.ht hi0 hz0 ad 1 1 v.cells.toList (by rw [hl, hz1]) hne (by omega) (by omega) (by rw [hz2]; rw [n1] at hb; omega)
      have hQ' := hQ [] hx0.symm
      rw [n1, n2] at hQ' ⊢
      simp only [Array.empty_append, Nat.zero_add] at hQ'
      exact ⟨(some ⟨w1.heap.size, 0, none⟩, 1, grownCap w1 1 0 e), _, hr, hk _ _ hQ' (hA _)⟩
    | some b =>
      have holds : ∀ j u, xs[j]? = some u → w1.cell? (b.add j) = some u := fun j u hu => by
        obtain ⟨ad', q1, q2, _⟩ := O.sl.at' j u hu
        rw [hq] at q1; cases q1; exact q2
      have hr := run_append_grow (P := P) w1 t ty e i z T.ht hi0 hz0 b q.2.1 q.2.2 xs (by rw [hx, hz1, Nat.mul_one]) holds ad 1 1 v.cells.toList (by rw [hl, hz1]) hne (by omega) (by unfold maxLen at hn; omega) (growslice_fits (by omega) (by rw [hz2]; exact hb))
      exact ⟨(some ⟨w1.heap.size, 0, none⟩, q.2.1 + 1, grownCap w1 (q.2.1 + 1) q.2.2 e), _, hr, hk _ _ (hQ xs rfl) (hA _)⟩
theorem rdE_boxN {P : Program} {E : Rel} {t : TypeId} {l : List Sh} {w : World} {a : Addr} {cs : List Value} {x : LT l} {k : LT l → Prop} (h : ∀ w', E w w' → Box w' a cs) (ht : aggOf P t cs.length = true) (hx : Lget l cs = some x) (hk : k x) :
    rdE P E (Instr.loadAt t (.pointer (some a))) (.agg l) w k := ⟨x, fun w' hw => by rw [run_loadAt, run_loadVarN ht (fun _ _ hj => (h w' hw).cell hj), Lget_spec hx]; rfl, hk⟩
/-- an append beyond the room: the new row is the next block -/
theorem wr_appG {P : Program} {t e : TypeId} {z : Value} {bytes : Nat} (T : TyS P t e z 1 bytes) {w : World} {B : Nat} {sa : Addr} {n c : Nat} {xs : List Value} (O : Own w B e 1 (some sa) n c xs) {ty : TypeId} {ad : Addr} {m mc : Nat} {ys : List Value} (H : Sl w (some ad) m mc 1 ys) {k : (Option Addr × Nat × Nat) → World → Prop}
    (hB : B ≤ w.heap.size) (hz : z.cells.size = 1) (hp : plainV ys = true) (hb : (n + m) * bytes ≤ 140737488355328) (hn : n + m ≤ maxLen) (hc : c < n + m)
    (hk : ∀ c' w', Own w' B e 1 (some ⟨w.heap.size, 0, none⟩) (n + m) c' (xs ++ ys) → w.grownBy w' (some sa.block) → k (some ⟨w.heap.size, 0, none⟩, n + m, c') w') :
    wr P (Builtin.append_ #[t, t] ty #[.slice (some sa) n c, .slice (some ad) m mc]) (.one .slice) w k := by
  have hy : ∀ j u, ys[j]? = some u → w.cell? (ad.add j) = some u := fun j u hj => by
    obtain ⟨ad', q1, q2, _⟩ := H.at' j u hj
    cases q1; exact q2
  have hx : ∀ j u, xs[j]? = some u → w.cell? (sa.add j) = some u := fun j u hj => by
    obtain ⟨ad', q1, q2, _⟩ := O.sl.at' j u hj
    cases q1; exact q2
  obtain ⟨a', c', w2, hr, hA⟩ := run_app (P := P) w t ty B e z 1 bytes T.ht T.hi hz (by omega) (some sa) n c xs O ad m mc ys H.len hy (fun u hu => by
      unfold plainV at hp; rw [List.all_eq_true] at hp; exact hp u hu) hb hn hB
  obtain ⟨i, hi0, hz0, hz1, hz2⟩ := info_parts T.hi
  have hr2 := run_append_grow (P := P) w t ty e i z T.ht hi0 hz0 sa n c xs (by rw [hz1]; exact O.1) hx ad m mc ys (by rw [hz1]; exact H.len) hy hc (by unfold maxLen at hn; omega) (growslice_fits hc (by rw [hz2]; exact hb))
  have e := hr.symm.trans hr2
  injection e with e1 e2
  injection e1 with e1 e3 e4
  have O' := hA.own
  rw [e1] at O' hr
  exact ⟨(some ⟨w.heap.size, 0, none⟩, n + m, c'), w2, hr, hk c' w2 O' hA.grown⟩
theorem idxQ {P : Program} {t e : TypeId} {z : Value} {bytes : Nat} (T : TyS P t e z 1 bytes) {a : Option Addr} {ad : Addr} {n c j : Nat} {k : IntKind} {i : Int} {K : Addr → Prop} (hj : i = (j : Int)) (h : j < n) (ha : a = some ad) (hk : K (ad.add j)) :
    rdp P (Instr.indexAt t (.slice a n c) (.int k i)) (.one .addr) K := by
  refine idx_mk T hj h ha ?_
  rw [Nat.mul_one]; exact hk
/-- 'a[i], b[k] = v, ..': the first store of a region that tells its states -/
theorem fl2 {P : Program} {w : World} {j j2 : Nat} {p1 p2 : Addr} {tA tB e : TypeId} {z : Value} {bytes : Nat} (T : TyS P tA e z 1 bytes) {B0 : Nat} {a : Addr} {n c : Nat} {xs : List Value} (O : Own w B0 e 1 (some a) n c xs) {h2 : Option Addr × Nat × Nat} {i : Int} {k : Nat} {v : Value}
    (hs : sizeIs P e 1 = true) (hr1 : scal P tA = true) (hr2 : scal P tB = true)
    (q1 : ∀ w', Xg a.block w w' → w'.cell? p1 = some (.slice (some a) n c)) (q2 : ∀ w', Xg a.block w w' → w'.cell? p2 = some (.slice h2.1 h2.2.1 h2.2.2))
    (hi : i = (k : Int)) (hk : k < n) (hv : v.oneCell' = true) {K : (Option Addr × Nat × Nat) → World → Prop}
    (hK : ∀ w', Own w' B0 e 1 (some a) n c (xs.set k v) → Xg a.block w w' → K h2 w') :
    flExC w fun E G Y F => rdE P (ER Y [j, j2] E) (Instr.loadAt tA (.pointer (some p1))) (.one .slice) w fun x57 => rdE P (ER Y [j2] E) (Instr.loadAt tB (.pointer (some p2))) (.one .slice) w fun x58 =>
      rdp P (Instr.indexAt tA (.slice x57.1 x57.2.1 x57.2.2) (.int .i64 i)) (.one .addr) fun x59 =>
      flcC Y j E w (fun _ => True) (fun D w60 => wu P (Instr.storeAt e (.pointer (some x59)) v) w60 fun w63 => (E w60 w63 ∧ G j w60 w63 ∧ Y (setD D j) w63 ∧ F j [] undef w63)) fun (_ : Unit) =>
      flendC Y [j] E w (fun w66 => F j [] (.tuple #[]) w66 ∧ True) fun w65 => K x58 w65 := by
  refine flExC_mk (Xg a.block) (fun _ _ _ => True) (fun D w' => (D j = false → Own w' B0 e 1 (some a) n c xs) ∧ (D j = true → Own w' B0 e 1 (some a) n c (xs.set k v))) (fun _ _ _ _ => True)
    (fun w => grown_refl w _) (fun _ _ _ a b => grown_trans a b) (fun _ _ _ _ _ _ _ _ _ _ => trivial) ⟨fun _ => O, fun q => by cases q⟩ ?_
  refine ⟨((some a, n, c) : Option Addr × Nat × Nat), fun w' hE => by rw [run_loadAt, run_loadVar1 hr1 (q1 w' hE.1)]; rfl, ?_⟩
  refine ⟨h2, fun w' hE => by rw [run_loadAt, run_loadVar1 hr2 (q2 w' hE.1)]; rfl, ?_⟩
  refine idxQ T hi (by dsimp only; omega) rfl ?_
  refine flcC_mk (fun D w47 hD hE hS _ => ?_) (fun _ => ?_)
  · refine wu_own hs (hS.1 hD) hk hv fun w50 O' hg _ => ?_
    exact ⟨hg, trivial, ⟨(fun q => by rw [setD_self] at q; cases q), fun _ => O'⟩, trivial⟩
  · refine flendC_mk fun w52 hE hS _ => ?_
    exact hK w52 (hS.2 (by simp)) hE
end Go.V

/- Sets of rows as bits: no program in sight. -/

namespace Go.Proofs.Ytaomejbaocehnaa

/-- what is in a and not in b -/
def dif (a b : Nat) : Nat := a &&& (2 ^ 64 - (b + 1))
theorem dif_bit {a b : Nat} (hb : b < 2 ^ 64) (i : Nat) : (dif a b).testBit i = (a.testBit i && (decide (i < 64) && !b.testBit i)) := by
  unfold dif
  rw [Nat.testBit_and, Nat.testBit_two_pow_sub_succ hb]
theorem bit_out {a n i : Nat} (h : a < 2 ^ n) (hi : n ≤ i) : a.testBit i = false := Nat.testBit_lt_two_pow (Nat.lt_of_lt_of_le h (Nat.pow_le_pow_right (by omega) hi))
theorem dif_lt {a b n : Nat} (h : a < 2 ^ n) : dif a b < 2 ^ n := Nat.lt_of_le_of_lt Nat.and_le_left h
theorem ne_zero_bit {a : Nat} : a ≠ 0 ↔ ∃ i, a.testBit i = true := by
  constructor
  · intro h; exact Nat.exists_testBit_of_ne_zero h
  · rintro ⟨i, hi⟩ rfl; simp at hi
theorem and_ne {a b : Nat} : a &&& b ≠ 0 ↔ ∃ i, a.testBit i = true ∧ b.testBit i = true := by
  rw [ne_zero_bit]
  exact ⟨fun ⟨i, h⟩ => ⟨i, by rw [Nat.testBit_and] at h; simpa using h⟩, fun ⟨i, h1, h2⟩ => ⟨i, by rw [Nat.testBit_and, h1, h2]; rfl⟩⟩
theorem and_eq0 {a b : Nat} : a &&& b = 0 ↔ ∀ i, a.testBit i = true → b.testBit i = false := by
  constructor
  · intro h i hi
    cases hb : b.testBit i with
    | false => rfl
    | true => exact absurd h (and_ne.2 ⟨i, hi, hb⟩)
  · intro h
    rcases Nat.eq_zero_or_pos (a &&& b) with q | q
    · exact q
    · obtain ⟨i, h1, h2⟩ := and_ne.1 (Nat.ne_of_gt q)
      rw [h i h1] at h2; cases h2
theorem dif_eq0 {a b : Nat} (ha : a < 2 ^ 64) (hb : b < 2 ^ 64) : dif a b = 0 ↔ ∀ i, a.testBit i = true → b.testBit i = true := by
  constructor
  · intro h i hi
    have h64 : i < 64 := by
      rcases Nat.lt_or_ge i 64 with q | q
      · exact q
      · rw [bit_out ha q] at hi; cases hi
    have := dif_bit (a := a) hb i
    rw [h, hi] at this
    simpa [h64] using this
  · intro h
    apply Nat.eq_of_testBit_eq
    intro i
    rw [dif_bit hb, Nat.zero_testBit]
    cases hi : a.testBit i with
    | false => rfl
    | true => rw [h i hi]; simp
/-- the rows of a list, as bits -/
def bitsOf (xs : List Nat) : Nat := xs.foldl (fun a r => a ||| 2 ^ r) 0
theorem foldl_bits (xs : List Nat) (a i : Nat) : (xs.foldl (fun a r => a ||| 2 ^ r) a).testBit i = (a.testBit i || decide (i ∈ xs)) := by
  induction xs generalizing a with
  | nil => simp
  | cons x xs ih =>
    rw [List.foldl_cons, ih, Nat.testBit_or, Nat.testBit_two_pow]
    by_cases h : i = x
    · subst h; simp
    · have : x ≠ i := fun e => h e.symm
      simp [h, this]
theorem bits_bit (xs : List Nat) (i : Nat) : (bitsOf xs).testBit i = decide (i ∈ xs) := by unfold bitsOf; rw [foldl_bits]; simp
theorem bits_snoc (xs : List Nat) (r : Nat) : bitsOf (xs ++ [r]) = bitsOf xs ||| 2 ^ r := by unfold bitsOf; rw [List.foldl_append]; rfl
theorem or_lt {a r n : Nat} (h : a < 2 ^ n) (hr : r < n) : a ||| 2 ^ r < 2 ^ n := Nat.or_lt_two_pow h (Nat.pow_lt_pow_right (by omega) hr)
theorem bits_lt {xs : List Nat} {n : Nat} (h : ∀ x ∈ xs, x < n) : bitsOf xs < 2 ^ n := by
  have key : ∀ (xs : List Nat) (a : Nat), (∀ x ∈ xs, x < n) → a < 2 ^ n → xs.foldl (fun a r => a ||| 2 ^ r) a < 2 ^ n := by
    intro xs
    induction xs with
    | nil => intro a _ ha; exact ha
    | cons x xs ih => intro a h ha; exact ih _ (fun y hy => h y (by simp [hy])) (or_lt ha (h x (by simp)))
  exact key xs 0 h (Nat.two_pow_pos n)
/-- all killable columns are covered -/
def covB (l : List Nat) (s : Nat) : Bool := l.all fun c => c == 0 || c &&& s != 0
theorem covB_iff {l : List Nat} {s : Nat} : covB l s = true ↔ ∀ c ∈ l, c ≠ 0 → c &&& s ≠ 0 := by
  unfold covB
  rw [List.all_eq_true]
  refine ⟨fun h c hc h0 => ?_, fun h c hc => ?_⟩
  · have := h c hc
    simp at this
    rcases this with q | q
    · exact absurd q h0
    · exact q
  · by_cases h0 : c = 0
    · simp [h0]
    · simp [h c hc h0]
theorem covB_mono {l : List Nat} {s t : Nat} (h : ∀ i, s.testBit i = true → t.testBit i = true) (hc : covB l s = true) : covB l t = true := by
  rw [covB_iff] at hc ⊢
  intro c hm h0
  obtain ⟨i, h1, h2⟩ := and_ne.1 (hc c hm h0)
  exact and_ne.2 ⟨i, h1, h i h2⟩
/-- lists of rows that ascend from some row on -/
def Asc (n : Nat) : Nat → List Nat → Prop
  | _, [] => True
  | a, x :: xs => a ≤ x ∧ x < n ∧ Asc n (x + 1) xs
theorem Asc.lt {n : Nat} : ∀ {a : Nat} {xs : List Nat}, Asc n a xs → ∀ x ∈ xs, a ≤ x ∧ x < n
  | _, [], _, _, h => by cases h
  | a, y :: ys, ⟨h1, h2, h3⟩, x, hx => by
    rcases List.mem_cons.1 hx with rfl | hx
    · exact ⟨h1, h2⟩
    · have := Asc.lt h3 x hx; omega
theorem Asc.mono {n : Nat} {a b : Nat} {xs : List Nat} (h : Asc n b xs) (hab : a ≤ b) : Asc n a xs := by
  cases xs with
  | nil => trivial
  | cons x xs => exact ⟨by have := h.1; omega, h.2⟩
theorem Asc.len {n : Nat} : ∀ {a : Nat} {xs : List Nat}, Asc n a xs → a ≤ n → a + xs.length ≤ n
  | _, [], _, ha => by simpa using ha
  | a, x :: xs, ⟨h1, h2, h3⟩, _ => by
    have := Asc.len h3 (by omega)
    simp only [List.length_cons]; omega
theorem asc_snoc {n a x : Nat} {xs : List Nat} (h : Asc n a xs) (hx : x < n) (h1 : a ≤ x) (h2 : ∀ y ∈ xs, y < x) : Asc n a (xs ++ [x]) := by
  induction xs generalizing a with
  | nil => exact ⟨h1, hx, trivial⟩
  | cons y ys ih => exact ⟨h.1, h.2.1, ih h.2.2 (by have := h2 y (by simp); omega) fun z hz => h2 z (by simp [hz])⟩
theorem asc_app {n a : Nat} {xs ys : List Nat} {b : Nat} (h : Asc n a xs) (h1 : ∀ x ∈ xs, x < b) (hab : a ≤ b) (h2 : Asc n b ys) : Asc n a (xs ++ ys) := by
  induction xs generalizing a with
  | nil => exact h2.mono hab
  | cons x xs ih => exact ⟨h.1, h.2.1, ih h.2.2 (fun z hz => h1 z (by simp [hz])) (by have := h1 x (by simp); omega)⟩
/-- the first choice of n rows from some row on, behind a list, that passes a test -/
def choose (C : List Nat → Bool) (rows : Nat) : Nat → Nat → List Nat → Option (List Nat)
  | 0, _, pre => if C pre then some pre else none
  | n + 1, first, pre => (List.range' first (rows - n - first)).findSome? fun r => choose C rows n (r + 1) (pre ++ [r])
theorem choose_congr {C C' : List Nat → Bool} {rows : Nat} (h : ∀ xs, C xs = C' xs) : ∀ (n first : Nat) (pre : List Nat), choose C rows n first pre = choose C' rows n first pre
  | 0, _, pre => by simp only [choose, h]
  | n + 1, first, pre => by simp only [choose, choose_congr h n]
/-- what it finds passes -/
theorem choose_some {C : List Nat → Bool} {rows : Nat} : ∀ (n first : Nat) (pre ys : List Nat), choose C rows n first pre = some ys → ∃ zs, ys = pre ++ zs ∧ zs.length = n ∧ Asc rows first zs ∧ C ys = true
  | 0, _, pre, ys, h => by
    simp only [choose] at h
    split at h
    · rename_i hc; cases h; exact ⟨[], by simp, rfl, trivial, hc⟩
    · cases h
  | n + 1, first, pre, ys, h => by
    simp only [choose] at h
    obtain ⟨r, hr, h⟩ := List.exists_of_findSome?_eq_some h
    rw [List.mem_range'_1] at hr
    obtain ⟨zs, e1, e2, e3, e4⟩ := choose_some n (r + 1) (pre ++ [r]) ys h
    exact ⟨r :: zs, by rw [e1]; simp, by simp [e2], ⟨hr.1, by omega, e3⟩, e4⟩
/-- where it finds nothing, there is nothing -/
theorem choose_none {C : List Nat → Bool} {rows : Nat} : ∀ (n first : Nat) (pre : List Nat), choose C rows n first pre = none → ∀ zs, zs.length = n → Asc rows first zs → C (pre ++ zs) = false
  | 0, _, pre, h, zs, hl, _ => by
    have : zs = [] := List.eq_nil_of_length_eq_zero hl
    subst this
    simp only [choose] at h
    split at h
    · cases h
    · rename_i hc; simpa using hc
  | n + 1, first, pre, h, zs, hl, ha => by
    cases zs with
    | nil => simp at hl
    | cons r zs =>
      simp only [choose] at h
      rw [List.findSome?_eq_none_iff] at h
      have hl' : zs.length = n := by simpa using hl
      have := ha.2.2.len (by have := ha.2.1; omega)
      have h' := choose_none n (r + 1) (pre ++ [r]) (h r (List.mem_range'_1.2 ⟨ha.1, by have := ha.1; omega⟩)) zs hl' ha.2.2
      rwa [List.append_assoc] at h'
/-- the first of the smallest choices -/
def least (C : List Nat → Bool) (rows : Nat) : List Nat := ((List.range (rows + 1)).findSome? fun n => choose C rows n 0 []).getD []
theorem least_spec {C : List Nat → Bool} {rows : Nat} (hall : C (List.range rows) = true) : ∃ n, n ≤ rows ∧ choose C rows n 0 [] = some (least C rows) ∧ ∀ k, k < n → choose C rows k 0 [] = none := by
  have h1 : ∃ n, n ≤ rows ∧ (choose C rows n 0 []).isSome = true := by
    refine ⟨rows, Nat.le_refl _, ?_⟩
    cases hc : choose C rows rows 0 [] with
    | some ys => rfl
    | none =>
      have hr : ∀ k a, Asc (a + k) a (List.range' a k) := by
        intro k
        induction k with
        | zero => intro a; trivial
        | succ k ih =>
          intro a
          rw [List.range'_succ]
          refine ⟨Nat.le_refl _, by omega, ?_⟩
          have := ih (a + 1)
          rwa [show a + 1 + k = a + (k + 1) by omega] at this
      have := hr rows 0
      rw [Nat.zero_add, ← List.range_eq_range'] at this
      have := choose_none rows 0 [] hc (List.range rows) (by simp) this
      rw [List.nil_append, hall] at this; cases this
  cases hf : (List.range (rows + 1)).findSome? fun n => choose C rows n 0 [] with
  | none =>
    obtain ⟨n, hn, hs⟩ := h1
    rw [List.findSome?_eq_none_iff] at hf
    rw [hf n (List.mem_range.2 (by omega))] at hs; cases hs
  | some ys =>
    rw [List.findSome?_eq_some_iff] at hf
    obtain ⟨l1, n, l2, e1, e2, e3⟩ := hf
    have hl : (List.range (rows + 1))[l1.length]? = some n := by rw [e1]; simp
    have hn : n = l1.length := by
      have hlt : l1.length < rows + 1 := by
        have := congrArg List.length e1
        simp at this; omega
      rw [List.getElem?_range hlt] at hl
      injection hl with hl; exact hl.symm
    have hlen : l1.length < rows + 1 := by
      have := congrArg List.length e1
      simp at this; omega
    refine ⟨n, by omega, ?_, fun k hk => e3 k ?_⟩
    · unfold least
      have : (List.range (rows + 1)).findSome? (fun n => choose C rows n 0 []) = some ys := by
        rw [List.findSome?_eq_some_iff]; exact ⟨l1, n, l2, e1, e2, e3⟩
      rw [this]; exact e2
    · have : (List.range (rows + 1))[k]? = some k := List.getElem?_range (by omega)
      rw [e1, List.getElem?_append_left (by omega)] at this
      exact List.mem_of_getElem? this
end Go.Proofs.Ytaomejbaocehnaa

/- What the seat's program may turn (asked by every condition). -/



namespace Go.Proofs
open Go Go.RowKit
theorem follows_ : Try.prog.follows .mixedOrders = true := by kernel_rfl
end Go.Proofs

/- The conditions of functions, printed by our tool; each is checked against the code by the kernel. -/



namespace Go.Proofs
open Go Go.V Go.RowKit
/-- querylab/suite.Valid -/
def S26 (m_a : Option Addr) (m_n : Nat) (m_c : Nat) (w0 : World) (R : Value → World → Prop) : Prop :=
 br (decide (((m_n : Nat) : Int) > 14)) (R (.bool false) w0)
 (loop (T := (Int × Unit)) (0, ()) w0 fun (again1 : (Int × Unit) → World → Prop) (s2 : (Int × Unit)) w3 => ∀ _ : Nat → Value,
 br (decide (s2.1 < ((m_n : Nat) : Int))) (rdp Try.prog (Instr.indexAt 25 (.slice m_a m_n m_c) (.int .i64 s2.1)) (.one .addr) fun (x4 : Addr) =>
 rd Try.prog (Instr.loadAt 35 (.pointer (some x4))) (.one .slice) w3 fun (x5 : (Option Addr × Nat × Nat)) =>
 rdp Try.prog (Instr.indexAt 25 (.slice m_a m_n m_c) (.int .i64 0)) (.one .addr) fun (x6 : Addr) =>
 rd Try.prog (Instr.loadAt 35 (.pointer (some x6))) (.one .slice) w3 fun (x7 : (Option Addr × Nat × Nat)) =>
 br (((x5.2.1 : Nat) : Int) != ((x7.2.1 : Nat) : Int)) (R (.bool false) w3)
 (br (decide (((x5.2.1 : Nat) : Int) > 400)) (R (.bool false) w3)
 (z (IntKind.wrap .i64 (s2.1 + 1)) fun (z8 : Int) =>
 again1 (z8, ()) w3)))
 (R (.bool true) w3))
def H26 : Hints := ⟨[(2, 0, [(10, (.one (.int .i64)))])], [], [], []⟩
set_option maxRecDepth 100000 in
theorem S26_eq (m_a : Option Addr) (m_n : Nat) (m_c : Nat) (w0 : World) (R : Value → World → Prop) : vcFn Try.prog H26 Try.f26 [(.slice m_a m_n m_c)] w0 R = S26 m_a m_n m_c w0 R := by kernel_rfl
set_option maxRecDepth 100000 in
theorem S26_calls (m_a : Option Addr) (m_n : Nat) (m_c : Nat) (w0 : World) (R : Value → World → Prop) (h : S26 m_a m_n m_c w0 R) : Calls Try.prog 26 #[(.slice m_a m_n m_c)] w0 (ret R) := by
  rw [← S26_eq] at h; exact vcFn_sound follows_ Try.func26 h

/-- querylab/suite.columns -/
def S34 (m_a : Option Addr) (m_n : Nat) (m_c : Nat) (w0 : World) (R : Value → World → Prop) : Prop :=
 br (((m_n : Nat) : Int) == 0) (R (.slice none 0 0) w0)
 (rdp Try.prog (Instr.indexAt 25 (.slice m_a m_n m_c) (.int .i64 0)) (.one .addr) fun (x1 : Addr) =>
 rd Try.prog (Instr.loadAt 35 (.pointer (some x1))) (.one .slice) w0 fun (x2 : (Option Addr × Nat × Nat)) =>
 wr Try.prog (Instr.makeSlice 22 (.int .i64 ((x2.2.1 : Nat) : Int)) (.int .i64 ((x2.2.1 : Nat) : Int))) (.one .slice) w0 fun (x3 : (Option Addr × Nat × Nat)) (w4 : World) =>
 loop (T := (Int × Unit)) (0, ()) w4 fun (again5 : (Int × Unit) → World → Prop) (s6 : (Int × Unit)) w7 => ∀ _ : Nat → Value,
 br (decide (s6.1 < ((m_n : Nat) : Int))) (rdp Try.prog (Instr.indexAt 25 (.slice m_a m_n m_c) (.int .i64 s6.1)) (.one .addr) fun (x8 : Addr) =>
 rd Try.prog (Instr.loadAt 35 (.pointer (some x8))) (.one .slice) w7 fun (x9 : (Option Addr × Nat × Nat)) =>
 loop (T := (Int × Unit)) (0, ()) w7 fun (again10 : (Int × Unit) → World → Prop) (s11 : (Int × Unit)) w12 => ∀ _ : Nat → Value,
 br (decide (s11.1 < ((x9.2.1 : Nat) : Int))) (join (T := (Unit)) (fun (_s14 : (Unit)) w15 => ∀ _ : Nat → Value,
 z (IntKind.wrap .i64 (s11.1 + 1)) fun (z16 : Int) =>
 again10 (z16, ()) w15)
  fun (K13 : (Unit) → World → Prop) =>
 rdp Try.prog (Instr.indexAt 35 (.slice x9.1 x9.2.1 x9.2.2) (.int .i64 s11.1)) (.one .addr) fun (x17 : Addr) =>
 rd Try.prog (Instr.loadAt 4 (.pointer (some x17))) (.one .bool) w12 fun (x18 : Bool) =>
 br x18 (drw w12 fun w19 =>
 rdp Try.prog (Instr.indexAt 22 (.slice x3.1 x3.2.1 x3.2.2) (.int .i64 s11.1)) (.one .addr) fun (x20 : Addr) =>
 rd Try.prog (Instr.loadAt 3 (.pointer (some x20))) (.one (.int .i64)) w19 fun (x21 : Int) =>
 rdp Try.prog (cmpS .shl 3 (.const (.int .i64 1)) (.tmp 35) (.int .i64 1) (.int .i64 s6.1)) (.one (.int .i64)) fun (x22 : Int) =>
 z (ior .i64 x21 x22) fun (z23 : Int) =>
 rdp Try.prog (Instr.indexAt 22 (.slice x3.1 x3.2.1 x3.2.2) (.int .i64 s11.1)) (.one .addr) fun (x24 : Addr) =>
 wu Try.prog (Instr.storeAt 3 (.pointer (some x24)) (.int .i64 z23)) w19 fun (w25 : World) =>
 K13 (()) w25)
 (K13 (()) w12))
 (z (IntKind.wrap .i64 (s6.1 + 1)) fun (z26 : Int) =>
 again5 (z26, ()) w12))
 (R (.slice x3.1 x3.2.1 x3.2.2) w7))
def H34 : Hints := ⟨[(2, 0, [(18, (.one (.int .i64)))]), (2, 2, [(25, (.one (.int .i64)))]), (1, 3, [])], [(11, 6)], [], []⟩
set_option maxRecDepth 100000 in
theorem S34_eq (m_a : Option Addr) (m_n : Nat) (m_c : Nat) (w0 : World) (R : Value → World → Prop) : vcFn Try.prog H34 Try.f34 [(.slice m_a m_n m_c)] w0 R = S34 m_a m_n m_c w0 R := by kernel_rfl
set_option maxRecDepth 100000 in
theorem S34_calls (m_a : Option Addr) (m_n : Nat) (m_c : Nat) (w0 : World) (R : Value → World → Prop) (h : S34 m_a m_n m_c w0 R) : Calls Try.prog 34 #[(.slice m_a m_n m_c)] w0 (ret R) := by
  rw [← S34_eq] at h; exact vcFn_sound follows_ Try.func34 h

/-- querylab/suite.set -/
def S40 (_m_a : Option Addr) (m_n : Nat) (_m_c : Nat) (chosen_a : Option Addr) (chosen_n : Nat) (chosen_c : Nat) (w0 : World) (R : Value → World → Prop) : Prop :=
 loop (T := (Int × Int × Unit)) (0, 0, ()) w0 fun (again1 : (Int × Int × Unit) → World → Prop) (s2 : (Int × Int × Unit)) w3 => ∀ _ : Nat → Value,
 br (decide (s2.2.1 < ((chosen_n : Nat) : Int))) (join (T := (Int × Unit)) (fun (s5 : (Int × Unit)) w6 => ∀ _ : Nat → Value,
 z (IntKind.wrap .i64 (s2.2.1 + 1)) fun (z7 : Int) =>
 again1 (s5.1, z7, ()) w6)
  fun (K4 : (Int × Unit) → World → Prop) =>
 rdp Try.prog (Instr.indexAt 22 (.slice chosen_a chosen_n chosen_c) (.int .i64 s2.2.1)) (.one .addr) fun (x8 : Addr) =>
 rd Try.prog (Instr.loadAt 3 (.pointer (some x8))) (.one (.int .i64)) w3 fun (x9 : Int) =>
 join (T := (Unit)) (fun (_s11 : (Unit)) w12 => ∀ _ : Nat → Value,
 rdp Try.prog (cmpS .shl 3 (.const (.int .i64 1)) (.tmp 38) (.int .i64 1) (.int .i64 x9)) (.one (.int .i64)) fun (x13 : Int) =>
 z (ior .i64 s2.1 x13) fun (z14 : Int) =>
 K4 (z14, ()) w12)
  fun (K10 : (Unit) → World → Prop) =>
 br (decide (x9 < 0)) (R (.tuple #[(.int .i64 0), (.bool false)]) w3)
 (br (decide (x9 ≥ ((m_n : Nat) : Int))) (R (.tuple #[(.int .i64 0), (.bool false)]) w3)
 (br (decide (s2.2.1 > 0)) (z (IntKind.wrap .i64 (s2.2.1 - 1)) fun (z15 : Int) =>
 rdp Try.prog (Instr.indexAt 22 (.slice chosen_a chosen_n chosen_c) (.int .i64 z15)) (.one .addr) fun (x16 : Addr) =>
 rd Try.prog (Instr.loadAt 3 (.pointer (some x16))) (.one (.int .i64)) w3 fun (x17 : Int) =>
 br (decide (x9 ≤ x17)) (R (.tuple #[(.int .i64 0), (.bool false)]) w3)
 (K10 (()) w3))
 (K10 (()) w3))))
 (R (.tuple #[(.int .i64 s2.1), (.bool true)]) w3)
def H40 : Hints := ⟨[(2, 0, [(6, (.one (.int .i64))), (11, (.one (.int .i64)))]), (0, 36, []), (1, 1, [(6, (.one (.int .i64)))])], [], [], []⟩
set_option maxRecDepth 100000 in
theorem S40_eq (m_a : Option Addr) (m_n : Nat) (m_c : Nat) (chosen_a : Option Addr) (chosen_n : Nat) (chosen_c : Nat) (w0 : World) (R : Value → World → Prop) : vcFn Try.prog H40 Try.f40 [(.slice m_a m_n m_c), (.slice chosen_a chosen_n chosen_c)] w0 R = S40 m_a m_n m_c chosen_a chosen_n chosen_c w0 R := by kernel_rfl
set_option maxRecDepth 100000 in
theorem S40_calls (m_a : Option Addr) (m_n : Nat) (m_c : Nat) (chosen_a : Option Addr) (chosen_n : Nat) (chosen_c : Nat) (w0 : World) (R : Value → World → Prop) (h : S40 m_a m_n m_c chosen_a chosen_n chosen_c w0 R) : Calls Try.prog 40 #[(.slice m_a m_n m_c), (.slice chosen_a chosen_n chosen_c)] w0 (ret R) := by
  rw [← S40_eq] at h; exact vcFn_sound follows_ Try.func40 h

/-- querylab/suite.covers$1 -/
def S49 (c_ : Int) (cap0 : Addr) (w0 : World) (R : Value → World → Prop) : Prop :=
 br (c_ != 0) (rd Try.prog (Instr.loadAt 3 (.pointer (some cap0))) (.one (.int .i64)) w0 fun (x1 : Int) =>
 z (iand .i64 c_ x1) fun (z2 : Int) =>
 R (.bool (z2 == 0)) w0)
 (R (.bool false) w0)
def H49 : Hints := ⟨[], [], [], []⟩
set_option maxRecDepth 100000 in
theorem S49_eq (c_ : Int) (cap0 : Addr) (w0 : World) (R : Value → World → Prop) : vcFn Try.prog H49 Try.f49 [(.int .i64 c_), (.pointer (some cap0))] w0 R = S49 c_ cap0 w0 R := by kernel_rfl
set_option maxRecDepth 100000 in
theorem S49_calls (c_ : Int) (cap0 : Addr) (w0 : World) (R : Value → World → Prop) (h : S49 c_ cap0 w0 R) : Calls Try.prog 49 #[(.int .i64 c_), (.pointer (some cap0))] w0 (ret R) := by
  rw [← S49_eq] at h; exact vcFn_sound follows_ Try.func49 h

/-- slices.IndexFunc[[]int,int] -/
def S51 (s_a : Option Addr) (s_n : Nat) (s_c : Nat) (cap1_0 : Addr) (w0 : World) (R : Value → World → Prop) : Prop :=
 loop (T := (Int × Unit)) (0, ()) w0 fun (again1 : (Int × Unit) → World → Prop) (s2 : (Int × Unit)) w3 => ∀ _ : Nat → Value,
 br (decide (s2.1 < ((s_n : Nat) : Int))) (rdp Try.prog (Instr.indexAt 22 (.slice s_a s_n s_c) (.int .i64 s2.1)) (.one .addr) fun (x4 : Addr) =>
 rd Try.prog (Instr.loadAt 3 (.pointer (some x4))) (.one (.int .i64)) w3 fun (x5 : Int) =>
 call Try.prog 49 [(.int .i64 x5), (.pointer (some cap1_0))] (.one (.one .bool)) w3 fun (x6 : Bool) (w7 : World) =>
 br x6 (R (.int .i64 s2.1) w7)
 (z (IntKind.wrap .i64 (s2.1 + 1)) fun (z8 : Int) =>
 again1 (z8, ()) w7))
 (R (.int .i64 (-1)) w3)
def H51 : Hints := ⟨[(2, 0, [(8, (.one (.int .i64)))])], [], [], []⟩
set_option maxRecDepth 100000 in
theorem S51_eq (s_a : Option Addr) (s_n : Nat) (s_c : Nat) (cap1_0 : Addr) (w0 : World) (R : Value → World → Prop) : vcFn Try.prog H51 Try.f51 [(.slice s_a s_n s_c), (.func (.func 49) #[] #[(.pointer (some cap1_0))])] w0 R = S51 s_a s_n s_c cap1_0 w0 R := by kernel_rfl
set_option maxRecDepth 100000 in
theorem S51_calls (s_a : Option Addr) (s_n : Nat) (s_c : Nat) (cap1_0 : Addr) (w0 : World) (R : Value → World → Prop) (h : S51 s_a s_n s_c cap1_0 w0 R) : Calls Try.prog 51 #[(.slice s_a s_n s_c), (.func (.func 49) #[] #[(.pointer (some cap1_0))])] w0 (ret R) := by
  rw [← S51_eq] at h; exact vcFn_sound follows_ Try.func51 h

/-- slices.ContainsFunc[[]int,int] -/
def S48 (s_a : Option Addr) (s_n : Nat) (s_c : Nat) (cap1_0 : Addr) (w0 : World) (R : Value → World → Prop) : Prop :=
 call Try.prog 51 [(.slice s_a s_n s_c), (.func (.func 49) #[] #[(.pointer (some cap1_0))])] (.one (.one (.int .i64))) w0 fun (x1 : Int) (w2 : World) =>
 R (.bool (decide (x1 ≥ 0))) w2
def H48 : Hints := ⟨[], [], [], []⟩
set_option maxRecDepth 100000 in
theorem S48_eq (s_a : Option Addr) (s_n : Nat) (s_c : Nat) (cap1_0 : Addr) (w0 : World) (R : Value → World → Prop) : vcFn Try.prog H48 Try.f48 [(.slice s_a s_n s_c), (.func (.func 49) #[] #[(.pointer (some cap1_0))])] w0 R = S48 s_a s_n s_c cap1_0 w0 R := by kernel_rfl
set_option maxRecDepth 100000 in
theorem S48_calls (s_a : Option Addr) (s_n : Nat) (s_c : Nat) (cap1_0 : Addr) (w0 : World) (R : Value → World → Prop) (h : S48 s_a s_n s_c cap1_0 w0 R) : Calls Try.prog 48 #[(.slice s_a s_n s_c), (.func (.func 49) #[] #[(.pointer (some cap1_0))])] w0 (ret R) := by
  rw [← S48_eq] at h; exact vcFn_sound follows_ Try.func48 h

/-- querylab/suite.covers -/
def S37 (l_a : Option Addr) (l_n : Nat) (l_c : Nat) (rows_ : Int) (w0 : World) (R : Value → World → Prop) : Prop :=
 wr Try.prog (Instr.box 3 (.int .i64 rows_)) (.one .addr) w0 fun (x1 : Addr) (w2 : World) =>
 call Try.prog 48 [(.slice l_a l_n l_c), (.func (.func 49) #[] #[(.pointer (some x1))])] (.one (.one .bool)) w2 fun (x3 : Bool) (w4 : World) =>
 R (.bool (!x3)) w4
def H37 : Hints := ⟨[], [], [], []⟩
set_option maxRecDepth 100000 in
theorem S37_eq (l_a : Option Addr) (l_n : Nat) (l_c : Nat) (rows_ : Int) (w0 : World) (R : Value → World → Prop) : vcFn Try.prog H37 Try.f37 [(.slice l_a l_n l_c), (.int .i64 rows_)] w0 R = S37 l_a l_n l_c rows_ w0 R := by kernel_rfl
set_option maxRecDepth 100000 in
theorem S37_calls (l_a : Option Addr) (l_n : Nat) (l_c : Nat) (rows_ : Int) (w0 : World) (R : Value → World → Prop) (h : S37 l_a l_n l_c rows_ w0 R) : Calls Try.prog 37 #[(.slice l_a l_n l_c), (.int .i64 rows_)] w0 (ret R) := by
  rw [← S37_eq] at h; exact vcFn_sound follows_ Try.func37 h

/-- querylab/suite.Covers -/
def S14 (m_a : Option Addr) (m_n : Nat) (m_c : Nat) (chosen_a : Option Addr) (chosen_n : Nat) (chosen_c : Nat) (w0 : World) (R : Value → World → Prop) : Prop :=
 call Try.prog 26 [(.slice m_a m_n m_c)] (.one (.one .bool)) w0 fun (x1 : Bool) (w2 : World) =>
 br (!x1) (R (.bool false) w2)
 (call Try.prog 40 [(.slice m_a m_n m_c), (.slice chosen_a chosen_n chosen_c)] (.many [(.one (.int .i64)), (.one .bool)]) w2 fun (x3 : (Int × Bool × Unit)) (w4 : World) =>
 br x3.2.1 (call Try.prog 34 [(.slice m_a m_n m_c)] (.one (.one .slice)) w4 fun (x5 : (Option Addr × Nat × Nat)) (w6 : World) =>
 call Try.prog 37 [(.slice x5.1 x5.2.1 x5.2.2), (.int .i64 x3.1)] (.one (.one .bool)) w6 fun (x7 : Bool) (w8 : World) =>
 R (.bool x7) w8)
 (R (.bool false) w4))
def H14 : Hints := ⟨[], [], [], []⟩
set_option maxRecDepth 100000 in
theorem S14_eq (m_a : Option Addr) (m_n : Nat) (m_c : Nat) (chosen_a : Option Addr) (chosen_n : Nat) (chosen_c : Nat) (w0 : World) (R : Value → World → Prop) : vcFn Try.prog H14 Try.f14 [(.slice m_a m_n m_c), (.slice chosen_a chosen_n chosen_c)] w0 R = S14 m_a m_n m_c chosen_a chosen_n chosen_c w0 R := by kernel_rfl
set_option maxRecDepth 100000 in
theorem S14_calls (m_a : Option Addr) (m_n : Nat) (m_c : Nat) (chosen_a : Option Addr) (chosen_n : Nat) (chosen_c : Nat) (w0 : World) (R : Value → World → Prop) (h : S14 m_a m_n m_c chosen_a chosen_n chosen_c w0 R) : Calls Try.prog 14 #[(.slice m_a m_n m_c), (.slice chosen_a chosen_n chosen_c)] w0 (ret R) := by
  rw [← S14_eq] at h; exact vcFn_sound follows_ Try.func14 h

/-- querylab/suite.Survivors -/
def S29 (m_a : Option Addr) (m_n : Nat) (m_c : Nat) (chosen_a : Option Addr) (chosen_n : Nat) (chosen_c : Nat) (w0 : World) (R : Value → World → Prop) : Prop :=
 call Try.prog 26 [(.slice m_a m_n m_c)] (.one (.one .bool)) w0 fun (x1 : Bool) (w2 : World) =>
 br (!x1) (R (.tuple #[(.slice none 0 0), (.int .i64 1)]) w2)
 (call Try.prog 40 [(.slice m_a m_n m_c), (.slice chosen_a chosen_n chosen_c)] (.many [(.one (.int .i64)), (.one .bool)]) w2 fun (x3 : (Int × Bool × Unit)) (w4 : World) =>
 br (!x3.2.1) (R (.tuple #[(.slice none 0 0), (.int .i64 1)]) w4)
 (call Try.prog 34 [(.slice m_a m_n m_c)] (.one (.one .slice)) w4 fun (x5 : (Option Addr × Nat × Nat)) (w6 : World) =>
 loop (T := ((Option Addr × Nat × Nat) × Int × Unit)) ((none, 0, 0), 0, ()) w6 fun (again7 : ((Option Addr × Nat × Nat) × Int × Unit) → World → Prop) (s8 : ((Option Addr × Nat × Nat) × Int × Unit)) w9 => ∀ _ : Nat → Value,
 br (decide (s8.2.1 < ((x5.2.1 : Nat) : Int))) (join (T := ((Option Addr × Nat × Nat) × Unit)) (fun (s11 : ((Option Addr × Nat × Nat) × Unit)) w12 => ∀ _ : Nat → Value,
 z (IntKind.wrap .i64 (s8.2.1 + 1)) fun (z13 : Int) =>
 again7 ((s11.1.1, s11.1.2.1, s11.1.2.2), z13, ()) w12)
  fun (K10 : ((Option Addr × Nat × Nat) × Unit) → World → Prop) =>
 rdp Try.prog (Instr.indexAt 22 (.slice x5.1 x5.2.1 x5.2.2) (.int .i64 s8.2.1)) (.one .addr) fun (x14 : Addr) =>
 rd Try.prog (Instr.loadAt 3 (.pointer (some x14))) (.one (.int .i64)) w9 fun (x15 : Int) =>
 z (iand .i64 x15 x3.1) fun (z16 : Int) =>
 br (z16 == 0) (wr Try.prog (Instr.buildSlice 22 1 #[(0, (.int .i64 s8.2.1))]) (.one .slice) w9 fun (x17 : (Option Addr × Nat × Nat)) (w18 : World) =>
 wr Try.prog (Builtin.append_ #[22, 22] 22 #[(.slice s8.1.1 s8.1.2.1 s8.1.2.2), (.slice x17.1 x17.2.1 x17.2.2)]) (.one .slice) w18 fun (x19 : (Option Addr × Nat × Nat)) (w20 : World) =>
 K10 ((x19.1, x19.2.1, x19.2.2), ()) w20)
 (K10 ((s8.1.1, s8.1.2.1, s8.1.2.2), ()) w9))
 (R (.tuple #[(.slice s8.1.1 s8.1.2.1 s8.1.2.2), (.int .i64 0)]) w9)))
def H29 : Hints := ⟨[(2, 0, [(8, (.one .slice)), (25, (.one (.int .i64)))]), (1, 1, [(8, (.one .slice))])], [], [], []⟩
set_option maxRecDepth 100000 in
theorem S29_eq (m_a : Option Addr) (m_n : Nat) (m_c : Nat) (chosen_a : Option Addr) (chosen_n : Nat) (chosen_c : Nat) (w0 : World) (R : Value → World → Prop) : vcFn Try.prog H29 Try.f29 [(.slice m_a m_n m_c), (.slice chosen_a chosen_n chosen_c)] w0 R = S29 m_a m_n m_c chosen_a chosen_n chosen_c w0 R := by kernel_rfl
set_option maxRecDepth 100000 in
theorem S29_calls (m_a : Option Addr) (m_n : Nat) (m_c : Nat) (chosen_a : Option Addr) (chosen_n : Nat) (chosen_c : Nat) (w0 : World) (R : Value → World → Prop) (h : S29 m_a m_n m_c chosen_a chosen_n chosen_c w0 R) : Calls Try.prog 29 #[(.slice m_a m_n m_c), (.slice chosen_a chosen_n chosen_c)] w0 (ret R) := by
  rw [← S29_eq] at h; exact vcFn_sound follows_ Try.func29 h

/-- querylab/suite.choose -/
def S35 (l_a : Option Addr) (l_n : Nat) (l_c : Nat) (rows_ : Int) (first_ : Int) (n_ : Int) (chosen_a : Option Addr) (chosen_n : Nat) (chosen_c : Nat) (w0 : World) (R : Value → World → Prop) : Prop :=
 br (n_ == 0) (loop (T := (Int × Int × Unit)) (0, 0, ()) w0 fun (again1 : (Int × Int × Unit) → World → Prop) (s2 : (Int × Int × Unit)) w3 => ∀ _ : Nat → Value,
 br (decide (s2.2.1 < ((chosen_n : Nat) : Int))) (rdp Try.prog (Instr.indexAt 22 (.slice chosen_a chosen_n chosen_c) (.int .i64 s2.2.1)) (.one .addr) fun (x4 : Addr) =>
 rd Try.prog (Instr.loadAt 3 (.pointer (some x4))) (.one (.int .i64)) w3 fun (x5 : Int) =>
 rdp Try.prog (cmpS .shl 3 (.const (.int .i64 1)) (.tmp 27) (.int .i64 1) (.int .i64 x5)) (.one (.int .i64)) fun (x6 : Int) =>
 z (ior .i64 s2.1 x6) fun (z7 : Int) =>
 z (IntKind.wrap .i64 (s2.2.1 + 1)) fun (z8 : Int) =>
 again1 (z7, z8, ()) w3)
 (call Try.prog 37 [(.slice l_a l_n l_c), (.int .i64 s2.1)] (.one (.one .bool)) w3 fun (x9 : Bool) (w10 : World) =>
 R (.tuple #[(.slice chosen_a chosen_n chosen_c), (.bool x9)]) w10))
 (loop (T := (Int × Unit)) (first_, ()) w0 fun (again11 : (Int × Unit) → World → Prop) (s12 : (Int × Unit)) w13 => ∀ _ : Nat → Value,
 z (IntKind.wrap .i64 (s12.1 + n_)) fun (z14 : Int) =>
 br (decide (z14 ≤ rows_)) (z (IntKind.wrap .i64 (s12.1 + 1)) fun (z15 : Int) =>
 z (IntKind.wrap .i64 (n_ - 1)) fun (z16 : Int) =>
 wr Try.prog (Instr.buildSlice 22 1 #[(0, (.int .i64 s12.1))]) (.one .slice) w13 fun (x17 : (Option Addr × Nat × Nat)) (w18 : World) =>
 wr Try.prog (Builtin.append_ #[22, 22] 22 #[(.slice chosen_a chosen_n chosen_c), (.slice x17.1 x17.2.1 x17.2.2)]) (.one .slice) w18 fun (x19 : (Option Addr × Nat × Nat)) (w20 : World) =>
 call Try.prog 35 [(.slice l_a l_n l_c), (.int .i64 rows_), (.int .i64 z15), (.int .i64 z16), (.slice x19.1 x19.2.1 x19.2.2)] (.many [(.one .slice), (.one .bool)]) w20 fun (x21 : ((Option Addr × Nat × Nat) × Bool × Unit)) (w22 : World) =>
 br x21.2.1 (R (.tuple #[(.slice x21.1.1 x21.1.2.1 x21.1.2.2), (.bool true)]) w22)
 (z (IntKind.wrap .i64 (s12.1 + 1)) fun (z23 : Int) =>
 again11 (z23, ()) w22))
 (R (.tuple #[(.slice none 0 0), (.bool false)]) w13))
def H35 : Hints := ⟨[(2, 0, [(12, (.one (.int .i64))), (22, (.one (.int .i64)))]), (2, 2, [(15, (.one (.int .i64)))])], [], [], []⟩
set_option maxRecDepth 100000 in
theorem S35_eq (l_a : Option Addr) (l_n : Nat) (l_c : Nat) (rows_ : Int) (first_ : Int) (n_ : Int) (chosen_a : Option Addr) (chosen_n : Nat) (chosen_c : Nat) (w0 : World) (R : Value → World → Prop) : vcFn Try.prog H35 Try.f35 [(.slice l_a l_n l_c), (.int .i64 rows_), (.int .i64 first_), (.int .i64 n_), (.slice chosen_a chosen_n chosen_c)] w0 R = S35 l_a l_n l_c rows_ first_ n_ chosen_a chosen_n chosen_c w0 R := by kernel_rfl
set_option maxRecDepth 100000 in
theorem S35_calls (l_a : Option Addr) (l_n : Nat) (l_c : Nat) (rows_ : Int) (first_ : Int) (n_ : Int) (chosen_a : Option Addr) (chosen_n : Nat) (chosen_c : Nat) (w0 : World) (R : Value → World → Prop) (h : S35 l_a l_n l_c rows_ first_ n_ chosen_a chosen_n chosen_c w0 R) : Calls Try.prog 35 #[(.slice l_a l_n l_c), (.int .i64 rows_), (.int .i64 first_), (.int .i64 n_), (.slice chosen_a chosen_n chosen_c)] w0 (ret R) := by
  rw [← S35_eq] at h; exact vcFn_sound follows_ Try.func35 h

/-- slices.Clone[[]int,int] -/
def S36 (s_a : Option Addr) (s_n : Nat) (s_c : Nat) (w0 : World) (R : Value → World → Prop) : Prop :=
 rd Try.prog (cmpS .eql 22 (.tmp 3) (.const (.slice none 0 0)) (.slice s_a s_n s_c) (.slice none 0 0)) (.one .bool) w0 fun (x1 : Bool) =>
 br x1 (R (.slice none 0 0) w0)
 (wr Try.prog (Instr.buildSlice 22 0 #[]) (.one .slice) w0 fun (x2 : (Option Addr × Nat × Nat)) (w3 : World) =>
 wr Try.prog (Builtin.append_ #[22, 22] 22 #[(.slice x2.1 x2.2.1 x2.2.2), (.slice s_a s_n s_c)]) (.one .slice) w3 fun (x4 : (Option Addr × Nat × Nat)) (w5 : World) =>
 R (.slice x4.1 x4.2.1 x4.2.2) w5)
def H36 : Hints := ⟨[], [], [], []⟩
set_option maxRecDepth 100000 in
theorem S36_eq (s_a : Option Addr) (s_n : Nat) (s_c : Nat) (w0 : World) (R : Value → World → Prop) : vcFn Try.prog H36 Try.f36 [(.slice s_a s_n s_c)] w0 R = S36 s_a s_n s_c w0 R := by kernel_rfl
set_option maxRecDepth 100000 in
theorem S36_calls (s_a : Option Addr) (s_n : Nat) (s_c : Nat) (w0 : World) (R : Value → World → Prop) (h : S36 s_a s_n s_c w0 R) : Calls Try.prog 36 #[(.slice s_a s_n s_c)] w0 (ret R) := by
  rw [← S36_eq] at h; exact vcFn_sound follows_ Try.func36 h

/-- querylab/suite.Least -/
def S10 (m_a : Option Addr) (m_n : Nat) (m_c : Nat) (w0 : World) (R : Value → World → Prop) : Prop :=
 call Try.prog 26 [(.slice m_a m_n m_c)] (.one (.one .bool)) w0 fun (x1 : Bool) (w2 : World) =>
 br (!x1) (R (.tuple #[(.slice none 0 0), (.int .i64 1)]) w2)
 (call Try.prog 34 [(.slice m_a m_n m_c)] (.one (.one .slice)) w2 fun (x3 : (Option Addr × Nat × Nat)) (w4 : World) =>
 z (IntKind.wrap .i64 (((m_n : Nat) : Int) + 1)) fun (z5 : Int) =>
 loop (T := (Int × Unit)) (0, ()) w4 fun (again6 : (Int × Unit) → World → Prop) (s7 : (Int × Unit)) w8 => ∀ _ : Nat → Value,
 br (decide (s7.1 < z5)) (call Try.prog 35 [(.slice x3.1 x3.2.1 x3.2.2), (.int .i64 ((m_n : Nat) : Int)), (.int .i64 0), (.int .i64 s7.1), (.slice none 0 0)] (.many [(.one .slice), (.one .bool)]) w8 fun (x9 : ((Option Addr × Nat × Nat) × Bool × Unit)) (w10 : World) =>
 br x9.2.1 (call Try.prog 36 [(.slice x9.1.1 x9.1.2.1 x9.1.2.2)] (.one (.one .slice)) w10 fun (x11 : (Option Addr × Nat × Nat)) (w12 : World) =>
 R (.tuple #[(.slice x11.1 x11.2.1 x11.2.2), (.int .i64 0)]) w12)
 (z (IntKind.wrap .i64 (s7.1 + 1)) fun (z13 : Int) =>
 again6 (z13, ()) w10))
 (R (.tuple #[(.slice none 0 0), (.int .i64 0)]) w8))
def H10 : Hints := ⟨[(2, 0, [(16, (.one (.int .i64)))])], [], [], []⟩
set_option maxRecDepth 100000 in
theorem S10_eq (m_a : Option Addr) (m_n : Nat) (m_c : Nat) (w0 : World) (R : Value → World → Prop) : vcFn Try.prog H10 Try.f10 [(.slice m_a m_n m_c)] w0 R = S10 m_a m_n m_c w0 R := by kernel_rfl
set_option maxRecDepth 100000 in
theorem S10_calls (m_a : Option Addr) (m_n : Nat) (m_c : Nat) (w0 : World) (R : Value → World → Prop) (h : S10 m_a m_n m_c w0 R) : Calls Try.prog 10 #[(.slice m_a m_n m_c)] w0 (ret R) := by
  rw [← S10_eq] at h; exact vcFn_sound follows_ Try.func10 h

/-- querylab/suite.Greedy -/
def S11 (m_a : Option Addr) (m_n : Nat) (m_c : Nat) (w0 : World) (R : Value → World → Prop) : Prop :=
 call Try.prog 26 [(.slice m_a m_n m_c)] (.one (.one .bool)) w0 fun (x1 : Bool) (w2 : World) =>
 br (!x1) (R (.tuple #[(.slice none 0 0), (.int .i64 1)]) w2)
 (call Try.prog 34 [(.slice m_a m_n m_c)] (.one (.one .slice)) w2 fun (x3 : (Option Addr × Nat × Nat)) (w4 : World) =>
 loop (T := ((Option Addr × Nat × Nat) × Int × Unit)) ((none, 0, 0), 0, ()) w4 fun (again5 : ((Option Addr × Nat × Nat) × Int × Unit) → World → Prop) (s6 : ((Option Addr × Nat × Nat) × Int × Unit)) w7 => ∀ _ : Nat → Value,
 call Try.prog 37 [(.slice x3.1 x3.2.1 x3.2.2), (.int .i64 s6.2.1)] (.one (.one .bool)) w7 fun (x8 : Bool) (w9 : World) =>
 br (!x8) (loop (T := (Int × Int × Int × Unit)) (0, 0, 0, ()) w9 fun (again10 : (Int × Int × Int × Unit) → World → Prop) (s11 : (Int × Int × Int × Unit)) w12 => ∀ _ : Nat → Value,
 br (decide (s11.2.2.1 < ((m_n : Nat) : Int))) (join (T := (Int × Int × Unit)) (fun (s14 : (Int × Int × Unit)) w15 => ∀ _ : Nat → Value,
 z (IntKind.wrap .i64 (s11.2.2.1 + 1)) fun (z16 : Int) =>
 again10 (s14.1, s14.2.1, z16, ()) w15)
  fun (K13 : (Int × Int × Unit) → World → Prop) =>
 loop (T := (Int × Int × Unit)) (0, 0, ()) w12 fun (again17 : (Int × Int × Unit) → World → Prop) (s18 : (Int × Int × Unit)) w19 => ∀ _ : Nat → Value,
 br (decide (s18.2.1 < ((x3.2.1 : Nat) : Int))) (join (T := (Int × Unit)) (fun (s21 : (Int × Unit)) w22 => ∀ _ : Nat → Value,
 z (IntKind.wrap .i64 (s18.2.1 + 1)) fun (z23 : Int) =>
 again17 (s21.1, z23, ()) w22)
  fun (K20 : (Int × Unit) → World → Prop) =>
 rdp Try.prog (Instr.indexAt 22 (.slice x3.1 x3.2.1 x3.2.2) (.int .i64 s18.2.1)) (.one .addr) fun (x24 : Addr) =>
 rd Try.prog (Instr.loadAt 3 (.pointer (some x24))) (.one (.int .i64)) w19 fun (x25 : Int) =>
 z (iand .i64 x25 s6.2.1) fun (z26 : Int) =>
 br (z26 == 0) (rdp Try.prog (cmpS .shl 3 (.const (.int .i64 1)) (.tmp 39) (.int .i64 1) (.int .i64 s11.2.2.1)) (.one (.int .i64)) fun (x27 : Int) =>
 z (iand .i64 x25 x27) fun (z28 : Int) =>
 br (z28 != 0) (z (IntKind.wrap .i64 (s18.1 + 1)) fun (z29 : Int) =>
 K20 (z29, ()) w19)
 (K20 (s18.1, ()) w19))
 (K20 (s18.1, ()) w19))
 (br (decide (s18.1 > s11.2.1)) (K13 (s11.2.2.1, s18.1, ()) w19)
 (K13 (s11.1, s11.2.1, ()) w19)))
 (drw w12 fun w30 => flExC w30 fun E33 G32 Y31 F34 =>
 flcC Y31 2 E33 w30 (fun _w36 => True) (fun (D37 : Nat → Bool) (w35 : World) =>
   wr Try.prog (Instr.buildSlice 22 1 #[(0, (.int .i64 s11.1))]) (.one .slice) w35 fun (x38 : (Option Addr × Nat × Nat)) (w39 : World) =>
 (E33 w35 w39 ∧ G32 2 w35 w39 ∧ Y31 (setD D37 2) w39 ∧ F34 2 [] (.slice x38.1 x38.2.1 x38.2.2) w39))
  fun (x40 : (Option Addr × Nat × Nat)) =>
 flcC Y31 3 E33 w30 (fun w42 => F34 2 [] (.slice x40.1 x40.2.1 x40.2.2) w42 ∧ True) (fun (D43 : Nat → Bool) (w41 : World) =>
   wr Try.prog (Builtin.append_ #[22, 22] 22 #[(.slice s6.1.1 s6.1.2.1 s6.1.2.2), (.slice x40.1 x40.2.1 x40.2.2)]) (.one .slice) w41 fun (x44 : (Option Addr × Nat × Nat)) (w45 : World) =>
 (E33 w41 w45 ∧ G32 3 w41 w45 ∧ Y31 (setD D43 3) w45 ∧ F34 3 [(.slice s6.1.1 s6.1.2.1 s6.1.2.2), (.slice x40.1 x40.2.1 x40.2.2)] (.slice x44.1 x44.2.1 x44.2.2) w45))
  fun (x46 : (Option Addr × Nat × Nat)) =>
 rdp Try.prog (cmpS .shl 3 (.const (.int .i64 1)) (.tmp 58) (.int .i64 1) (.int .i64 s11.1)) (.one (.int .i64)) fun (x47 : Int) =>
 z (ior .i64 s6.2.1 x47) fun (z48 : Int) =>
 flendC Y31 [3, 2] E33 w30 (fun w50 => F34 3 [(.slice s6.1.1 s6.1.2.1 s6.1.2.2), (.slice x40.1 x40.2.1 x40.2.2)] (.slice x46.1 x46.2.1 x46.2.2) w50 ∧ F34 2 [] (.slice x40.1 x40.2.1 x40.2.2) w50 ∧ True) fun w49 =>
 again5 ((x46.1, x46.2.1, x46.2.2), z48, ()) w49))
 (R (.tuple #[(.slice s6.1.1 s6.1.2.1 s6.1.2.2), (.int .i64 0)]) w9))
def H11 : Hints := ⟨[(2, 0, [(5, (.one .slice)), (6, (.one (.int .i64)))]), (2, 2, [(7, (.one (.int .i64))), (8, (.one (.int .i64))), (24, (.one (.int .i64)))]), (2, 4, [(10, (.one (.int .i64))), (29, (.one (.int .i64)))]), (1, 5, [(10, (.one (.int .i64)))]), (1, 3, [(7, (.one (.int .i64))), (8, (.one (.int .i64)))])], [(21, 8)], [], [1000021]⟩
set_option maxRecDepth 100000 in
theorem S11_eq (m_a : Option Addr) (m_n : Nat) (m_c : Nat) (w0 : World) (R : Value → World → Prop) : vcFn Try.prog H11 Try.f11 [(.slice m_a m_n m_c)] w0 R = S11 m_a m_n m_c w0 R := by kernel_rfl
set_option maxRecDepth 100000 in
theorem S11_calls (m_a : Option Addr) (m_n : Nat) (m_c : Nat) (w0 : World) (R : Value → World → Prop) (h : S11 m_a m_n m_c w0 R) : Calls Try.prog 11 #[(.slice m_a m_n m_c)] w0 (ret R) := by
  rw [← S11_eq] at h; exact vcFn_sound follows_ Try.func11 h

/-- slices.Index[[]int,int] -/
def S50 (s_a : Option Addr) (s_n : Nat) (s_c : Nat) (v_ : Int) (w0 : World) (R : Value → World → Prop) : Prop :=
 loop (T := (Int × Unit)) (0, ()) w0 fun (again1 : (Int × Unit) → World → Prop) (s2 : (Int × Unit)) w3 => ∀ _ : Nat → Value,
 br (decide (s2.1 < ((s_n : Nat) : Int))) (rdp Try.prog (Instr.indexAt 22 (.slice s_a s_n s_c) (.int .i64 s2.1)) (.one .addr) fun (x4 : Addr) =>
 rd Try.prog (Instr.loadAt 3 (.pointer (some x4))) (.one (.int .i64)) w3 fun (x5 : Int) =>
 br (v_ == x5) (R (.int .i64 s2.1) w3)
 (z (IntKind.wrap .i64 (s2.1 + 1)) fun (z6 : Int) =>
 again1 (z6, ()) w3))
 (R (.int .i64 (-1)) w3)
def H50 : Hints := ⟨[(2, 0, [(8, (.one (.int .i64)))])], [], [], []⟩
set_option maxRecDepth 100000 in
theorem S50_eq (s_a : Option Addr) (s_n : Nat) (s_c : Nat) (v_ : Int) (w0 : World) (R : Value → World → Prop) : vcFn Try.prog H50 Try.f50 [(.slice s_a s_n s_c), (.int .i64 v_)] w0 R = S50 s_a s_n s_c v_ w0 R := by kernel_rfl
set_option maxRecDepth 100000 in
theorem S50_calls (s_a : Option Addr) (s_n : Nat) (s_c : Nat) (v_ : Int) (w0 : World) (R : Value → World → Prop) (h : S50 s_a s_n s_c v_ w0 R) : Calls Try.prog 50 #[(.slice s_a s_n s_c), (.int .i64 v_)] w0 (ret R) := by
  rw [← S50_eq] at h; exact vcFn_sound follows_ Try.func50 h

/-- slices.Contains[[]int,int] -/
def S38 (s_a : Option Addr) (s_n : Nat) (s_c : Nat) (v_ : Int) (w0 : World) (R : Value → World → Prop) : Prop :=
 call Try.prog 50 [(.slice s_a s_n s_c), (.int .i64 v_)] (.one (.one (.int .i64))) w0 fun (x1 : Int) (w2 : World) =>
 R (.bool (decide (x1 ≥ 0))) w2
def H38 : Hints := ⟨[], [], [], []⟩
set_option maxRecDepth 100000 in
theorem S38_eq (s_a : Option Addr) (s_n : Nat) (s_c : Nat) (v_ : Int) (w0 : World) (R : Value → World → Prop) : vcFn Try.prog H38 Try.f38 [(.slice s_a s_n s_c), (.int .i64 v_)] w0 R = S38 s_a s_n s_c v_ w0 R := by kernel_rfl
set_option maxRecDepth 100000 in
theorem S38_calls (s_a : Option Addr) (s_n : Nat) (s_c : Nat) (v_ : Int) (w0 : World) (R : Value → World → Prop) (h : S38 s_a s_n s_c v_ w0 R) : Calls Try.prog 38 #[(.slice s_a s_n s_c), (.int .i64 v_)] w0 (ret R) := by
  rw [← S38_eq] at h; exact vcFn_sound follows_ Try.func38 h

/-- querylab/suite.Needed -/
def S13 (m_a : Option Addr) (m_n : Nat) (m_c : Nat) (w0 : World) (R : Value → World → Prop) : Prop :=
 call Try.prog 26 [(.slice m_a m_n m_c)] (.one (.one .bool)) w0 fun (x1 : Bool) (w2 : World) =>
 br (!x1) (R (.tuple #[(.slice none 0 0), (.int .i64 1)]) w2)
 (call Try.prog 34 [(.slice m_a m_n m_c)] (.one (.one .slice)) w2 fun (x3 : (Option Addr × Nat × Nat)) (w4 : World) =>
 loop (T := ((Option Addr × Nat × Nat) × Int × Unit)) ((none, 0, 0), 0, ()) w4 fun (again5 : ((Option Addr × Nat × Nat) × Int × Unit) → World → Prop) (s6 : ((Option Addr × Nat × Nat) × Int × Unit)) w7 => ∀ _ : Nat → Value,
 br (decide (s6.2.1 < ((m_n : Nat) : Int))) (join (T := ((Option Addr × Nat × Nat) × Unit)) (fun (s9 : ((Option Addr × Nat × Nat) × Unit)) w10 => ∀ _ : Nat → Value,
 z (IntKind.wrap .i64 (s6.2.1 + 1)) fun (z11 : Int) =>
 again5 ((s9.1.1, s9.1.2.1, s9.1.2.2), z11, ()) w10)
  fun (K8 : ((Option Addr × Nat × Nat) × Unit) → World → Prop) =>
 rdp Try.prog (cmpS .shl 3 (.const (.int .i64 1)) (.tmp 18) (.int .i64 1) (.int .i64 s6.2.1)) (.one (.int .i64)) fun (x12 : Int) =>
 call Try.prog 38 [(.slice x3.1 x3.2.1 x3.2.2), (.int .i64 x12)] (.one (.one .bool)) w7 fun (x13 : Bool) (w14 : World) =>
 br x13 (wr Try.prog (Instr.buildSlice 22 1 #[(0, (.int .i64 s6.2.1))]) (.one .slice) w14 fun (x15 : (Option Addr × Nat × Nat)) (w16 : World) =>
 wr Try.prog (Builtin.append_ #[22, 22] 22 #[(.slice s6.1.1 s6.1.2.1 s6.1.2.2), (.slice x15.1 x15.2.1 x15.2.2)]) (.one .slice) w16 fun (x17 : (Option Addr × Nat × Nat)) (w18 : World) =>
 K8 ((x17.1, x17.2.1, x17.2.2), ()) w18)
 (K8 ((s6.1.1, s6.1.2.1, s6.1.2.2), ()) w14))
 (R (.tuple #[(.slice s6.1.1 s6.1.2.1 s6.1.2.2), (.int .i64 0)]) w7))
def H13 : Hints := ⟨[(2, 0, [(5, (.one .slice)), (14, (.one (.int .i64)))]), (1, 1, [(5, (.one .slice))])], [], [], []⟩
set_option maxRecDepth 100000 in
theorem S13_eq (m_a : Option Addr) (m_n : Nat) (m_c : Nat) (w0 : World) (R : Value → World → Prop) : vcFn Try.prog H13 Try.f13 [(.slice m_a m_n m_c)] w0 R = S13 m_a m_n m_c w0 R := by kernel_rfl
set_option maxRecDepth 100000 in
theorem S13_calls (m_a : Option Addr) (m_n : Nat) (m_c : Nat) (w0 : World) (R : Value → World → Prop) (h : S13 m_a m_n m_c w0 R) : Calls Try.prog 13 #[(.slice m_a m_n m_c)] w0 (ret R) := by
  rw [← S13_eq] at h; exact vcFn_sound follows_ Try.func13 h

/-- slices.Clone[[]uint8,uint8] -/
def S39 (s_a : Option Addr) (s_n : Nat) (s_c : Nat) (w0 : World) (R : Value → World → Prop) : Prop :=
 rd Try.prog (cmpS .eql 55 (.tmp 3) (.const (.slice none 0 0)) (.slice s_a s_n s_c) (.slice none 0 0)) (.one .bool) w0 fun (x1 : Bool) =>
 br x1 (R (.slice none 0 0) w0)
 (wr Try.prog (Instr.buildSlice 55 0 #[]) (.one .slice) w0 fun (x2 : (Option Addr × Nat × Nat)) (w3 : World) =>
 wr Try.prog (Builtin.append_ #[55, 55] 55 #[(.slice x2.1 x2.2.1 x2.2.2), (.slice s_a s_n s_c)]) (.one .slice) w3 fun (x4 : (Option Addr × Nat × Nat)) (w5 : World) =>
 R (.slice x4.1 x4.2.1 x4.2.2) w5)
def H39 : Hints := ⟨[], [], [], []⟩
set_option maxRecDepth 100000 in
theorem S39_eq (s_a : Option Addr) (s_n : Nat) (s_c : Nat) (w0 : World) (R : Value → World → Prop) : vcFn Try.prog H39 Try.f39 [(.slice s_a s_n s_c)] w0 R = S39 s_a s_n s_c w0 R := by kernel_rfl
set_option maxRecDepth 100000 in
theorem S39_calls (s_a : Option Addr) (s_n : Nat) (s_c : Nat) (w0 : World) (R : Value → World → Prop) (h : S39 s_a s_n s_c w0 R) : Calls Try.prog 39 #[(.slice s_a s_n s_c)] w0 (ret R) := by
  rw [← S39_eq] at h; exact vcFn_sound follows_ Try.func39 h

/-- querylab/suite.Apart -/
def S12 (m_a : Option Addr) (m_n : Nat) (m_c : Nat) (w0 : World) (R : Value → World → Prop) : Prop :=
 call Try.prog 26 [(.slice m_a m_n m_c)] (.one (.one .bool)) w0 fun (x1 : Bool) (w2 : World) =>
 br (!x1) (R (.tuple #[(.slice none 0 0), (.int .i64 1)]) w2)
 (call Try.prog 34 [(.slice m_a m_n m_c)] (.one (.one .slice)) w2 fun (x3 : (Option Addr × Nat × Nat)) (w4 : World) =>
 rdp Try.prog (cmpS .shl 3 (.const (.int .i64 1)) (.tmp 20) (.int .i64 1) (.int .i64 ((m_n : Nat) : Int))) (.one (.int .i64)) fun (x5 : Int) =>
 z (IntKind.wrap .i64 (((x3.2.1 : Nat) : Int) + 1)) fun (z6 : Int) =>
 wr Try.prog (Instr.makeSlice 54 (.int .i64 z6) (.int .i64 z6)) (.one .slice) w4 fun (x7 : (Option Addr × Nat × Nat)) (w8 : World) =>
 wr Try.prog (Instr.makeSlice 55 (.int .i64 x5) (.int .i64 x5)) (.one .slice) w8 fun (x9 : (Option Addr × Nat × Nat)) (w10 : World) =>
 rdp Try.prog (Instr.indexAt 54 (.slice x7.1 x7.2.1 x7.2.2) (.int .i64 ((x3.2.1 : Nat) : Int))) (.one .addr) fun (x11 : Addr) =>
 wu Try.prog (Instr.storeAt 55 (.pointer (some x11)) (.slice x9.1 x9.2.1 x9.2.2)) w10 fun (w12 : World) =>
 z (IntKind.wrap .i64 (((x3.2.1 : Nat) : Int) - 1)) fun (z13 : Int) =>
 loop (T := (Int × Unit)) (z13, ()) w12 fun (again14 : (Int × Unit) → World → Prop) (s15 : (Int × Unit)) w16 => ∀ _ : Nat → Value,
 br (decide (s15.1 ≥ 0)) (join (T := (Unit)) (fun (_s18 : (Unit)) w19 => ∀ _ : Nat → Value,
 z (IntKind.wrap .i64 (s15.1 - 1)) fun (z20 : Int) =>
 again14 (z20, ()) w19)
  fun (K17 : (Unit) → World → Prop) =>
 rdp Try.prog (Instr.indexAt 22 (.slice x3.1 x3.2.1 x3.2.2) (.int .i64 s15.1)) (.one .addr) fun (x21 : Addr) =>
 rd Try.prog (Instr.loadAt 3 (.pointer (some x21))) (.one (.int .i64)) w16 fun (x22 : Int) =>
 br (x22 == 0) (z (IntKind.wrap .i64 (s15.1 + 1)) fun (z23 : Int) =>
 rdp Try.prog (Instr.indexAt 54 (.slice x7.1 x7.2.1 x7.2.2) (.int .i64 z23)) (.one .addr) fun (x24 : Addr) =>
 rd Try.prog (Instr.loadAt 55 (.pointer (some x24))) (.one .slice) w16 fun (x25 : (Option Addr × Nat × Nat)) =>
 rdp Try.prog (Instr.indexAt 54 (.slice x7.1 x7.2.1 x7.2.2) (.int .i64 s15.1)) (.one .addr) fun (x26 : Addr) =>
 wu Try.prog (Instr.storeAt 55 (.pointer (some x26)) (.slice x25.1 x25.2.1 x25.2.2)) w16 fun (w27 : World) =>
 K17 (()) w27)
 (z (IntKind.wrap .i64 (s15.1 + 1)) fun (z28 : Int) =>
 rdp Try.prog (Instr.sliceAt 22 (.slice x3.1 x3.2.1 x3.2.2) (some (.int .i64 z28)) none none) (.one .slice) fun (x29 : (Option Addr × Nat × Nat)) =>
 call Try.prog 38 [(.slice x29.1 x29.2.1 x29.2.2), (.int .i64 x22)] (.one (.one .bool)) w16 fun (x30 : Bool) (w31 : World) =>
 br x30 (z (IntKind.wrap .i64 (s15.1 + 1)) fun (z32 : Int) =>
 rdp Try.prog (Instr.indexAt 54 (.slice x7.1 x7.2.1 x7.2.2) (.int .i64 z32)) (.one .addr) fun (x33 : Addr) =>
 rd Try.prog (Instr.loadAt 55 (.pointer (some x33))) (.one .slice) w31 fun (x34 : (Option Addr × Nat × Nat)) =>
 rdp Try.prog (Instr.indexAt 54 (.slice x7.1 x7.2.1 x7.2.2) (.int .i64 s15.1)) (.one .addr) fun (x35 : Addr) =>
 wu Try.prog (Instr.storeAt 55 (.pointer (some x35)) (.slice x34.1 x34.2.1 x34.2.2)) w31 fun (w36 : World) =>
 K17 (()) w36)
 (z (IntKind.wrap .i64 (s15.1 + 1)) fun (z37 : Int) =>
 rdp Try.prog (Instr.indexAt 54 (.slice x7.1 x7.2.1 x7.2.2) (.int .i64 z37)) (.one .addr) fun (x38 : Addr) =>
 rd Try.prog (Instr.loadAt 55 (.pointer (some x38))) (.one .slice) w31 fun (x39 : (Option Addr × Nat × Nat)) =>
 call Try.prog 39 [(.slice x39.1 x39.2.1 x39.2.2)] (.one (.one .slice)) w31 fun (x40 : (Option Addr × Nat × Nat)) (w41 : World) =>
 rdp Try.prog (Instr.indexAt 54 (.slice x7.1 x7.2.1 x7.2.2) (.int .i64 s15.1)) (.one .addr) fun (x42 : Addr) =>
 wu Try.prog (Instr.storeAt 55 (.pointer (some x42)) (.slice x40.1 x40.2.1 x40.2.2)) w41 fun (w43 : World) =>
 loop (T := (Int × Unit)) (0, ()) w43 fun (again44 : (Int × Unit) → World → Prop) (s45 : (Int × Unit)) w46 => ∀ _ : Nat → Value,
 br (decide (s45.1 < x5)) (join (T := (Unit)) (fun (_s48 : (Unit)) w49 => ∀ _ : Nat → Value,
 z (IntKind.wrap .i64 (s45.1 + 1)) fun (z50 : Int) =>
 again44 (z50, ()) w49)
  fun (K47 : (Unit) → World → Prop) =>
 z (iandNot .i64 x22 s45.1) fun (z51 : Int) =>
 br (z51 == 0) (drw w46 fun w52 =>
 rdp Try.prog (Instr.indexAt 54 (.slice x7.1 x7.2.1 x7.2.2) (.int .i64 s15.1)) (.one .addr) fun (x53 : Addr) =>
 rd Try.prog (Instr.loadAt 55 (.pointer (some x53))) (.one .slice) w52 fun (x54 : (Option Addr × Nat × Nat)) =>
 rdp Try.prog (Instr.indexAt 54 (.slice x7.1 x7.2.1 x7.2.2) (.int .i64 s15.1)) (.one .addr) fun (x55 : Addr) =>
 rd Try.prog (Instr.loadAt 55 (.pointer (some x55))) (.one .slice) w52 fun (x56 : (Option Addr × Nat × Nat)) =>
 rdp Try.prog (Instr.indexAt 55 (.slice x56.1 x56.2.1 x56.2.2) (.int .i64 s45.1)) (.one .addr) fun (x57 : Addr) =>
 rd Try.prog (Instr.loadAt 5 (.pointer (some x57))) (.one (.int .u8)) w52 fun (x58 : Int) =>
 z (IntKind.wrap .i64 (s15.1 + 1)) fun (z59 : Int) =>
 rdp Try.prog (Instr.indexAt 54 (.slice x7.1 x7.2.1 x7.2.2) (.int .i64 z59)) (.one .addr) fun (x60 : Addr) =>
 rd Try.prog (Instr.loadAt 55 (.pointer (some x60))) (.one .slice) w52 fun (x61 : (Option Addr × Nat × Nat)) =>
 z (iandNot .i64 s45.1 x22) fun (z62 : Int) =>
 rdp Try.prog (Instr.indexAt 55 (.slice x61.1 x61.2.1 x61.2.2) (.int .i64 z62)) (.one .addr) fun (x63 : Addr) =>
 rd Try.prog (Instr.loadAt 5 (.pointer (some x63))) (.one (.int .u8)) w52 fun (x64 : Int) =>
 z (IntKind.wrap .u8 (1 + x64)) fun (z65 : Int) =>
 z (if z65 > x58 then z65 else x58) fun (z66 : Int) =>
 rdp Try.prog (Instr.indexAt 55 (.slice x54.1 x54.2.1 x54.2.2) (.int .i64 s45.1)) (.one .addr) fun (x67 : Addr) =>
 wu Try.prog (Instr.storeAt 5 (.pointer (some x67)) (.int .u8 z66)) w52 fun (w68 : World) =>
 K47 (()) w68)
 (K47 (()) w46))
 (K17 (()) w46))))
 (z (IntKind.wrap .i64 (x5 - 1)) fun (z69 : Int) =>
 loop (T := (Int × (Option Addr × Nat × Nat) × Int × Unit)) (z69, (none, 0, 0), 0, ()) w16 fun (again70 : (Int × (Option Addr × Nat × Nat) × Int × Unit) → World → Prop) (s71 : (Int × (Option Addr × Nat × Nat) × Int × Unit)) w72 => ∀ _ : Nat → Value,
 br (decide (s71.2.2.1 < ((x3.2.1 : Nat) : Int))) (join (T := (Int × (Option Addr × Nat × Nat) × Unit)) (fun (s74 : (Int × (Option Addr × Nat × Nat) × Unit)) w75 => ∀ _ : Nat → Value,
 z (IntKind.wrap .i64 (s71.2.2.1 + 1)) fun (z76 : Int) =>
 again70 (s74.1, (s74.2.1.1, s74.2.1.2.1, s74.2.1.2.2), z76, ()) w75)
  fun (K73 : (Int × (Option Addr × Nat × Nat) × Unit) → World → Prop) =>
 rdp Try.prog (Instr.indexAt 22 (.slice x3.1 x3.2.1 x3.2.2) (.int .i64 s71.2.2.1)) (.one .addr) fun (x77 : Addr) =>
 rd Try.prog (Instr.loadAt 3 (.pointer (some x77))) (.one (.int .i64)) w72 fun (x78 : Int) =>
 drw w72 fun w79 =>
 br (x78 != 0) (z (iandNot .i64 x78 s71.1) fun (z80 : Int) =>
 br (z80 == 0) (z (IntKind.wrap .i64 (s71.2.2.1 + 1)) fun (z81 : Int) =>
 rdp Try.prog (Instr.indexAt 54 (.slice x7.1 x7.2.1 x7.2.2) (.int .i64 z81)) (.one .addr) fun (x82 : Addr) =>
 rd Try.prog (Instr.loadAt 55 (.pointer (some x82))) (.one .slice) w79 fun (x83 : (Option Addr × Nat × Nat)) =>
 z (iandNot .i64 s71.1 x78) fun (z84 : Int) =>
 rdp Try.prog (Instr.indexAt 55 (.slice x83.1 x83.2.1 x83.2.2) (.int .i64 z84)) (.one .addr) fun (x85 : Addr) =>
 rd Try.prog (Instr.loadAt 5 (.pointer (some x85))) (.one (.int .u8)) w79 fun (x86 : Int) =>
 z (IntKind.wrap .u8 (1 + x86)) fun (z87 : Int) =>
 rdp Try.prog (Instr.indexAt 54 (.slice x7.1 x7.2.1 x7.2.2) (.int .i64 s71.2.2.1)) (.one .addr) fun (x88 : Addr) =>
 rd Try.prog (Instr.loadAt 55 (.pointer (some x88))) (.one .slice) w79 fun (x89 : (Option Addr × Nat × Nat)) =>
 rdp Try.prog (Instr.indexAt 55 (.slice x89.1 x89.2.1 x89.2.2) (.int .i64 s71.1)) (.one .addr) fun (x90 : Addr) =>
 rd Try.prog (Instr.loadAt 5 (.pointer (some x90))) (.one (.int .u8)) w79 fun (x91 : Int) =>
 br (z87 == x91) (wr Try.prog (Instr.buildSlice 22 1 #[(0, (.int .i64 s71.2.2.1))]) (.one .slice) w79 fun (x92 : (Option Addr × Nat × Nat)) (w93 : World) =>
 wr Try.prog (Builtin.append_ #[22, 22] 22 #[(.slice s71.2.1.1 s71.2.1.2.1 s71.2.1.2.2), (.slice x92.1 x92.2.1 x92.2.2)]) (.one .slice) w93 fun (x94 : (Option Addr × Nat × Nat)) (w95 : World) =>
 z (iandNot .i64 s71.1 x78) fun (z96 : Int) =>
 K73 (z96, (x94.1, x94.2.1, x94.2.2), ()) w95)
 (K73 (s71.1, (s71.2.1.1, s71.2.1.2.1, s71.2.1.2.2), ()) w79))
 (K73 (s71.1, (s71.2.1.1, s71.2.1.2.1, s71.2.1.2.2), ()) w79))
 (K73 (s71.1, (s71.2.1.1, s71.2.1.2.1, s71.2.1.2.2), ()) w79))
 (R (.tuple #[(.slice s71.2.1.1 s71.2.1.2.1 s71.2.1.2.2), (.int .i64 0)]) w72)))
def H12 : Hints := ⟨[(2, 0, [(7, (.one (.int .i64)))]), (2, 2, [(71, (.one (.int .i64)))]), (1, 3, []), (1, 1, []), (2, 4, [(10, (.one (.int .i64))), (11, (.one .slice)), (108, (.one (.int .i64)))]), (1, 5, [(10, (.one (.int .i64))), (11, (.one .slice))])], [(18, 24), (25, 27)], [], []⟩
set_option maxRecDepth 100000 in
theorem S12_eq (m_a : Option Addr) (m_n : Nat) (m_c : Nat) (w0 : World) (R : Value → World → Prop) : vcFn Try.prog H12 Try.f12 [(.slice m_a m_n m_c)] w0 R = S12 m_a m_n m_c w0 R := by kernel_rfl
set_option maxRecDepth 100000 in
theorem S12_calls (m_a : Option Addr) (m_n : Nat) (m_c : Nat) (w0 : World) (R : Value → World → Prop) (h : S12 m_a m_n m_c w0 R) : Calls Try.prog 12 #[(.slice m_a m_n m_c)] w0 (ret R) := by
  rw [← S12_eq] at h; exact vcFn_sound follows_ Try.func12 h

end Go.Proofs

/- Matrices in memory; Valid, columns, set, covers, Covers. -/


namespace Go.Proofs.Ytaomejbaocehnaa
open Go.RowKit Go.Q Go.V

abbrev I64 (n : Int) : Prop := -9223372036854775808 ≤ n ∧ n ≤ 9223372036854775807
theorem tyI : TyS Try.prog 22 3 (.int .i64 0) 1 8 := ⟨by kernel_rfl, by kernel_rfl⟩
theorem tyM : TyS Try.prog 25 35 (.slice none 0 0) 1 24 := ⟨by kernel_rfl, by kernel_rfl⟩
theorem tyB : TyS Try.prog 35 4 (.bool false) 1 1 := ⟨by kernel_rfl, by kernel_rfl⟩
abbrev SlI (w : World) (h : Hdr) (xs : List Int) : Prop := Sl w h.1 h.2.1 h.2.2 1 (ints .i64 xs)
abbrev SlN (w : World) (h : Hdr) (xs : List Nat) : Prop := Sl w h.1 h.2.1 h.2.2 1 (nats .i64 xs)
abbrev SlB (w : World) (h : Hdr) (xs : List Bool) : Prop := Sl w h.1 h.2.1 h.2.2 1 (Go.Q.bools xs)
abbrev OwnI (w : World) (B : Nat) (h : Hdr) (xs : List Int) : Prop := Own w B 3 1 h.1 h.2.1 h.2.2 (ints .i64 xs)
abbrev OwnN (w : World) (B : Nat) (h : Hdr) (xs : List Nat) : Prop := Own w B 3 1 h.1 h.2.1 h.2.2 (nats .i64 xs)
abbrev TabB (w : World) (h : Hdr) (M : List (List Bool)) : Prop := Tab Value.bool w h M
theorem nats_ints (xs : List Nat) : nats .i64 xs = ints .i64 (xs.map fun n : Nat => (n : Int)) := by simp [nats, ints]
theorem sl_inj {x y : Hdr} (h : Value.slice x.1 x.2.1 x.2.2 = .slice y.1 y.2.1 y.2.2) : x = y := by
  obtain ⟨a, b, c⟩ := x
  obtain ⟨a', b', c'⟩ := y
  injection h with h1 h2 h3
  dsimp only at h1 h2 h3
  subst h1 h2 h3
  rfl
theorem blk_eq {a : Addr} {b : Nat} (h : blk (some a) = some b) : a.block = b := by
  have h : some a.block = some b := h
  injection h
/-! ### numbers and bits -/
theorem bv_nat {a : Nat} (h : a < 2 ^ 63) : (BitVec.ofInt 64 (a : Int)).toNat = a := by
  rw [BitVec.ofInt_natCast, BitVec.toNat_ofNat]; exact Nat.mod_eq_of_lt (by omega)
theorem wrap_nat {a : Nat} (h : a < 2 ^ 63) : IntKind.i64.wrap (a : Int) = (a : Int) := IntWalk.i64_in _ (by omega)
theorem z_and {x y : Int} {a b : Nat} (hx : x = (a : Int)) (hy : y = (b : Int)) (ha : a < 2 ^ 63) (hb : b < 2 ^ 63) {k : Int → Prop} (hk : k ((a &&& b : Nat) : Int)) : z (iand .i64 x y) k := by
  subst hx hy
  unfold z iand
  show k (IntKind.i64.wrap ((BitVec.ofInt 64 (a : Int) &&& BitVec.ofInt 64 (b : Int)).toNat : Int))
  rw [BitVec.toNat_and, bv_nat ha, bv_nat hb, wrap_nat (Nat.lt_of_le_of_lt Nat.and_le_left ha)]; exact hk
theorem z_or {x y : Int} {a b : Nat} (hx : x = (a : Int)) (hy : y = (b : Int)) (ha : a < 2 ^ 63) (hb : b < 2 ^ 63) {k : Int → Prop} (hk : k ((a ||| b : Nat) : Int)) : z (ior .i64 x y) k := by
  subst hx hy
  unfold z ior
  show k (IntKind.i64.wrap ((BitVec.ofInt 64 (a : Int) ||| BitVec.ofInt 64 (b : Int)).toNat : Int))
  rw [BitVec.toNat_or, bv_nat ha, bv_nat hb, wrap_nat (Nat.or_lt_two_pow ha hb)]; exact hk
theorem z_dif {x y : Int} {a b : Nat} (hx : x = (a : Int)) (hy : y = (b : Int)) (ha : a < 2 ^ 63) (hb : b < 2 ^ 63) {k : Int → Prop} (hk : k ((dif a b : Nat) : Int)) : z (iandNot .i64 x y) k := by
  subst hx hy
  unfold z iandNot
  show k (IntKind.i64.wrap ((BitVec.ofInt 64 (a : Int) &&& ~~~ BitVec.ofInt 64 (b : Int)).toNat : Int))
  rw [BitVec.toNat_and, BitVec.toNat_not, bv_nat ha, bv_nat hb]
  have e : 2 ^ 64 - 1 - b = 2 ^ 64 - (b + 1) := by omega
  rw [e]
  have := dif_lt (a := a) (b := b) ha
  unfold dif at this hk
  rw [wrap_nat this]; exact hk
theorem shl1 {t : TypeId} {x y : Operand} {k' : IntKind} {b : Int} (m : Nat) {K : Int → Prop} (hb : b = (m : Int)) (hm : m < 62) (hk : K ((2 ^ m : Nat) : Int)) : rdp Try.prog (cmpS .shl t x y (.int .i64 1) (.int k' b)) (.one (.int .i64)) K := by
  refine rdp_shl m hb (by show m ≤ 64; omega) ?_
  have h1 : 2 ^ m < 2 ^ 62 := Nat.pow_lt_pow_right (by omega) hm
  have e : (1 : Int) * 2 ^ m = ((2 ^ m : Nat) : Int) := by rw [Int.one_mul]; exact (Int.natCast_pow 2 m).symm
  rw [e, wrap_nat (by omega)]; exact hk
theorem nat_eq0 {n : Nat} {A B : Prop} (h1 : n = 0 → A) (h2 : n ≠ 0 → B) : br (((n : Nat) : Int) == 0) A B := br_eq (fun e => h1 (by omega)) (fun e => h2 (by omega))
theorem nat_ne0 {n : Nat} {A B : Prop} (h1 : n ≠ 0 → A) (h2 : n = 0 → B) : br (((n : Nat) : Int) != 0) A B := br_ne (fun e => h1 (by omega)) (fun e => h2 (by omega))
theorem pow14 {n : Nat} (h : n ≤ 14) : 2 ^ n ≤ 16384 := by
  have := Nat.pow_le_pow_right (show 2 > 0 by omega) h
  simpa using this
theorem lt63 {a n : Nat} (h : a < 2 ^ n) (hn : n ≤ 14) : a < 2 ^ 63 := by have := pow14 hn; omega
theorem lt64 {a n : Nat} (h : a < 2 ^ n) (hn : n ≤ 14) : a < 2 ^ 64 := by have := pow14 hn; omega
/-! ### matrices -/
def width (M : List (List Bool)) : Nat := (M.getD 0 []).length
def bm (M : List (List Bool)) (i k : Nat) : Bool := ((M.getD i []).getD k false)
def msk (M : List (List Bool)) : Nat → Nat → Nat
  | 0, _ => 0
  | i + 1, k => if bm M i k then msk M i k ||| 2 ^ i else msk M i k
def masks (M : List (List Bool)) : List Nat := (List.range (width M)).map (msk M M.length)
structure ValidM (M : List (List Bool)) : Prop where
  n : M.length ≤ 14
  row : ∀ r ∈ M, r.length = width M ∧ r.length ≤ 400
theorem msk_bit (M : List (List Bool)) (n k i : Nat) : (msk M n k).testBit i = (decide (i < n) && bm M i k) := by
  induction n with
  | zero => simp [msk]
  | succ n ih =>
    unfold msk
    split
    · rename_i h
      rw [Nat.testBit_or, ih, Nat.testBit_two_pow]
      by_cases e : i = n
      · subst e; simp [h]
      · have : n ≠ i := fun q => e q.symm
        have : (i < n + 1) ↔ i < n := by omega
        simp [*]
    · rename_i h
      rw [ih]
      by_cases e : i = n
      · subst e
        have : bm M i k = false := by simpa using h
        simp [this]
      · have : (i < n + 1) ↔ i < n := by omega
        simp [this]
theorem msk_lt (M : List (List Bool)) (n k : Nat) : msk M n k < 2 ^ n := by
  induction n with
  | zero => simp [msk]
  | succ n ih =>
    have h2 : 2 ^ n < 2 ^ (n + 1) := Nat.pow_lt_pow_right (by omega) (by omega)
    unfold msk
    split
    · exact or_lt (by omega) (by omega)
    · omega
theorem masks_len (M : List (List Bool)) : (masks M).length = width M := by simp [masks]
theorem masks_at {M : List (List Bool)} {k : Nat} (h : k < width M) : (masks M)[k]? = some (msk M M.length k) := by simp [masks, h]
theorem masks_lt {M : List (List Bool)} : ∀ c ∈ masks M, c < 2 ^ M.length := by
  intro c hc
  obtain ⟨k, _, rfl⟩ := List.mem_map.1 hc
  exact msk_lt _ _ _
theorem bm_at {M : List (List Bool)} {i k : Nat} {r : List Bool} {b : Bool} (h : M[i]? = some r) (h' : r[k]? = some b) : bm M i k = b := by
  unfold bm; rw [List.getD_eq_getElem?_getD, List.getD_eq_getElem?_getD, h]; simp only [Option.getD_some]; rw [h']; rfl
theorem width_at {M : List (List Bool)} {r : List Bool} (h : M[0]? = some r) : width M = r.length := by unfold width; rw [List.getD_eq_getElem?_getD, h]; rfl
theorem ValidM.w400 {M : List (List Bool)} (V : ValidM M) : width M ≤ 400 := by
  cases M with
  | nil => simp [width]
  | cons r M => have := (V.row r (by simp)); rw [← this.1]; exact this.2
theorem validF (m : Hdr) (M : List (List Bool)) (w : World) (H : TabB w m M) :
    call Try.prog 26 [.slice m.1 m.2.1 m.2.2] (.one (.one .bool)) w (fun x w' => (x = true ↔ ValidM M) ∧ bel w w') := by
  refine call_of (S26_calls m.1 m.2.1 m.2.2 w _ ?_)
  unfold S26
  have hl := H.len
  have no : ∀ {w' : World}, bel w w' → ¬ ValidM M → ∃ x : Bool, Value.bool false = (RS.one (.one .bool)).val x ∧ (x = true ↔ ValidM M) ∧ bel w w' := fun hb q => ⟨false, rfl, ⟨(fun e => by cases e), fun e => absurd e q⟩, hb⟩
  refine br_dec (fun e => no (bel.refl _) fun q => by have := q.n; omega) (fun e => ?_)
  refine loop_up M.length (fun i w' => bel w w' ∧ ∀ j, j < i → ∀ r, M[j]? = some r → r.length = width M ∧ r.length ≤ 400) ⟨bel.refl _, fun j hj => by omega⟩ fun i w3 hi ⟨hb, hp⟩ again hag _ => ?_
  refine br_dec (fun e1 => ?_) (fun e1 => ?_)
  · dsimp only at e1
    refine Tab.at (H.up hb) tyM (by kernel_rfl) rfl (by omega) fun x5 r hr S5 => ?_
    have l5 := S5.bool
    refine Tab.at (H.up hb) tyM (by kernel_rfl) (j := 0) rfl (by omega) fun x7 r0 hr0 S7 => ?_
    have l7 := S7.bool
    have hw := width_at hr0
    refine br_ne (fun e => no hb fun q => ?_) (fun e2 => ?_)
    · have := (q.row r (mem_at hr)).1; omega
    refine br_dec (fun e => no hb fun q => ?_) (fun e3 => ?_)
    · have := (q.row r (mem_at hr)).2; omega
    refine z_i64 (by dsimp only; omega) ?_
    exact hag _ (by omega) ⟨hb, pre_step hp hr ⟨by omega, by omega⟩⟩
  · dsimp only at e1
    exact ⟨true, rfl, ⟨fun _ => ⟨by omega, pre_all hp (by omega)⟩, fun _ => rfl⟩, hb⟩
theorem zeros_n (n : Nat) : (madeCells (Value.int .i64 0).cells (n * 1)).toList = nats .i64 (List.replicate n 0) := by rw [Nat.mul_one]; exact made_nat .i64 n
/-- a list by its places -/
def mk (m : Nat) (f : Nat → Nat) : List Nat := (List.range m).map f
theorem mk_len (m : Nat) (f : Nat → Nat) : (mk m f).length = m := by simp [mk]
theorem mk_at {m : Nat} {f : Nat → Nat} {k : Nat} (h : k < m) : (mk m f)[k]? = some (f k) := by simp [mk, h]
theorem mk_congr {m : Nat} {f g : Nat → Nat} (h : ∀ k, k < m → f k = g k) : mk m f = mk m g := by
  unfold mk; exact List.map_congr_left fun k hk => h k (List.mem_range.1 hk)
theorem mk_set {m : Nat} {f : Nat → Nat} {k : Nat} {v : Nat} : (mk m f).set k v = mk m fun j => if j = k then v else f j := by
  refine List.ext_getElem? fun j => ?_
  rw [List.getElem?_set]
  by_cases hj : k = j
  · subst hj
    by_cases h : k < m
    · rw [if_pos rfl, mk_len, if_pos h, mk_at h, if_pos rfl]
    · rw [if_pos rfl, mk_len, if_neg h, List.getElem?_eq_none (by rw [mk_len]; omega)]
  · rw [if_neg hj]
    by_cases h : j < m
    · rw [mk_at h, mk_at h, if_neg (fun e => hj e.symm)]
    · rw [List.getElem?_eq_none (by rw [mk_len]; omega), List.getElem?_eq_none (by rw [mk_len]; omega)]
theorem mk_zero (m : Nat) : List.replicate m 0 = mk m fun _ => 0 := by
  refine List.ext_getElem? fun j => ?_
  by_cases h : j < m
  · rw [mk_at h, List.getElem?_replicate, if_pos h]
  · rw [List.getElem?_eq_none (by simp; omega), List.getElem?_eq_none (by rw [mk_len]; omega)]
/-- a number of a list of masks -/
theorem nat_mk {w : World} {h : Hdr} {xs : List Nat} (H : SlN w h xs) {k : Nat} {kk : Int} (hk : kk = (k : Int)) (hn : k < xs.length) {K : Int → Prop} (hK : ∀ x : Nat, xs[k]? = some x → K (x : Int)) :
    rdp Try.prog (Instr.indexAt 22 (.slice h.1 h.2.1 h.2.2) (.int .i64 kk)) (.one .addr) fun b => rd Try.prog (Instr.loadAt 3 (.pointer (some b))) (.one (.int .i64)) w K :=
  at_nat tyI (by kernel_rfl) H hk (by have := H.nat; omega) fun x hx => hK x hx
/-- a row is read later; it stands as it stood -/
theorem row_up {w0 w : World} {h : Hdr} {M : List (List Bool)} (H : TabB w0 h M) (hb : bel w0 w) {i : Nat} {ii : Int} (hi : ii = (i : Int)) (hin : i < M.length) {K : Hdr → Prop} (hK : ∀ (x : Hdr) r, M[i]? = some r → SlB w0 x r → K x) :
    rdp Try.prog (Instr.indexAt 25 (.slice h.1 h.2.1 h.2.2) (.int .i64 ii)) (.one .addr) fun a => rd Try.prog (Instr.loadAt 35 (.pointer (some a))) (.one .slice) w K := by
  have hl := H.len
  obtain ⟨hs, h1, h2, h3⟩ := H.ex
  refine at_hdr tyM (by kernel_rfl) (h1.up hb) hi (by omega) fun x hx => ?_
  obtain ⟨r, hr⟩ : ∃ r, M[i]? = some r := ⟨_, List.getElem?_eq_getElem hin⟩
  exact hK x r hr (h3 i x r hx hr)
theorem columnsF (m : Hdr) (M : List (List Bool)) (w : World) (H : TabB w m M) (V : ValidM M) :
    call Try.prog 34 [.slice m.1 m.2.1 m.2.2] (.one (.one .slice)) w (fun (x : Hdr) w' => OwnN w' w.heap.size x (masks M) ∧ bel w w') := by
  refine call_of (S34_calls m.1 m.2.1 m.2.2 w _ ?_)
  unfold S34
  have hl := H.len
  have v1 := V.n
  have v2 := V.w400
  refine nat_eq0 (fun e => ?_) (fun e0 => ?_)
  · have : M = [] := List.eq_nil_of_length_eq_zero (by omega)
    subst this
    exact ⟨((none, 0, 0) : Hdr), rfl, Own.nil _ _ _ _, bel.refl _⟩
  refine Tab.at H tyM (by kernel_rfl) (j := 0) rfl (by omega) fun x2 r0 hr0 S2 => ?_
  have hw := width_at hr0
  have l2 := S2.bool
  have e2 : x2.2.1 = width M := by omega
  rw [e2]
  refine wr_make tyI (width M) rfl rfl (by omega) (by unfold maxLen; omega) fun cd w4 O h4 _ _ => ?_
  replace O := O w.heap.size (Nat.le_refl _)
  rw [zeros_n, mk_zero] at O
  refine loop_up M.length (fun i w' => bel w w' ∧ Own w' w.heap.size 3 1 (some cd) (width M) (width M) (nats .i64 (mk (width M) (msk M i)))) ⟨h4, O⟩ fun i w7 hi ⟨hb, O⟩ again hag _ => ?_
  refine br_dec (fun e1 => ?_) (fun e1 => ?_)
  · dsimp only at e1
    refine row_up H hb rfl (by omega) fun x9 r hr S9 => ?_
    have l9 := S9.bool
    have lr := (V.row r (mem_at hr)).1
    refine loop_up (width M) (fun k w' => bel w w' ∧ Own w' w.heap.size 3 1 (some cd) (width M) (width M) (nats .i64 (mk (width M) fun j => if j < k then msk M (i + 1) j else msk M i j)))
      ⟨hb, by rw [mk_congr (g := msk M i) fun j _ => by rw [if_neg (by omega)]]; exact O⟩ fun k w12 hk ⟨hb, O⟩ again2 hag2 _ => ?_
    refine br_dec (fun e2 => ?_) (fun e2 => ?_)
    · dsimp only at e2
      have hkw : k < width M := by omega
      refine join_mk (fun _ w' => bel w w' ∧ Own w' w.heap.size 3 1 (some cd) (width M) (width M) (nats .i64 (mk (width M) fun j => if j < k + 1 then msk M (i + 1) j else msk M i j))) (fun K hK => ?_) (fun _ w15 hJ _ => ?_)
      · refine at_bool tyB (by kernel_rfl) (S9.up hb) rfl (by omega) fun b hbb => ?_
        have eb := bm_at hr hbb
        refine br_mk (fun et => ?_) (fun et => ?_)
        · refine drw_mk fun w19 h19 _ => ?_
          replace O : Own w19 w.heap.size 3 1 (some cd) (width M) (width M) _ := Own.kept O h19
          refine nat_mk (h := (some cd, width M, width M)) O.sl rfl (by rw [mk_len]; exact hkw) fun x hx => ?_
          rw [mk_at hkw] at hx
          injection hx with hx
          rw [if_neg (by omega)] at hx
          have hlt := msk_lt M i k
          refine shl1 i rfl (by omega) ?_
          refine z_or (a := x) (b := 2 ^ i) rfl rfl (lt63 (n := i) (by omega) (by omega)) (lt63 (n := i + 1) (Nat.pow_lt_pow_right (by omega) (by omega)) (by omega)) ?_
          refine set_mk tyI O rfl hkw rfl fun w25 O' hg _ => ?_
          rw [nats_set, mk_set] at O'
          refine hK () _ ⟨(hb.trans h19).grownAt hg (O.lt cd.block rfl).1, ?_⟩
          rw [mk_congr (g := fun j => if j = k then x ||| 2 ^ i else if j < k then msk M (i + 1) j else msk M i j) fun j _ => ?_]
          · exact O'
          · by_cases z : j = k
            · subst z
              rw [if_pos (by omega), if_pos rfl, ← hx]
              show (if bm M i j then _ else _) = _
              rw [eb, et]; rfl
            · rw [if_neg z]
              by_cases z2 : j < k
              · rw [if_pos (by omega), if_pos z2]
              · rw [if_neg (by omega), if_neg z2]
        · refine hK () _ ⟨hb, ?_⟩
          rw [mk_congr (g := fun j => if j < k then msk M (i + 1) j else msk M i j) fun j _ => ?_]
          · exact O
          · by_cases z : j = k
            · subst z
              rw [if_pos (by omega), if_neg (by omega)]
              show (if bm M i j then _ else _) = _
              rw [eb, et]; rfl
            · by_cases z2 : j < k
              · rw [if_pos (by omega), if_pos z2]
              · rw [if_neg (by omega), if_neg z2]
      · refine z_i64 (by dsimp only; omega) ?_
        exact hag2 _ hkw hJ
    · dsimp only at e2
      have hkw : k = width M := by omega
      subst hkw
      refine z_i64 (by dsimp only; omega) ?_
      refine hag _ (by omega) ⟨hb, ?_⟩
      rw [mk_congr (g := fun j => if j < width M then msk M (i + 1) j else msk M i j) fun j hj => by rw [if_pos hj]]
      exact O
  · dsimp only at e1
    have hin : i = M.length := by omega
    subst hin
    exact ⟨((some cd, width M, width M) : Hdr), rfl, O, hb⟩
end Go.Proofs.Ytaomejbaocehnaa

/- set, covers, Covers, Survivors. -/

namespace Go.Proofs.Ytaomejbaocehnaa
open Go.RowKit Go.Q Go.V

theorem map_inj {a b : List Nat} (h : a.map (fun k : Nat => (k : Int)) = b.map (fun k : Nat => (k : Int))) : a = b :=
  (List.map_inj_right fun a b h => by have h : (a : Int) = (b : Int) := h; omega).1 h
/-- numbers that are a choice -/
def AscI (n : Nat) (xs : List Int) : Prop := ∃ ys : List Nat, xs = ys.map (fun k : Nat => (k : Int)) ∧ Asc n 0 ys
theorem asc_mid {n : Nat} : ∀ {a : Nat} {ys : List Nat} {x : Nat} {rest : List Nat}, Asc n a (ys ++ x :: rest) → x < n ∧ ∀ y ∈ ys, y < x
  | a, [], x, rest, h => ⟨h.2.1, by simp⟩
  | a, y :: ys, x, rest, h => by
    obtain ⟨h1, h2, h3⟩ := h
    have := asc_mid h3
    refine ⟨this.1, fun z hz => ?_⟩
    rcases List.mem_cons.1 hz with rfl | hz
    · have := (Asc.lt h3 x (by simp)).1; omega
    · exact this.2 z hz
theorem ascI_mid {n : Nat} {ys : List Nat} {x : Int} {rest : List Int} (h : AscI n (ys.map (fun k : Nat => (k : Int)) ++ x :: rest)) : 0 ≤ x ∧ x < n ∧ ∀ y ∈ ys, (y : Int) < x := by
  obtain ⟨zs, e, ha⟩ := h
  obtain ⟨z1, z2, rfl, e1, e2⟩ := List.map_eq_append_iff.1 e.symm
  have hz : z1 = ys := map_inj e1
  subst hz
  cases z2 with
  | nil => simp at e2
  | cons z z2 =>
    simp only [List.map_cons, List.cons.injEq] at e2
    obtain ⟨e2, _⟩ := e2
    have := asc_mid ha
    subst e2
    exact ⟨by omega, by have := this.1; omega, fun y hy => by have := this.2 y hy; omega⟩
/-- what 'set' returns -/
def SetR (n : Nat) (xs : List Int) (x : Int × Bool × Unit) : Prop :=
  (x.2.1 = true → ∃ ys : List Nat, xs = ys.map (fun k : Nat => (k : Int)) ∧ Asc n 0 ys ∧ x.1 = (bitsOf ys : Nat)) ∧ (x.2.1 = false → ¬ AscI n xs)
abbrev rIB : RS := .many [.one (.int .i64), .one .bool]
theorem setF (m c : Hdr) (M : List (List Bool)) (xs : List Int) (w : World) (hl : M.length = m.2.1) (hn : M.length ≤ 14) (HC : SlI w c xs) :
    call Try.prog 40 [.slice m.1 m.2.1 m.2.2, .slice c.1 c.2.1 c.2.2] rIB w (fun x w' => SetR M.length xs x ∧ bel w w') := by
  refine call_of (S40_calls m.1 m.2.1 m.2.2 c.1 c.2.1 c.2.2 w _ ?_)
  unfold S40
  have hc := HC.int
  have hcl := HC.le
  have no : ∀ {w' : World}, bel w w' → ¬ AscI M.length xs → ∃ x : Int × Bool × Unit, Value.tuple #[.int .i64 0, .bool false] = rIB.val x ∧ SetR M.length xs x ∧ bel w w' := fun hb q => ⟨(0, false, ()), rfl, ⟨(fun e => by cases e), fun _ => q⟩, hb⟩
  refine loop_gh (G := List Nat × List Int) (fun g s w' => s = (((bitsOf g.1 : Nat) : Int), (g.1.length : Int), ()) ∧ xs = g.1.map (fun k : Nat => (k : Int)) ++ g.2 ∧ Asc M.length 0 g.1 ∧ bel w w') (fun g => g.2.length) ([], xs) ⟨rfl, rfl, trivial, bel.refl _⟩ ?_
  rintro ⟨ys, rest⟩ s w3 ⟨rfl, hx, ha, hb⟩ again hag _
  dsimp only at hx ha hag
  have hlen : xs.length = ys.length + rest.length := by rw [hx]; simp
  have hbl : bitsOf ys < 2 ^ M.length := bits_lt fun y hy => (ha.lt y hy).2
  refine br_dec (fun e => ?_) (fun e => ?_)
  · dsimp only at e
    cases rest with
    | nil => simp at hlen; omega
    | cons x rest =>
    have hxi : xs[ys.length]? = some x := by rw [hx]; simp
    refine join_mk (fun s w' => s.1 = ((bitsOf (ys ++ [x.toNat]) : Nat) : Int) ∧ 0 ≤ x ∧ Asc M.length 0 (ys ++ [x.toNat]) ∧ bel w w') (fun K hK => ?_) (fun s w6 hJ _ => ?_)
    · refine at_int tyI (by kernel_rfl) (HC.up hb) (j := ys.length) rfl (by simp at hlen; omega) fun y hy => ?_
      rw [hxi] at hy; cases hy
      refine join_mk (fun _ w' => (0 ≤ x ∧ x < M.length ∧ ∀ y ∈ ys, (y : Int) < x) ∧ w3 = w') (fun K2 hK2 => ?_) (fun _ w12 hJ _ => ?_)
      · refine br_dec (fun e1 => no hb fun q => ?_) (fun e1 => ?_)
        · rw [hx] at q; have := (ascI_mid q).1; omega
        refine br_dec (fun e2 => no hb fun q => ?_) (fun e2 => ?_)
        · rw [hx] at q; have := (ascI_mid q).2.1; omega
        refine br_dec (fun e3 => ?_) (fun e3 => ?_)
        · dsimp only at e3
          refine z_i64 (by dsimp only; omega) ?_
          have hlast : ys.length - 1 < ys.length := by omega
          refine at_int tyI (by kernel_rfl) (HC.up hb) (j := ys.length - 1) (by dsimp only; omega) (by omega) fun y hy => ?_
          have ey : y = ((ys[ys.length - 1]) : Int) := by
            rw [hx, List.getElem?_append_left (by simp; omega)] at hy
            simp [List.getElem?_eq_getElem hlast] at hy
            exact hy.symm
          refine br_dec (fun e4 => no hb fun q => ?_) (fun e4 => ?_)
          · rw [hx] at q
            have := (ascI_mid q).2.2 _ (List.getElem_mem hlast)
            omega
          · refine hK2 () _ ⟨⟨by omega, by omega, fun z hz => ?_⟩, rfl⟩
            have hle : ∀ {a : Nat} {l : List Nat}, Asc M.length a l → ∀ z ∈ l, ∀ (h : l.length - 1 < l.length), z ≤ l[l.length - 1] := by
              intro a l
              induction l generalizing a with
              | nil => intro _ z hz; cases hz
              | cons b l ih =>
                intro hA z hz h
                cases l with
                | nil => simp at hz; subst hz; simp
                | cons b2 l =>
                  have i1 := ih hA.2.2
                  have hb : b < b2 := by have := hA.2.2.1; omega
                  have e : (b :: b2 :: l)[(b :: b2 :: l).length - 1] = (b2 :: l)[(b2 :: l).length - 1] := by simp
                  rw [e]
                  rcases List.mem_cons.1 hz with rfl | hz
                  · have := i1 b2 (by simp) (by simp); omega
                  · exact i1 z hz (by simp)
            have := hle ha z hz hlast
            omega
        · dsimp only at e3
          have : ys = [] := List.eq_nil_of_length_eq_zero (by omega)
          subst this
          exact hK2 () _ ⟨⟨by omega, by omega, by simp⟩, rfl⟩
      · obtain ⟨⟨h1, h2, h3⟩, rfl⟩ := hJ
        refine shl1 x.toNat (by omega) (by omega) ?_
        refine z_or (a := bitsOf ys) (b := 2 ^ x.toNat) rfl rfl (lt63 hbl hn) (lt63 (n := 14) (Nat.pow_lt_pow_right (by omega) (by omega)) (Nat.le_refl _)) ?_
        exact hK _ _ ⟨by rw [bits_snoc], h1, asc_snoc ha (by omega) (Nat.zero_le _) (fun y hy => by have := h3 y hy; omega), hb⟩
    · obtain ⟨sv, _⟩ := s
      obtain ⟨e1, h0, ha', hb'⟩ := hJ
      dsimp only at e1
      subst e1
      refine z_i64 (by simp at hlen; dsimp only; omega) ?_
      refine hag (ys ++ [x.toNat], rest) _ _ ⟨by simp, ?_, ha', hb'⟩ (by simp)
      rw [hx]
      simp
      omega
  · dsimp only at e
    have hr : rest = [] := List.eq_nil_of_length_eq_zero (by omega)
    subst hr
    exact ⟨(((bitsOf ys : Nat) : Int), true, ()), rfl, ⟨fun _ => ⟨ys, by rw [hx]; simp, ha, rfl⟩, (fun e => by cases e)⟩, hb⟩
def hitB (s : Nat) (c : Int) : Bool := decide (c ≠ 0) && decide (c.toNat &&& s = 0)
theorem hit_any {L : List Nat} {s : Nat} : (!(L.map fun n : Nat => (n : Int)).any (hitB s)) = covB L s := by
  unfold covB hitB
  induction L with
  | nil => rfl
  | cons c L ih =>
    simp only [List.map_cons, List.any_cons, List.all_cons, Bool.not_or]
    rw [ih]
    congr 1
    by_cases h : c = 0
    · subst h; simp
    · by_cases h2 : c &&& s = 0 <;> simp [h, h2]
theorem covers1F {s c : Nat} {cap : Addr} {w : World} (X : Box w cap [.int .i64 (s : Int)]) (hs : s < 2 ^ 63) (hc : c < 2 ^ 63) :
    call Try.prog 49 [.int .i64 (c : Int), .pointer (some cap)] (.one (.one .bool)) w (fun b w' => b = hitB s (c : Int) ∧ bel w w') := by
  refine call_of (S49_calls (c : Int) cap w _ ?_)
  unfold S49
  refine nat_ne0 (fun e => ?_) (fun e => ⟨false, rfl, by subst e; rfl, bel.refl _⟩)
  refine rd_box0 (by kernel_rfl) X rfl rfl ?_
  refine z_and (a := c) (b := s) rfl rfl hc hs ?_
  refine ⟨_, rfl, ?_, bel.refl _⟩
  unfold hitB
  have h' : ¬ ((c : Int) = 0) := by omega
  by_cases h : c &&& s = 0
  · rw [decide_eq_true h', show (c : Int).toNat = c from rfl, decide_eq_true h, h]; rfl
  · have h2 : ¬ (((c &&& s : Nat) : Int) = 0) := by omega
    rw [decide_eq_true h', show (c : Int).toNat = c from rfl, decide_eq_false h]
    exact beq_eq_false_iff_ne.2 h2
theorem coversF (l : Hdr) (L : List Nat) (s : Nat) (w : World) (H : SlN w l L) (hL : ∀ c ∈ L, c < 2 ^ 63) (hs : s < 2 ^ 63) :
    call Try.prog 37 [.slice l.1 l.2.1 l.2.2, .int .i64 (s : Int)] (.one (.one .bool)) w (fun x w' => x = covB L s ∧ bel w w') := by
  refine call_of (S37_calls l.1 l.2.1 l.2.2 (s : Int) w _ ?_)
  unfold S37
  refine wr_box fun x1 w2 X h2 _ _ => ?_
  replace X : Box w2 x1 [.int .i64 (s : Int)] := X
  refine call_mono (Q := fun x w' => x = (L.map fun n : Nat => (n : Int)).any (hitB s) ∧ bel w2 w') (r := .one (.one .bool)) (call_of (S48_calls l.1 l.2.1 l.2.2 x1 w2 _ ?_)) ?_
  · unfold S48
    refine call_mono (r := .one (.one (.int .i64))) (Q := fun x w' => x = idxI (hitB s) (L.map fun n : Nat => (n : Int)) ∧ bel w2 w') (call_of (S51_calls l.1 l.2.1 l.2.2 x1 w2 _ ?_)) ?_
    · unfold S51
      have H2 := H.up h2
      unfold SlN at H2
      rw [nats_ints] at H2
      refine idx_ints tyI (by kernel_rfl) (fargs := fun x5 => [.int .i64 x5, .pointer (some x1)]) H2 (hitB s) (fun j x hx w' hb => ?_)
      obtain ⟨c, hc, rfl⟩ := List.mem_map.1 (List.mem_of_getElem? hx)
      exact covers1F (X.up hb) hs (hL c hc)
    · rintro x w3 ⟨rfl, hb⟩
      exact ⟨_, rfl, idxI_any _ _, hb⟩
  · rintro x w4 ⟨rfl, hb⟩
    exact ⟨_, rfl, hit_any, h2.trans hb⟩
theorem masks_63 {M : List (List Bool)} (V : ValidM M) : ∀ c ∈ masks M, c < 2 ^ 63 := fun c hc => lt63 (masks_lt c hc) V.n
theorem bits_63 {n : Nat} {ys : List Nat} (h : Asc n 0 ys) (hn : n ≤ 14) : bitsOf ys < 2 ^ 63 := lt63 (bits_lt fun y hy => (h.lt y hy).2) hn
/-- a choice that covers -/
def CovP (M : List (List Bool)) (xs : List Int) : Prop := ValidM M ∧ ∃ ys : List Nat, xs = ys.map (fun k : Nat => (k : Int)) ∧ Asc M.length 0 ys ∧ covB (masks M) (bitsOf ys) = true
theorem CoversF (m c : Hdr) (M : List (List Bool)) (xs : List Int) (w : World) (H : TabB w m M) (HC : SlI w c xs) :
    call Try.prog 14 [.slice m.1 m.2.1 m.2.2, .slice c.1 c.2.1 c.2.2] (.one (.one .bool)) w (fun x w' => (x = true ↔ CovP M xs) ∧ bel w w') := by
  refine call_of (S14_calls m.1 m.2.1 m.2.2 c.1 c.2.1 c.2.2 w _ ?_)
  unfold S14
  have no : ∀ {w' : World}, bel w w' → ¬ CovP M xs → ∃ x : Bool, Value.bool false = (RS.one (.one .bool)).val x ∧ (x = true ↔ CovP M xs) ∧ bel w w' := fun hb q => ⟨false, rfl, ⟨(fun e => by cases e), fun e => absurd e q⟩, hb⟩
  refine call_mono (validF m M w H) ?_
  rintro (x1 : Bool) w2 ⟨hv, h2⟩
  refine br_not (fun e => no h2 fun q => by have := hv.2 q.1; rw [e] at this; cases this) (fun e => ?_)
  have V := hv.1 e
  refine call_mono (setF m c M xs w2 H.len V.n (HC.up h2)) ?_
  rintro (x3 : Int × Bool × Unit) w4 ⟨hS, h4⟩
  replace h2 := h2.trans h4
  refine br_mk (fun e3 => ?_) (fun e3 => no h2 fun q => hS.2 e3 (by obtain ⟨_, ys, q1, q2, _⟩ := q; exact ⟨ys, q1, q2⟩))
  obtain ⟨ys, q1, q2, q3⟩ := hS.1 e3
  refine call_mono (columnsF m M w4 (H.up h2) V) ?_
  rintro (x5 : Hdr) w6 ⟨O, h6⟩
  rw [q3]
  refine call_mono (coversF x5 (masks M) (bitsOf ys) w6 O.sl (masks_63 V) (bits_63 q2 V.n)) ?_
  rintro (x7 : Bool) w8 ⟨rfl, h8⟩
  refine ⟨_, rfl, ⟨fun e => ⟨V, ys, q1, q2, e⟩, ?_⟩, (h2.trans h6).trans h8⟩
  rintro ⟨_, zs, z1, z2, z3⟩
  have : zs = ys := map_inj (z1.symm.trans q1)
  rw [← this]; exact z3
/-- the columns that a set does not reach -/
def surv (L : List Nat) (s : Nat) : List Nat := (List.range L.length).filter fun k => (L.getD k 0) &&& s == 0
def survN (L : List Nat) (s n : Nat) : List Nat := (List.range n).filter fun k => (L.getD k 0) &&& s == 0
theorem survN_step (L : List Nat) (s n : Nat) : survN L s (n + 1) = if (L.getD n 0) &&& s = 0 then survN L s n ++ [n] else survN L s n := by
  unfold survN
  rw [List.range_succ, List.filter_append]
  by_cases h : (L.getD n 0) &&& s = 0
  · rw [if_pos h]; simp at h; simp [h]
  · rw [if_neg h]; simp at h; simp [h]
theorem survN_len (L : List Nat) (s n : Nat) : (survN L s n).length ≤ n := by
  have := List.length_filter_le (fun k => (L.getD k 0) &&& s == 0) (List.range n)
  simpa [survN] using this
abbrev rHI : RS := .many [.one .slice, .one (.int .i64)]
abbrev HI := Hdr × Int × Unit
/-- what Survivors returns -/
def SurvR (M : List (List Bool)) (xs : List Int) (w0 : World) (x : HI) (w : World) : Prop :=
  (x.2.1 = 0 ∧ ValidM M ∧ ∃ ys : List Nat, xs = ys.map (fun k : Nat => (k : Int)) ∧ Asc M.length 0 ys ∧ OwnN w w0.heap.size x.1 (surv (masks M) (bitsOf ys))) ∨ (x.2.1 = 1 ∧ x.1 = (none, 0, 0) ∧ ¬ (ValidM M ∧ AscI M.length xs))
theorem nats_snoc (xs : List Nat) (x : Nat) : nats .i64 (xs ++ [x]) = nats .i64 xs ++ [.int .i64 (x : Int)] := by simp [nats]
set_option maxHeartbeats 800000 in
theorem SurvF (m c : Hdr) (M : List (List Bool)) (xs : List Int) (w : World) (H : TabB w m M) (HC : SlI w c xs) :
    call Try.prog 29 [.slice m.1 m.2.1 m.2.2, .slice c.1 c.2.1 c.2.2] rHI w (fun x w' => SurvR M xs w x w' ∧ bel w w') := by
  refine call_of (S29_calls m.1 m.2.1 m.2.2 c.1 c.2.1 c.2.2 w _ ?_)
  unfold S29
  have no : ∀ {w' : World}, bel w w' → ¬ (ValidM M ∧ AscI M.length xs) → ∃ x : HI, Value.tuple #[.slice none 0 0, .int .i64 1] = rHI.val x ∧ SurvR M xs w x w' ∧ bel w w' := fun hb q => ⟨((none, 0, 0), (1 : Int), ()), rfl, .inr ⟨rfl, rfl, q⟩, hb⟩
  refine call_mono (validF m M w H) ?_
  rintro (x1 : Bool) w2 ⟨hv, h2⟩
  refine br_not (fun e => no h2 fun q => by have := hv.2 q.1; rw [e] at this; cases this) (fun e => ?_)
  have V := hv.1 e
  refine call_mono (setF m c M xs w2 H.len V.n (HC.up h2)) ?_
  rintro (x3 : Int × Bool × Unit) w4 ⟨hS, h4⟩
  replace h2 := h2.trans h4
  refine br_not (fun e3 => no h2 fun q => hS.2 e3 q.2) (fun e3 => ?_)
  obtain ⟨ys, q1, q2, q3⟩ := hS.1 e3
  refine call_mono (columnsF m M w4 (H.up h2) V) ?_
  rintro (x5 : Hdr) w6 ⟨O, h6⟩
  rw [q3]
  have s4 := h2.size
  replace h2 := h2.trans h6
  have lO := O.sl.nat
  have v2 := V.w400
  have lm := masks_len M
  refine loop_upA (masks M).length (fun k q w' => bel w6 w' ∧ bel w w' ∧ OwnN w' w6.heap.size q (survN (masks M) (bitsOf ys) k)) ⟨bel.refl _, h2, Own.nil _ _ _ _⟩ fun k q w9 hk ⟨hb6, hb, Oq⟩ again hag _ => ?_
  refine br_dec (fun e => ?_) (fun e => ?_)
  · dsimp only at e
    have hkm : k < (masks M).length := by omega
    refine join_mk (fun s w' => bel w6 w' ∧ bel w w' ∧ OwnN w' w6.heap.size s.1 (survN (masks M) (bitsOf ys) (k + 1))) (fun K hK => ?_) (fun s w12 hJ _ => ?_)
    · refine nat_mk (O.sl.up hb6) rfl hkm fun c hc => ?_
      have gc : (masks M).getD k 0 = c := by rw [List.getD_eq_getElem?_getD, hc]; rfl
      refine z_and (a := c) (b := bitsOf ys) rfl rfl (masks_63 V c (List.mem_of_getElem? hc)) (bits_63 q2 V.n) ?_
      have hst := survN_step (masks M) (bitsOf ys) k
      rw [gc] at hst
      refine nat_eq0 (fun e0 => ?_) (fun e0 => ?_)
      · rw [if_pos e0] at hst
        have hsl := survN_len (masks M) (bitsOf ys) k
        have lq := Oq.sl.nat
        have h69 := hb6.size
        refine wr_app1 tyI Oq (by omega) rfl (by omega) (by omega) rfl rfl (by omega) (by unfold maxLen; omega) fun a' c' w20 O20 g20 _ s20 => ?_
        have lt := Oq.lt
        refine hK _ _ ⟨hb6.grown g20 fun b hb => (lt b hb).1, hb.grown g20 fun b hb => by have := (lt b hb).1; have := h6.size; omega, ?_⟩
        dsimp only
        show Own w20 _ _ 1 a' (q.2.1 + 1) c' (nats .i64 (survN (masks M) (bitsOf ys) (k + 1)))
        rw [hst, nats_snoc]; exact O20
      · rw [if_neg e0] at hst
        exact hK _ _ ⟨hb6, hb, by dsimp only; rw [hst]; exact Oq⟩
    · obtain ⟨sq, _⟩ := s
      refine z_i64 (by dsimp only; omega) ?_
      exact hag _ _ hkm hJ
  · dsimp only at e
    have hkm : k = (masks M).length := by omega
    subst hkm
    refine ⟨(q, (0 : Int), ()), rfl, .inl ⟨rfl, V, ys, q1, q2, ?_⟩, hb⟩
    refine ⟨Oq.1, ?_⟩
    have s6 := h6.size
    rcases Oq.2 with z | ⟨g, cap, cur, z1, z2, z3⟩
    · exact .inl z
    · exact .inr ⟨g, cap, cur, z1, by omega, z3⟩
end Go.Proofs.Ytaomejbaocehnaa

/- choose, Least. -/

namespace Go.Proofs.Ytaomejbaocehnaa
open Go.RowKit Go.Q Go.V

theorem grown_put {w w' w'' : World} {o o' : Option Nat} (h : w.grownBy w' o) (hg : w'.grownBy w'' o') (ho : ∀ k, o' = some k → w.heap.size ≤ k ∨ o = some k) : w.grownBy w'' o :=
  ⟨hg.os.trans h.os, hg.tape.trans h.tape, hg.output.trans h.output, Nat.le_trans h.size hg.size, fun k hk hne => by
    rw [hg.block k (by have := h.size; omega) (fun e => by
      rcases ho k e.symm with q | q
      · omega
      · exact hne q.symm), h.block k hk hne]⟩
theorem own_base {w : World} {B B' : Nat} {e : TypeId} {sz : Nat} {a : Option Addr} {n c : Nat} {xs : List Value} (O : Own w B e sz a n c xs) (h : B' ≤ B) : Own w B' e sz a n c xs := by
  refine ⟨O.1, ?_⟩
  rcases O.2 with q | ⟨g, cap, cur, q1, q2, q3⟩
  · exact .inl q
  · exact .inr ⟨g, cap, cur, q1, by omega, q3⟩
theorem own_keep {w w' : World} {B : Nat} {e : TypeId} {sz : Nat} {a : Option Addr} {n c : Nat} {xs : List Value} {o : Option Nat} (O : Own w B e sz a n c xs) (hg : w.grownBy w' o) (h : ∀ k, blk a = some k → o ≠ some k) : Own w' B e sz a n c xs :=
  Own.keptBy O hg (by
    cases hk : blk a with
    | none => exact .inl rfl
    | some k => exact .inr fun e => h k hk e.symm)
/-- the elder part of a row of one's own -/
theorem own_take {w : World} {B : Nat} {e : TypeId} {a : Option Addr} {n c : Nat} {xs : List Value} {v : Value} (O : Own w B e 1 a (n + 1) c (xs ++ [v])) : Own w B e 1 a n c xs := by
  have hl : xs.length = n := by have := O.1; simp at this; omega
  refine ⟨by omega, ?_⟩
  rcases O.2 with ⟨_, q⟩ | ⟨g, cap, cur, q1, q2, q3, q4, q5, q6, q7⟩
  · omega
  · injection q1 with q1 _ q1c
    subst q1 q1c
    refine .inr ⟨g, c, cur, rfl, q2, q3, by omega, q5, q6, ?_⟩
    have e1 : List.take n (List.take ((n + 1) * 1) cur.toList) = List.take n (xs ++ [v]) := by rw [q7]
    rw [List.take_take, show min n ((n + 1) * 1) = n by omega] at e1
    rw [Nat.mul_one, e1, List.take_append_of_le_length (by omega), List.take_of_length_le (by omega)]
/-- 'append(s, v)': in place, or new -/
theorem wr_app1x {t e : TypeId} {z : Value} {bytes : Nat} (T : TyS Try.prog t e z 1 bytes) {w : World} {B : Nat} {sa : Option Addr} {n c : Nat} {xs : List Value} (O : Own w B e 1 sa n c xs) {ty : TypeId} {v : Value} {k : (Option Addr × Nat × Nat) → World → Prop}
    (hB : B ≤ w.heap.size) (hz : z.cells.size = 1) (hv : v.cells.size = 1) (hp : plainV v.cells.toList = true) (hb : (n + 1) * bytes ≤ 140737488355328) (hn : n + 1 ≤ maxLen)
    (hk : ∀ a' c' w', Own w' B e 1 a' (n + 1) c' (xs ++ v.cells.toList) → w.grownBy w' (blk sa) → ((a' = sa ∧ c' = c) ∨ ((∀ b, blk a' = some b → w.heap.size ≤ b) ∧ w.grownBy w' none)) → k (a', n + 1, c') w') :
    wr Try.prog (Instr.buildSlice t 1 #[(0, v)]) (.one .slice) w fun x w1 => wr Try.prog (Builtin.append_ #[t, t] ty #[.slice sa n c, .slice x.1 x.2.1 x.2.2]) (.one .slice) w1 k := by
  refine wr_lit T v.cells (fill_one 1 v _ hv (by simp)) (by omega) (by omega) (by omega) (by unfold maxLen; omega) fun ad w1 L h1 h2 h3 => ?_
  have O1 : Own w1 B e 1 sa n c xs := O.kept h1
  have L1 := L B hB
  have hl : v.cells.toList.length = 1 * 1 := by simpa using hv
  have hne : ∀ j u, v.cells.toList[j]? = some u → w1.cell? (ad.add j) = some u := fun j u hj => by
    obtain ⟨ad', q1, q2, _⟩ := L1.cell (j := j) hj
    cases q1; exact q2
  have h1c : ∀ u ∈ v.cells.toList, u.oneCell' = true := fun u hu => by unfold plainV at hp; rw [List.all_eq_true] at hp; exact hp u hu
  obtain ⟨a', c', w2, hr, hA⟩ := run_app (P := Try.prog) w1 t ty B e z 1 bytes T.ht T.hi hz (by omega) sa n c xs O1 ad 1 1 v.cells.toList hl hne h1c hb hn (by omega)
  have g1 := grown_of_bel h1 (blk sa)
  obtain ⟨i, hi0, hz0, hz1, hz2⟩ := info_parts T.hi
  refine ⟨(a', n + 1, c'), w2, hr, hk a' c' w2 hA.own (g1.trans hA.grown) ?_⟩
  have new : ∀ cs, w1.grownBy (w1.drew.alloc (.cells cs e)) none := fun cs => ⟨rfl, rfl, rfl, by simp, fun k hk _ => Go.RowKit.Below.heap_alloc w1.drew _ k hk⟩
  by_cases hroom : n + 1 ≤ c
  · rcases O1.2 with ⟨q, _⟩ | ⟨g, cap, cur, q1, q2, q3, q4, q5, q6, q7⟩
    · injection q with _ _ q; omega
    · injection q1 with q1 _ q1c
      subst q1 q1c
      have hr2 := run_append_room (P := Try.prog) w1 t ty e i T.ht hi0 g n c cur q3 ad 1 1 v.cells.toList (by rw [hl, hz1]) hne h1c hroom (by rw [hl, q6, hz1]; omega)
      have e := hr.symm.trans hr2
      injection e with e1 e2
      injection e1 with e1 e3 e4
      exact .inl ⟨e1, e4⟩
  · refine .inr ?_
    have key : ∀ {a0 c0 cs}, (Builtin.append_ #[t, t] ty #[.slice sa n c, .slice (some ad) 1 1]).run Try.prog w1 = .ok (.slice (some ⟨w1.heap.size, 0, none⟩) a0 c0) (w1.drew.alloc (.cells cs e)) → (∀ b, blk a' = some b → w.heap.size ≤ b) ∧ w.grownBy w2 none := fun {a0 c0 cs} hr2 => by
      have e := hr.symm.trans hr2
      injection e with e1 e2
      injection e1 with e1 e3 e4
      refine ⟨fun b hb => ?_, ?_⟩
      · rw [e1] at hb
        have : w1.heap.size = b := blk_eq hb
        omega
      · rw [e2]; exact (grown_of_bel h1 none).trans (new _)
    rcases O1.2 with ⟨q, hn0⟩ | ⟨g, cap, cur, q1, q2, q3, q4, q5, q6, q7⟩
    · injection q with q1 q2 q3
      subst q1 q2 q3
      exact key (run_append_nil (P := Try.prog) w1 t ty e i z T.ht hi0 hz0 ad 1 1 v.cells.toList (by rw [hl, hz1]) hne (by omega) (by omega) (by rw [hz2]; omega))
    · injection q1 with q1 _ q1c
      subst q1 q1c
      have holds : ∀ j u, xs[j]? = some u → w1.cell? ((⟨g, 0, none⟩ : Addr).add j) = some u := fun j u hj => by
        obtain ⟨ad', r1, r2, _⟩ := O1.sl.at' j u hj
        cases r1; exact r2
      exact key (run_append_grow (P := Try.prog) w1 t ty e i z T.ht hi0 hz0 ⟨g, 0, none⟩ n c xs (by rw [hz1]; exact O1.1) holds ad 1 1 v.cells.toList (by rw [hl, hz1]) hne (by omega) (by unfold maxLen at hn; omega) (growslice_fits (by omega) (by rw [hz2]; exact hb)))
theorem find_range {f : Nat → Option (List Nat)} {a n r : Nat} {y : List Nat} (h1 : a ≤ r) (h2 : r < a + n) (hn : ∀ r', a ≤ r' → r' < r → f r' = none) (hr : f r = some y) : (List.range' a n).findSome? f = some y := by
  rw [List.findSome?_eq_some_iff]
  refine ⟨List.range' a (r - a), r, List.range' (r + 1) (n - (r - a) - 1), ?_, hr, fun x hx => ?_⟩
  · have e1 : r :: List.range' (r + 1) (n - (r - a) - 1) = List.range' (a + (r - a)) (n - (r - a)) := by
      rw [show a + (r - a) = r by omega, show n - (r - a) = (n - (r - a) - 1) + 1 by omega, List.range'_succ]
      simp
    rw [e1, List.range'_append_1]
    congr 1; omega
  · rw [List.mem_range'_1] at hx
    exact hn x hx.1 (by omega)
theorem find_none {f : Nat → Option (List Nat)} {a n : Nat} (hn : ∀ r', a ≤ r' → r' < a + n → f r' = none) : (List.range' a n).findSome? f = none := by
  rw [List.findSome?_eq_none_iff]
  intro x hx
  rw [List.mem_range'_1] at hx
  exact hn x hx.1 hx.2
abbrev rHB : RS := .many [.one .slice, .one .bool]
abbrev HB := Hdr × Bool × Unit
/-- the test of choices -/
def covC (L : List Nat) (xs : List Nat) : Bool := covB L (bitsOf xs)
/-- what choose returns -/
def ChoR (L : List Nat) (rows n first b0 : Nat) (c : Hdr) (pre : List Nat) (x : HB) (w : World) : Prop :=
  (x.2.1 = true → ∃ ys, choose (covC L) rows n first pre = some ys ∧ OwnN w b0 x.1 ys) ∧ (x.2.1 = false → choose (covC L) rows n first pre = none ∧ OwnN w b0 c pre)
set_option maxHeartbeats 1600000 in
theorem chooseF (l : Hdr) (L : List Nat) (rows b0 : Nat) (hL : ∀ c ∈ L, c < 2 ^ 63) (hr14 : rows ≤ 14) (hold : ∀ ad, l.1 = some ad → L ≠ [] → ad.block < b0) : ∀ (n first : Nat) (c : Hdr) (pre : List Nat) (w : World), SlN w l L → OwnN w b0 c pre → b0 ≤ w.heap.size → (∀ x ∈ pre, x < rows) → pre.length + n ≤ 14 → first ≤ rows →
    call Try.prog 35 [.slice l.1 l.2.1 l.2.2, .int .i64 (rows : Int), .int .i64 (first : Int), .int .i64 (n : Int), .slice c.1 c.2.1 c.2.2] rHB w (fun x w' => ChoR L rows n first b0 c pre x w' ∧ w.grownBy w' (blk c.1)) := by
  intro n
  induction n with
  | zero =>
    intro first c pre w HL O hb0 hpre hlen _
    refine call_of (S35_calls l.1 l.2.1 l.2.2 (rows : Int) (first : Int) ((0 : Nat) : Int) c.1 c.2.1 c.2.2 w _ ?_)
    unfold S35
    have lc := O.sl.nat
    refine br_eq (fun _ => ?_) (fun e => absurd rfl e)
    refine loop_upA pre.length (fun i s w' => s = ((bitsOf (pre.take i) : Nat) : Int) ∧ bel w w') ⟨rfl, bel.refl _⟩ fun i s w3 hi ⟨hs, hb⟩ again hag _ => ?_
    subst hs
    refine br_dec (fun e => ?_) (fun e => ?_)
    · dsimp only at e
      have hip : i < pre.length := by omega
      refine nat_mk (O.sl.up hb) rfl hip fun x hx => ?_
      have hxr := hpre x (List.mem_of_getElem? hx)
      refine shl1 x rfl (by omega) ?_
      have hbl : bitsOf (pre.take i) < 2 ^ rows := bits_lt fun y hy => hpre y (List.mem_of_mem_take hy)
      refine z_or (a := bitsOf (pre.take i)) (b := 2 ^ x) rfl rfl (lt63 hbl hr14) (lt63 (n := 14) (Nat.pow_lt_pow_right (by omega) (by omega)) (Nat.le_refl _)) ?_
      refine z_i64 (by dsimp only; omega) ?_
      refine hag _ _ hip ⟨?_, hb⟩
      rw [List.take_add_one, hx]
      show _ = ((bitsOf (pre.take i ++ [x]) : Nat) : Int)
      rw [bits_snoc]
    · dsimp only at e
      have hip : i = pre.length := by omega
      subst hip
      rw [List.take_length]
      refine call_mono (coversF l L (bitsOf pre) w3 (HL.up hb) hL (lt63 (bits_lt hpre) hr14)) ?_
      rintro (x9 : Bool) w10 ⟨hx, h10⟩
      have hcc : covC L pre = x9 := hx.symm
      refine ⟨(c, x9, ()), rfl, ⟨fun e1 => ⟨pre, ?_, Own.kept O (hb.trans h10)⟩, fun e1 => ⟨?_, Own.kept O (hb.trans h10)⟩⟩, grown_of_bel (hb.trans h10) _⟩
      · simp only [choose]; rw [hcc, show x9 = true from e1, if_pos rfl]
      · simp only [choose]; rw [hcc, show x9 = false from e1, if_neg (by simp)]
  | succ n ih =>
    intro first c pre w HL O hb0 hpre hlen hfirst
    refine call_of (S35_calls l.1 l.2.1 l.2.2 (rows : Int) (first : Int) ((n + 1 : Nat) : Int) c.1 c.2.1 c.2.2 w _ ?_)
    unfold S35
    have lc := O.sl.nat
    refine br_eq (fun e => by omega) (fun _ => ?_)
    have hcb : ∀ k, blk c.1 = some k → b0 ≤ k := fun k hk => (O.lt k hk).1
    refine loop_gh (G := Nat) (fun r s w' => s = ((r : Int), ()) ∧ first ≤ r ∧ r ≤ rows ∧ OwnN w' b0 c pre ∧ w.grownBy w' (blk c.1) ∧ ∀ r', first ≤ r' → r' < r → choose (covC L) rows n (r' + 1) (pre ++ [r']) = none) (fun r => rows - r) first ⟨rfl, Nat.le_refl _, hfirst, O, grown_refl _ _, fun r' h1 h2 => by omega⟩ ?_
    rintro r s w13 ⟨rfl, hfr, hrr, O, hg, hnone⟩ again hag _
    dsimp only
    refine z_i64 (by omega) ?_
    refine br_dec (fun e => ?_) (fun e => ?_)
    · have hrn : r + (n + 1) ≤ rows := by omega
      refine z_i64 (by omega) ?_
      refine z_i64 (by omega) ?_
      have s13 := hg.size
      have HL13 : SlN w13 l L := HL.grown hg (fun ad ha hx e => by
        have := hold ad ha (by rintro rfl; exact hx rfl)
        have := hcb _ e.symm; omega)
      refine wr_app1x tyI O (by omega) rfl rfl rfl (by omega) (by unfold maxLen; omega) fun a' c' w20 O20 g20 hnew => ?_
      replace O20 : OwnN w20 b0 (a', c.2.1 + 1, c') (pre ++ [r]) := by
        show Own w20 _ _ 1 a' (c.2.1 + 1) c' (nats .i64 (pre ++ [r]))
        rw [nats_snoc]; exact O20
      have s20 := g20.size
      have HL20 : SlN w20 l L := HL13.grown g20 (fun ad ha hx e => by
        have := hold ad ha (by rintro rfl; exact hx rfl)
        have := hcb _ e.symm; omega)
      have en : ((n + 1 : Nat) : Int) - 1 = (n : Int) := by omega
      have er : (r : Int) + 1 = ((r + 1 : Nat) : Int) := by omega
      rw [en, er]
      refine call_mono (ih (r + 1) (a', c.2.1 + 1, c') (pre ++ [r]) w20 HL20 O20 (by omega) (fun x hx => ?_) (by simp; omega) (by omega)) ?_
      · rcases List.mem_append.1 hx with hx | hx
        · exact hpre x hx
        · simp at hx; omega
      rintro (x21 : HB) w22 ⟨hC, g22⟩
      have hg22 : w.grownBy w22 (blk c.1) := by
        refine grown_put (hg.trans g20) g22 fun k hk => ?_
        rcases hnew with ⟨q, _⟩ | ⟨q, _⟩
        · exact .inr (by rw [← q]; exact hk)
        · exact .inl (by have := q k hk; omega)
      refine br_mk (fun et => ?_) (fun et => ?_)
      · obtain ⟨ys, c1, c2⟩ := hC.1 et
        refine ⟨(x21.1, true, ()), rfl, ⟨fun _ => ⟨ys, ?_, c2⟩, (fun e => by cases e)⟩, hg22⟩
        simp only [choose]
        exact find_range hfr (by omega) hnone c1
      · obtain ⟨c1, c2⟩ := hC.2 et
        refine z_i64 (by omega) ?_
        refine hag (r + 1) _ _ ⟨rfl, by omega, by omega, ?_, hg22, fun r' h1 h2 => ?_⟩ (by omega)
        · rcases hnew with ⟨q1, q2⟩ | ⟨q, q'⟩
          · subst q1 q2
            unfold OwnN at c2
            rw [nats_snoc] at c2
            exact own_take c2
          · refine own_keep (own_keep O q' (fun k _ e => by cases e)) g22 (fun k hk e => ?_)
            have := q k e
            have := (O.lt k hk).2
            omega
        · rcases Nat.lt_or_ge r' r with z | z
          · exact hnone r' h1 z
          · have : r' = r := by omega
            subst this; exact c1
    · refine ⟨((none, 0, 0), false, ()), rfl, ⟨(fun e => by cases e), fun _ => ⟨?_, O⟩⟩, hg⟩
      simp only [choose]
      exact find_none fun r' h1 h2 => hnone r' h1 (by omega)
theorem plain_nats (xs : List Nat) : plainV (nats .i64 xs) = true := by
  unfold plainV nats
  rw [List.all_eq_true]
  intro x hx
  obtain ⟨y, _, rfl⟩ := List.mem_map.1 hx
  rfl
theorem cloneF (s : Hdr) (xs : List Nat) (w : World) (H : SlN w s xs) (hn : s.2.1 ≤ 1000000) :
    call Try.prog 36 [.slice s.1 s.2.1 s.2.2] (.one (.one .slice)) w (fun (x : Hdr) w' => OwnN w' w.heap.size x xs ∧ bel w w') := by
  refine call_of (S36_calls s.1 s.2.1 s.2.2 w _ ?_)
  unfold S36
  have hl := H.nat
  refine rd_nil tyI ?_
  obtain ⟨a, n, c⟩ := s
  have hl : xs.length = n := hl
  have hn : n ≤ 1000000 := hn
  dsimp only
  cases a with
  | none =>
    refine br_t rfl ?_
    have hn0 := (H.nil' rfl).1
    have hn0 : n = 0 := hn0
    have : xs = [] := List.eq_nil_of_length_eq_zero (by omega)
    subst this
    exact ⟨((none, 0, 0) : Hdr), rfl, Own.nil _ _ _ _, bel.refl _⟩
  | some ad =>
    refine br_f rfl ?_
    refine wr_lit0 tyI fun b w3 O h3 _ _ => ?_
    refine wr_app tyI (O w.heap.size (Nat.le_refl _)) (H.up h3) h3.size rfl (by omega) (plain_nats _) (by omega) (by unfold maxLen; omega) fun a' c' w5 O5 hg _ _ => ?_
    refine ⟨((a', 0 + n, c') : Hdr), rfl, by simpa using O5, h3.grown hg fun k hk => ?_⟩
    exact ((O w.heap.size (Nat.le_refl _)).lt k hk).1
theorem cov_all (M : List (List Bool)) : covC (masks M) (List.range M.length) = true := by
  unfold covC
  rw [covB_iff]
  intro c hc h0
  obtain ⟨i, hi⟩ := ne_zero_bit.1 h0
  refine and_ne.2 ⟨i, hi, ?_⟩
  rw [bits_bit]
  have : i < M.length := by
    rcases Nat.lt_or_ge i M.length with q | q
    · exact q
    · rw [bit_out (masks_lt c hc) q] at hi; cases hi
  simpa using this
/-- what a function of a matrix returns -/
def ListR (M : List (List Bool)) (f : List Nat) (w0 : World) (x : HI) (w : World) : Prop :=
  (ValidM M ∧ x.2.1 = 0 ∧ OwnN w w0.heap.size x.1 f) ∨ (¬ ValidM M ∧ x.2.1 = 1 ∧ x.1 = (none, 0, 0))
set_option maxHeartbeats 800000 in
theorem LeastF (m : Hdr) (M : List (List Bool)) (w : World) (H : TabB w m M) :
    call Try.prog 10 [.slice m.1 m.2.1 m.2.2] rHI w (fun x w' => ListR M (least (covC (masks M)) M.length) w x w' ∧ bel w w') := by
  refine call_of (S10_calls m.1 m.2.1 m.2.2 w _ ?_)
  unfold S10
  refine call_mono (validF m M w H) ?_
  rintro (x1 : Bool) w2 ⟨hv, h2⟩
  refine br_not (fun e => ⟨((none, 0, 0), (1 : Int), ()), rfl, .inr ⟨(fun q => by have := hv.2 q; rw [e] at this; cases this), rfl, rfl⟩, h2⟩) (fun e => ?_)
  have V := hv.1 e
  have v1 := V.n
  refine call_mono (columnsF m M w2 (H.up h2) V) ?_
  rintro (x3 : Hdr) w4 ⟨O, h4⟩
  have hl := H.len
  have hx3 := O.lt
  refine z_i64 (by omega) ?_
  obtain ⟨k0, hk0, hsome, hnone⟩ := least_spec (cov_all M)
  have h24 := h2.trans h4
  have s24 := h24.size
  refine loop_up (M.length + 1) (fun k w' => bel w4 w' ∧ ∀ k', k' < k → choose (covC (masks M)) M.length k' 0 [] = none) ⟨bel.refl _, fun k' h => by omega⟩ fun k w8 hk ⟨hb, hno⟩ again hag _ => ?_
  refine br_dec (fun e => ?_) (fun e => ?_)
  · dsimp only at e
    have hkm : k ≤ M.length := by omega
    have hb8 := hb.size
    rw [← hl]
    refine call_mono (chooseF x3 (masks M) M.length w8.heap.size (masks_63 V) v1 (fun ad ha hx => ?_) k 0 (none, 0, 0) [] w8 (O.sl.up hb) (Own.nil _ _ _ _) (Nat.le_refl _) (by simp) (by simp; omega) (Nat.zero_le _)) ?_
    · have := (hx3 ad.block (by rw [ha]; rfl)).2; omega
    rintro (x9 : HB) w10 ⟨hC, g10⟩
    have b10 : bel w8 w10 := ⟨g10.os, g10.tape, g10.output, g10.size, fun k hk => g10.block k hk (fun e => by cases e)⟩
    refine br_mk (fun et => ?_) (fun et => ?_)
    · obtain ⟨ys, c1, c2⟩ := hC.1 et
      have ek : k0 = k := by
        rcases Nat.lt_trichotomy k0 k with q | q | q
        · rw [hno k0 q] at hsome; cases hsome
        · exact q
        · rw [hnone k q] at c1; cases c1
      subst ek
      rw [c1] at hsome
      injection hsome with hsome
      obtain ⟨zs, z1, z2, z3, _⟩ := choose_some _ _ _ _ c1
      have ly : ys.length = k0 := by rw [z1]; simpa using z2
      have lh := c2.sl.nat
      refine call_mono (cloneF x9.1 ys w10 c2.sl (by omega)) ?_
      rintro (x11 : Hdr) w12 ⟨O12, h12⟩
      refine ⟨(x11, (0 : Int), ()), rfl, .inl ⟨V, rfl, ?_⟩, ((h24.trans hb).trans b10).trans h12⟩
      rw [← hsome]
      have := b10.size
      exact own_base O12 (by omega)
    · obtain ⟨c1, _⟩ := hC.2 et
      refine z_i64 (by dsimp only; omega) ?_
      refine hag _ (by omega) ⟨hb.trans b10, fun k' hk' => ?_⟩
      rcases Nat.lt_or_ge k' k with z | z
      · exact hno k' z
      · have : k' = k := by omega
        subst this; exact c1
  · dsimp only at e
    rw [hno k0 (by omega)] at hsome; cases hsome
end Go.Proofs.Ytaomejbaocehnaa

/- Greedy, Needed. -/

namespace Go.Proofs.Ytaomejbaocehnaa
open Go.RowKit Go.Q Go.V

/-- how many new columns a row covers, of the first ones -/
def cntN (L : List Nat) (s r k : Nat) : Nat := ((L.take k).filter fun c => c &&& s == 0 && c &&& 2 ^ r != 0).length
def cnt (L : List Nat) (s r : Nat) : Nat := (L.filter fun c => c &&& s == 0 && c &&& 2 ^ r != 0).length
theorem cntN_step {L : List Nat} {s r k c : Nat} (hc : L[k]? = some c) : cntN L s r (k + 1) = cntN L s r k + if c &&& s = 0 ∧ c &&& 2 ^ r ≠ 0 then 1 else 0 := by
  unfold cntN
  rw [List.take_add_one, hc]
  show ((L.take k ++ [c]).filter _).length = _
  rw [List.filter_append, List.length_append]
  congr 1
  by_cases h1 : c &&& s = 0 <;> by_cases h2 : c &&& 2 ^ r = 0 <;> simp [h1, h2]
theorem cntN_le (L : List Nat) (s r k : Nat) : cntN L s r k ≤ k := by
  have h1 := List.length_filter_le (fun c => c &&& s == 0 && c &&& 2 ^ r != 0) (L.take k)
  have h2 : (L.take k).length ≤ k := by rw [List.length_take]; omega
  unfold cntN; omega
theorem cntN_all (L : List Nat) (s r : Nat) : cntN L s r L.length = cnt L s r := by unfold cntN cnt; rw [List.take_length]
def bst (L : List Nat) (s : Nat) : Nat → Nat × Nat
  | 0 => (0, 0)
  | n + 1 => if cnt L s n > (bst L s n).2 then (n, cnt L s n) else bst L s n
theorem bst_le {L : List Nat} {s : Nat} : ∀ {n r : Nat}, r < n → cnt L s r ≤ (bst L s n).2
  | n + 1, r, h => by
    have := @bst_le L s n r
    unfold bst
    split
    · rename_i hc
      rcases Nat.lt_or_ge r n with q | q
      · have := this q; simp; omega
      · have : r = n := by omega
        subst this; simp
    · rename_i hc
      rcases Nat.lt_or_ge r n with q | q
      · exact this q
      · have : r = n := by omega
        subst this; omega
theorem bst_at {L : List Nat} {s : Nat} : ∀ {n : Nat}, 0 < (bst L s n).2 → (bst L s n).1 < n ∧ cnt L s (bst L s n).1 = (bst L s n).2
  | 0, h => by simp [bst] at h
  | n + 1, h => by
    unfold bst at h ⊢
    split
    · exact ⟨by simp, rfl⟩
    · rename_i hc
      rw [if_neg hc] at h
      have := bst_at (n := n) h
      exact ⟨by omega, this.2⟩
theorem bst_lt {L : List Nat} {s n : Nat} (hn : 0 < n) : (bst L s n).1 < n := by
  induction n with
  | zero => omega
  | succ n ih =>
    unfold bst
    split
    · simp
    · cases n with
      | zero => simp [bst]
      | succ n => have := ih (by omega); omega
def greedy (L : List Nat) (n : Nat) : Nat → Nat → List Nat
  | 0, _ => []
  | f + 1, s => if covB L s then [] else (bst L s n).1 :: greedy L n f (s ||| 2 ^ (bst L s n).1)
/-- rows that are free -/
def free (s n : Nat) : Nat := ((List.range n).filter fun i => !s.testBit i).length
theorem free_step : ∀ {n s b : Nat}, b < n → s.testBit b = false → free (s ||| 2 ^ b) n + 1 ≤ free s n
  | n + 1, s, b, h, hb => by
    have key : ∀ s, free s (n + 1) = free s n + if s.testBit n then 0 else 1 := fun s => by
      unfold free
      rw [List.range_succ, List.filter_append, List.length_append]
      congr 1
      cases hs : s.testBit n <;> simp [hs]
    rw [key, key, Nat.testBit_or, Nat.testBit_two_pow]
    rcases Nat.lt_or_ge b n with q | q
    · have := free_step (n := n) (s := s) q hb
      have e : decide (b = n) = false := by simp; omega
      rw [e, Bool.or_false]; omega
    · have e : b = n := by omega
      subst e
      have : ∀ m, m ≤ b → free (s ||| 2 ^ b) m = free s m := by
        intro m hm
        unfold free
        congr 1
        refine List.filter_congr fun i hi => ?_
        have hi := List.mem_range.1 hi
        rw [Nat.testBit_or, Nat.testBit_two_pow]
        have : decide (b = i) = false := by simp; omega
        rw [this, Bool.or_false]
      rw [this b (Nat.le_refl _), hb]; simp
theorem best_new {L : List Nat} {s n : Nat} (hL : ∀ c ∈ L, c < 2 ^ n) (h : covB L s = false) : (bst L s n).1 < n ∧ s.testBit (bst L s n).1 = false ∧ 0 < (bst L s n).2 := by
  have h1 : ∃ c ∈ L, c ≠ 0 ∧ c &&& s = 0 := by
    apply Classical.byContradiction
    intro q
    have : covB L s = true := covB_iff.2 fun c hc h0 e => q ⟨c, hc, h0, e⟩
    rw [h] at this; cases this
  obtain ⟨c, hc, h0, hs⟩ := h1
  obtain ⟨i, hi⟩ := ne_zero_bit.1 h0
  have hin : i < n := by
    rcases Nat.lt_or_ge i n with q | q
    · exact q
    · rw [bit_out (hL c hc) q] at hi; cases hi
  have hcnt : 0 < cnt L s i := by
    unfold cnt
    refine List.length_pos_of_mem (a := c) (List.mem_filter.2 ⟨hc, ?_⟩)
    have : c &&& 2 ^ i ≠ 0 := and_ne.2 ⟨i, hi, by rw [Nat.testBit_two_pow]; simp⟩
    simp [hs, this]
  have hm := bst_le (L := L) (s := s) hin
  have hp : 0 < (bst L s n).2 := by omega
  obtain ⟨b1, b2⟩ := bst_at hp
  refine ⟨b1, ?_, hp⟩
  rw [← b2] at hp
  unfold cnt at hp
  obtain ⟨d, hd⟩ := List.exists_mem_of_length_pos hp
  obtain ⟨_, d2⟩ := List.mem_filter.1 hd
  simp at d2
  obtain ⟨j, j1, j2⟩ := and_ne.1 d2.2
  rw [Nat.testBit_two_pow] at j2
  have : (bst L s n).1 = j := by simpa using j2
  rw [this]
  exact and_eq0.1 d2.1 j j1
theorem free_le (s n : Nat) : free s n ≤ n := by
  have := List.length_filter_le (fun i => !s.testBit i) (List.range n)
  simpa [free] using this
set_option maxHeartbeats 1600000 in
theorem GreedyF (m : Hdr) (M : List (List Bool)) (w : World) (H : TabB w m M) :
    call Try.prog 11 [.slice m.1 m.2.1 m.2.2] rHI w (fun x w' => ListR M (greedy (masks M) M.length (M.length + 1) 0) w x w' ∧ bel w w') := by
  refine call_of (S11_calls m.1 m.2.1 m.2.2 w _ ?_)
  unfold S11
  refine call_mono (validF m M w H) ?_
  rintro (x1 : Bool) w2 ⟨hv, h2⟩
  refine br_not (fun e => ⟨((none, 0, 0), (1 : Int), ()), rfl, .inr ⟨(fun q => by have := hv.2 q; rw [e] at this; cases this), rfl, rfl⟩, h2⟩) (fun e => ?_)
  have V := hv.1 e
  have v1 := V.n
  have v2 := V.w400
  refine call_mono (columnsF m M w2 (H.up h2) V) ?_
  rintro (x3 : Hdr) w4 ⟨O, h4⟩
  have hl := H.len
  have h24 := h2.trans h4
  have s24 := h24.size
  have lx3 := O.sl.nat
  have lm := masks_len M
  have hM := masks_lt (M := M)
  generalize hn : M.length = n at *
  generalize hL : masks M = L at *
  have hL63 : ∀ c ∈ L, c < 2 ^ 63 := fun c hc => lt63 (hM c hc) v1
  refine loop_gh (G := Nat × List Nat × Nat) (fun g s w' => s.2 = ((g.1 : Int), ()) ∧ bel w4 w' ∧ OwnN w' w4.heap.size s.1 g.2.1 ∧ g.1 < 2 ^ n ∧ free g.1 n < g.2.2 ∧ greedy L n (n + 1) 0 = g.2.1 ++ greedy L n g.2.2 g.1 ∧ g.2.1.length + free g.1 n ≤ n) (fun g => g.2.2) (0, [], n + 1)
    ⟨rfl, bel.refl _, Own.nil _ _ _ _, Nat.two_pow_pos n, by have := free_le 0 n; dsimp only; omega, rfl, by have := free_le 0 n; simpa using this⟩ ?_
  rintro ⟨s, out, f⟩ ⟨q, sv⟩ w7 ⟨rfl, hb, Oq, hs, hf, hgr, hol⟩ again hag _
  dsimp only at Oq hs hf hgr hol hag
  have S3 := O.sl.up hb
  refine call_mono (coversF x3 L s w7 S3 hL63 (lt63 hs v1)) ?_
  rintro (x8 : Bool) w9 ⟨rfl, h9⟩
  replace hb := hb.trans h9
  replace Oq : OwnN w9 w4.heap.size q out := Own.kept Oq h9
  replace S3 := S3.up h9
  cases f with
  | zero => omega
  | succ f =>
  refine br_not (fun ec => ?_) (fun ec => ?_)
  · obtain ⟨b1, b2, b3⟩ := best_new hM ec
    have hn0 : 0 < n := by omega
    refine loop_gh (G := Nat) (fun r s' w' => s' = (((bst L s r).1 : Int), ((bst L s r).2 : Int), (r : Int), ()) ∧ r ≤ n ∧ bel w9 w') (fun r => n - r) 0 ⟨rfl, Nat.zero_le _, bel.refl _⟩ ?_
    rintro r s' w12 ⟨rfl, hr, hb12⟩ again2 hag2 _
    refine br_dec (fun e => ?_) (fun e => ?_)
    · dsimp only at e
      have hrn : r < n := by omega
      refine join_mk (fun s' w' => s'.1 = (((bst L s (r + 1)).1 : Nat) : Int) ∧ s'.2.1 = (((bst L s (r + 1)).2 : Nat) : Int) ∧ w12 = w') (fun K hK => ?_) (fun s' w15 hJ _ => ?_)
      · refine loop_upA L.length (fun k a w' => a = ((cntN L s r k : Nat) : Int) ∧ w12 = w') ⟨rfl, rfl⟩ fun k a w19 hk ⟨ha, hw⟩ again3 hag3 _ => ?_
        subst ha hw
        have hck := cntN_le L s r k
        refine br_dec (fun e => ?_) (fun e => ?_)
        · dsimp only at e
          have hkL : k < L.length := by omega
          refine join_mk (fun s' w' => s'.1 = ((cntN L s r (k + 1) : Nat) : Int) ∧ w12 = w') (fun K2 hK2 => ?_) (fun s' w22 hJ _ => ?_)
          · refine nat_mk (S3.up hb12) rfl hkL fun c hc => ?_
            have hcm := List.mem_of_getElem? hc
            have hst := cntN_step (s := s) (r := r) hc
            refine z_and (a := c) (b := s) rfl rfl (hL63 c hcm) (lt63 hs v1) ?_
            refine nat_eq0 (fun e0 => ?_) (fun e0 => ?_)
            · refine shl1 r rfl (by omega) ?_
              refine z_and (a := c) (b := 2 ^ r) rfl rfl (hL63 c hcm) (lt63 (n := 14) (Nat.pow_lt_pow_right (by omega) (by omega)) (Nat.le_refl _)) ?_
              refine nat_ne0 (fun e1 => ?_) (fun e1 => ?_)
              · rw [if_pos ⟨e0, e1⟩] at hst
                refine z_i64 (by dsimp only; omega) ?_
                exact hK2 _ _ ⟨by rw [hst]; rfl, rfl⟩
              · rw [if_neg (fun q => q.2 e1)] at hst
                exact hK2 _ _ ⟨by rw [hst]; rfl, rfl⟩
            · rw [if_neg (fun q => e0 q.1)] at hst
              exact hK2 _ _ ⟨by rw [hst]; rfl, rfl⟩
          · obtain ⟨sv, _⟩ := s'
            refine z_i64 (by dsimp only; omega) ?_
            exact hag3 _ _ hkL hJ
        · dsimp only at e
          have hkL : k = L.length := by omega
          subst hkL
          rw [cntN_all] at hck ⊢
          have hbs : bst L s (r + 1) = if cnt L s r > (bst L s r).2 then (r, cnt L s r) else bst L s r := rfl
          refine br_dec (fun e1 => ?_) (fun e1 => ?_)
          · dsimp only at e1
            rw [if_pos (by omega)] at hbs
            exact hK _ _ ⟨by rw [hbs], by rw [hbs], rfl⟩
          · dsimp only at e1
            rw [if_neg (by omega)] at hbs
            exact hK _ _ ⟨by rw [hbs], by rw [hbs], rfl⟩
      · obtain ⟨j1, j2, rfl⟩ := hJ
        obtain ⟨t1, t2, _⟩ := s'
        dsimp only at j1 j2
        subst j1 j2
        refine z_i64 (by dsimp only; omega) ?_
        exact hag2 (r + 1) _ _ ⟨rfl, hrn, hb12⟩ (by omega)
    · dsimp only at e
      have hrn : r = n := by omega
      subst hrn
      clear hag2 again2
      generalize hbb : (bst L s r).1 = b at *
      replace hb := hb.trans hb12
      replace Oq : OwnN w12 w4.heap.size q out := Own.kept Oq hb12
      have lq := Oq.sl.nat
      refine drw_mk fun w30 h30 _ => ?_
      replace hb := hb.trans h30
      replace Oq : OwnN w30 w4.heap.size q out := Own.kept Oq h30
      have hqlt := Oq.lt
      have s430 := hb.size
      refine flExC_mk (fun w w' => w.grownBy w' (blk q.1)) (fun jj w w' => jj ≠ 3 → bel w w') (fun D w' => D 3 = false → OwnN w' w4.heap.size q out)
        (fun i' _ v w' => (i' = 2 → ∃ ad : Addr, v = .slice (some ad) 1 1 ∧ Sl w' (some ad) 1 1 1 [.int .i64 (b : Int)] ∧ w30.heap.size ≤ ad.block) ∧ (i' = 3 → ∃ a' c', v = .slice a' (q.2.1 + 1) c' ∧ OwnN w' w4.heap.size (a', q.2.1 + 1, c') (out ++ [b])))
        (fun w => grown_refl w _) (fun _ _ _ a b => grown_trans a b) (fun i' jj ags v w w' hne hΦ hE hG => ⟨fun e => ?_, fun e => ?_⟩) (fun _ => Oq) ?_
      · obtain ⟨ad, z1, z2, z3⟩ := hΦ.1 e
        exact ⟨ad, z1, z2.grown hE (fun ad' ha _ q => by cases ha; have := (hqlt _ q.symm).2; omega), z3⟩
      · obtain ⟨a', c', z1, z2⟩ := hΦ.2 e
        exact ⟨a', c', z1, Own.kept z2 (hG (fun q => hne (e.trans q.symm)))⟩
      refine flcC_mk (fun D w' hD hE hS _ => ?_) (fun (x45 : Hdr) => ?_)
      · refine wr_lit tyI #[.int .i64 (b : Int)] (fill_one 1 (.int .i64 (b : Int)) _ rfl (by simp)) (by omega) (by omega) rfl (by unfold maxLen; omega) fun ad w'' O' hb' _ _ => ?_
        exact ⟨grown_of_bel hb' _, fun _ => hb', fun q => Own.kept (hS (by rw [setD_ne (by decide)] at q; exact q)) hb', ⟨fun _ => ⟨ad, rfl, (O' w'.heap.size (Nat.le_refl _)).sl, by have := hE.size; omega⟩, fun e => by omega⟩⟩
      refine flcC_mk (fun D w' hD hE hS hf => ?_) (fun (x51 : Hdr) => ?_)
      · obtain ⟨ad, ev, Sr, _⟩ := hf.1.1 rfl
        have ev : x45 = (some ad, 1, 1) := sl_inj ev
        subst ev
        have hsz := hE.size
        refine wr_app tyI (hS hD) Sr (by omega) rfl (by omega) rfl (by omega) (by unfold maxLen; omega) fun a' c' w'' O' hg _ _ => ?_
        refine ⟨hg, fun q => absurd rfl q, (fun q => by rw [setD_self] at q; cases q), ⟨fun e => by omega, fun _ => ⟨a', c', rfl, ?_⟩⟩⟩
        show Own w'' _ _ 1 a' (q.2.1 + 1) c' (nats .i64 (out ++ [b]))
        rw [nats_snoc]; exact O'
      refine shl1 b rfl (by omega) ?_
      refine z_or (a := s) (b := 2 ^ b) rfl rfl (lt63 hs v1) (lt63 (n := 14) (Nat.pow_lt_pow_right (by omega) (by omega)) (Nat.le_refl _)) ?_
      refine flendC_mk fun w44 hE _ hf => ?_
      obtain ⟨a', c', z1, z2⟩ := hf.1.2 rfl
      have z1 : x51 = (a', q.2.1 + 1, c') := sl_inj z1
      subst z1
      have hfs := free_step b1 b2
      refine hag (s ||| 2 ^ b, out ++ [b], f) _ _ ⟨rfl, hb.grown hE (fun k hk => (hqlt k hk).1), z2, or_lt hs b1, by dsimp only; omega, ?_, by simp; omega⟩ (by dsimp only; omega)
      dsimp only
      rw [hgr, greedy, if_neg (by rw [ec]; simp), hbb]
      simp
  · refine ⟨(q, (0 : Int), ()), rfl, .inl ⟨V, rfl, ?_⟩, h24.trans hb⟩
    have e0 : greedy L n (f + 1) s = [] := by simp only [greedy]; rw [if_pos ec]
    rw [e0, List.append_nil] at hgr
    rw [hgr]
    exact own_base Oq (by omega)
theorem containsF (l : Hdr) (xs : List Nat) (v : Nat) (w : World) (H : SlN w l xs) :
    call Try.prog 38 [.slice l.1 l.2.1 l.2.2, .int .i64 (v : Int)] (.one (.one .bool)) w (fun x w' => x = decide (v ∈ xs) ∧ bel w w') := by
  refine call_of (S38_calls l.1 l.2.1 l.2.2 (v : Int) w _ ?_)
  unfold S38
  refine call_mono (r := .one (.one (.int .i64))) (Q := fun (x : Int) w' => (0 ≤ x ↔ v ∈ xs) ∧ bel w w') (call_of (S50_calls l.1 l.2.1 l.2.2 (v : Int) w _ ?_)) ?_
  · unfold S50
    have hl := H.nat
    have hle := H.le
    refine loop_up xs.length (fun i w' => bel w w' ∧ ∀ j, j < i → ∀ y, xs[j]? = some y → y ≠ v) ⟨bel.refl _, fun j hj => by omega⟩ fun i w3 hi ⟨hb, hp⟩ again hag _ => ?_
    refine br_dec (fun e => ?_) (fun e => ?_)
    · dsimp only at e
      refine nat_mk (H.up hb) rfl (by omega) fun y hy => ?_
      refine br_eq (fun e1 => ?_) (fun e1 => ?_)
      · have : v = y := by omega
        subst this
        exact ⟨(i : Int), rfl, ⟨fun _ => List.mem_of_getElem? hy, fun _ => Int.natCast_nonneg i⟩, hb⟩
      · refine z_i64 (by dsimp only; omega) ?_
        exact hag _ (by omega) ⟨hb, pre_step hp hy (fun q => e1 (by omega))⟩
    · dsimp only at e
      refine ⟨(-1 : Int), rfl, ⟨(fun q => absurd q (by decide)), fun q => ?_⟩, hb⟩
      exact absurd rfl (pre_all (p := fun y => y ≠ v) hp (by omega) v q)
  · rintro x w2 ⟨hx, hb⟩
    exact ⟨_, rfl, decide_eq_decide.2 hx, hb⟩
/-- the rows that are needed, of the first ones -/
def needN (L : List Nat) (n : Nat) : List Nat := (List.range n).filter fun r => decide (2 ^ r ∈ L)
theorem needN_step (L : List Nat) (n : Nat) : needN L (n + 1) = if 2 ^ n ∈ L then needN L n ++ [n] else needN L n := by
  unfold needN
  rw [List.range_succ, List.filter_append]
  by_cases h : 2 ^ n ∈ L <;> simp [h]
theorem needN_len (L : List Nat) (n : Nat) : (needN L n).length ≤ n := by
  have := List.length_filter_le (fun r => decide (2 ^ r ∈ L)) (List.range n)
  simpa [needN] using this
set_option maxHeartbeats 800000 in
theorem NeededF (m : Hdr) (M : List (List Bool)) (w : World) (H : TabB w m M) :
    call Try.prog 13 [.slice m.1 m.2.1 m.2.2] rHI w (fun x w' => ListR M (needN (masks M) M.length) w x w' ∧ bel w w') := by
  refine call_of (S13_calls m.1 m.2.1 m.2.2 w _ ?_)
  unfold S13
  refine call_mono (validF m M w H) ?_
  rintro (x1 : Bool) w2 ⟨hv, h2⟩
  refine br_not (fun e => ⟨((none, 0, 0), (1 : Int), ()), rfl, .inr ⟨(fun q => by have := hv.2 q; rw [e] at this; cases this), rfl, rfl⟩, h2⟩) (fun e => ?_)
  have V := hv.1 e
  have v1 := V.n
  refine call_mono (columnsF m M w2 (H.up h2) V) ?_
  rintro (x3 : Hdr) w4 ⟨O, h4⟩
  have hl := H.len
  have h24 := h2.trans h4
  have s24 := h24.size
  refine loop_upA M.length (fun k q w' => bel w4 w' ∧ OwnN w' w4.heap.size q (needN (masks M) k)) ⟨bel.refl _, Own.nil _ _ _ _⟩ fun k q w7 hk ⟨hb, Oq⟩ again hag _ => ?_
  refine br_dec (fun e => ?_) (fun e => ?_)
  · dsimp only at e
    have hkm : k < M.length := by omega
    refine join_mk (fun s w' => bel w4 w' ∧ OwnN w' w4.heap.size s.1 (needN (masks M) (k + 1))) (fun K hK => ?_) (fun s w10 hJ _ => ?_)
    · refine shl1 k rfl (by omega) ?_
      refine call_mono (containsF x3 (masks M) (2 ^ k) w7 (O.sl.up hb)) ?_
      rintro (x13 : Bool) w14 ⟨rfl, h14⟩
      replace hb := hb.trans h14
      replace Oq : OwnN w14 w4.heap.size q _ := Own.kept Oq h14
      have hst := needN_step (masks M) k
      have hnl := needN_len (masks M) k
      have lq := Oq.sl.nat
      refine br_dec (fun e1 => ?_) (fun e1 => ?_)
      · rw [if_pos e1] at hst
        have := hb.size
        refine wr_app1 tyI Oq (by omega) rfl (by omega) (by omega) rfl rfl (by omega) (by unfold maxLen; omega) fun a' c' w18 O18 g18 _ _ => ?_
        refine hK _ _ ⟨hb.grown g18 fun b hb => (Oq.lt b hb).1, ?_⟩
        show Own w18 _ _ 1 a' (q.2.1 + 1) c' (nats .i64 (needN (masks M) (k + 1)))
        rw [hst, nats_snoc]; exact O18
      · rw [if_neg e1] at hst
        exact hK _ _ ⟨hb, by dsimp only; rw [hst]; exact Oq⟩
    · obtain ⟨sq, _⟩ := s
      refine z_i64 (by dsimp only; omega) ?_
      exact hag _ _ hkm hJ
  · dsimp only at e
    have hkm : k = M.length := by omega
    subst hkm
    exact ⟨(q, (0 : Int), ()), rfl, .inl ⟨V, rfl, own_base Oq (by omega)⟩, h24.trans hb⟩
end Go.Proofs.Ytaomejbaocehnaa

/- Columns that are apart: no program in sight. -/

namespace Go.Proofs.Ytaomejbaocehnaa

/-- how many columns are apart, if only some rows may be used -/
def mst : List Nat → Nat → Nat
  | [], _ => 0
  | c :: l, R => if c = 0 ∨ c ∈ l then mst l R else if dif c R = 0 then max (mst l R) (1 + mst l (dif R c)) else mst l R
theorem mst_cons (c : Nat) (l : List Nat) (R : Nat) : mst (c :: l) R = if c = 0 ∨ c ∈ l then mst l R else if dif c R = 0 then max (mst l R) (1 + mst l (dif R c)) else mst l R := rfl
def aprt : List Nat → Nat → Nat → List Nat
  | [], _, _ => []
  | c :: l, k, R => if c ≠ 0 ∧ dif c R = 0 ∧ 1 + mst l (dif R c) = mst (c :: l) R then k :: aprt l (k + 1) (dif R c) else aprt l (k + 1) R
theorem filter_lt {α : Type} {p q : α → Bool} : ∀ {l : List α}, (∀ x ∈ l, p x = true → q x = true) → (∃ x ∈ l, q x = true ∧ p x = false) → (l.filter p).length + 1 ≤ (l.filter q).length
  | [], _, h => by obtain ⟨x, hx, _⟩ := h; cases hx
  | a :: l, h1, h2 => by
    have hsub : (l.filter p).length ≤ (l.filter q).length := by
      clear h2
      induction l with
      | nil => simp
      | cons b l ih =>
        have := ih fun x hx => h1 x (by rcases List.mem_cons.1 hx with rfl | hx <;> simp [*])
        have hb := h1 b (by simp)
        cases hp : p b <;> cases hq : q b <;> simp [hp, hq]
        · omega
        · omega
        · rw [hb hp] at hq; cases hq
        · omega
    by_cases hx : ∃ x ∈ l, q x = true ∧ p x = false
    · have := filter_lt (fun x hx => h1 x (by simp [hx])) hx
      have ha := h1 a (by simp)
      cases hp : p a <;> cases hq : q a <;> simp [hp, hq]
      · omega
      · omega
      · rw [ha hp] at hq; cases hq
      · omega
    · obtain ⟨x, hxm, q1, q2⟩ := h2
      rcases List.mem_cons.1 hxm with rfl | hxm
      · simp [q1, q2]; exact hsub
      · exact absurd ⟨x, hxm, q1, q2⟩ hx
/-- how many rows a set has -/
def pc (R n : Nat) : Nat := ((List.range n).filter fun i => R.testBit i).length
theorem pc_le (R n : Nat) : pc R n ≤ n := by
  have := List.length_filter_le (fun i => R.testBit i) (List.range n)
  simpa [pc] using this
theorem pc_dif {R c n : Nat} (hn : n ≤ 14) (hR : R < 2 ^ n) (hc : c < 2 ^ n) (h0 : c ≠ 0) (hs : dif c R = 0) : pc (dif R c) n + 1 ≤ pc R n := by
  have hs := (dif_eq0 (lt64 hc hn) (lt64 hR hn)).1 hs
  unfold pc
  refine filter_lt (fun i _ h => ?_) ?_
  · rw [dif_bit (lt64 hc hn)] at h
    simp at h; exact h.1
  · obtain ⟨i, hi⟩ := ne_zero_bit.1 h0
    have hin : i < n := by
      rcases Nat.lt_or_ge i n with q | q
      · exact q
      · rw [bit_out hc q] at hi; cases hi
    refine ⟨i, List.mem_range.2 hin, hs i hi, ?_⟩
    rw [dif_bit (lt64 hc hn), hi]; simp
theorem mst_le {n : Nat} (hn : n ≤ 14) : ∀ {l : List Nat} {R : Nat}, (∀ c ∈ l, c < 2 ^ n) → R < 2 ^ n → mst l R ≤ pc R n
  | [], R, _, _ => Nat.zero_le _
  | c :: l, R, hl, hR => by
    have i1 := mst_le hn (l := l) (R := R) (fun d hd => hl d (by simp [hd])) hR
    unfold mst
    split
    · exact i1
    · rename_i h0
      split
      · rename_i hs
        have hc := hl c (by simp)
        have i2 := mst_le hn (l := l) (R := dif R c) (fun d hd => hl d (by simp [hd])) (dif_lt hR)
        have := pc_dif hn hR hc (fun q => h0 (.inl q)) hs
        omega
      · exact i1
/-- a family: of some columns no two share a row -/
def Fam : List Nat → Nat → List Bool → Prop
  | _, _, [] => True
  | [], _, _ => True
  | c :: l, R, true :: b => c ≠ 0 ∧ dif c R = 0 ∧ Fam l (dif R c) b
  | _ :: l, R, false :: b => Fam l R b
def nT (b : List Bool) : Nat := (b.filter id).length
theorem mst_mono {n : Nat} (hn : n ≤ 14) : ∀ {l : List Nat} {R S : Nat}, (∀ c ∈ l, c < 2 ^ n) → R < 2 ^ n → S < 2 ^ n → (∀ i, R.testBit i = true → S.testBit i = true) → mst l R ≤ mst l S
  | [], _, _, _, _, _, _ => Nat.le_refl _
  | c :: l, R, S, hl, hR, hS, h => by
    have hl' : ∀ d ∈ l, d < 2 ^ n := fun d hd => hl d (by simp [hd])
    have i1 := mst_mono hn (l := l) hl' hR hS h
    have hc := hl c (by simp)
    unfold mst
    split
    · exact i1
    · split
      · rename_i hs
        have hs' : dif c S = 0 := (dif_eq0 (lt64 hc hn) (lt64 hS hn)).2 fun i hi => h i ((dif_eq0 (lt64 hc hn) (lt64 hR hn)).1 hs i hi)
        rw [if_pos hs']
        have i2 := mst_mono hn (l := l) (R := dif R c) (S := dif S c) hl' (dif_lt hR) (dif_lt hS) (fun i hi => by
          rw [dif_bit (lt64 hc hn)] at hi ⊢
          simp at hi ⊢
          exact ⟨h i hi.1, hi.2⟩)
        omega
      · split <;> omega
/-- a later column that is the same serves as well -/
theorem mst_twice {n : Nat} (hn : n ≤ 14) : ∀ {l : List Nat} {R c : Nat}, (∀ d ∈ l, d < 2 ^ n) → R < 2 ^ n → c ≠ 0 → dif c R = 0 → c ∈ l → 1 + mst l (dif R c) ≤ mst l R
  | [], _, _, _, _, _, _, h => by cases h
  | d :: l, R, c, hl, hR, h0, hs, hc => by
    have hl' : ∀ e ∈ l, e < 2 ^ n := fun e he => hl e (by simp [he])
    have hcn := hl c hc
    have hd := hl d (by simp)
    have hsb := (dif_eq0 (lt64 hcn hn) (lt64 hR hn)).1 hs
    by_cases hcl : c ∈ l
    · have i1 := mst_twice hn (l := l) (R := R) (c := c) hl' hR h0 hs hcl
      unfold mst
      by_cases hd0 : d = 0 ∨ d ∈ l
      · rw [if_pos hd0, if_pos hd0]; exact i1
      · rw [if_neg hd0, if_neg hd0]
        by_cases hdR : dif d (dif R c) = 0
        · rw [if_pos hdR]
          have hdb := (dif_eq0 (lt64 hd hn) (lt64 (dif_lt hR) hn)).1 hdR
          have hdR' : dif d R = 0 := (dif_eq0 (lt64 hd hn) (lt64 hR hn)).2 fun i hi => by
            have := hdb i hi
            rw [dif_bit (lt64 hcn hn)] at this
            simp at this; exact this.1
          rw [if_pos hdR']
          have hcd : dif c (dif R d) = 0 := (dif_eq0 (lt64 hcn hn) (lt64 (dif_lt hR) hn)).2 fun i hi => by
            rw [dif_bit (lt64 hd hn)]
            have h64 : i < 64 := by
              rcases Nat.lt_or_ge i 64 with q | q
              · exact q
              · rw [bit_out (lt64 hcn hn) q] at hi; cases hi
            have : d.testBit i = false := by
              cases hdi : d.testBit i with
              | false => rfl
              | true =>
                have := hdb i hdi
                rw [dif_bit (lt64 hcn hn), hi] at this
                simp at this
            simp [hsb i hi, this, h64]
          have i2 := mst_twice hn (l := l) (R := dif R d) (c := c) hl' (dif_lt hR) h0 hcd hcl
          have e : dif (dif R c) d = dif (dif R d) c := by
            apply Nat.eq_of_testBit_eq
            intro i
            rw [dif_bit (lt64 hd hn), dif_bit (lt64 hcn hn), dif_bit (lt64 hcn hn), dif_bit (lt64 hd hn)]
            cases R.testBit i <;> cases d.testBit i <;> cases c.testBit i <;> simp
          rw [e]; omega
        · rw [if_neg hdR]
          split <;> omega
    · have hcd : c = d := by
        rcases List.mem_cons.1 hc with q | q
        · exact q
        · exact absurd q hcl
      subst hcd
      have hno : ¬ (c = 0 ∨ c ∈ l) := fun q => q.elim h0 hcl
      have hd2 : ¬ dif c (dif R c) = 0 := fun q => by
        obtain ⟨i, hi⟩ := ne_zero_bit.1 h0
        have := (dif_eq0 (lt64 hcn hn) (lt64 (dif_lt hR) hn)).1 q i hi
        rw [dif_bit (lt64 hcn hn), hi] at this
        simp at this
      have e1 : mst (c :: l) (dif R c) = mst l (dif R c) := by rw [mst_cons, if_neg hno, if_neg hd2]
      have e2 : mst (c :: l) R = max (mst l R) (1 + mst l (dif R c)) := by rw [mst_cons, if_neg hno, if_pos hs]
      omega
/-- no family is greater -/
theorem fam_le {n : Nat} (hn : n ≤ 14) : ∀ {l : List Nat} {R : Nat} {b : List Bool}, (∀ c ∈ l, c < 2 ^ n) → R < 2 ^ n → b.length = l.length → Fam l R b → nT b ≤ mst l R
  | [], _, b, _, _, hb, _ => by
    have : b = [] := List.eq_nil_of_length_eq_zero hb
    subst this; simp [nT, mst]
  | c :: l, R, [], _, _, hb, _ => by simp at hb
  | c :: l, R, false :: b, hl, hR, hb, hf => by
    have i1 := fam_le hn (l := l) (R := R) (b := b) (fun d hd => hl d (by simp [hd])) hR (by simpa using hb) hf
    have e : nT (false :: b) = nT b := by simp [nT]
    rw [e]
    unfold mst
    split
    · exact i1
    · split <;> omega
  | c :: l, R, true :: b, hl, hR, hb, hf => by
    obtain ⟨h0, hs, hf⟩ := hf
    have hl' : ∀ e ∈ l, e < 2 ^ n := fun e he => hl e (by simp [he])
    have i1 := fam_le hn (l := l) (R := dif R c) (b := b) hl' (dif_lt hR) (by simpa using hb) hf
    have e : nT (true :: b) = nT b + 1 := by simp [nT]
    rw [e]
    unfold mst
    split
    · rename_i hq
      have := mst_twice hn hl' hR h0 hs (hq.resolve_left h0)
      omega
    · omega
/-- the columns that are chosen, as marks -/
def sel : List Nat → Nat → List Bool
  | [], _ => []
  | c :: l, R => if c ≠ 0 ∧ dif c R = 0 ∧ 1 + mst l (dif R c) = mst (c :: l) R then true :: sel l (dif R c) else false :: sel l R
theorem sel_len : ∀ (l : List Nat) (R : Nat), (sel l R).length = l.length
  | [], _ => rfl
  | c :: l, R => by unfold sel; split <;> simp [sel_len]
theorem sel_fam : ∀ (l : List Nat) (R : Nat), Fam l R (sel l R)
  | [], _ => trivial
  | c :: l, R => by
    unfold sel
    split
    · rename_i h; exact ⟨h.1, h.2.1, sel_fam l _⟩
    · exact sel_fam l R
theorem sel_max {n : Nat} (hn : n ≤ 14) : ∀ {l : List Nat} {R : Nat}, (∀ c ∈ l, c < 2 ^ n) → R < 2 ^ n → nT (sel l R) = mst l R
  | [], _, _, _ => rfl
  | c :: l, R, hl, hR => by
    have hl' : ∀ d ∈ l, d < 2 ^ n := fun d hd => hl d (by simp [hd])
    have i1 := sel_max hn (l := l) (R := R) hl' hR
    have i2 := sel_max hn (l := l) (R := dif R c) hl' (dif_lt hR)
    unfold sel
    split
    · rename_i h
      have e : nT (true :: sel l (dif R c)) = nT (sel l (dif R c)) + 1 := by simp [nT]
      rw [e, i2]; omega
    · rename_i h
      have e : nT (false :: sel l R) = nT (sel l R) := by simp [nT]
      rw [e, i1]
      rw [mst_cons] at h ⊢
      by_cases h0 : c = 0 ∨ c ∈ l
      · rw [if_pos h0]
      · rw [if_neg h0] at h ⊢
        by_cases hs : dif c R = 0
        · rw [if_pos hs] at h ⊢
          have : ¬ (1 + mst l (dif R c) = max (mst l R) (1 + mst l (dif R c))) := fun q => h ⟨fun z => h0 (.inl z), hs, q⟩
          omega
        · rw [if_neg hs]
theorem aprt_sel : ∀ (l : List Nat) (k R : Nat) (x : Nat), x ∈ aprt l k R ↔ k ≤ x ∧ (sel l R)[x - k]? = some true
  | [], k, R, x => by simp [aprt, sel]
  | c :: l, k, R, x => by
    unfold aprt sel
    split
    · rw [List.mem_cons, aprt_sel l (k + 1) _ x]
      constructor
      · rintro (rfl | ⟨h1, h2⟩)
        · simp
        · refine ⟨by omega, ?_⟩
          rw [show x - k = (x - (k + 1)) + 1 by omega, List.getElem?_cons_succ]; exact h2
      · rintro ⟨h1, h2⟩
        rcases Nat.eq_or_lt_of_le h1 with q | q
        · exact .inl q.symm
        · refine .inr ⟨by omega, ?_⟩
          rw [show x - k = (x - (k + 1)) + 1 by omega, List.getElem?_cons_succ] at h2; exact h2
    · rw [aprt_sel l (k + 1) _ x]
      constructor
      · rintro ⟨h1, h2⟩
        refine ⟨by omega, ?_⟩
        rw [show x - k = (x - (k + 1)) + 1 by omega, List.getElem?_cons_succ]; exact h2
      · rintro ⟨h1, h2⟩
        rcases Nat.eq_or_lt_of_le h1 with q | q
        · subst q; simp at h2
        · refine ⟨by omega, ?_⟩
          rw [show x - k = (x - (k + 1)) + 1 by omega, List.getElem?_cons_succ] at h2; exact h2
theorem aprt_len : ∀ (l : List Nat) (k R : Nat), (aprt l k R).length = nT (sel l R)
  | [], _, _ => rfl
  | c :: l, k, R => by
    unfold aprt sel
    split
    · rw [List.length_cons, aprt_len]; simp [nT]
    · rw [aprt_len]; simp [nT]
/-- a cover has a row for each column that is apart -/
theorem fam_cover {n : Nat} (hn : n ≤ 14) {s : Nat} : ∀ {l : List Nat} {R : Nat} {b : List Bool}, (∀ c ∈ l, c < 2 ^ n) → R < 2 ^ n → Fam l R b → b.length = l.length → covB l s = true → nT b ≤ pc (R &&& s) n
  | [], R, b, _, _, _, hb, _ => by
    have : b = [] := List.eq_nil_of_length_eq_zero hb
    subst this; simp [nT]
  | c :: l, R, [], _, _, _, hb, _ => by simp at hb
  | c :: l, R, false :: b, hl, hR, hf, hb, hc => by
    have e : nT (false :: b) = nT b := by simp [nT]
    rw [e]
    refine fam_cover hn (l := l) (fun d hd => hl d (by simp [hd])) hR hf (by simpa using hb) ?_
    unfold covB at hc ⊢; rw [List.all_cons, Bool.and_eq_true] at hc; exact hc.2
  | c :: l, R, true :: b, hl, hR, hf, hb, hc => by
    obtain ⟨h0, hs, hf⟩ := hf
    have e : nT (true :: b) = nT b + 1 := by simp [nT]
    rw [e]
    have hcn := hl c (by simp)
    have hsb := (dif_eq0 (lt64 hcn hn) (lt64 hR hn)).1 hs
    have i1 := fam_cover hn (l := l) (R := dif R c) (b := b) (s := s) (fun d hd => hl d (by simp [hd])) (dif_lt hR) hf (by simpa using hb) (by unfold covB at hc ⊢; rw [List.all_cons, Bool.and_eq_true] at hc; exact hc.2)
    obtain ⟨i, h1, h2⟩ := and_ne.1 (covB_iff.1 hc c (by simp) h0)
    have hin : i < n := by
      rcases Nat.lt_or_ge i n with q | q
      · exact q
      · rw [bit_out hcn q] at h1; cases h1
    refine Nat.le_trans (Nat.add_le_add_right i1 1) ?_
    unfold pc
    refine filter_lt (fun j _ h => ?_) ⟨i, List.mem_range.2 hin, ?_, ?_⟩
    · rw [Nat.testBit_and, dif_bit (lt64 hcn hn)] at h
      rw [Nat.testBit_and]
      simp at h ⊢
      exact ⟨h.1.1, h.2⟩
    · rw [Nat.testBit_and, hsb i h1, h2]; rfl
    · rw [Nat.testBit_and, dif_bit (lt64 hcn hn), h1]; simp
end Go.Proofs.Ytaomejbaocehnaa

/- Apart. -/

namespace Go.Proofs.Ytaomejbaocehnaa
open Go.RowKit Go.Q Go.V

theorem tyU : TyS Try.prog 55 5 (.int .u8 0) 1 1 := ⟨by kernel_rfl, by kernel_rfl⟩
theorem tyU2 : TyS Try.prog 54 55 (.slice none 0 0) 1 24 := ⟨by kernel_rfl, by kernel_rfl⟩
abbrev OwnU (w : World) (B : Nat) (h : Hdr) (xs : List Nat) : Prop := Own w B 5 1 h.1 h.2.1 h.2.2 (nats .u8 xs)
theorem zeros_u (n : Nat) : (madeCells (Value.int .u8 0).cells (n * 1)).toList = nats .u8 (List.replicate n 0) := by rw [Nat.mul_one]; exact made_nat .u8 n
theorem zeros_h (n : Nat) : (madeCells (Value.slice none 0 0).cells (n * 1)).toList = (List.replicate n ((none, 0, 0) : Hdr)).map hv := by
  rw [Nat.mul_one]
  apply List.ext_getElem
  · simp [madeCells]
  · intro i h1 h2
    simp [madeCells, Nat.mod_one, Value.cells, hv]
theorem plain_nats8 (xs : List Nat) : plainV (nats .u8 xs) = true := by
  unfold plainV nats
  rw [List.all_eq_true]
  intro x hx
  obtain ⟨y, _, rfl⟩ := List.mem_map.1 hx
  rfl
/-- the rest of a slice -/
theorem sl_from {t e : TypeId} {z : Value} {bytes : Nat} (T : TyS Try.prog t e z 1 bytes) {a : Option Addr} {n c m : Nat} {i : Int} {K : Hdr → Prop} (hi : i = (m : Int)) (hm : m ≤ n) (hk : ∀ h' : Hdr, h'.2.1 = n - m → (∀ w xs, Sl w a n c 1 xs → Sl w h'.1 h'.2.1 h'.2.2 1 (xs.drop m)) → K h') :
    rdp Try.prog (Instr.sliceAt t (.slice a n c) (some (.int .i64 i)) none none) (.one .slice) K := by
  subst hi
  refine ⟨((if c = m then a else a.map (·.add (m * 1))), n - m, c - m), fun w => ?_, hk _ rfl fun w xs S => ?_⟩
  · have ht : Try.prog.underlying t = some (.slice (Try.prog.elem t)) := by rw [T.elem]; exact T.ht
    rw [run_sliceAt_slice _ _ _ _ _ _ ht, run_slice_l _ _ _ _ _ ht _ _ (by omega) (by omega), T.elem, T.size]
    simp only [Result.andThen_ok, Int.toNat_natCast]
    rfl
  · have hl := S.len
    have hc := S.cap
    refine ⟨by dsimp only; rw [List.length_drop]; omega, by dsimp only; omega, by have := S.most; dsimp only; omega, fun e => ?_, fun j u hu => ?_⟩
    · dsimp only at e
      have : a = none := by
        split at e
        · exact e
        · simpa using e
      have := S.nil' this
      dsimp only; omega
    · rw [List.getElem?_drop] at hu
      obtain ⟨ad, q1, q2, q3⟩ := S.at' (m + j) u hu
      have hlt := (List.getElem?_eq_some_iff.1 hu).1
      refine ⟨ad.add m, ?_, by rw [add_add]; exact q2, by rw [add_block]; exact q3⟩
      dsimp only
      rw [if_neg (by omega), q1, Nat.mul_one]; rfl
theorem clone8F (s : Hdr) (xs : List Nat) (w : World) (B : Nat) (H : OwnU w B s xs) (hn : s.2.1 ≤ 1000000) (h0 : 0 < xs.length) :
    call Try.prog 39 [.slice s.1 s.2.1 s.2.2] (.one (.one .slice)) w (fun (x : Hdr) w' => ∃ ad c, x = (some ad, s.2.1, c) ∧ w.heap.size ≤ ad.block ∧ OwnU w' w.heap.size x xs ∧ bel w w') := by
  refine call_of (S39_calls s.1 s.2.1 s.2.2 w _ ?_)
  unfold S39
  have hl := H.sl.nat
  refine rd_nil tyU ?_
  obtain ⟨a, n, c⟩ := s
  have hl : xs.length = n := hl
  have hn : n ≤ 1000000 := hn
  dsimp only
  cases a with
  | none => exact absurd (H.sl.nil' rfl).1 (by dsimp only; omega)
  | some ad =>
    refine br_f rfl ?_
    refine wr_lit0 tyU fun b w3 O h3 hb hs => ?_
    refine wr_appG tyU (O w.heap.size (Nat.le_refl _)) (H.sl.up h3) h3.size rfl (plain_nats8 _) (by omega) (by unfold maxLen; omega) (by omega) fun c' w5 O5 hg => ?_
    refine ⟨((some ⟨w3.heap.size, 0, none⟩, 0 + n, c') : Hdr), rfl, ⟨w3.heap.size, 0, none⟩, c', by simp, by dsimp only; omega, by simpa using O5, h3.grownAt hg (by omega)⟩
/-- the tables of Apart -/
structure AT (w' : World) (b : Nat) (x7 : Hdr) (hs : List Hdr) (L : List Nat) (n k : Nat) : Prop where
  th : Own w' b 55 1 x7.1 x7.2.1 x7.2.2 (hs.map hv)
  len : hs.length = L.length + 1
  tab : ∀ j, k ≤ j → j ≤ L.length → ∃ h, hs[j]? = some h ∧ OwnU w' b h (mk (2 ^ n) (mst (L.drop j)))
theorem AT.up {w w' : World} {b : Nat} {x7 : Hdr} {hs : List Hdr} {L : List Nat} {n k : Nat} (A : AT w b x7 hs L n k) (h : bel w w') : AT w' b x7 hs L n k :=
  ⟨Own.kept A.th h, A.len, fun j h1 h2 => by obtain ⟨x, q1, q2⟩ := A.tab j h1 h2; exact ⟨x, q1, Own.kept q2 h⟩⟩
theorem AT.hl {w : World} {b : Nat} {x7 : Hdr} {hs : List Hdr} {L : List Nat} {n k : Nat} (A : AT w b x7 hs L n k) : x7.2.1 = L.length + 1 := by
  have := A.th.sl.len
  have := A.len
  simp at *; omega
/-- a table is read -/
theorem AT.get {w : World} {b : Nat} {x7 : Hdr} {hs : List Hdr} {L : List Nat} {n k : Nat} (A : AT w b x7 hs L n k) {j : Nat} {jj : Int} (hj : jj = (j : Int)) (h1 : k ≤ j) (h2 : j ≤ L.length) {K : Hdr → Prop} (hK : ∀ x : Hdr, hs[j]? = some x → OwnU w b x (Go.Proofs.Ytaomejbaocehnaa.mk (2 ^ n) (mst (L.drop j))) → K x) :
    rdp Try.prog (Instr.indexAt 54 (.slice x7.1 x7.2.1 x7.2.2) (.int .i64 jj)) (.one .addr) fun a => rd Try.prog (Instr.loadAt 55 (.pointer (some a))) (.one .slice) w K := by
  have hl := A.hl
  refine at_hdr tyU2 (by kernel_rfl) A.th.sl hj (by omega) fun x hx => ?_
  obtain ⟨y, q1, q2⟩ := A.tab j h1 h2
  rw [hx] at q1
  injection q1 with q1
  subst q1
  exact hK x hx q2
/-- a table is set -/
theorem AT.set {w : World} {b : Nat} {x7 : Hdr} {hs : List Hdr} {L : List Nat} {n k : Nat} (A : AT w b x7 hs L n (k + 1)) (hkL : k < L.length) {kk : Int} (hkk : kk = (k : Int)) {h : Hdr} {K : World → Prop}
    (hK : ∀ w' hs', Own w' b 55 1 x7.1 x7.2.1 x7.2.2 (hs'.map hv) → hs' = hs.set k h → AT w' b x7 hs' L n (k + 1) → w.grownBy w' (blk x7.1) → w'.heap.size = w.heap.size → K w') :
    rdp Try.prog (Instr.indexAt 54 (.slice x7.1 x7.2.1 x7.2.2) (.int .i64 kk)) (.one .addr) fun a => wu Try.prog (Instr.storeAt 55 (.pointer (some a)) (.slice h.1 h.2.1 h.2.2)) w K := by
  have hl := A.hl
  refine set_mk tyU2 A.th hkk (show k < x7.2.1 by omega) rfl fun w' O hg hsz => ?_
  have e : (hs.map hv).set k (.slice h.1 h.2.1 h.2.2) = (hs.set k h).map hv := by rw [List.map_set]; rfl
  rw [e] at O
  refine hK w' _ O rfl ⟨O, by simp [A.len], fun j h1 h2 => ?_⟩ hg hsz
  obtain ⟨x, q1, q2⟩ := A.tab j h1 h2
  exact ⟨x, by rw [List.getElem?_set, if_neg (by omega)]; exact q1, own_keep q2 hg (fun c hc e => Own.apart A.th q2 (by decide) c e hc)⟩
theorem maxu {a b : Int} {k : Int → Prop} (h : k (max a b)) : z (if b > a then b else a) k := by
  unfold z
  rw [show (if b > a then b else a) = max a b by split <;> omega]; exact h
theorem u8_mk {w : World} {h : Hdr} {xs : List Nat} (H : Sl w h.1 h.2.1 h.2.2 1 (nats .u8 xs)) {k : Nat} {kk : Int} (hk : kk = (k : Int)) (hn : k < xs.length) {K : Int → Prop} (hK : ∀ x : Nat, xs[k]? = some x → K (x : Int)) :
    rdp Try.prog (Instr.indexAt 55 (.slice h.1 h.2.1 h.2.2) (.int .i64 kk)) (.one .addr) fun b => rd Try.prog (Instr.loadAt 5 (.pointer (some b))) (.one (.int .u8)) w K :=
  at_nat tyU (by kernel_rfl) H hk (by have := H.nat; omega) fun x hx => hK x hx
set_option maxHeartbeats 3200000 in
theorem ApartF (m : Hdr) (M : List (List Bool)) (w : World) (H : TabB w m M) :
    call Try.prog 12 [.slice m.1 m.2.1 m.2.2] rHI w (fun x w' => ListR M (aprt (masks M) 0 (2 ^ M.length - 1)) w x w' ∧ bel w w') := by
  refine call_of (S12_calls m.1 m.2.1 m.2.2 w _ ?_)
  unfold S12
  refine call_mono (validF m M w H) ?_
  rintro (x1 : Bool) w2 ⟨hv0, h2⟩
  refine br_not (fun e => ⟨((none, 0, 0), (1 : Int), ()), rfl, .inr ⟨(fun q => by have := hv0.2 q; rw [e] at this; cases this), rfl, rfl⟩, h2⟩) (fun e => ?_)
  have V := hv0.1 e
  have v1 := V.n
  have v2 := V.w400
  refine call_mono (columnsF m M w2 (H.up h2) V) ?_
  rintro (x3 : Hdr) w4 ⟨O, h4⟩
  have hl := H.len
  have h24 := h2.trans h4
  have s24 := h24.size
  have lx3 := O.sl.nat
  have lm := masks_len M
  have hM := masks_lt (M := M)
  rw [← hl]
  generalize hn : M.length = n at *
  generalize hL : masks M = L at *
  have hL63 : ∀ c ∈ L, c < 2 ^ 63 := fun c hc => lt63 (hM c hc) v1
  have p14 := pow14 v1
  have p0 := Nat.two_pow_pos n
  have mbound : ∀ (l : List Nat) (R : Nat), (∀ c ∈ l, c < 2 ^ n) → R < 2 ^ n → mst l R ≤ 14 := fun l R h1 h2 => by
    have := mst_le v1 h1 h2
    have := pc_le R n
    omega
  refine shl1 n rfl (by omega) ?_
  refine z_i64 (by omega) ?_
  refine wr_make tyU2 (L.length + 1) (by omega) (by omega) (by omega) (by unfold maxLen; omega) fun c7 w8 O7 h8 _ _ => ?_
  replace O7 := O7 w4.heap.size (Nat.le_refl _)
  rw [zeros_h] at O7
  refine wr_make tyU (2 ^ n) rfl rfl (by omega) (by unfold maxLen; omega) fun c9 w10 O9 h10 _ _ => ?_
  replace O9 := O9 w4.heap.size (h8.size)
  rw [zeros_u] at O9
  replace O7 : Own w10 w4.heap.size 55 1 (some c7) (L.length + 1) (L.length + 1) _ := Own.kept O7 h10
  refine set_mk tyU2 O7 (j := L.length) (by omega) (by omega) rfl fun w12 O12 g12 _ => ?_
  have e12 : ((List.replicate (L.length + 1) ((none, 0, 0) : Hdr)).map hv).set L.length (.slice (some c9) (2 ^ n) (2 ^ n)) = ((List.replicate (L.length + 1) ((none, 0, 0) : Hdr)).set L.length (some c9, 2 ^ n, 2 ^ n)).map hv := by rw [List.map_set]; rfl
  rw [e12] at O12
  have O9' : OwnU w12 w4.heap.size (some c9, 2 ^ n, 2 ^ n) (mk (2 ^ n) (mst [])) := by
    have e : mk (2 ^ n) (mst []) = List.replicate (2 ^ n) 0 := by rw [mk_zero]; rfl
    rw [e]
    exact own_keep O9 g12 (fun c hc e => Own.apart O7 O9 (by decide) c e hc)
  have b412 : bel w4 w12 := (h8.trans h10).grown g12 fun k hk => (O7.lt k hk).1
  have A12 : AT w12 w4.heap.size (some c7, L.length + 1, L.length + 1) ((List.replicate (L.length + 1) ((none, 0, 0) : Hdr)).set L.length (some c9, 2 ^ n, 2 ^ n)) L n L.length := by
    refine ⟨O12, by simp, fun j h1 h2 => ⟨(some c9, 2 ^ n, 2 ^ n), ?_, ?_⟩⟩
    · have : j = L.length := by omega
      subst this
      rw [List.getElem?_set, if_pos rfl, if_pos (by simp)]
    · have : j = L.length := by omega
      subst this
      rw [List.drop_length]; exact O9'
  refine z_i64 (by omega) ?_
  refine loop_gh (G := Nat) (fun k s w' => s = ((k : Int) - 1, ()) ∧ k ≤ L.length ∧ bel w4 w' ∧ ∃ hs, AT w' w4.heap.size (some c7, L.length + 1, L.length + 1) hs L n k) (fun k => k) L.length ⟨by rw [lx3], Nat.le_refl _, b412, _, A12⟩ ?_
  clear A12 O12 O9' O7 O9 e12
  rintro k s w16 ⟨rfl, hkL, hb, hs, A⟩ again hag _
  refine br_dec (fun e => ?_) (fun e => ?_)
  · dsimp only at e
    obtain ⟨k, rfl⟩ : ∃ k', k = k' + 1 := ⟨k - 1, by omega⟩
    have ek : ((k + 1 : Nat) : Int) - 1 = (k : Int) := by omega
    rw [ek]
    have hk : k < L.length := by omega
    refine join_mk (fun _ w' => bel w4 w' ∧ ∃ hs, AT w' w4.heap.size (some c7, L.length + 1, L.length + 1) hs L n k) (fun K hK => ?_) (fun _ w19 hJ _ => ?_)
    · refine nat_mk (O.sl.up hb) rfl hk fun c hc => ?_
      have hcm := List.mem_of_getElem? hc
      have hcn := hM c hcm
      have hdrop : L.drop k = c :: L.drop (k + 1) := by
        rw [List.drop_eq_getElem_cons hk]
        congr 1
        rw [List.getElem?_eq_getElem hk] at hc
        injection hc
      have hl' : ∀ d ∈ L.drop (k + 1), d < 2 ^ n := fun d hd => hM d (List.mem_of_mem_drop hd)
      have same : (c = 0 ∨ c ∈ L.drop (k + 1)) → ∀ {w16 : World}, bel w4 w16 → ∀ {hs}, AT w16 w4.heap.size (some c7, L.length + 1, L.length + 1) hs L n (k + 1) → z (IntKind.wrap .i64 ((k : Int) + 1)) fun z23 =>
          rdp Try.prog (Instr.indexAt 54 (.slice (some c7) (L.length + 1) (L.length + 1)) (.int .i64 z23)) (.one .addr) fun x24 => rd Try.prog (Instr.loadAt 55 (.pointer (some x24))) (.one .slice) w16 fun (x25 : Hdr) =>
          rdp Try.prog (Instr.indexAt 54 (.slice (some c7) (L.length + 1) (L.length + 1)) (.int .i64 (k : Int))) (.one .addr) fun x26 => wu Try.prog (Instr.storeAt 55 (.pointer (some x26)) (.slice x25.1 x25.2.1 x25.2.2)) w16 fun w27 => K () w27 := by
        intro hq w16 hb hs A
        refine z_i64 (by omega) ?_
        refine A.get (j := k + 1) (by omega) (Nat.le_refl _) (by omega) fun x25 hx25 O25 => ?_
        refine A.set hk rfl fun w27 hs' O27 ehs A27 g27 _ => ?_
        refine hK () _ ⟨hb.grown g27 fun c hc => (A.th.lt c hc).1, hs', O27, A27.len, fun j h1 h2 => ?_⟩
        rcases Nat.eq_or_lt_of_le h1 with q | q
        · subst q
          refine ⟨x25, by rw [ehs, List.getElem?_set, if_pos rfl, if_pos (by rw [A.len]; omega)], ?_⟩
          obtain ⟨y, y1, y2⟩ := A27.tab (k + 1) (Nat.le_refl _) (by omega)
          rw [ehs, List.getElem?_set, if_neg (by omega), hx25] at y1
          injection y1 with y1
          subst y1
          rw [hdrop, mk_congr (g := mst (L.drop (k + 1))) fun R _ => by rw [mst_cons, if_pos hq]]
          exact y2
        · exact A27.tab j q h2
      refine nat_eq0 (fun e0 => same (.inl e0) hb A) (fun e0 => ?_)
      refine z_i64 (by omega) ?_
      refine sl_from tyI (m := k + 1) (by omega) (by omega) fun x29 _ hsl => ?_
      have S29 := hsl w16 _ (O.sl.up hb)
      have e29 : List.drop (k + 1) (nats .i64 L) = nats .i64 (L.drop (k + 1)) := by simp [nats, List.map_drop]
      rw [e29] at S29
      refine call_mono (containsF x29 (L.drop (k + 1)) c w16 S29) ?_
      rintro (x30 : Bool) w31 ⟨rfl, h31⟩
      replace hb := hb.trans h31
      replace A := A.up h31
      refine br_dec (fun ec => same (.inr ec) hb A) (fun ec => ?_)
      have hno : ¬ (c = 0 ∨ c ∈ L.drop (k + 1)) := fun q => q.elim e0 ec
      refine z_i64 (by omega) ?_
      refine A.get (j := k + 1) (by omega) (Nat.le_refl _) (by omega) fun x39 hx39 O39 => ?_
      have l39 := O39.sl.nat
      rw [mk_len] at l39
      refine call_mono (clone8F x39 _ w31 w4.heap.size O39 (by omega) (by rw [mk_len]; omega)) ?_
      rintro (x40 : Hdr) w41 ⟨ad, cc, ex, hfresh, O40, h41⟩
      subst ex
      rw [← l39] at O40 ⊢
      replace hb := hb.trans h41
      have hold : ∀ {h : Hdr} {xs : List Nat}, OwnU w31 w4.heap.size h xs → ∀ c, blk h.1 = some c → c < w31.heap.size := fun O c hc => (O.lt c hc).2
      have A31 := A
      replace A := A.up h41
      refine A.set hk rfl fun w43 hs' O43 ehs A43 g43 s43 => ?_
      have hb43 := hb.grown g43 fun c hc => (A.th.lt c hc).1
      have x7lt : c7.block < w31.heap.size := (A31.th.lt c7.block rfl).2
      replace O40 : Own w43 w31.heap.size 5 1 (some ad) (2 ^ n) cc (nats .u8 (mk (2 ^ n) (mst (L.drop (k + 1))))) := own_keep O40 g43 (fun c hc e => by have := (O40.lt c hc).1; have : c7.block = c := blk_eq e; omega)
      have tabs : ∀ {w' : World}, w43.grownBy w' (some ad.block) → AT w' w4.heap.size (some c7, L.length + 1, L.length + 1) hs' L n (k + 1) := fun {w'} hg =>
        ⟨own_keep A43.th hg (fun c hc e => by have := blk_eq hc; injection e with e; omega), A43.len, fun j h1 h2 => by
          obtain ⟨x, q1, q2⟩ := A43.tab j h1 h2
          refine ⟨x, q1, own_keep q2 hg (fun c hc e => ?_)⟩
          injection e with e
          obtain ⟨y, y1, y2⟩ := A31.tab j h1 h2
          rw [ehs, List.getElem?_set, if_neg (by omega), y1] at q1
          injection q1 with q1
          subst q1
          have := hold y2 c hc
          omega⟩
      refine loop_up (2 ^ n) (fun R w' => w43.grownBy w' (some ad.block) ∧ Own w' w31.heap.size 5 1 (some ad) (2 ^ n) cc (nats .u8 (mk (2 ^ n) fun S => if S < R then mst (c :: L.drop (k + 1)) S else mst (L.drop (k + 1)) S)))
        ⟨grown_refl _ _, by rw [mk_congr (g := mst (L.drop (k + 1))) fun R _ => by rw [if_neg (by omega)]]; exact O40⟩ fun R w46 hR ⟨hg, OC⟩ again2 hag2 _ => ?_
      refine br_dec (fun e1 => ?_) (fun e1 => ?_)
      · dsimp only at e1
        have hRn : R < 2 ^ n := by omega
        refine join_mk (fun _ w' => w43.grownBy w' (some ad.block) ∧ Own w' w31.heap.size 5 1 (some ad) (2 ^ n) cc (nats .u8 (mk (2 ^ n) fun S => if S < R + 1 then mst (c :: L.drop (k + 1)) S else mst (L.drop (k + 1)) S))) (fun K2 hK2 => ?_) (fun _ w49 hJ _ => ?_)
        · refine z_dif (a := c) (b := R) rfl rfl (lt63 hcn v1) (lt63 hRn v1) ?_
          refine nat_eq0 (fun ed => ?_) (fun ed => ?_)
          · refine drw_mk fun w52 h52 _ => ?_
            have hg52 : w43.grownBy w52 (some ad.block) := hg.trans (grown_of_bel h52 _)
            replace OC : Own w52 w31.heap.size 5 1 (some ad) (2 ^ n) cc _ := Own.kept OC h52
            have A52 := tabs hg52
            have hd0 : hs'[k]? = some (some ad, 2 ^ n, cc) := by rw [ehs, List.getElem?_set, if_pos rfl, if_pos (by rw [A.len]; omega)]
            have rdk : ∀ {K : Hdr → Prop}, K (some ad, 2 ^ n, cc) → rdp Try.prog (Instr.indexAt 54 (.slice (some c7) (L.length + 1) (L.length + 1)) (.int .i64 (k : Int))) (.one .addr) fun a => rd Try.prog (Instr.loadAt 55 (.pointer (some a))) (.one .slice) w52 K := fun {K} hK =>
              at_hdr tyU2 (by kernel_rfl) A52.th.sl rfl (show k < L.length + 1 by omega) fun x hx => by
                rw [hd0] at hx
                injection hx with hx
                subst hx; exact hK
            refine rdk ?_
            refine rdk ?_
            refine u8_mk (h := (some ad, 2 ^ n, cc)) OC.sl rfl (by rw [mk_len]; exact hRn) fun x58 hx58 => ?_
            rw [mk_at hRn, if_neg (by omega)] at hx58
            injection hx58 with hx58
            refine z_i64 (by omega) ?_
            refine A52.get (j := k + 1) (by omega) (Nat.le_refl _) (by omega) fun x61 _ O61 => ?_
            have hdl := dif_lt (b := c) hRn
            refine z_dif (a := R) (b := c) rfl rfl (lt63 hRn v1) (lt63 hcn v1) ?_
            refine u8_mk O61.sl rfl (by rw [mk_len]; exact hdl) fun x64 hx64 => ?_
            rw [mk_at hdl] at hx64
            injection hx64 with hx64
            have m1 := mbound _ (dif R c) hl' hdl
            have m2 := mbound _ R hl' hRn
            refine z_u8 (by omega) ?_
            refine maxu ?_
            have ev : max (x58 : Int) (1 + (x64 : Int)) = ((max x58 (1 + x64) : Nat) : Int) := by omega
            rw [ev]
            refine set_mk tyU OC rfl hRn rfl fun w68 O68 g68 _ => ?_
            rw [nats_set, mk_set] at O68
            refine hK2 () _ ⟨hg52.trans g68, ?_⟩
            rw [mk_congr (g := fun j => if j = R then max x58 (1 + x64) else if j < R then mst (c :: L.drop (k + 1)) j else mst (L.drop (k + 1)) j) fun j _ => ?_]
            · exact O68
            · by_cases z : j = R
              · subst z
                rw [if_pos (by omega), if_pos rfl, mst_cons, if_neg hno, if_pos ed, hx58, hx64]
              · rw [if_neg z]
                by_cases z2 : j < R
                · rw [if_pos (by omega), if_pos z2]
                · rw [if_neg (by omega), if_neg z2]
          · refine hK2 () _ ⟨hg, ?_⟩
            rw [mk_congr (g := fun j => if j < R then mst (c :: L.drop (k + 1)) j else mst (L.drop (k + 1)) j) fun j _ => ?_]
            · exact OC
            · by_cases z : j = R
              · subst z
                rw [if_pos (by omega), if_neg (by omega), mst_cons, if_neg hno, if_neg ed]
              · by_cases z2 : j < R
                · rw [if_pos (by omega), if_pos z2]
                · rw [if_neg (by omega), if_neg z2]
        · refine z_i64 (by dsimp only; omega) ?_
          exact hag2 _ hRn hJ
      · dsimp only at e1
        have hRn : R = 2 ^ n := by omega
        subst hRn
        have A46 := tabs hg
        refine hK () _ ⟨hb43.grownAt hg (by omega), hs', A46.th, A46.len, fun j h1 h2 => ?_⟩
        rcases Nat.eq_or_lt_of_le h1 with q | q
        · subst q
          refine ⟨(some ad, 2 ^ n, cc), by rw [ehs, List.getElem?_set, if_pos rfl, if_pos (by rw [A.len]; omega)], ?_⟩
          rw [hdrop, mk_congr (g := fun S => if S < 2 ^ n then mst (c :: L.drop (k + 1)) S else mst (L.drop (k + 1)) S) fun R hR => by rw [if_pos hR]]
          exact own_base OC (by have := h31.size; have := hb.size; omega)
        · exact A46.tab j q h2
    · refine z_i64 (by omega) ?_
      exact hag k _ _ ⟨rfl, by omega, hJ⟩ (by omega)
  · dsimp only at e
    have hk0 : k = 0 := by omega
    subst hk0
    clear hag again
    refine z_i64 (by omega) ?_
    have e0 : ((2 ^ n : Nat) : Int) - 1 = ((2 ^ n - 1 : Nat) : Int) := by omega
    rw [e0]
    refine loop_gh (G := Nat × Nat × List Nat) (fun g s w' => s.1 = ((g.2.1 : Nat) : Int) ∧ s.2.2 = ((g.1 : Int), ()) ∧ g.1 ≤ L.length ∧ g.2.1 < 2 ^ n ∧ bel w16 w' ∧ OwnN w' w16.heap.size s.2.1 g.2.2 ∧ aprt L 0 (2 ^ n - 1) = g.2.2 ++ aprt (L.drop g.1) g.1 g.2.1 ∧ g.2.2.length ≤ g.1) (fun g => L.length - g.1) (0, 2 ^ n - 1, [])
      ⟨rfl, rfl, Nat.zero_le _, by dsimp only; omega, bel.refl _, Own.nil _ _ _ _, rfl, Nat.le_refl _⟩ ?_
    rintro ⟨k, R, out⟩ ⟨sR, q, s⟩ w72 ⟨rfl, rfl, hk, hR, hb72, Oq, hap, hol⟩ again hag _
    dsimp only at hk hR Oq hap hol hag
    refine br_dec (fun e1 => ?_) (fun e1 => ?_)
    · dsimp only at e1
      have hkL : k < L.length := by omega
      refine join_mk (fun s w' => ∃ R' out', s.1 = ((R' : Nat) : Int) ∧ R' < 2 ^ n ∧ bel w16 w' ∧ OwnN w' w16.heap.size s.2.1 out' ∧ aprt L 0 (2 ^ n - 1) = out' ++ aprt (L.drop (k + 1)) (k + 1) R' ∧ out'.length ≤ k + 1) (fun K hK => ?_) (fun s w75 hJ _ => ?_)
      · refine nat_mk ((O.sl.up hb).up hb72) rfl hkL fun c hc => ?_
        have hcm := List.mem_of_getElem? hc
        have hcn := hM c hcm
        have hdrop : L.drop k = c :: L.drop (k + 1) := by
          rw [List.drop_eq_getElem_cons hkL]
          congr 1
          rw [List.getElem?_eq_getElem hkL] at hc
          injection hc
        have hl' : ∀ d ∈ L.drop (k + 1), d < 2 ^ n := fun d hd => hM d (List.mem_of_mem_drop hd)
        rw [hdrop] at hap
        refine drw_mk fun w79 h79 _ => ?_
        replace hb72 := hb72.trans h79
        replace Oq : OwnN w79 w16.heap.size q out := Own.kept Oq h79
        have A79 := A.up hb72
        have no : ¬ (c ≠ 0 ∧ dif c R = 0 ∧ 1 + mst (L.drop (k + 1)) (dif R c) = mst (c :: L.drop (k + 1)) R) → K (((R : Nat) : Int), q, ()) w79 := fun hq => by
          refine hK _ _ ⟨R, out, rfl, hR, hb72, Oq, ?_, by omega⟩
          rw [hap, aprt, if_neg hq]
        refine nat_ne0 (fun ec => ?_) (fun ec => no fun q => q.1 ec)
        refine z_dif (a := c) (b := R) rfl rfl (lt63 hcn v1) (lt63 hR v1) ?_
        refine nat_eq0 (fun ed => ?_) (fun ed => no fun q => ed q.2.1)
        refine z_i64 (by dsimp only; omega) ?_
        refine A79.get (j := k + 1) (by dsimp only; omega) (Nat.zero_le _) (by omega) fun x83 _ O83 => ?_
        have hdl := dif_lt (b := c) hR
        refine z_dif (a := R) (b := c) rfl rfl (lt63 hR v1) (lt63 hcn v1) ?_
        refine u8_mk O83.sl rfl (by rw [mk_len]; exact hdl) fun x86 hx86 => ?_
        rw [mk_at hdl] at hx86
        injection hx86 with hx86
        have m1 := mbound _ (dif R c) hl' hdl
        refine z_u8 (by omega) ?_
        refine A79.get (j := k) rfl (Nat.zero_le _) (by omega) fun x89 _ O89 => ?_
        refine u8_mk O89.sl rfl (by rw [mk_len]; exact hR) fun x91 hx91 => ?_
        rw [mk_at hR, hdrop] at hx91
        injection hx91 with hx91
        refine br_eq (fun e2 => ?_) (fun e2 => no fun q => e2 (by have := q.2.2; omega))
        have lq := Oq.sl.nat
        have := hb72.size
        refine wr_app1 tyI Oq (by omega) rfl (by omega) (by omega) rfl rfl (by omega) (by unfold maxLen; omega) fun a' c' w95 O95 g95 _ _ => ?_
        refine z_dif (a := R) (b := c) rfl rfl (lt63 hR v1) (lt63 hcn v1) ?_
        refine hK _ _ ⟨dif R c, out ++ [k], rfl, hdl, hb72.grown g95 fun b hb => (Oq.lt b hb).1, ?_, ?_, by simp; omega⟩
        · show Own w95 _ _ 1 a' (q.2.1 + 1) c' (nats .i64 (out ++ [k]))
          rw [nats_snoc]; exact O95
        · rw [hap, aprt, if_pos ⟨ec, ed, by omega⟩]; simp
      · obtain ⟨R', out', j1, j2, j3, j4, j5, j6⟩ := hJ
        obtain ⟨t1, t2, _⟩ := s
        dsimp only at j1 j4
        subst j1
        refine z_i64 (by dsimp only; omega) ?_
        exact hag (k + 1, R', out') _ _ ⟨rfl, rfl, by dsimp only; omega, j2, j3, j4, j5, j6⟩ (by dsimp only; omega)
    · dsimp only at e1
      have hkL : k = L.length := by omega
      subst hkL
      rw [List.drop_length, aprt, List.append_nil] at hap
      refine ⟨(q, (0 : Int), ()), rfl, .inl ⟨V, rfl, ?_⟩, (h24.trans hb).trans hb72⟩
      rw [hap]
      have := hb.size
      exact own_base Oq (by omega)
end Go.Proofs.Ytaomejbaocehnaa
