/- The calculus, ninth part: how its words are proved; memory. -/
import Derived.Test.YtinmlgolbikoeaaVH
import Derived.Test.YtinmlgolbikoeaaLib
import Derived.IntWalk
namespace Go.V
open Go Go.RowKit Go.Q

/-! ### tests, numbers, joins, loops, calls -/
theorem br_dec {p : Prop} [Decidable p] {A B : Prop} (h1 : p → A) (h2 : ¬ p → B) : br (decide p) A B :=
  ⟨fun h => h1 (of_decide_eq_true h), fun h => h2 (of_decide_eq_false h)⟩
theorem br_eq {a b : Int} {A B : Prop} (h1 : a = b → A) (h2 : ¬ a = b → B) : br (a == b) A B := ⟨fun h => h1 (by simpa using h), fun h => h2 (by simpa using h)⟩
theorem br_ne {a b : Int} {A B : Prop} (h1 : ¬ a = b → A) (h2 : a = b → B) : br (a != b) A B := ⟨fun h => h1 (by simpa using h), fun h => h2 (by simpa using h)⟩
theorem br_not {c : Bool} {A B : Prop} (h1 : c = false → A) (h2 : c = true → B) : br (!c) A B := ⟨fun h => h1 (by simpa using h), fun h => h2 (by simpa using h)⟩
theorem br_mk {c : Bool} {A B : Prop} (h1 : c = true → A) (h2 : c = false → B) : br c A B := ⟨h1, h2⟩
theorem br_t {c : Bool} {A B : Prop} (h : c = true) (h1 : A) : br c A B := ⟨fun _ => h1, (fun h2 => by rw [h] at h2; cases h2)⟩
theorem br_f {c : Bool} {A B : Prop} (h : c = false) (h1 : B) : br c A B := ⟨(fun h2 => by rw [h] at h2; cases h2), fun _ => h1⟩
theorem z_i64 {n : Int} {k : Int → Prop} (h : -9223372036854775808 ≤ n ∧ n ≤ 9223372036854775807) (hk : k n) : z (IntKind.wrap .i64 n) k := by unfold z; rw [IntWalk.i64_in n h]; exact hk
theorem z_u64 {n : Int} {k : Int → Prop} (h : 0 ≤ n ∧ n ≤ 18446744073709551615) (hk : k n) : z (IntKind.wrap .u64 n) k := by unfold z; rw [IntWalk.u64_in n h]; exact hk
theorem z_u32 {n : Int} {k : Int → Prop} (h : 0 ≤ n ∧ n ≤ 4294967295) (hk : k n) : z (IntKind.wrap .u32 n) k := by unfold z; rw [IntWalk.u32_in n h]; exact hk
theorem z_i32 {n : Int} {k : Int → Prop} (h : -2147483648 ≤ n ∧ n ≤ 2147483647) (hk : k n) : z (IntKind.wrap .i32 n) k := by unfold z; rw [IntWalk.i32_in n h]; exact hk
theorem z_u8 {n : Int} {k : Int → Prop} (h : 0 ≤ n ∧ n ≤ 255) (hk : k n) : z (IntKind.wrap .u8 n) k := by unfold z; rw [IntWalk.u8_in n h]; exact hk
theorem z_eq {n m : Int} {k : Int → Prop} (h : n = m) (hk : k m) : z n k := by unfold z; rw [h]; exact hk
theorem nn_mk {a : Option Addr} {ad : Addr} {k : Addr → Prop} (h : a = some ad) (hk : k ad) : nn a k := ⟨ad, h, hk⟩
theorem join_in {T : Type} {K : T → World → Prop} {B : (T → World → Prop) → Prop} (h : B K) : join K B := h
theorem join_mk {T : Type} {K : T → World → Prop} {B : (T → World → Prop) → Prop} (J : T → World → Prop) (h1 : ∀ K', (∀ x w, J x w → K' x w) → B K') (h2 : ∀ x w, J x w → K x w) : join K B := h1 K h2
theorem loop_mk {T : Type} {x0 : T} {w0 : World} {body : (T → World → Prop) → T → World → Prop} (I : T → World → Prop) (μ : T → World → Nat) (h0 : I x0 w0)
    (h : ∀ x w, I x w → ∀ again, (∀ x' w', I x' w' → μ x' w' < μ x w → again x' w') → body again x w) : loop x0 w0 body :=
  ⟨I, μ, h0, fun x w hI => h x w hI _ fun _ _ h1 h2 => ⟨h1, h2⟩⟩
theorem bel_drew (w : World) : bel w { w with drawn := w.drawn + 1 } := ⟨rfl, rfl, rfl, Nat.le_refl _, fun _ _ => rfl⟩
theorem drw_mk {w : World} {k : World → Prop} (h : ∀ w', bel w w' → w'.heap.size = w.heap.size → k w') : drw w k := h _ (bel_drew w) rfl
theorem flEx_mk {B : Facts → Prop} (Φ : Facts) (h1 : ∀ i as v w w', Φ i as v w → bel w w' → Φ i as v w') (h2 : B Φ) : flEx B := ⟨Φ, h1, h2⟩
theorem flc_mk {E : Rel} {w0 : World} {pre ob : World → Prop} {T : Type} {nxt : T → Prop} (h1 : ∀ w, E w0 w → pre w → ob w) (h2 : ∀ x, nxt x) : flc E w0 pre ob nxt := ⟨h1, h2⟩
theorem flend_mk {E : Rel} {w0 : World} {pre k : World → Prop} (h : ∀ w, E w0 w → pre w → k w) : flend E w0 pre k := h
theorem call_mono {P : Program} {f : FuncId} {args : List Value} {r : RS} {w : World} {Q k : r.T → World → Prop} (h : call P f args r w Q) (hk : ∀ x w', Q x w' → k x w') : call P f args r w k :=
  Calls.mono h fun _ w' ⟨x, he, hq⟩ => ⟨x, he, hk x w' hq⟩
theorem call_of {P : Program} {f : FuncId} {args : List Value} {r : RS} {w : World} {Q : r.T → World → Prop} (h : Calls P f args.toArray w (ret fun v w' => ∃ x, v = r.val x ∧ Q x w')) : call P f args r w Q :=
  Calls.mono h fun _ w' ⟨v, he, x, hv, hq⟩ => ⟨x, by rw [he, hv], hq⟩

/-! ### values of a shape -/
def Sh.get : (s : Sh) → Value → Option s.T
  | .int k, .int k' n => if k' = k then some n else none
  | .bool, .bool b => some b
  | .str, .string s => some s
  | .slice, .slice a n c => some (a, n, c)
  | .ptr, .pointer a => some a
  | .addr, .pointer (some a) => some a
  | .map, .map r => some r
  | .any, v => some v
  | _, _ => none
theorem Sh.get_spec {s : Sh} {v : Value} {x : s.T} (h : s.get v = some x) : v = s.val x := by
  cases s <;> cases v <;> simp only [Sh.get] at h <;> first
    | (cases h; rfl)
    | cases h
    | skip
  · split at h
    · rename_i e; subst e; cases h; rfl
    · cases h
  · rename_i a
    cases a with
    | none => cases h
    | some a => cases h; rfl
def Lget : (l : List Sh) → List Value → Option (LT l)
  | [], [] => some ()
  | s :: l, v :: vs => match s.get v, Lget l vs with
    | some x, some y => some (x, y)
    | _, _ => none
  | _, _ => none
theorem Lget_spec : ∀ {l : List Sh} {vs : List Value} {x : LT l}, Lget l vs = some x → vs = Lval l x
  | [], [], x, h => rfl
  | [], _ :: _, x, h => by simp [Lget] at h
  | _ :: _, [], x, h => by simp [Lget] at h
  | s :: l, v :: vs, x, h => by
    unfold Lget at h
    split at h
    · rename_i a b ha hb
      cases h
      rw [Sh.get_spec ha, Lget_spec hb]; rfl
    · cases h

/-! ### the table of types -/
def scal (P : Program) (t : TypeId) : Bool :=
  match P.underlying t with
  | some (.struct _) | some (.array _ _) => false
  | some _ => true
  | none => false
def aggOf (P : Program) (t : TypeId) (n : Nat) : Bool :=
  match P.underlying t with
  | some (.struct _) | some (.array _ _) => (P.info? t).any fun i => i.size == n
  | _ => false
def sizeIs (P : Program) (t : TypeId) (n : Nat) : Bool := (P.info? t).any fun i => i.size == n
def sliceOf (P : Program) (t e : TypeId) (n : Nat) : Bool :=
  match P.underlying t with
  | some (.slice e') => e' == e && sizeIs P e n
  | _ => false
theorem run_isAgg_f {P : Program} {t : TypeId} {w : World} (h : scal P t = true) : (isAgg t).run P w = .ok false w := by
  unfold scal at h
  unfold isAgg underlying
  cases hu : P.underlying t with
  | none => rw [hu] at h; cases h
  | some d => rw [hu] at h; simp only [Sem.run_bind, run_program, Result.andThen_ok, hu]; cases d <;> first | (cases h; done) | rfl
theorem run_sizeOf {P : Program} {t : TypeId} {n : Nat} {w : World} (h : sizeIs P t n = true) : (sizeOf t).run P w = .ok n w := by
  unfold sizeIs at h
  unfold sizeOf typeInfo
  simp only [Sem.run_bind, run_program, Result.andThen_ok]
  cases hu : P.info? t with
  | none => rw [hu] at h; cases h
  | some i => rw [hu] at h; simp at h; simp [h]
theorem run_isAgg_t {P : Program} {t : TypeId} {n : Nat} {w : World} (h : aggOf P t n = true) : (isAgg t).run P w = .ok true w ∧ (sizeOf t).run P w = .ok n w := by
  unfold aggOf at h
  constructor
  · unfold isAgg underlying
    cases hu : P.underlying t with
    | none => rw [hu] at h; cases h
    | some d => rw [hu] at h; simp only [Sem.run_bind, run_program, Result.andThen_ok, hu]; cases d <;> first | (cases h; done) | rfl
  · refine run_sizeOf ?_
    unfold sizeIs
    split at h <;> first | exact h | cases h
theorem run_under_slice {P : Program} {t e : TypeId} {n : Nat} {w : World} (h : sliceOf P t e n = true) : (underlying t).run P w = .ok (.slice e) w ∧ sizeIs P e n = true ∧ P.underlying t = some (.slice e) := by
  unfold sliceOf at h
  split at h
  · rename_i e' hu
    simp only [Bool.and_eq_true, beq_iff_eq] at h
    obtain ⟨rfl, h2⟩ := h
    refine ⟨?_, h2, hu⟩
    unfold underlying
    simp only [Sem.run_bind, run_program, Result.andThen_ok, hu, Sem.run_pure]
  · cases h

/-! ### loads -/
theorem cell_lt {w : World} {ad : Addr} {v : Value} (h : w.cell? ad = some v) : ad.block < w.heap.size := by
  unfold World.cell? at h
  cases hb : w.heap[ad.block]? with
  | none => rw [hb] at h; cases h
  | some o => exact (Array.getElem?_eq_some_iff.1 hb).1
theorem bel.cell {w w' : World} {ad : Addr} {v : Value} (h : bel w w') (hc : w.cell? ad = some v) : w'.cell? ad = some v := by
  rw [Below.cell h (cell_lt hc)]; exact hc
theorem run_loadVar1 {P : Program} {t : TypeId} {ad : Addr} {v : Value} {w : World} (ht : scal P t = true) (h : w.cell? ad = some v) : (loadVar t ad).run P w = .ok v w := by
  unfold loadVar
  simp only [Sem.run_bind, run_isAgg_f ht, Result.andThen_ok, Bool.false_eq_true, if_false, run_load, h]
theorem run_loadCellsFrom {P : Program} {ad : Addr} {w : World} : ∀ (n i : Nat) (acc : Array Value) (vs : List Value), vs.length = n → (∀ j v, vs[j]? = some v → w.cell? (ad.add (i + j)) = some v) →
    (loadCellsFrom ad i n acc).run P w = .ok (acc ++ vs.toArray) w
  | 0, i, acc, vs, hl, _ => by
    have : vs = [] := List.eq_nil_of_length_eq_zero hl
    subst this; simp [loadCellsFrom]
  | n + 1, i, acc, vs, hl, h => by
    cases vs with
    | nil => simp at hl
    | cons v vs =>
      have h0 := h 0 v (by simp)
      simp only [loadCellsFrom, Sem.run_bind, run_load]
      rw [show i = i + 0 from rfl, h0]
      simp only [Result.andThen_ok, Nat.add_zero]
      rw [run_loadCellsFrom n (i + 1) (acc.push v) vs (by simpa using hl) fun j u hj => by
        have := h (j + 1) u (by simpa using hj)
        rwa [show i + (j + 1) = i + 1 + j by omega] at this]
      simp
theorem run_loadVarN {P : Program} {t : TypeId} {ad : Addr} {vs : List Value} {w : World} (ht : aggOf P t vs.length = true) (h : ∀ j v, vs[j]? = some v → w.cell? (ad.add j) = some v) :
    (loadVar t ad).run P w = .ok (.agg vs.toArray) w := by
  unfold loadVar
  obtain ⟨h1, h2⟩ := run_isAgg_t (w := w) ht
  simp only [Sem.run_bind, h1, Result.andThen_ok, if_true, h2, loadCells]
  rw [run_loadCellsFrom (vs.length) 0 #[] vs rfl fun j v hj => by rw [Nat.zero_add]; exact h j v hj]
  simp
theorem run_loadAt {P : Program} {t : TypeId} {ad : Addr} {w : World} : (Instr.loadAt t (.pointer (some ad))).run P w = (loadVar t ad).run P w := by
  unfold Instr.loadAt Instr.sureAddr
  simp
theorem rd_cell {P : Program} {t : TypeId} {s : Sh} {w : World} {ad : Addr} {v : Value} {x : s.T} {k : s.T → Prop} (ht : scal P t = true) (h : w.cell? ad = some v) (hx : s.get v = some x) (hk : k x) :
    rd P (Instr.loadAt t (.pointer (some ad))) (.one s) w k :=
  ⟨x, fun w' hw => by rw [run_loadAt, run_loadVar1 ht (hw.cell h), Sh.get_spec hx]; rfl, hk⟩
theorem rd_cells {P : Program} {t : TypeId} {l : List Sh} {w : World} {ad : Addr} {vs : List Value} {x : LT l} {k : LT l → Prop} (ht : aggOf P t vs.length = true) (h : ∀ j v, vs[j]? = some v → w.cell? (ad.add j) = some v)
    (hx : Lget l vs = some x) (hk : k x) : rd P (Instr.loadAt t (.pointer (some ad))) (.agg l) w k :=
  ⟨x, fun w' hw => by rw [run_loadAt, run_loadVarN ht (fun j v hj => hw.cell (h j v hj)), Lget_spec hx]; rfl, hk⟩
theorem rd_var {P : Program} {t : TypeId} {s : Sh} {w : World} {ad : Addr} {v : Value} {x : s.T} {k : s.T → Prop} (ht : scal P t = true) (h : w.cell? ad = some v) (hx : s.get v = some x) (hk : k x) :
    rd P (loadVar t ad) (.one s) w k :=
  ⟨x, fun w' hw => by rw [run_loadVar1 ht (hw.cell h), Sh.get_spec hx]; rfl, hk⟩
theorem rd_vars {P : Program} {t : TypeId} {l : List Sh} {w : World} {ad : Addr} {vs : List Value} {x : LT l} {k : LT l → Prop} (ht : aggOf P t vs.length = true) (h : ∀ j v, vs[j]? = some v → w.cell? (ad.add j) = some v)
    (hx : Lget l vs = some x) (hk : k x) : rd P (loadVar t ad) (.agg l) w k :=
  ⟨x, fun w' hw => by rw [run_loadVarN ht (fun j v hj => hw.cell (h j v hj)), Lget_spec hx]; rfl, hk⟩

/-! ### a block of one's own, known whole -/
structure Box (w : World) (a : Addr) (cs : List Value) : Prop where
  off : a.off = 0
  spot : a.spot = none
  blk : ∃ T, w.heap[a.block]? = some (.cells cs.toArray T (0, 0))
theorem Box.lt {w : World} {a : Addr} {cs : List Value} (h : Box w a cs) : a.block < w.heap.size := by
  obtain ⟨T, hT⟩ := h.blk; exact (Array.getElem?_eq_some_iff.1 hT).1
theorem Box.eq {w : World} {a : Addr} {cs : List Value} (h : Box w a cs) : a = ⟨a.block, 0, none⟩ := by
  obtain ⟨b, o, s⟩ := a; have h1 := h.off; have h2 := h.spot; dsimp only at h1 h2; subst h1 h2; rfl
theorem Box.cell {w : World} {a : Addr} {cs : List Value} (h : Box w a cs) {i : Nat} {v : Value} (hi : cs[i]? = some v) : w.cell? (a.add i) = some v := by
  obtain ⟨T, hT⟩ := h.blk
  rw [h.eq, Addr.add_lit, Nat.zero_add]
  unfold World.cell?
  simp only [hT, Option.isSome_none, Bool.false_eq_true, if_false]
  simpa using hi
theorem Box.cell0 {w : World} {a : Addr} {cs : List Value} (h : Box w a cs) {v : Value} (hi : cs[0]? = some v) : w.cell? a = some v := by
  have := h.cell hi; rwa [add_zero] at this
theorem Box.up {w w' : World} {a : Addr} {cs : List Value} (h : Box w a cs) (hb : bel w w') : Box w' a cs :=
  ⟨h.off, h.spot, by obtain ⟨T, hT⟩ := h.blk; exact ⟨T, by rw [Below.block hb _ h.lt]; exact hT⟩⟩
theorem Box.grown {w w' : World} {a : Addr} {cs : List Value} {row : Option Nat} (h : Box w a cs) (hg : w.grownBy w' row) (hne : some a.block ≠ row) : Box w' a cs :=
  ⟨h.off, h.spot, by obtain ⟨T, hT⟩ := h.blk; exact ⟨T, by rw [hg.block _ h.lt hne]; exact hT⟩⟩
theorem Box.ne {w : World} {a b : Addr} {cs : List Value} (h : Box w a cs) (hb : b.block = w.heap.size) : some a.block ≠ some b.block := by
  intro e; have := h.lt; injection e with e; omega
theorem rd_box {P : Program} {t : TypeId} {s : Sh} {w : World} {a : Addr} {cs : List Value} {i : Nat} {v : Value} {x : s.T} {k : s.T → Prop} (ht : scal P t = true) (h : Box w a cs) (hi : cs[i]? = some v) (hx : s.get v = some x) (hk : k x) :
    rd P (Instr.loadAt t (.pointer (some (a.add i)))) (.one s) w k := rd_cell ht (h.cell hi) hx hk
theorem rd_box0 {P : Program} {t : TypeId} {s : Sh} {w : World} {a : Addr} {cs : List Value} {v : Value} {x : s.T} {k : s.T → Prop} (ht : scal P t = true) (h : Box w a cs) (hi : cs[0]? = some v) (hx : s.get v = some x) (hk : k x) :
    rd P (Instr.loadAt t (.pointer (some a))) (.one s) w k := rd_cell ht (h.cell0 hi) hx hk
theorem rd_boxN {P : Program} {t : TypeId} {l : List Sh} {w : World} {a : Addr} {cs : List Value} {x : LT l} {k : LT l → Prop} (h : Box w a cs) (ht : aggOf P t cs.length = true) (hx : Lget l cs = some x) (hk : k x) :
    rd P (Instr.loadAt t (.pointer (some a))) (.agg l) w k := rd_cells ht (fun _ _ hj => h.cell hj) hx hk
theorem rd_boxV {P : Program} {t : TypeId} {l : List Sh} {w : World} {a : Addr} {cs : List Value} {x : LT l} {k : LT l → Prop} (h : Box w a cs) (ht : aggOf P t cs.length = true) (hx : Lget l cs = some x) (hk : k x) :
    rd P (loadVar t a) (.agg l) w k := rd_vars ht (fun _ _ hj => h.cell hj) hx hk
theorem rd_boxV1 {P : Program} {t : TypeId} {s : Sh} {w : World} {a : Addr} {cs : List Value} {v : Value} {x : s.T} {k : s.T → Prop} (ht : scal P t = true) (h : Box w a cs) (hi : cs[0]? = some v) (hx : s.get v = some x) (hk : k x) :
    rd P (loadVar t a) (.one s) w k := rd_var ht (h.cell0 hi) hx hk

theorem bel_alloc (w : World) (o : Obj) : bel w (w.alloc o) := (Below.refl _ w).alloc (Nat.le_refl _) o
theorem grown_of_bel {w w' : World} (h : bel w w') (row : Option Nat) : w.grownBy w' row := ⟨h.os, h.tape, h.output, h.size, fun k hk _ => h.block k hk⟩
theorem bel_of_grown {w w' : World} (h : w.grownBy w' none) : bel w w' := ⟨h.os, h.tape, h.output, h.size, fun k hk => h.block k hk (by simp)⟩
/-- from the world of the entry: a step that writes a block of the call's own -/
theorem bel.grown {a w w' : World} {row : Option Nat} (h : bel a w) (hg : w.grownBy w' row) (hr : ∀ k, row = some k → a.heap.size ≤ k) : bel a w' := Below.grown h hg h.size hr
theorem box_new (w : World) (cs : Array Value) (T : TypeId) : Box (w.alloc (.cells cs T)) ⟨w.heap.size, 0, none⟩ cs.toList :=
  ⟨rfl, rfl, T, heap_alloc_new w _⟩
theorem wr_box {P : Program} {w : World} {e : TypeId} {v : Value} {k : Addr → World → Prop}
    (hk : ∀ a w', Box w' a v.cells.toList → bel w w' → a.block = w.heap.size → w'.heap.size = w.heap.size + 1 → k a w') : wr P (Instr.box e v) (.one .addr) w k :=
  ⟨⟨w.heap.size, 0, none⟩, w.alloc (.cells v.cells e), rfl, hk _ _ (box_new w _ _) (bel_alloc _ _) rfl (by simp)⟩
theorem wr_alloc {P : Program} {w : World} {e : TypeId} {z : Value} {k : Addr → World → Prop} (hz : zeroOf P e = some z)
    (hk : ∀ a w', Box w' a z.cells.toList → bel w w' → a.block = w.heap.size → w'.heap.size = w.heap.size + 1 → k a w') : wr P (Instr.alloc e true (.tuple #[])) (.one .addr) w k := by
  refine ⟨⟨w.heap.size, 0, none⟩, w.alloc (.cells z.cells e), ?_, hk _ _ (box_new w _ _) (bel_alloc _ _) rfl (by simp)⟩
  unfold zeroOf at hz
  unfold Instr.alloc zeroValue typeInfo
  simp only [Sem.run_bind, run_program, Result.andThen_ok]
  cases hi : P.info? e with
  | none => rw [hi] at hz; cases hz
  | some i =>
    rw [hi] at hz
    simp only [Option.bind_some] at hz
    simp only [Sem.run_pure, Result.andThen_ok, hz]
    rfl
/-- values of one cell each -/
def plainV (vs : List Value) : Bool := vs.all (·.oneCell')
def putAt (cs : List Value) (i : Nat) : List Value → List Value
  | [] => cs
  | v :: vs => putAt (cs.set i v) (i + 1) vs
theorem setCell_box {w : World} {a : Addr} {cs : List Value} (h : Box w a cs) (i : Nat) (v : Value) : Box (w.setCell (a.add i) v) a (cs.set i v) := by
  obtain ⟨T, hT⟩ := h.blk
  refine ⟨h.off, h.spot, T, ?_⟩
  rw [h.eq, Addr.add_lit, Nat.zero_add]
  simp only [World.setCell, Array.getElem?_modify, hT]
  simp
theorem setCell_grown (w : World) (p : Addr) (v : Value) : w.grownBy (w.setCell p v) (some p.block) :=
  ⟨rfl, rfl, rfl, by simp [World.setCell], fun k _ hk => Below.heap_setCell _ _ _ _ (fun e => hk (by rw [e]))⟩
theorem grown_refl (w : World) (row : Option Nat) : w.grownBy w row := ⟨rfl, rfl, rfl, Nat.le_refl _, fun _ _ _ => rfl⟩
theorem setCell_size (w : World) (p : Addr) (v : Value) : (w.setCell p v).heap.size = w.heap.size := by simp [World.setCell]
theorem run_storeCells {P : Program} {a : Addr} : ∀ (vs : List Value) (i : Nat) (w : World) (cs : List Value), Box w a cs → i + vs.length ≤ cs.length → plainV vs = true →
    ∃ w', (storeCells a vs i).run P w = .ok () w' ∧ Box w' a (putAt cs i vs) ∧ w.grownBy w' (some a.block) ∧ w'.heap.size = w.heap.size
  | [], i, w, cs, hb, _, _ => ⟨w, rfl, hb, grown_refl _ _, rfl⟩
  | v :: vs, i, w, cs, hb, hl, hp => by
    simp only [plainV, List.all_cons, Bool.and_eq_true] at hp
    simp only [List.length_cons] at hl
    obtain ⟨u, hu⟩ : ∃ u, cs[i]? = some u := ⟨_, List.getElem?_eq_getElem (by omega)⟩
    have hc := hb.cell hu
    have hfz : w.frozen? (a.add i) = false := by
      obtain ⟨T, hT⟩ := hb.blk
      unfold World.frozen?
      rw [add_block, hT]
      simp
    obtain ⟨w', h1, h2, h3, h4⟩ := run_storeCells (P := P) vs (i + 1) (w.setCell (a.add i) v) (cs.set i v) (setCell_box hb i v) (by simp; omega) hp.2
    refine ⟨w', ?_, h2, ?_, by rw [h4, setCell_size]⟩
    · simp only [storeCells, Sem.run_bind]
      rw [run_store P w (a.add i) v .plain hp.1, hc]
      simp only [hfz, Bool.false_eq_true, if_false, Result.andThen_ok, h1]
    · refine World.grownBy.trans ?_ h3
      have := setCell_grown w (a.add i) v
      rwa [add_block] at this
theorem wu_box {P : Program} {w : World} {t : TypeId} {a : Addr} {v : Value} {cs : List Value} {k : World → Prop} (hb : Box w a cs) (ht : sizeIs P t v.cells.size = true) (hl : v.cells.size ≤ cs.length) (hp : plainV v.cells.toList = true)
    (hk : ∀ w', Box w' a (putAt cs 0 v.cells.toList) → w.grownBy w' (some a.block) → w'.heap.size = w.heap.size → k w') : wu P (Instr.storeAt t (.pointer (some a)) v) w k := by
  obtain ⟨w', h1, h2, h3, h4⟩ := run_storeCells (P := P) v.cells.toList 0 w cs hb (by simpa using hl) hp
  refine ⟨w', ?_, hk w' h2 h3 h4⟩
  unfold Instr.storeAt Instr.sureAddr storeVar
  simp only [Sem.run_bind, Sem.run_pure, Result.andThen_ok, run_sizeOf ht]
  simp only [ne_eq, not_true_eq_false, if_false]
  exact h1
theorem wu_boxi {P : Program} {w : World} {t : TypeId} {a : Addr} {i : Nat} {v : Value} {cs : List Value} {k : World → Prop} (hb : Box w a cs) (ht : sizeIs P t 1 = true) (hl : i < cs.length) (hp : v.oneCell' = true)
    (hk : ∀ w', Box w' a (cs.set i v) → w.grownBy w' (some a.block) → w'.heap.size = w.heap.size → k w') : wu P (Instr.storeAt t (.pointer (some (a.add i))) v) w k := by
  have hvc : v.cells = #[v] := by cases v <;> first | rfl | (simp [Value.oneCell'] at hp)
  obtain ⟨u, hu⟩ : ∃ u, cs[i]? = some u := ⟨_, List.getElem?_eq_getElem hl⟩
  have hc := hb.cell hu
  have hfz : w.frozen? (a.add i) = false := by
    obtain ⟨T, hT⟩ := hb.blk
    unfold World.frozen?
    rw [add_block, hT]
    simp
  have hg := setCell_grown w (a.add i) v
  rw [add_block] at hg
  refine ⟨_, ?_, hk _ (setCell_box hb i v) hg (setCell_size _ _ _)⟩
  unfold Instr.storeAt Instr.sureAddr storeVar
  simp only [Sem.run_bind, Sem.run_pure, Result.andThen_ok, run_sizeOf ht, hvc, List.size_toArray, List.length_cons, List.length_nil, Nat.zero_add, ne_eq, not_true_eq_false, if_false]
  simp only [storeCells, Sem.run_bind]
  rw [add_zero, run_store P w (a.add i) v .plain hp, hc]
  simp only [hfz, Bool.false_eq_true, if_false, Result.andThen_ok, Sem.run_pure]
theorem bel.grownAt {a w w' : World} {b : Nat} (h : bel a w) (hg : w.grownBy w' (some b)) (hb : a.heap.size ≤ b) : bel a w' := h.grown hg fun k hk => by injection hk with hk; omega

/-! ### structs of ints compared -/
def intFields (P : Program) : List Field → Nat → Bool
  | [], _ => true
  | f :: fs, i => (f.name != "_") && (match P.underlying f.type with
    | some (.int _) => true | _ => false) && f.offset == i && intFields P fs (i + 1)
def eqInts : List Int → List Int → Bool
  | x :: xs, y :: ys => x == y && eqInts xs ys
  | _, _ => true
theorem run_part1 {P : Program} {t : TypeId} {cs : Array Value} {off : Nat} {v : Value} {w : World} (ht : scal P t = true) (h : cs[off]? = some v) : (part t cs off).run P w = .ok v w := by
  unfold part
  simp only [Sem.run_bind, run_isAgg_f ht, Result.andThen_ok, Bool.false_eq_true, if_false, h, Sem.run_pure]
theorem run_eqInts {P : Program} {k : IntKind} {w : World} (d : Nat) : ∀ (fs : List Field) (pre xs ys qre : List Int), intFields P fs pre.length = true → qre.length = pre.length → xs.length = fs.length → ys.length = fs.length →
    (Op.eqFields (d + 1) ((pre ++ xs).map (Value.int k)).toArray ((qre ++ ys).map (Value.int k)).toArray fs).run P w = .ok (eqInts xs ys) w
  | [], pre, xs, ys, qre, _, _, hx, hy => by
    have : xs = [] := List.eq_nil_of_length_eq_zero hx
    subst this
    rfl
  | f :: fs, pre, x :: xs, y :: ys, qre, h, hq, hx, hy => by
    simp only [intFields, Bool.and_eq_true, beq_iff_eq, bne_iff_ne] at h
    obtain ⟨⟨⟨h1, h2⟩, h3⟩, h4⟩ := h
    obtain ⟨k', hu⟩ : ∃ k', P.underlying f.type = some (.int k') := by
      cases hu : P.underlying f.type with
      | none => rw [hu] at h2; cases h2
      | some t => rw [hu] at h2; cases t <;> first | exact ⟨_, rfl⟩ | cases h2
    have hs : scal P f.type = true := by unfold scal; rw [hu]
    have e1 : ((pre ++ x :: xs).map (Value.int k)).toArray[f.offset]? = some (.int k x) := by rw [h3]; simp
    have e2 : ((qre ++ y :: ys).map (Value.int k)).toArray[f.offset]? = some (.int k y) := by rw [h3, ← hq]; simp
    unfold Op.eqFields
    rw [if_pos h1]
    simp only [Sem.run_bind, run_part1 hs e1, run_part1 hs e2, Result.andThen_ok, run_equalIn_int w d f.type k k' x y hu]
    have ih := run_eqInts (k := k) (w := w) d fs (pre ++ [x]) xs ys (qre ++ [y]) (by simpa using h4) (by simp [hq]) (by simpa using hx) (by simpa using hy)
    rw [List.append_assoc, List.append_assoc] at ih
    cases hxy : x == y with
    | true => simp only [Bool.not_true, Bool.false_eq_true, if_false, eqInts, hxy, Bool.true_and]; exact ih
    | false => simp only [Bool.not_false, if_true, eqInts, hxy, Bool.false_and, Sem.run_pure]
theorem run_eqStruct {P : Program} {t : TypeId} {k : IntKind} {a b : Operand} {xs ys : List Int} {w : World} (h0 : P.eqGuardType P.depth t = false) (h1 : P.underlying t = some (.struct (P.fieldsOf t))) (h2 : P.stoodInHeld t = false)
    (h3 : intFields P (P.fieldsOf t).toList 0 = true) (h4 : xs.length = (P.fieldsOf t).toList.length) (h5 : ys.length = (P.fieldsOf t).toList.length) :
    (cmpS .eql t a b (.agg (xs.map (Value.int k)).toArray) (.agg (ys.map (Value.int k)).toArray)).run P w = .ok (.bool (eqInts xs ys)) w := by
  unfold cmpS
  rw [Sem.run_bind, run_eqGuard_agg _ _ _ _ _ _ _ h0, Result.andThen_ok, run_eql_struct, run_equalIn_agg _ _ _ _ _ h1 h2]
  have := run_eqInts (P := P) (k := k) (w := w) 9998 (P.fieldsOf t).toList [] xs ys [] h3 rfl h4 h5
  simp only [List.nil_append] at this
  rw [this]; rfl
theorem run_neStruct {P : Program} {t : TypeId} {k : IntKind} {a b : Operand} {xs ys : List Int} {w : World} (h0 : P.eqGuardType P.depth t = false) (h1 : P.underlying t = some (.struct (P.fieldsOf t))) (h2 : P.stoodInHeld t = false)
    (h3 : intFields P (P.fieldsOf t).toList 0 = true) (h4 : xs.length = (P.fieldsOf t).toList.length) (h5 : ys.length = (P.fieldsOf t).toList.length) :
    (cmpS .neq t a b (.agg (xs.map (Value.int k)).toArray) (.agg (ys.map (Value.int k)).toArray)).run P w = .ok (.bool (!eqInts xs ys)) w := by
  unfold cmpS
  rw [Sem.run_bind, run_eqGuard_agg _ _ _ _ _ _ _ h0, Result.andThen_ok, run_neq_struct, run_equalIn_agg _ _ _ _ _ h1 h2]
  have := run_eqInts (P := P) (k := k) (w := w) 9998 (P.fieldsOf t).toList [] xs ys [] h3 rfl h4 h5
  simp only [List.nil_append] at this
  rw [this]; rfl
end Go.V
