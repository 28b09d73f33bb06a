import Derived.Test.YtcfghfmlfgaeaaaGreatDoorLib
import Derived.IntWalk
import Derived.Great.BuildSlice
import Derived.Test.YtcfghfmlfgaeaaaGreatDoorOpen
import Derived.DataReads
import Derived.Laws.CopyRow
import Derived.Laws.Strings
import Derived.Laws.Cover1
import Derived.KernelRfl
import Derived.Shelf.Strconv.Itoa2
import Derived.Shelf.Strconv.Itoa3
import Derived.Shelf.Strings.Search3
import Derived.Shelf.GgClosure.StringsIndexFuncTop
import Derived.Maps.Views
import Derived.Maps.OwnSet
import Derived.Laws.Cover3
import Derived.Test.YtcfghfmlfgaeaaaGreatDoorPackTopPrivate2

/- The calculus, ninth part: how its words are proved; memory. -/



namespace Go.V
open Go Go.RowKit Go.Q

/-! ### tests, numbers, joins, loops, calls -/
theorem br_dec {p : Prop} [Decidable p] {A B : Prop} (h1 : p → A) (h2 : ¬ p → B) : br (decide p) A B :=
  ⟨fun h => h1 (of_decide_eq_true h), fun h => h2 (of_decide_eq_false h)⟩
theorem br_eq {a b : Int} {A B : Prop} (h1 : a = b → A) (h2 : ¬ a = b → B) : br (a == b) A B := ⟨fun h => h1 (by simpa using h), fun h => h2 (by simpa using h)⟩
theorem br_ne {a b : Int} {A B : Prop} (h1 : ¬ a = b → A) (h2 : a = b → B) : br (a != b) A B := ⟨fun h => h1 (by simpa using h), fun h => h2 (by simpa using h)⟩
theorem br_mk {c : Bool} {A B : Prop} (h1 : c = true → A) (h2 : c = false → B) : br c A B := ⟨h1, h2⟩
theorem br_t {c : Bool} {A B : Prop} (h : c = true) (h1 : A) : br c A B := ⟨fun _ => h1, (fun h2 => by rw [h] at h2; cases h2)⟩
theorem br_f {c : Bool} {A B : Prop} (h : c = false) (h1 : B) : br c A B := ⟨(fun h2 => by rw [h] at h2; cases h2), fun _ => h1⟩
theorem z_i64 {n : Int} {k : Int → Prop} (h : -9223372036854775808 ≤ n ∧ n ≤ 9223372036854775807) (hk : k n) : z (IntKind.wrap .i64 n) k := by unfold z; rw [IntWalk.i64_in n h]; exact hk
theorem z_eq {n m : Int} {k : Int → Prop} (h : n = m) (hk : k m) : z n k := by unfold z; rw [h]; exact hk
theorem nn_mk {a : Option Addr} {ad : Addr} {k : Addr → Prop} (h : a = some ad) (hk : k ad) : nn a k := ⟨ad, h, hk⟩
theorem join_mk {T : Type} {K : T → World → Prop} {B : (T → World → Prop) → Prop} (J : T → World → Prop) (h1 : ∀ K', (∀ x w, J x w → K' x w) → B K') (h2 : ∀ x w, J x w → K x w) : join K B := h1 K h2
theorem bel_drew (w : World) : bel w { w with drawn := w.drawn + 1 } := ⟨rfl, rfl, rfl, Nat.le_refl _, fun _ _ => rfl⟩
theorem drw_mk {w : World} {k : World → Prop} (h : ∀ w', bel w w' → w'.heap.size = w.heap.size → k w') : drw w k := h _ (bel_drew w) rfl
theorem flEx_mk {B : Facts → Prop} (Φ : Facts) (h1 : ∀ i ags v w w', Φ i ags v w → bel w w' → Φ i ags v w') (h2 : B Φ) : flEx B := ⟨Φ, h1, h2⟩
theorem flc_mk {E : Rel} {w0 : World} {pre ob : World → Prop} {T : Type} {nxt : T → Prop} (h1 : ∀ w, E w0 w → pre w → ob w) (h2 : ∀ x, nxt x) : flc E w0 pre ob nxt := ⟨h1, h2⟩
theorem flend_mk {E : Rel} {w0 : World} {pre k : World → Prop} (h : ∀ w, E w0 w → pre w → k w) : flend E w0 pre k := h
theorem call_mono {P : Program} {f : FuncId} {args : List Value} {r : RS} {w : World} {Q k : r.T → World → Prop} (h : call P f args r w Q) (hk : ∀ x w', Q x w' → k x w') : call P f args r w k :=
  Calls.mono h fun _ w' ⟨x, he, hq⟩ => ⟨x, he, hk x w' hq⟩
theorem call_of {P : Program} {f : FuncId} {args : List Value} {r : RS} {w : World} {Q : r.T → World → Prop} (h : Calls P f args.toArray w (ret fun v w' => ∃ x, v = r.val x ∧ Q x w')) : call P f args r w Q :=
  Calls.mono h fun _ w' ⟨v, he, x, hv, hq⟩ => ⟨x, by rw [he, hv], hq⟩

/-! ### values of a shape -/
def Sh.get : (s : Sh) → Value → Option s.T
  | .int k, .int k' n => if k' = k then some n else none
  | .bool, .bool b => some b
  | .str, .string s => some s
  | .slice, .slice a n c => some (a, n, c)
  | .ptr, .pointer a => some a
  | .addr, .pointer (some a) => some a
  | .map, .map r => some r
  | .any, v => some v
  | _, _ => none
theorem Sh.get_spec {s : Sh} {v : Value} {x : s.T} (h : s.get v = some x) : v = s.val x := by
  cases s <;> cases v <;> simp only [Sh.get] at h <;> first
    | (cases h; rfl)
    | cases h
    | skip
  · split at h
    · rename_i e; subst e; cases h; rfl
    · cases h
  · rename_i a
    cases a with
    | none => cases h
    | some a => cases h; rfl
def Lget : (l : List Sh) → List Value → Option (LT l)
  | [], [] => some ()
  | s :: l, v :: vs => match s.get v, Lget l vs with
    | some x, some y => some (x, y)
    | _, _ => none
  | _, _ => none
theorem Lget_spec : ∀ {l : List Sh} {vs : List Value} {x : LT l}, Lget l vs = some x → vs = Lval l x
  | [], [], x, h => rfl
  | [], _ :: _, x, h => by simp [Lget] at h
  | _ :: _, [], x, h => by simp [Lget] at h
  | s :: l, v :: vs, x, h => by
    unfold Lget at h
    split at h
    · rename_i a b ha hb
      cases h
      rw [Sh.get_spec ha, Lget_spec hb]; rfl
    · cases h

/-! ### the table of types -/
def scal (P : Program) (t : TypeId) : Bool :=
  match P.underlying t with
  | some (.struct _) | some (.array _ _) => false
  | some _ => true
  | none => false
def aggOf (P : Program) (t : TypeId) (n : Nat) : Bool :=
  match P.underlying t with
  | some (.struct _) | some (.array _ _) => (P.info? t).any fun i => i.size == n
  | _ => false
def sizeIs (P : Program) (t : TypeId) (n : Nat) : Bool := (P.info? t).any fun i => i.size == n
theorem run_isAgg_f {P : Program} {t : TypeId} {w : World} (h : scal P t = true) : (isAgg t).run P w = .ok false w := by
  unfold scal at h
  unfold isAgg underlying
  cases hu : P.underlying t with
  | none => rw [hu] at h; cases h
  | some d => rw [hu] at h; simp only [Sem.run_bind, run_program, Result.andThen_ok, hu]; cases d <;> first | (cases h; done) | rfl
theorem run_sizeOf {P : Program} {t : TypeId} {n : Nat} {w : World} (h : sizeIs P t n = true) : (sizeOf t).run P w = .ok n w := by
  unfold sizeIs at h
  unfold sizeOf typeInfo
  simp only [Sem.run_bind, run_program, Result.andThen_ok]
  cases hu : P.info? t with
  | none => rw [hu] at h; cases h
  | some i => rw [hu] at h; simp at h; simp [h]
theorem run_isAgg_t {P : Program} {t : TypeId} {n : Nat} {w : World} (h : aggOf P t n = true) : (isAgg t).run P w = .ok true w ∧ (sizeOf t).run P w = .ok n w := by
  unfold aggOf at h
  constructor
  · unfold isAgg underlying
    cases hu : P.underlying t with
    | none => rw [hu] at h; cases h
    | some d => rw [hu] at h; simp only [Sem.run_bind, run_program, Result.andThen_ok, hu]; cases d <;> first | (cases h; done) | rfl
  · refine run_sizeOf ?_
    unfold sizeIs
    split at h <;> first | exact h | cases h
/-! ### loads -/
theorem cell_lt {w : World} {ad : Addr} {v : Value} (h : w.cell? ad = some v) : ad.block < w.heap.size := by
  unfold World.cell? at h
  cases hb : w.heap[ad.block]? with
  | none => rw [hb] at h; cases h
  | some o => exact (Array.getElem?_eq_some_iff.1 hb).1
theorem bel.cell {w w' : World} {ad : Addr} {v : Value} (h : bel w w') (hc : w.cell? ad = some v) : w'.cell? ad = some v := by
  rw [Below.cell h (cell_lt hc)]; exact hc
theorem run_loadVar1 {P : Program} {t : TypeId} {ad : Addr} {v : Value} {w : World} (ht : scal P t = true) (h : w.cell? ad = some v) : (loadVar t ad).run P w = .ok v w := by
  unfold loadVar
  simp only [Sem.run_bind, run_isAgg_f ht, Result.andThen_ok, Bool.false_eq_true, if_false, run_load, h]
theorem run_loadCellsFrom {P : Program} {ad : Addr} {w : World} : ∀ (n i : Nat) (acc : Array Value) (vs : List Value), vs.length = n → (∀ j v, vs[j]? = some v → w.cell? (ad.add (i + j)) = some v) →
    (loadCellsFrom ad i n acc).run P w = .ok (acc ++ vs.toArray) w
  | 0, i, acc, vs, hl, _ => by
    have : vs = [] := List.eq_nil_of_length_eq_zero hl
    subst this; simp [loadCellsFrom]
  | n + 1, i, acc, vs, hl, h => by
    cases vs with
    | nil => simp at hl
    | cons v vs =>
      have h0 := h 0 v (by simp)
      simp only [loadCellsFrom, Sem.run_bind, run_load]
      rw [show i = i + 0 from rfl, h0]
      simp only [Result.andThen_ok, Nat.add_zero]
      rw [run_loadCellsFrom n (i + 1) (acc.push v) vs (by simpa using hl) fun j u hj => by
        have := h (j + 1) u (by simpa using hj)
        rwa [show i + (j + 1) = i + 1 + j by omega] at this]
      simp
theorem run_loadVarN {P : Program} {t : TypeId} {ad : Addr} {vs : List Value} {w : World} (ht : aggOf P t vs.length = true) (h : ∀ j v, vs[j]? = some v → w.cell? (ad.add j) = some v) :
    (loadVar t ad).run P w = .ok (.agg vs.toArray) w := by
  unfold loadVar
  obtain ⟨h1, h2⟩ := run_isAgg_t (w := w) ht
  simp only [Sem.run_bind, h1, Result.andThen_ok, if_true, h2, loadCells]
  rw [run_loadCellsFrom (vs.length) 0 #[] vs rfl fun j v hj => by rw [Nat.zero_add]; exact h j v hj]
  simp
theorem run_loadAt {P : Program} {t : TypeId} {ad : Addr} {w : World} : (Instr.loadAt t (.pointer (some ad))).run P w = (loadVar t ad).run P w := by
  unfold Instr.loadAt Instr.sureAddr
  simp
theorem rd_cell {P : Program} {t : TypeId} {s : Sh} {w : World} {ad : Addr} {v : Value} {x : s.T} {k : s.T → Prop} (ht : scal P t = true) (h : w.cell? ad = some v) (hx : s.get v = some x) (hk : k x) :
    rd P (Instr.loadAt t (.pointer (some ad))) (.one s) w k :=
  ⟨x, fun w' hw => by rw [run_loadAt, run_loadVar1 ht (hw.cell h), Sh.get_spec hx]; rfl, hk⟩
theorem rd_cells {P : Program} {t : TypeId} {l : List Sh} {w : World} {ad : Addr} {vs : List Value} {x : LT l} {k : LT l → Prop} (ht : aggOf P t vs.length = true) (h : ∀ j v, vs[j]? = some v → w.cell? (ad.add j) = some v)
    (hx : Lget l vs = some x) (hk : k x) : rd P (Instr.loadAt t (.pointer (some ad))) (.agg l) w k :=
  ⟨x, fun w' hw => by rw [run_loadAt, run_loadVarN ht (fun j v hj => hw.cell (h j v hj)), Lget_spec hx]; rfl, hk⟩
theorem rd_vars {P : Program} {t : TypeId} {l : List Sh} {w : World} {ad : Addr} {vs : List Value} {x : LT l} {k : LT l → Prop} (ht : aggOf P t vs.length = true) (h : ∀ j v, vs[j]? = some v → w.cell? (ad.add j) = some v)
    (hx : Lget l vs = some x) (hk : k x) : rd P (loadVar t ad) (.agg l) w k :=
  ⟨x, fun w' hw => by rw [run_loadVarN ht (fun j v hj => hw.cell (h j v hj)), Lget_spec hx]; rfl, hk⟩

/-! ### a block of one's own, known whole -/
structure Box (w : World) (a : Addr) (cs : List Value) : Prop where
  off : a.off = 0
  spot : a.spot = none
  blk : ∃ T, w.heap[a.block]? = some (.cells cs.toArray T (0, 0))
theorem Box.lt {w : World} {a : Addr} {cs : List Value} (h : Box w a cs) : a.block < w.heap.size := by
  obtain ⟨T, hT⟩ := h.blk; exact (Array.getElem?_eq_some_iff.1 hT).1
theorem Box.eq {w : World} {a : Addr} {cs : List Value} (h : Box w a cs) : a = ⟨a.block, 0, none⟩ := by
  obtain ⟨b, o, s⟩ := a; have h1 := h.off; have h2 := h.spot; dsimp only at h1 h2; subst h1 h2; rfl
theorem Box.cell {w : World} {a : Addr} {cs : List Value} (h : Box w a cs) {i : Nat} {v : Value} (hi : cs[i]? = some v) : w.cell? (a.add i) = some v := by
  obtain ⟨T, hT⟩ := h.blk
  rw [h.eq, Addr.add_lit, Nat.zero_add]
  unfold World.cell?
  simp only [hT, Option.isSome_none, Bool.false_eq_true, if_false]
  simpa using hi
theorem Box.cell0 {w : World} {a : Addr} {cs : List Value} (h : Box w a cs) {v : Value} (hi : cs[0]? = some v) : w.cell? a = some v := by
  have := h.cell hi; rwa [add_zero] at this
theorem Box.up {w w' : World} {a : Addr} {cs : List Value} (h : Box w a cs) (hb : bel w w') : Box w' a cs :=
  ⟨h.off, h.spot, by obtain ⟨T, hT⟩ := h.blk; exact ⟨T, by rw [Below.block hb _ h.lt]; exact hT⟩⟩
theorem Box.grown {w w' : World} {a : Addr} {cs : List Value} {row : Option Nat} (h : Box w a cs) (hg : w.grownBy w' row) (hne : some a.block ≠ row) : Box w' a cs :=
  ⟨h.off, h.spot, by obtain ⟨T, hT⟩ := h.blk; exact ⟨T, by rw [hg.block _ h.lt hne]; exact hT⟩⟩
theorem rd_box {P : Program} {t : TypeId} {s : Sh} {w : World} {a : Addr} {cs : List Value} {i : Nat} {v : Value} {x : s.T} {k : s.T → Prop} (ht : scal P t = true) (h : Box w a cs) (hi : cs[i]? = some v) (hx : s.get v = some x) (hk : k x) :
    rd P (Instr.loadAt t (.pointer (some (a.add i)))) (.one s) w k := rd_cell ht (h.cell hi) hx hk
theorem rd_box0 {P : Program} {t : TypeId} {s : Sh} {w : World} {a : Addr} {cs : List Value} {v : Value} {x : s.T} {k : s.T → Prop} (ht : scal P t = true) (h : Box w a cs) (hi : cs[0]? = some v) (hx : s.get v = some x) (hk : k x) :
    rd P (Instr.loadAt t (.pointer (some a))) (.one s) w k := rd_cell ht (h.cell0 hi) hx hk
theorem rd_boxN {P : Program} {t : TypeId} {l : List Sh} {w : World} {a : Addr} {cs : List Value} {x : LT l} {k : LT l → Prop} (h : Box w a cs) (ht : aggOf P t cs.length = true) (hx : Lget l cs = some x) (hk : k x) :
    rd P (Instr.loadAt t (.pointer (some a))) (.agg l) w k := rd_cells ht (fun _ _ hj => h.cell hj) hx hk
theorem rd_boxV {P : Program} {t : TypeId} {l : List Sh} {w : World} {a : Addr} {cs : List Value} {x : LT l} {k : LT l → Prop} (h : Box w a cs) (ht : aggOf P t cs.length = true) (hx : Lget l cs = some x) (hk : k x) :
    rd P (loadVar t a) (.agg l) w k := rd_vars ht (fun _ _ hj => h.cell hj) hx hk
theorem bel_alloc (w : World) (o : Obj) : bel w (w.alloc o) := (Below.refl _ w).alloc (Nat.le_refl _) o
theorem grown_of_bel {w w' : World} (h : bel w w') (row : Option Nat) : w.grownBy w' row := ⟨h.os, h.tape, h.output, h.size, fun k hk _ => h.block k hk⟩
theorem bel_of_grown {w w' : World} (h : w.grownBy w' none) : bel w w' := ⟨h.os, h.tape, h.output, h.size, fun k hk => h.block k hk (by simp)⟩
theorem bel.grown {a w w' : World} {row : Option Nat} (h : bel a w) (hg : w.grownBy w' row) (hr : ∀ k, row = some k → a.heap.size ≤ k) : bel a w' := Below.grown h hg h.size hr
theorem box_new (w : World) (cs : Array Value) (T : TypeId) : Box (w.alloc (.cells cs T)) ⟨w.heap.size, 0, none⟩ cs.toList :=
  ⟨rfl, rfl, T, heap_alloc_new w _⟩
theorem wr_box {P : Program} {w : World} {e : TypeId} {v : Value} {k : Addr → World → Prop}
    (hk : ∀ a w', Box w' a v.cells.toList → bel w w' → a.block = w.heap.size → w'.heap.size = w.heap.size + 1 → k a w') : wr P (Instr.box e v) (.one .addr) w k :=
  ⟨⟨w.heap.size, 0, none⟩, w.alloc (.cells v.cells e), rfl, hk _ _ (box_new w _ _) (bel_alloc _ _) rfl (by simp)⟩
theorem wr_alloc {P : Program} {w : World} {e : TypeId} {z : Value} {k : Addr → World → Prop} (hz : zeroOf P e = some z)
    (hk : ∀ a w', Box w' a z.cells.toList → bel w w' → a.block = w.heap.size → w'.heap.size = w.heap.size + 1 → k a w') : wr P (Instr.alloc e true (.tuple #[])) (.one .addr) w k := by
  refine ⟨⟨w.heap.size, 0, none⟩, w.alloc (.cells z.cells e), ?_, hk _ _ (box_new w _ _) (bel_alloc _ _) rfl (by simp)⟩
  unfold zeroOf at hz
  unfold Instr.alloc zeroValue typeInfo
  simp only [Sem.run_bind, run_program, Result.andThen_ok]
  cases hi : P.info? e with
  | none => rw [hi] at hz; cases hz
  | some i =>
    rw [hi] at hz
    simp only [Option.bind_some] at hz
    simp only [Sem.run_pure, Result.andThen_ok, hz]
    rfl
def plainV (vs : List Value) : Bool := vs.all (·.oneCell')
def putAt (cs : List Value) (i : Nat) : List Value → List Value
  | [] => cs
  | v :: vs => putAt (cs.set i v) (i + 1) vs
theorem setCell_box {w : World} {a : Addr} {cs : List Value} (h : Box w a cs) (i : Nat) (v : Value) : Box (w.setCell (a.add i) v) a (cs.set i v) := by
  obtain ⟨T, hT⟩ := h.blk
  refine ⟨h.off, h.spot, T, ?_⟩
  rw [h.eq, Addr.add_lit, Nat.zero_add]
  simp only [World.setCell, Array.getElem?_modify, hT]
  simp
theorem setCell_grown (w : World) (p : Addr) (v : Value) : w.grownBy (w.setCell p v) (some p.block) :=
  ⟨rfl, rfl, rfl, by simp [World.setCell], fun k _ hk => Below.heap_setCell _ _ _ _ (fun e => hk (by rw [e]))⟩
theorem grown_refl (w : World) (row : Option Nat) : w.grownBy w row := ⟨rfl, rfl, rfl, Nat.le_refl _, fun _ _ _ => rfl⟩
theorem setCell_size (w : World) (p : Addr) (v : Value) : (w.setCell p v).heap.size = w.heap.size := by simp [World.setCell]
theorem run_storeCells {P : Program} {a : Addr} : ∀ (vs : List Value) (i : Nat) (w : World) (cs : List Value), Box w a cs → i + vs.length ≤ cs.length → plainV vs = true →
    ∃ w', (storeCells a vs i).run P w = .ok () w' ∧ Box w' a (putAt cs i vs) ∧ w.grownBy w' (some a.block) ∧ w'.heap.size = w.heap.size
  | [], i, w, cs, hb, _, _ => ⟨w, rfl, hb, grown_refl _ _, rfl⟩
  | v :: vs, i, w, cs, hb, hl, hp => by
    simp only [plainV, List.all_cons, Bool.and_eq_true] at hp
    simp only [List.length_cons] at hl
    obtain ⟨u, hu⟩ : ∃ u, cs[i]? = some u := ⟨_, List.getElem?_eq_getElem (by omega)⟩
    have hc := hb.cell hu
    have hfz : w.frozen? (a.add i) = false := by
      obtain ⟨T, hT⟩ := hb.blk
      unfold World.frozen?
      rw [add_block, hT]
      simp
    obtain ⟨w', h1, h2, h3, h4⟩ := run_storeCells (P := P) vs (i + 1) (w.setCell (a.add i) v) (cs.set i v) (setCell_box hb i v) (by simp; omega) hp.2
    refine ⟨w', ?_, h2, ?_, by rw [h4, setCell_size]⟩
    · simp only [storeCells, Sem.run_bind]
      rw [run_store P w (a.add i) v .plain hp.1, hc]
      simp only [hfz, Bool.false_eq_true, if_false, Result.andThen_ok, h1]
    · refine World.grownBy.trans ?_ h3
      have := setCell_grown w (a.add i) v
      rwa [add_block] at this
theorem wu_box {P : Program} {w : World} {t : TypeId} {a : Addr} {v : Value} {cs : List Value} {k : World → Prop} (hb : Box w a cs) (ht : sizeIs P t v.cells.size = true) (hl : v.cells.size ≤ cs.length) (hp : plainV v.cells.toList = true)
    (hk : ∀ w', Box w' a (putAt cs 0 v.cells.toList) → w.grownBy w' (some a.block) → w'.heap.size = w.heap.size → k w') : wu P (Instr.storeAt t (.pointer (some a)) v) w k := by
  obtain ⟨w', h1, h2, h3, h4⟩ := run_storeCells (P := P) v.cells.toList 0 w cs hb (by simpa using hl) hp
  refine ⟨w', ?_, hk w' h2 h3 h4⟩
  unfold Instr.storeAt Instr.sureAddr storeVar
  simp only [Sem.run_bind, Sem.run_pure, Result.andThen_ok, run_sizeOf ht]
  simp only [ne_eq, not_true_eq_false, if_false]
  exact h1
theorem wu_boxi {P : Program} {w : World} {t : TypeId} {a : Addr} {i : Nat} {v : Value} {cs : List Value} {k : World → Prop} (hb : Box w a cs) (ht : sizeIs P t 1 = true) (hl : i < cs.length) (hp : v.oneCell' = true)
    (hk : ∀ w', Box w' a (cs.set i v) → w.grownBy w' (some a.block) → w'.heap.size = w.heap.size → k w') : wu P (Instr.storeAt t (.pointer (some (a.add i))) v) w k := by
  have hvc : v.cells = #[v] := by cases v <;> first | rfl | (simp [Value.oneCell'] at hp)
  obtain ⟨u, hu⟩ : ∃ u, cs[i]? = some u := ⟨_, List.getElem?_eq_getElem hl⟩
  have hc := hb.cell hu
  have hfz : w.frozen? (a.add i) = false := by
    obtain ⟨T, hT⟩ := hb.blk
    unfold World.frozen?
    rw [add_block, hT]
    simp
  have hg := setCell_grown w (a.add i) v
  rw [add_block] at hg
  refine ⟨_, ?_, hk _ (setCell_box hb i v) hg (setCell_size _ _ _)⟩
  unfold Instr.storeAt Instr.sureAddr storeVar
  simp only [Sem.run_bind, Sem.run_pure, Result.andThen_ok, run_sizeOf ht, hvc, List.size_toArray, List.length_cons, List.length_nil, Nat.zero_add, ne_eq, not_true_eq_false, if_false]
  simp only [storeCells, Sem.run_bind]
  rw [add_zero, run_store P w (a.add i) v .plain hp, hc]
  simp only [hfz, Bool.false_eq_true, if_false, Result.andThen_ok, Sem.run_pure]
theorem bel.grownAt {a w w' : World} {b : Nat} (h : bel a w) (hg : w.grownBy w' (some b)) (hb : a.heap.size ≤ b) : bel a w' := h.grown hg fun k hk => by injection hk with hk; omega

/-! ### structs of ints compared -/
theorem run_part1 {P : Program} {t : TypeId} {cs : Array Value} {off : Nat} {v : Value} {w : World} (ht : scal P t = true) (h : cs[off]? = some v) : (part t cs off).run P w = .ok v w := by
  unfold part
  simp only [Sem.run_bind, run_isAgg_f ht, Result.andThen_ok, Bool.false_eq_true, if_false, h, Sem.run_pure]
end Go.V

/- The calculus, tenth part: slices, quotients, shifts. -/


namespace Go.V
open Go Go.RowKit Go.Q

structure TyS (P : Program) (t e : TypeId) (z : Value) (sz bytes : Nat) : Prop where
  ht : P.underlying t = some (.slice e)
  hi : (P.info? e).map (fun i => (i.zero, i.size, i.bytes)) = some (some z, sz, bytes)
theorem TyS.size {P : Program} {t e : TypeId} {z : Value} {sz bytes : Nat} (T : TyS P t e z sz bytes) {w : World} : (sizeOf e).run P w = .ok sz w := by
  obtain ⟨i, h1, _, h2, _⟩ := info_parts T.hi
  subst h2
  refine run_sizeOf ?_
  unfold sizeIs; rw [h1]; simp

theorem least_nat {P : Nat → Prop} (h : ∃ n, P n) : ∃ n, P n ∧ ∀ m, P m → n ≤ m := by
  obtain ⟨n, hn⟩ := h
  induction n using Nat.strongRecOn with
  | ind n ih =>
    by_cases hm : ∃ m, m < n ∧ P m
    · obtain ⟨m, h1, h2⟩ := hm
      exact ih m h1 h2
    · exact ⟨n, hn, fun m hp => by
        rcases Nat.lt_or_ge m n with q | q
        · exact absurd ⟨m, q, hp⟩ hm
        · exact q⟩
theorem loop_gh {G T : Type} {x0 : T} {w0 : World} {body : (T → World → Prop) → T → World → Prop} (I : G → T → World → Prop) (μ : G → Nat) (g0 : G) (h0 : I g0 x0 w0)
    (h : ∀ g x w, I g x w → ∀ again, (∀ g' x' w', I g' x' w' → μ g' < μ g → again x' w') → body again x w) : loop x0 w0 body := by
  classical
  let P : T → World → Nat → Prop := fun x w n => ∃ g, I g x w ∧ μ g = n
  let m : T → World → Nat := fun x w => if hx : ∃ n, P x w n then Classical.choose (least_nat hx) else 0
  have spec : ∀ x w, (∃ g, I g x w) → ∃ g, I g x w ∧ μ g = m x w := by
    intro x w ⟨g, hg⟩
    have hx : ∃ n, P x w n := ⟨μ g, g, hg, rfl⟩
    have := (Classical.choose_spec (least_nat hx)).1
    simp only [m, hx, dif_pos]; exact this
  have least : ∀ x w g, I g x w → m x w ≤ μ g := by
    intro x w g hg
    have hx : ∃ n, P x w n := ⟨μ g, g, hg, rfl⟩
    simp only [m, hx, dif_pos]
    exact (Classical.choose_spec (least_nat hx)).2 _ ⟨g, hg, rfl⟩
  refine ⟨fun x w => ∃ g, I g x w, m, ⟨g0, h0⟩, fun x w hI => ?_⟩
  obtain ⟨g, hg, hm⟩ := spec x w hI
  exact h g x w hg _ fun g' x' w' hg' hl => ⟨⟨g', hg'⟩, by have := least x' w' g' hg'; omega⟩

/-! ### elements -/
theorem idx_mk {P : Program} {t e : TypeId} {z : Value} {sz bytes : Nat} (T : TyS P t e z sz bytes) {a : Option Addr} {ad : Addr} {n c j : Nat} {k : IntKind} {i : Int} {K : Addr → Prop} (hj : i = (j : Int)) (h : j < n) (ha : a = some ad) (hk : K (ad.add (j * sz))) :
    rdp P (Instr.indexAt t (.slice a n c) (.int k i)) (.one .addr) K := by
  subst hj ha
  refine ⟨ad.add (j * sz), fun w => ?_, hk⟩
  unfold Instr.indexAt asIntOf
  simp only [Sem.run_bind, Sem.run_pure, Result.andThen_ok, run_underlying T.ht]
  rw [if_pos ⟨by omega, by omega⟩]
  simp only [Sem.run_bind, T.size, Result.andThen_ok, Int.toNat_natCast]
  rfl
theorem at_mk {P : Program} {t e : TypeId} {z : Value} {bytes : Nat} (T : TyS P t e z 1 bytes) (he : scal P e = true) {w : World} {a : Option Addr} {n c j : Nat} {xs : List Value} (H : Sl w a n c 1 xs) {k : IntKind} {i : Int} {s : Sh} {v : Value} {x : s.T} {K : s.T → Prop}
    (hj : i = (j : Int)) (hv : xs[j]? = some v) (hx : s.get v = some x) (hk : K x) :
    rdp P (Instr.indexAt t (.slice a n c) (.int k i)) (.one .addr) fun ad => rd P (Instr.loadAt e (.pointer (some ad))) (.one s) w K := by
  obtain ⟨ad, h1, h2, _⟩ := H.at' j v hv
  have hn : j < n := by have := (List.getElem?_eq_some_iff.1 hv).1; have := H.len; omega
  refine idx_mk T hj hn h1 ?_
  rw [Nat.mul_one]
  exact rd_cell he h2 hx hk
theorem at_int {P : Program} {t e : TypeId} {z : Value} {bytes : Nat} (T : TyS P t e z 1 bytes) (he : scal P e = true) {w : World} {a : Option Addr} {n c j : Nat} {kk : IntKind} {xs : List Int} (H : Sl w a n c 1 (ints kk xs)) {k : IntKind} {i : Int} {K : Int → Prop}
    (hj : i = (j : Int)) (hn : j < n) (hk : ∀ x : Int, xs[j]? = some x → K x) :
    rdp P (Instr.indexAt t (.slice a n c) (.int k i)) (.one .addr) fun ad => rd P (Instr.loadAt e (.pointer (some ad))) (.one (.int kk)) w K := by
  have hl := H.int
  obtain ⟨x, hx⟩ : ∃ x, xs[j]? = some x := ⟨_, List.getElem?_eq_getElem (by omega)⟩
  exact at_mk T he H (s := .int kk) (v := .int kk x) hj (by simp [ints, hx]) (by simp [Sh.get]) (hk x hx)
theorem at_hdr {P : Program} {t e : TypeId} {z : Value} {bytes : Nat} (T : TyS P t e z 1 bytes) (he : scal P e = true) {w : World} {a : Option Addr} {n c j : Nat} {hs : List Hdr} (H : Sl w a n c 1 (hs.map hv)) {k : IntKind} {i : Int} {K : (Option Addr × Nat × Nat) → Prop}
    (hj : i = (j : Int)) (hn : j < n) (hk : ∀ x : Hdr, hs[j]? = some x → K x) :
    rdp P (Instr.indexAt t (.slice a n c) (.int k i)) (.one .addr) fun ad => rd P (Instr.loadAt e (.pointer (some ad))) (.one .slice) w K := by
  have hl : hs.length = n := by have := H.len; simpa using this
  obtain ⟨x, hx⟩ : ∃ x, hs[j]? = some x := ⟨_, List.getElem?_eq_getElem (by omega)⟩
  exact at_mk T he H (s := .slice) (v := hv x) hj (by simp [hx]) rfl (hk x hx)

/-! ### elements of several cells -/
theorem add_add (a : Addr) (m o : Nat) : (a.add m).add o = a.add (m + o) := by
  rcases Nat.eq_zero_or_pos m with h | h
  · subst h; rw [Go.Q.add_zero, Nat.zero_add]
  · rcases Nat.eq_zero_or_pos o with h' | h'
    · subst h'; rw [Go.Q.add_zero, Nat.add_zero]
    · obtain ⟨m, rfl⟩ : ∃ k, m = k + 1 := ⟨m - 1, by omega⟩
      obtain ⟨o, rfl⟩ : ∃ k, o = k + 1 := ⟨o - 1, by omega⟩
      rw [addr_succ, addr_succ, show m + 1 + (o + 1) = (m + 1 + o) + 1 by omega, addr_succ]
      show (⟨a.block, a.off + (m + 1) + (o + 1), none⟩ : Addr) = ⟨a.block, a.off + (m + 1 + o + 1), none⟩
      congr 1; omega
theorem flat_get {α : Type} {enc : α → List Value} {sz : Nat} (he : ∀ a, (enc a).length = sz) : ∀ {L : List α} {j : Nat} {p : α} (_ : L[j]? = some p) {o : Nat} (_ : o < sz), (L.flatMap enc)[j * sz + o]? = (enc p)[o]?
  | [], j, p, hp, o, ho => by simp at hp
  | x :: L, 0, p, hp, o, ho => by
    simp at hp; subst hp
    rw [Nat.zero_mul, Nat.zero_add, List.flatMap_cons, List.getElem?_append_left (by rw [he]; exact ho)]
  | x :: L, j + 1, p, hp, o, ho => by
    simp at hp
    have e : (j + 1) * sz + o = sz + (j * sz + o) := by rw [Nat.add_mul, Nat.one_mul]; omega
    rw [e, List.flatMap_cons, List.getElem?_append_right (by rw [he]; omega), he, Nat.add_sub_cancel_left]
    exact flat_get he hp ho
theorem flat_len {α : Type} {enc : α → List Value} {sz : Nat} (he : ∀ a, (enc a).length = sz) : ∀ (L : List α), (L.flatMap enc).length = L.length * sz
  | [] => by simp
  | x :: L => by rw [List.flatMap_cons, List.length_append, he, flat_len he L, List.length_cons, Nat.add_mul, Nat.one_mul, Nat.add_comm]
theorem idx_agg {P : Program} {t e : TypeId} {z : Value} {sz bytes : Nat} (T : TyS P t e z sz bytes) {α : Type} {enc : α → List Value} (he : ∀ a, (enc a).length = sz) (h0 : 0 < sz) {w : World} {a : Option Addr} {n c j : Nat} {L : List α} (H : Sl w a n c sz (L.flatMap enc)) {k : IntKind} {i : Int} {p : α} {K : Addr → Prop}
    (hj : i = (j : Int)) (hp : L[j]? = some p) (hk : ∀ ad, (∀ o v, (enc p)[o]? = some v → w.cell? (ad.add o) = some v) → K ad) : rdp P (Instr.indexAt t (.slice a n c) (.int k i)) (.one .addr) K := by
  have hlen := H.len
  rw [flat_len he] at hlen
  have hL : L.length = n := Nat.eq_of_mul_eq_mul_right h0 hlen
  have hjl := (List.getElem?_eq_some_iff.1 hp).1
  obtain ⟨u, hu⟩ : ∃ u, (enc p)[0]? = some u := ⟨_, List.getElem?_eq_getElem (by rw [he]; exact h0)⟩
  have hu' := flat_get he hp h0
  rw [hu] at hu'
  obtain ⟨ad, h1, _, _⟩ := H.at' _ _ hu'
  refine idx_mk T hj (by omega) h1 (hk _ fun o v hv => ?_)
  have ho : o < sz := by have := (List.getElem?_eq_some_iff.1 hv).1; rw [he] at this; exact this
  have hg := flat_get he hp ho
  rw [hv] at hg
  obtain ⟨ad', h2, h3, _⟩ := H.at' _ _ hg
  rw [h1] at h2; cases h2
  rw [add_add]; exact h3
theorem at_agg {P : Program} {t e : TypeId} {z : Value} {sz bytes : Nat} (T : TyS P t e z sz bytes) (ht : aggOf P e sz = true) {α : Type} {enc : α → List Value} (he : ∀ a, (enc a).length = sz) (h0 : 0 < sz) {w : World} {a : Option Addr} {n c j : Nat} {L : List α} (H : Sl w a n c sz (L.flatMap enc)) {k : IntKind} {i : Int} {p : α} {l : List Sh} {x : LT l} {K : LT l → Prop}
    (hj : i = (j : Int)) (hp : L[j]? = some p) (hx : Lget l (enc p) = some x) (hk : K x) : rdp P (Instr.indexAt t (.slice a n c) (.int k i)) (.one .addr) fun ad => rd P (Instr.loadAt e (.pointer (some ad))) (.agg l) w K :=
  idx_agg T he h0 H hj hp fun ad h => rd_cells (by rw [he]; exact ht) h hx hk

theorem wu_own {P : Program} {e : TypeId} (hs : sizeIs P e 1 = true) {w : World} {B : Nat} {e' : TypeId} {ad : Addr} {n c j : Nat} {xs : List Value} (O : Own w B e' 1 (some ad) n c xs) {v : Value} {K : World → Prop} (hn : j < n) (hp : v.oneCell' = true)
    (hk : ∀ w', Own w' B e' 1 (some ad) n c (xs.set j v) → w.grownBy w' (blk (some ad)) → w'.heap.size = w.heap.size → K w') :
    wu P (Instr.storeAt e (.pointer (some (ad.add j))) v) w K := by
  have hvc : v.cells = #[v] := by cases v <;> first | rfl | (simp [Value.oneCell'] at hp)
  have hl : xs.length = n := by have := O.1; omega
  obtain ⟨u, hu⟩ : ∃ u, xs[j]? = some u := ⟨_, List.getElem?_eq_getElem (by omega)⟩
  obtain ⟨ad', h1, hc, hfz, _⟩ := O.cell (j := j) hu
  cases h1
  have hg := setCell_grown w (ad.add j) v
  rw [add_block] at hg
  refine ⟨_, ?_, hk _ (O.set j v) hg (setCell_size _ _ _)⟩
  unfold Instr.storeAt Instr.sureAddr storeVar
  simp only [Sem.run_bind, Sem.run_pure, Result.andThen_ok, run_sizeOf hs, hvc, List.size_toArray, List.length_cons, List.length_nil, Nat.zero_add, ne_eq, not_true_eq_false, if_false]
  simp only [storeCells, Sem.run_bind]
  rw [add_zero, run_store P w (ad.add j) v .plain hp, hc]
  simp only [hfz, Bool.false_eq_true, if_false, Result.andThen_ok, Sem.run_pure]
theorem set_mk {P : Program} {t e : TypeId} {z : Value} {bytes : Nat} (T : TyS P t e z 1 bytes) {w : World} {B : Nat} {a : Option Addr} {n c j : Nat} {xs : List Value} (O : Own w B e 1 a n c xs) {k : IntKind} {i : Int} {v : Value} {K : World → Prop}
    (hj : i = (j : Int)) (hn : j < n) (hp : v.oneCell' = true)
    (hk : ∀ w', Own w' B e 1 a n c (xs.set j v) → w.grownBy w' (blk a) → w'.heap.size = w.heap.size → K w') :
    rdp P (Instr.indexAt t (.slice a n c) (.int k i)) (.one .addr) fun ad => wu P (Instr.storeAt e (.pointer (some ad)) v) w K := by
  have hl : xs.length = n := by have := O.1; omega
  obtain ⟨u, hu⟩ : ∃ u, xs[j]? = some u := ⟨_, List.getElem?_eq_getElem (by omega)⟩
  obtain ⟨ad, h1, _⟩ := O.cell (j := j) hu
  subst h1
  refine idx_mk T hj hn rfl ?_
  rw [Nat.mul_one]
  refine wu_own ?_ O hn hp hk
  obtain ⟨i, h1, _, h2, _⟩ := info_parts T.hi
  unfold sizeIs; rw [h1]; simp [h2]

/-! ### literals, make, append -/
theorem wr_lit {P : Program} {t e : TypeId} {z : Value} {sz bytes : Nat} (T : TyS P t e z sz bytes) {w : World} {n : Nat} {parts : Array (Nat × Value)} {k : (Option Addr × Nat × Nat) → World → Prop} (cells : Array Value)
    (hf : Instr.fill (fun i => some (i * sz, sz)) ((Array.range (n * sz)).map (z.cells[· % z.cells.size]!)) parts.toList = some cells) (h0 : n * sz ≠ 0) (hl : n * sz ≤ 16777216) (hc : cells.size = n * sz) (hm : n ≤ maxLen)
    (hk : ∀ ad w', (∀ B, B ≤ w.heap.size → Own w' B e sz (some ad) n n cells.toList) → bel w w' → ad.block = w.heap.size → w'.heap.size = w.heap.size + 1 → k (some ad, n, n) w') :
    wr P (Instr.buildSlice t n parts) (.one .slice) w k := by
  refine ⟨(some ⟨w.heap.size, 0, none⟩, n, n), w.alloc (.cells cells e), ?_, hk _ _ (fun B hB => Own.lit w B e sz n cells hB hc hm) (bel_alloc _ _) rfl (by simp)⟩
  obtain ⟨i, hi0, hz0, hz1, hz2⟩ := info_parts T.hi
  subst hz1
  unfold Instr.buildSlice
  simp only [Sem.run_bind, run_underlying T.ht, Result.andThen_ok, T.size]
  rw [if_neg (by omega), if_neg h0]
  simp only [Sem.run_bind, Sem.run_pure, Result.andThen_ok]
  have hzv : (zeroValue e).run P w = .ok z w := by
    unfold zeroValue typeInfo
    simp only [Sem.run_bind, run_program, Result.andThen_ok, hi0, Sem.run_pure, hz0]
  simp only [hzv, Result.andThen_ok, hf]
  rfl
theorem fill_one (sz : Nat) (v : Value) (zs : Array Value) (h1 : v.cells.size = sz) (h2 : zs.size = sz) : Instr.fill (fun i => some (i * sz, sz)) zs [(0, v)] = some v.cells := by
  unfold Instr.fill
  simp only [Nat.zero_mul, Nat.zero_add, h1, h2, ne_eq, not_true_eq_false, decide_false, Nat.lt_irrefl, gt_iff_lt, Bool.or_self, Bool.false_eq_true, if_false]
  unfold Instr.fill
  congr 1
  have key : ∀ (l : List Value) (m : Nat) (cs : Array Value), m + l.length = cs.size → (l.zipIdx m).foldl (fun (cs : Array Value) (p : Value × Nat) => cs.setIfInBounds p.2 p.1) cs = (cs.toList.take m ++ l).toArray := by
    intro l
    induction l with
    | nil => intro m cs h; simp at h; simp [h, List.take_of_length_le]
    | cons x l ih =>
      intro m cs h
      simp only [List.length_cons] at h
      simp only [List.zipIdx_cons, List.foldl_cons]
      rw [ih (m + 1) _ (by simp; omega)]
      congr 1
      rw [Array.toList_setIfInBounds]
      have hm : m < cs.toList.length := by simp; omega
      rw [List.take_set, List.take_add_one]
      have h3 : (List.take m cs.toList).length = m := by rw [List.length_take]; omega
      rw [List.getElem?_eq_getElem hm, List.set_append, if_neg (by omega), h3]
      simp
  have := key v.cells.toList 0 zs (by simp; omega)
  simp only [List.take_zero, List.nil_append] at this
  rw [← Array.foldl_toList, Array.toList_zipIdx, this]
theorem wr_app1 {P : Program} {t e : TypeId} {z : Value} {sz bytes : Nat} (T : TyS P t e z sz bytes) {w : World} {B : Nat} {sa : Option Addr} {n c : Nat} {xs : List Value} (O : Own w B e sz sa n c xs) {ty : TypeId} {v : Value} {k : (Option Addr × Nat × Nat) → World → Prop}
    (hB : B ≤ w.heap.size) (hz : z.cells.size = sz) (hs : 0 < sz) (hsl : sz ≤ 16777216) (hv : v.cells.size = sz) (hp : plainV v.cells.toList = true) (hb : (n + 1) * bytes ≤ 140737488355328) (hn : n + 1 ≤ maxLen)
    (hk : ∀ a' c' w', Own w' B e sz a' (n + 1) c' (xs ++ v.cells.toList) → w.grownBy w' (blk sa) → (blk a' = blk sa ∨ (∀ b, blk a' = some b → w.heap.size ≤ b)) → w.heap.size ≤ w'.heap.size → k (a', n + 1, c') w') :
    wr P (Instr.buildSlice t 1 #[(0, v)]) (.one .slice) w fun x w1 => wr P (Builtin.append_ #[t, t] ty #[.slice sa n c, .slice x.1 x.2.1 x.2.2]) (.one .slice) w1 k := by
  refine wr_lit T v.cells (fill_one sz v _ hv (by simp)) (by omega) (by omega) (by omega) (by unfold maxLen; omega) fun ad w1 L h1 h2 h3 => ?_
  have O1 : Own w1 B e sz sa n c xs := O.kept h1
  have L1 := L B hB
  have hl : v.cells.toList.length = 1 * sz := by simpa using hv
  obtain ⟨a', c', w2, hr, hA⟩ := run_app (P := P) w1 t ty B e z sz bytes T.ht T.hi hz hs sa n c xs O1 ad 1 1 v.cells.toList hl (fun j u hj => by
      obtain ⟨ad', q1, q2, _⟩ := L1.cell (j := j) hj
      cases q1; exact q2) (fun u hu => by
      unfold plainV at hp; rw [List.all_eq_true] at hp; exact hp u hu) hb hn (by omega)
  refine ⟨(a', n + 1, c'), w2, hr, hk a' c' w2 hA.own ((grown_of_bel h1 _).trans hA.grown) ?_ (by have := hA.size; omega)⟩
  rcases hA.at' with q | q | q
  · exact .inl q
  · exact .inr fun b hb => by rw [q] at hb; cases hb; omega
  · exact .inr fun b hb => by rw [q] at hb; cases hb
theorem wr_make {P : Program} {t e : TypeId} {z : Value} {sz bytes : Nat} (T : TyS P t e z sz bytes) {w : World} {kl kc : IntKind} {L C : Int} {k : (Option Addr × Nat × Nat) → World → Prop} (n : Nat) (hL : L = (n : Int)) (hC : C = (n : Int)) (hb : bytes * n ≤ 281474976710656) (hn : n ≤ maxLen)
    (hk : ∀ ad w', (∀ B, B ≤ w.heap.size → Own w' B e sz (some ad) n n (madeCells z.cells (n * sz)).toList) → bel w w' → ad.block = w.heap.size → w'.heap.size = w.heap.size + 1 → k (some ad, n, n) w') :
    wr P (Instr.makeSlice t (.int kl L) (.int kc C)) (.one .slice) w k := by
  obtain ⟨i, hi0, hz0, hz1, hz2⟩ := info_parts T.hi
  subst hL hC hz1 hz2
  have h63' : (n : Int) ≤ 9223372036854775807 := by unfold maxLen at hn; omega
  have hb' : (i.bytes : Int) * (n : Int) ≤ 281474976710656 := by
    have h : ((i.bytes * n : Nat) : Int) ≤ 281474976710656 := by omega
    rwa [Int.natCast_mul] at h
  have hr := run_make (P := P) w t e i z T.ht hi0 hz0 kl kc n n (by omega) (Int.le_refl _) hb' h63'
  simp only [Int.toNat_natCast] at hr
  exact ⟨(some ⟨w.heap.size, 0, none⟩, n, n), _, hr, hk _ _ (fun B hB => World.ownsRow_lit w _ n hB hn (size_madeCells _ _)) (bel_alloc _ _) rfl (by simp)⟩
theorem wr_app {P : Program} {t e : TypeId} {z : Value} {sz bytes : Nat} (T : TyS P t e z sz bytes) {w : World} {B : Nat} {sa : Option Addr} {n c : Nat} {xs : List Value} (O : Own w B e sz sa n c xs) {ty : TypeId} {ad : Addr} {m mc : Nat} {ys : List Value} (H : Sl w (some ad) m mc sz ys) {k : (Option Addr × Nat × Nat) → World → Prop}
    (hB : B ≤ w.heap.size) (hz : z.cells.size = sz) (hs : 0 < sz) (hp : plainV ys = true) (hb : (n + m) * bytes ≤ 140737488355328) (hn : n + m ≤ maxLen)
    (hk : ∀ a' c' w', Own w' B e sz a' (n + m) c' (xs ++ ys) → w.grownBy w' (blk sa) → (blk a' = blk sa ∨ (∀ b, blk a' = some b → w.heap.size ≤ b)) → w.heap.size ≤ w'.heap.size → k (a', n + m, c') w') :
    wr P (Builtin.append_ #[t, t] ty #[.slice sa n c, .slice (some ad) m mc]) (.one .slice) w k := by
  obtain ⟨a', c', w2, hr, hA⟩ := run_app (P := P) w t ty B e z sz bytes T.ht T.hi hz hs sa n c xs O ad m mc ys H.len (fun j u hj => by
      obtain ⟨ad', q1, q2, _⟩ := H.at' j u hj
      cases q1; exact q2) (fun u hu => by
      unfold plainV at hp; rw [List.all_eq_true] at hp; exact hp u hu) hb hn hB
  refine ⟨(a', n + m, c'), w2, hr, hk a' c' w2 hA.own hA.grown ?_ hA.size⟩
  rcases hA.at' with q | q | q
  · exact .inl q
  · exact .inr fun b hb => by rw [q] at hb; cases hb; omega
  · exact .inr fun b hb => by rw [q] at hb; cases hb
theorem equal_nil {P : Program} {t e : TypeId} {a : Option Addr} {n c : Nat} {w : World} (ht : P.underlying t = some (.slice e)) : (Op.equal t (.slice a n c) (.slice none 0 0)).run P w = .ok a.isNone w := by
  have key : ∀ d : Nat, (Op.equalIn (d + 1) t (.slice a n c) (.slice none 0 0)).run P w = .ok a.isNone w := by
    intro d
    cases a <;> simp [Op.equalIn, run_underlying ht]
  exact key 9999
theorem rd_nil {P : Program} {t e : TypeId} {z : Value} {sz bytes : Nat} (T : TyS P t e z sz bytes) {x y : Operand} {a : Option Addr} {n c : Nat} {w : World} {k : Bool → Prop} (hk : k a.isNone) : rd P (cmpS .eql t x y (.slice a n c) (.slice none 0 0)) (.one .bool) w k := by
  refine ⟨a.isNone, fun w' _ => ?_, hk⟩
  unfold cmpS eqGuard Go.binOp
  simp only [Bool.not_true, Bool.false_eq_true, if_false, Sem.run_bind, Sem.run_pure, Result.andThen_ok, equal_nil T.ht]
  rfl
theorem bel.own {a w w' : World} {B : Nat} {e : TypeId} {sz : Nat} {sa : Option Addr} {n c : Nat} {xs : List Value} (h : bel a w) (O : Own w B e sz sa n c xs) (hg : w.grownBy w' (blk sa)) (hB : a.heap.size ≤ B) : bel a w' :=
  h.grown hg fun k hk => Nat.le_trans hB (O.lt k hk).1

/-! ### quotients and shifts -/
theorem rdp_bin {P : Program} {op : BinOp} {t : TypeId} {x y : Operand} {a b : Value} {k : IntKind} {v : Int} {K : Int → Prop} (hop : (op matches .eql | .neq) = false) (h : ∀ w, (Go.binOp op t a b).run P w = .ok (.int k v) w) (hk : K v) :
    rdp P (cmpS op t x y a b) (.one (.int k)) K := by
  refine ⟨v, fun w => ?_, hk⟩
  unfold cmpS eqGuard
  cases op <;> first | (cases hop; done) | (simp only [Bool.not_false, if_true, Sem.run_bind, Sem.run_pure, Result.andThen_ok]; exact h w)
theorem rdp_rem {P : Program} {t : TypeId} {x y : Operand} {k : IntKind} {a b : Int} {K : Int → Prop} (hb : b ≠ 0) (hk : K (a.tmod b)) : rdp P (cmpS .rem t x y (.int k a) (.int k b)) (.one (.int k)) K := by
  refine rdp_bin rfl (fun w => ?_) hk
  unfold Go.binOp Op.intDiv
  simp [hb]
theorem rdp_shr {P : Program} {t : TypeId} {x y : Operand} {k k' : IntKind} {a b : Int} (m : Nat) {K : Int → Prop} (hb : b = (m : Int)) (hm : m ≤ k.bits) (hk : K (a / 2 ^ m)) : rdp P (cmpS .shr t x y (.int k a) (.int k' b)) (.one (.int k)) K := by
  refine rdp_bin rfl (fun w => ?_) hk
  subst hb
  unfold Go.binOp Op.shift
  have : min m k.bits = m := by omega
  have h2 : ¬ ((m : Int) < 0) := by omega
  simp only [h2, if_false, Int.toNat_natCast, this, Sem.run_pure]
  rw [Int.fdiv_eq_ediv_of_nonneg _ (Int.pow_nonneg (by omega))]
/-! ### parts of slices -/
theorem TyS.elem {P : Program} {t e : TypeId} {z : Value} {sz bytes : Nat} (T : TyS P t e z sz bytes) : P.elem t = e := by
  unfold Program.elem; rw [T.ht]
theorem sl_to {P : Program} {t e : TypeId} {z : Value} {sz bytes : Nat} (T : TyS P t e z sz bytes) {a : Option Addr} {n c m : Nat} {k : IntKind} {i : Int} {K : (Option Addr × Nat × Nat) → Prop} (hi : i = (m : Int)) (hm : m ≤ c) (hk : K (a, m, c)) :
    rdp P (Instr.sliceAt t (.slice a n c) none (some (.int k i)) none) (.one .slice) K := by
  subst hi
  refine ⟨(a, m, c), fun w => ?_, hk⟩
  have ht : P.underlying t = some (.slice (P.elem t)) := by rw [T.elem]; exact T.ht
  rw [run_sliceAt_slice _ _ _ _ _ _ ht, run_slice_h _ _ _ _ _ ht _ _ (by omega) (by omega), T.elem, T.size]
  simp only [Result.andThen_ok, sliced, Int.toNat_natCast, Nat.sub_zero, Nat.zero_mul]
  cases a with
  | none => simp [VS.val, Sh.val]
  | some ad => simp [VS.val, Sh.val, add_zero]
end Go.V

/- The calculus, eleventh part: arrays, cells inside a block. -/

namespace Go.V
open Go Go.RowKit Go.Q

theorem storeCells_add {P : Program} {a : Addr} (m : Nat) : ∀ (vs : List Value) (i : Nat) (w : World), (storeCells (a.add m) vs i).run P w = (storeCells a vs (m + i)).run P w
  | [], _, _ => rfl
  | v :: vs, i, w => by
    simp only [storeCells, Sem.run_bind, add_add]
    congr 1
    funext u w'
    exact storeCells_add m vs (i + 1) w'
theorem wu_boxm {P : Program} {w : World} {t : TypeId} {a : Addr} {m : Nat} {v : Value} {cs : List Value} {k : World → Prop} (hb : Box w a cs) (ht : sizeIs P t v.cells.size = true) (hl : m + v.cells.size ≤ cs.length) (hp : plainV v.cells.toList = true)
    (hk : ∀ w', Box w' a (putAt cs m v.cells.toList) → w.grownBy w' (some a.block) → w'.heap.size = w.heap.size → k w') : wu P (Instr.storeAt t (.pointer (some (a.add m))) v) w k := by
  obtain ⟨w', h1, h2, h3, h4⟩ := run_storeCells (P := P) v.cells.toList m w cs hb (by simpa using hl) hp
  refine ⟨w', ?_, hk w' h2 h3 h4⟩
  unfold Instr.storeAt Instr.sureAddr storeVar
  simp only [Sem.run_bind, Sem.run_pure, Result.andThen_ok, run_sizeOf ht]
  simp only [ne_eq, not_true_eq_false, if_false]
  rw [storeCells_add]; exact h1
theorem rd_boxm {P : Program} {t : TypeId} {l : List Sh} {w : World} {a : Addr} {m : Nat} {cs vs : List Value} {x : LT l} {k : LT l → Prop} (h : Box w a cs) (ht : aggOf P t vs.length = true) (hv : ∀ j v, vs[j]? = some v → cs[m + j]? = some v) (hx : Lget l vs = some x) (hk : k x) :
    rd P (Instr.loadAt t (.pointer (some (a.add m)))) (.agg l) w k := rd_cells ht (fun j v hj => by rw [add_add]; exact h.cell (hv j v hj)) hx hk
end Go.V

/- Arguments that came in: slices of any elements as lists; tables. -/



namespace Go.V
open Go Go.RowKit Go.Q

section
variable {P : Program} {w : World} {t e : TypeId}
theorem Read.elems {α : Type} {enc : α → List Value} {R : α → Prop} {sz : Nat} {cs : List Value} (he : ∀ x, (enc x).length = sz) (h0 : 0 < sz) (hE : ∀ ch, Go.Q.Read P w e ch → ∃ x, ch = enc x ∧ R x)
    (ht : P.underlying t = some (.slice e)) (hs : P.cellsOf e = sz) (h : Go.Q.Read P w t cs) : ∃ a n c, ∃ L : List α, cs = [.slice a n c] ∧ L.length = n ∧ Sl w a n c sz (L.flatMap enc) ∧ ∀ x ∈ L, R x := by
  obtain ⟨a, n, c, rfl, h1, h2, h3, h4⟩ := Go.Q.Read.slice ht h
  have ex : ∀ i : Fin n, ∃ x : α, ∃ ad, a = some ad ∧ w.cells? 0 (ad.add (i * sz)) sz = some (enc x) ∧ R x := fun i => by
    obtain ⟨ad, ch, e1, e2, e3⟩ := h4 i i.2
    obtain ⟨x, rfl, hx⟩ := hE ch e3
    rw [hs] at e2
    exact ⟨x, ad, e1, e2, hx⟩
  refine ⟨a, n, c, List.ofFn fun i => Classical.choose (ex i), rfl, by simp, ?_, ?_⟩
  · refine ⟨by rw [flat_len he]; simp, h1, h2, h3, fun j u hj => ?_⟩
    have hj' : j < n * sz := by
      have := (List.getElem?_eq_some_iff.1 hj).1
      rw [flat_len he] at this
      simpa using this
    have hi : j / sz < n := Nat.div_lt_of_lt_mul (by rwa [Nat.mul_comm])
    have ho : j % sz < sz := Nat.mod_lt _ h0
    obtain ⟨ad, e1, e2, _⟩ := Classical.choose_spec (ex ⟨j / sz, hi⟩)
    have hg := flat_get he (L := List.ofFn fun i => Classical.choose (ex i)) (j := j / sz) (p := Classical.choose (ex ⟨j / sz, hi⟩)) (by simp [hi]) ho
    rw [Nat.div_add_mod' j sz, hj] at hg
    obtain ⟨_, e4, e5⟩ := World.cells?_some e2
    have h6 := e5 (j % sz) ho
    rw [add_add] at h6
    simp only at h6
    rw [Nat.div_add_mod', ← hg] at h6
    refine ⟨ad, e1, h6, ?_⟩
    have := cell_lt h6
    rwa [add_block] at this
  · intro x hx
    rw [List.mem_ofFn] at hx
    obtain ⟨i, rfl⟩ := hx
    obtain ⟨ad, e1, e2, e3⟩ := Classical.choose_spec (ex i)
    exact e3
theorem Read.ones {α : Type} {g : α → Value} {R : α → Prop} {cs : List Value} (hE : ∀ ch, Go.Q.Read P w e ch → ∃ x, ch = [g x] ∧ R x)
    (ht : P.underlying t = some (.slice e)) (hs : P.cellsOf e = 1) (h : Go.Q.Read P w t cs) : ∃ a n c, ∃ L : List α, cs = [.slice a n c] ∧ L.length = n ∧ Sl w a n c 1 (L.map g) ∧ ∀ x ∈ L, R x := by
  obtain ⟨a, n, c, L, h1, h2, h3, h4⟩ := Read.elems (enc := fun x => [g x]) (R := R) (fun _ => rfl) Nat.one_pos hE ht hs h
  rw [← List.map_eq_flatMap] at h3
  exact ⟨a, n, c, L, h1, h2, h3, h4⟩
theorem Read.ints {k : IntKind} {cs : List Value} (ht : P.underlying t = some (.slice e)) (he : P.underlying e = some (.int k)) (hs : P.cellsOf e = 1) (h : Go.Q.Read P w t cs) :
    ∃ a n c, ∃ L : List Int, cs = [.slice a n c] ∧ L.length = n ∧ Sl w a n c 1 (ints k L) ∧ ∀ x ∈ L, (Lit.int k x).wf = true :=
  Read.ones (g := Value.int k) (fun _ h => Go.Q.Read.int he h) ht hs h
theorem Arg.slice {v : Value} (ht : P.underlying t = some (.slice e)) (h : Arg P w t v) : ∃ a n c, v = .slice a n c ∧ Go.Q.Read P w t [v] := by
  obtain ⟨⟨r, b, ho⟩, hr⟩ := h
  unfold Value.okWide Cell.okWide Cell.ok at ho
  simp only [ht] at ho
  cases v with
  | slice a n c => exact ⟨a, n, c, rfl, hr⟩
  | _ => simp at ho
end
end Go.V

/- Loops in the calculus: counting loops, the search of slices.IndexFunc. -/

namespace Go.V
open Go Go.RowKit Go.Q

theorem _root_.Go.Q.Sl.up {w w' : World} {a : Option Addr} {n c sz : Nat} {xs : List Value} (h : Sl w a n c sz xs) (hb : bel w w') : Sl w' a n c sz xs := h.kept hb
theorem loop_up {w0 : World} {body : ((Int × Unit) → World → Prop) → (Int × Unit) → World → Prop} (n : Nat) (I : Nat → World → Prop) (h0 : I 0 w0)
    (h : ∀ i w, i ≤ n → I i w → ∀ again : (Int × Unit) → World → Prop, (∀ w', i < n → I (i + 1) w' → again ((i : Int) + 1, ()) w') → body again ((i : Int), ()) w) : loop (0, ()) w0 body := by
  refine loop_gh (G := Nat) (fun i s w' => s = ((i : Int), ()) ∧ i ≤ n ∧ I i w') (fun i => n - i) 0 ⟨rfl, Nat.zero_le _, h0⟩ ?_
  rintro i s w ⟨rfl, hi, hI⟩ again hag
  exact h i w hi hI again fun w' hlt hI' => hag (i + 1) _ _ ⟨rfl, hlt, hI'⟩ (by omega)
theorem loop_upA {A : Type} {a0 : A} {w0 : World} {body : ((A × Int × Unit) → World → Prop) → (A × Int × Unit) → World → Prop} (n : Nat) (I : Nat → A → World → Prop) (h0 : I 0 a0 w0)
    (h : ∀ i a w, i ≤ n → I i a w → ∀ again : (A × Int × Unit) → World → Prop, (∀ a' w', i < n → I (i + 1) a' w' → again (a', (i : Int) + 1, ()) w') → body again (a, (i : Int), ()) w) : loop (a0, 0, ()) w0 body := by
  refine loop_gh (G := Nat) (fun i s w' => s.2 = ((i : Int), ()) ∧ i ≤ n ∧ I i s.1 w') (fun i => n - i) 0 ⟨rfl, Nat.zero_le _, h0⟩ ?_
  rintro i ⟨a, s⟩ w ⟨rfl, hi, hI⟩ again hag
  exact h i a w hi hI again fun a' w' hlt hI' => hag (i + 1) _ _ ⟨rfl, hlt, hI'⟩ (by omega)
theorem callX_of {P : Program} {h : Nat} {args args' : List Value} {r : RS} {w : World} {k : r.T → World → Prop} {fn : Func} (hf : P.funcs[h]? = some fn) (hp : plainF fn = true) (ha : args = args') (hc : call P h args' r w k) : callX P h args r w k := by
  unfold callX; rw [hf]; dsimp only; rw [hp]; subst ha; exact hc

theorem var_mk {P : Program} {e : TypeId} {z v : Value} {w : World} {k : Addr → World → Prop} (hz : zeroOf P e = some z) (hs : sizeIs P e v.cells.size = true) (hl : v.cells.size = z.cells.size) (hp : plainV v.cells.toList = true)
    (hk : ∀ a w', Box w' a v.cells.toList → bel w w' → a.block = w.heap.size → k a w') :
    wr P (Instr.alloc e true (.tuple #[])) (.one .addr) w fun x w1 => wu P (Instr.storeAt e (.pointer (some x)) v) w1 fun w2 => k x w2 := by
  refine wr_alloc hz fun a w1 Z h ha _ => ?_
  refine wu_box Z hs (by rw [hl]; simp) hp fun w2 Z hg _ => ?_
  have e2 : putAt z.cells.toList 0 v.cells.toList = v.cells.toList := by
    have key : ∀ (vs pre cs : List Value), cs.length = vs.length → putAt (pre ++ cs) pre.length vs = pre ++ vs := by
      intro vs
      induction vs with
      | nil => intro pre cs h; rw [List.eq_nil_of_length_eq_zero h]; rfl
      | cons x vs ih =>
        intro pre cs h
        cases cs with
        | nil => simp at h
        | cons c cs =>
          simp only [putAt]
          have h1 : (pre ++ c :: cs).set pre.length x = (pre ++ [x]) ++ cs := by simp
          rw [h1]
          have := ih (pre ++ [x]) cs (by simpa using h)
          simp only [List.length_append, List.length_cons, List.length_nil, Nat.zero_add] at this
          rw [this]; simp
    have := key v.cells.toList [] z.cells.toList (by simp [hl])
    simpa using this
  rw [e2] at Z
  exact hk _ _ Z (h.grownAt hg (by omega)) ha

end Go.V

/- A block of one's own that others may write: relations for regions that tell their states. -/

namespace Go.V
open Go Go.RowKit Go.Q

abbrev Xg (b : Nat) : Rel := fun w w' => w.grownBy w' (some b)
theorem Box.xg {w w' : World} {a : Addr} {cs : List Value} {b : Nat} (X : Box w a cs) (h : Xg b w w') (hne : a.block ≠ b) : Box w' a cs := X.grown h (by intro e; injection e; omega)
theorem _root_.Go.Q.Sl.xg {w w' : World} {a : Option Addr} {n c sz : Nat} {xs : List Value} {b : Nat} (S : Sl w a n c sz xs) (h : Xg b w w') (hne : ∀ ad, a = some ad → xs ≠ [] → ad.block ≠ b) : Sl w' a n c sz xs :=
  S.grown h fun ad ha hx e => hne ad ha hx (by injection e)
theorem Own.xg {w w' : World} {B : Nat} {e : TypeId} {sz : Nat} {a : Option Addr} {n c : Nat} {xs : List Value} {b : Nat} (O : Own w B e sz a n c xs) (h : Xg b w w') (hb : b < B) : Own w' B e sz a n c xs := by
  refine O.keptBy h ?_
  cases hk : blk a with
  | none => exact .inl rfl
  | some k => exact .inr fun q => by have := (O.lt k hk).1; injection q; omega
theorem rdE_box0 {P : Program} {E : Rel} {t : TypeId} {s : Sh} {w : World} {a : Addr} {cs : List Value} {v : Value} {x : s.T} {k : s.T → Prop} (ht : scal P t = true) (h : ∀ w', E w w' → Box w' a cs) (hi : cs[0]? = some v) (hx : s.get v = some x) (hk : k x) :
    rdE P E (Instr.loadAt t (.pointer (some a))) (.one s) w k := ⟨x, fun w' hw => by rw [run_loadAt, run_loadVar1 ht ((h w' hw).cell0 hi), Sh.get_spec hx]; rfl, hk⟩
theorem rdE_box {P : Program} {E : Rel} {t : TypeId} {s : Sh} {w : World} {a : Addr} {cs : List Value} {i : Nat} {v : Value} {x : s.T} {k : s.T → Prop} (ht : scal P t = true) (h : ∀ w', E w w' → Box w' a cs) (hi : cs[i]? = some v) (hx : s.get v = some x) (hk : k x) :
    rdE P E (Instr.loadAt t (.pointer (some (a.add i)))) (.one s) w k := ⟨x, fun w' hw => by rw [run_loadAt, run_loadVar1 ht ((h w' hw).cell hi), Sh.get_spec hx]; rfl, hk⟩
theorem flExC_mkD {w0 : World} {B : Rel → (Nat → Rel) → ((Nat → Bool) → World → Prop) → ((Nat → Bool) → Facts) → Prop} (E : Rel) (G : Nat → Rel) (St : (Nat → Bool) → World → Prop) (Φ : (Nat → Bool) → Facts) (h1 : ∀ w, E w w) (h2 : ∀ a b c, E a b → E b c → E a c)
    (h3 : ∀ i j D ags v w w', i ≠ j → D i = true → D j = false → Φ D i ags v w → E w w' → G j w w' → Φ (setD D j) i ags v w') (h4 : St (fun _ => false) w0) (h5 : B E G St Φ) : flExC w0 B := ⟨E, G, St, Φ, h1, h2, h3, h4, h5⟩
theorem flExC_mk {w0 : World} {B : Rel → (Nat → Rel) → ((Nat → Bool) → World → Prop) → ((Nat → Bool) → Facts) → Prop} (E : Rel) (G : Nat → Rel) (St : (Nat → Bool) → World → Prop) (Φ : Facts) (h1 : ∀ w, E w w) (h2 : ∀ a b c, E a b → E b c → E a c)
    (h3 : ∀ i j ags v w w', i ≠ j → Φ i ags v w → E w w' → G j w w' → Φ i ags v w') (h4 : St (fun _ => false) w0) (h5 : B E G St (fun _ => Φ)) : flExC w0 B := ⟨E, G, St, fun _ => Φ, h1, h2, fun i j _ ags v w w' a _ _ b c d => h3 i j ags v w w' a b c d, h4, h5⟩
theorem flcC_mk {St : (Nat → Bool) → World → Prop} {j : Nat} {E : Rel} {w0 : World} {pre : (Nat → Bool) → World → Prop} {ob : (Nat → Bool) → World → Prop} {T : Type} {nxt : T → Prop} (h1 : ∀ D w, D j = false → E w0 w → St D w → pre D w → ob D w) (h2 : ∀ x, nxt x) : flcC St j E w0 pre ob nxt := ⟨h1, h2⟩
theorem flendC_mk {St : (Nat → Bool) → World → Prop} {L : List Nat} {E : Rel} {w0 : World} {pre : (Nat → Bool) → World → Prop} {k : World → Prop} (h : ∀ w, E w0 w → St (fun i => L.contains i) w → pre (fun i => L.contains i) w → k w) : flendC St L E w0 pre k := h
theorem setD_self (D : Nat → Bool) (j : Nat) : setD D j j = true := by simp [setD]
theorem setD_ne {D : Nat → Bool} {i j : Nat} (h : i ≠ j) : setD D j i = D i := by simp [setD, h]
structure Xb (S : Nat → Prop) (w w' : World) : Prop where
  os : w'.os = w.os
  tape : w'.tape = w.tape
  output : w'.output = w.output
  size : w.heap.size ≤ w'.heap.size
  block : ∀ k, k < w.heap.size → ¬ S k → w'.heap[k]? = w.heap[k]?
theorem Xb.refl (S : Nat → Prop) (w : World) : Xb S w w := ⟨rfl, rfl, rfl, Nat.le_refl _, fun _ _ _ => rfl⟩
theorem Xb.trans {S : Nat → Prop} {a b c : World} (h : Xb S a b) (h' : Xb S b c) : Xb S a c :=
  ⟨h'.os.trans h.os, h'.tape.trans h.tape, h'.output.trans h.output, Nat.le_trans h.size h'.size, fun k hk hs => by rw [h'.block k (by have := h.size; omega) hs, h.block k hk hs]⟩
theorem Xb.of {S : Nat → Prop} {w w' : World} {o : Option Nat} (h : w.grownBy w' o) (ho : ∀ k, o = some k → S k) : Xb S w w' :=
  ⟨h.os, h.tape, h.output, h.size, fun k hk hs => h.block k hk (fun e => hs (ho k e.symm))⟩
theorem Xb.bel {S : Nat → Prop} {a w w' : World} (h : bel a w) (h' : Xb S w w') (hs : ∀ k, S k → a.heap.size ≤ k) : bel a w' :=
  ⟨h'.os.trans h.os, h'.tape.trans h.tape, h'.output.trans h.output, Nat.le_trans h.size h'.size, fun k hk => by rw [h'.block k (by have := h.size; omega) (fun q => by have := hs k q; omega), h.block k hk]⟩
theorem Xb.more {S S' : Nat → Prop} {a w w' : World} (h : Xb S a w) (h' : Xb S' w w') (hs : ∀ k, S' k → S k ∨ a.heap.size ≤ k) : Xb S a w' :=
  ⟨h'.os.trans h.os, h'.tape.trans h.tape, h'.output.trans h.output, Nat.le_trans h.size h'.size, fun k hk hn => by
    rw [h'.block k (by have := h.size; omega) (fun q => by
      rcases hs k q with q | q
      · exact hn q
      · omega), h.block k hk hn]⟩
theorem _root_.Go.Q.Sl.xb {S : Nat → Prop} {w w' : World} {a : Option Addr} {n c sz : Nat} {xs : List Value} (H : Sl w a n c sz xs) (hX : Xb S w w') (hne : ∀ ad, a = some ad → xs ≠ [] → ¬ S ad.block) : Sl w' a n c sz xs := by
  refine ⟨H.len, H.cap, H.most, H.nil', fun k u hu => ?_⟩
  obtain ⟨ad, q1, q2, q3⟩ := H.at' k u hu
  have hx : xs ≠ [] := by rintro rfl; simp at hu
  refine ⟨ad, q1, ?_, by have := hX.size; omega⟩
  have := hX.block ad.block q3 (hne ad q1 hx)
  unfold World.cell? at q2 ⊢
  rw [add_block] at q2 ⊢
  rw [this]; exact q2
theorem Box.xb {S : Nat → Prop} {w w' : World} {a : Addr} {cs : List Value} (X : Box w a cs) (hX : Xb S w w') (hne : ¬ S a.block) : Box w' a cs :=
  ⟨X.off, X.spot, by obtain ⟨T, hT⟩ := X.blk; exact ⟨T, by rw [hX.block _ X.lt hne]; exact hT⟩⟩
theorem Own.apart {w : World} {B B' : Nat} {e e' : TypeId} {sz sz' : Nat} {a a' : Option Addr} {n c n' c' : Nat} {xs ys : List Value} (h : Own w B e sz a n c xs) (h' : Own w B' e' sz' a' n' c' ys) (hne : e ≠ e') : ∀ k, blk a = some k → blk a' = some k → False := by
  intro k hk hk'
  obtain ⟨_, h2⟩ := h
  obtain ⟨_, h2'⟩ := h'
  rcases h2 with ⟨hv, _⟩ | ⟨g, cap, cur, hv, _, hh, _⟩
  · injection hv with ha; rw [ha] at hk; cases hk
  · rcases h2' with ⟨hv', _⟩ | ⟨g', cap', cur', hv', _, hh', _⟩
    · injection hv' with ha'; rw [ha'] at hk'; cases hk'
    · injection hv with ha
      injection hv' with ha'
      subst ha ha'
      have q1 : g = k := by simpa [blk] using hk
      have q2 : g' = k := by simpa [blk] using hk'
      subst q1
      subst q2
      rw [hh] at hh'
      injection hh' with hh'
      injection hh' with _ he _
      exact hne he
theorem xg_put {w w' w'' : World} {t : Nat} {o : Option Nat} (h : w.grownBy w' (some t)) (hg : w'.grownBy w'' o) (ho : ∀ k, o = some k → w.heap.size ≤ k ∨ k = t) : w.grownBy w'' (some t) :=
  ⟨hg.os.trans h.os, hg.tape.trans h.tape, hg.output.trans h.output, Nat.le_trans h.size hg.size, fun k hk hne => by
    rw [hg.block k (by have := h.size; omega) (fun e => by
      rcases ho k e.symm with q | q
      · omega
      · exact hne (by rw [q])), h.block k hk hne]⟩
end Go.V

/- copy, and regions with a relation. -/


namespace Go.V
open Go Go.RowKit Go.Q

theorem putAt_at : ∀ (vs pre cs : List Value), vs.length ≤ cs.length → putAt (pre ++ cs) pre.length vs = pre ++ vs ++ cs.drop vs.length
  | [], pre, cs, _ => by simp [putAt]
  | v :: vs, pre, [], h => by simp at h
  | v :: vs, pre, c :: cs, h => by
    simp only [putAt]
    have h1 : (pre ++ c :: cs).set pre.length v = (pre ++ [v]) ++ cs := by simp
    rw [h1]
    have := putAt_at vs (pre ++ [v]) cs (by simpa using h)
    simp only [List.length_append, List.length_cons, List.length_nil, Nat.zero_add] at this
    rw [this]; simp
end Go.V

/- Values and rows compared (as in the bag's texts). -/





namespace Go.Bag
structure TO {α : Type} (c : α → α → Int) : Prop where
  eq : ∀ a b, c a b = 0 ↔ a = b
  sym : ∀ a b, c a b < 0 ↔ 0 < c b a
  tr : ∀ a b d, c a b < 0 → c b d < 0 → c a d < 0
section
variable {α : Type} {c : α → α → Int}
theorem TO.refl (H : TO c) (a : α) : c a a = 0 := (H.eq a a).2 rfl
theorem TO.le_tr (H : TO c) {a b d : α} (h1 : c a b ≤ 0) (h2 : c b d ≤ 0) : c a d ≤ 0 := by
  rcases Int.lt_or_eq_of_le h1 with q | q
  · rcases Int.lt_or_eq_of_le h2 with r | r
    · have := H.tr a b d q r; omega
    · rw [(H.eq b d).1 r] at h1; exact h1
  · rw [(H.eq a b).1 q]; exact h2
theorem TO.tot (H : TO c) (a b : α) : c a b ≤ 0 ∨ c b a ≤ 0 := by
  have := H.sym b a
  by_cases h : c a b ≤ 0
  · exact .inl h
  · exact .inr (by have := this.2 (by omega); omega)
def lexc (c : α → α → Int) : List α → List α → Int
  | [], [] => 0
  | [], _ :: _ => -1
  | _ :: _, [] => 1
  | a :: x, b :: y => if c a b = 0 then lexc c x y else c a b
end
end Go.Bag
namespace Go.Proofs.YtcfghfmlfgaeaaaGreatDoor
open Go.RowKit Go.Q Go.V Go.Bag

abbrev V3 := Int × Int × ByteArray
theorem less_irr : ∀ x : List UInt8, Op.bytesLess x x = false
  | [] => rfl
  | a :: x => by unfold Op.bytesLess; rw [less_irr x]; simp
theorem less_tr : ∀ {x y z : List UInt8}, Op.bytesLess x y = true → Op.bytesLess y z = true → Op.bytesLess x z = true
  | _, [], _, h, _ => by simp [Op.bytesLess] at h
  | _, _ :: _, [], _, h => by simp [Op.bytesLess] at h
  | [], b :: y, d :: z, _, _ => by simp [Op.bytesLess]
  | a :: x, b :: y, d :: z, h1, h2 => by
    simp only [Op.bytesLess, Bool.or_eq_true, decide_eq_true_eq, Bool.and_eq_true, beq_iff_eq] at h1 h2 ⊢
    rcases h1 with h1 | ⟨rfl, h1⟩
    · rcases h2 with h2 | ⟨rfl, _⟩
      · exact .inl (UInt8.lt_trans h1 h2)
      · exact .inl h1
    · rcases h2 with h2 | ⟨rfl, h2⟩
      · exact .inl h2
      · exact .inr ⟨rfl, less_tr h1 h2⟩
theorem less_tot : ∀ {x y : List UInt8}, x ≠ y → Op.bytesLess x y = true ∨ Op.bytesLess y x = true
  | [], [], h => absurd rfl h
  | [], _ :: _, _ => by simp [Op.bytesLess]
  | _ :: _, [], _ => by simp [Op.bytesLess]
  | a :: x, b :: y, h => by
    simp only [Op.bytesLess, Bool.or_eq_true, decide_eq_true_eq, Bool.and_eq_true, beq_iff_eq]
    rcases Nat.lt_trichotomy a.toNat b.toNat with q | q | q
    · exact .inl (.inl (UInt8.lt_iff_toNat_lt.2 q))
    · have e : a = b := UInt8.toNat_inj.1 q
      subst e
      rcases less_tot (x := x) (y := y) (fun z => h (by rw [z])) with z | z
      · exact .inl (.inr ⟨rfl, z⟩)
      · exact .inr (.inr ⟨rfl, z⟩)
    · exact .inr (.inl (UInt8.lt_iff_toNat_lt.2 q))
theorem bytes_inj {a b : ByteArray} (h : a.toList = b.toList) : a = b := by
  rw [ByteArray.toList_eq, ByteArray.toList_eq] at h
  cases a; cases b
  congr 1
  exact Array.toList_inj.1 h
def cmpS3 (a b : ByteArray) : Int := if Op.bytesLess a.toList b.toList = true then -1 else if a.toList = b.toList then 0 else 1
theorem cmpS_lt {a b : ByteArray} : cmpS3 a b < 0 ↔ Op.bytesLess a.toList b.toList = true := by
  unfold cmpS3
  split
  · rename_i h; simp [h]
  · rename_i h
    split <;> simp [h]
theorem cmpS_eq {a b : ByteArray} : cmpS3 a b = 0 ↔ a = b := by
  unfold cmpS3
  split
  · rename_i h
    constructor
    · intro q; omega
    · intro q; subst q; rw [less_irr] at h; cases h
  · split
    · rename_i h; simp [bytes_inj h]
    · rename_i h
      constructor
      · intro q; omega
      · intro q; exact absurd (by rw [q]) h
theorem cmpS_to : TO cmpS3 := by
  refine ⟨fun a b => cmpS_eq, fun a b => ?_, fun a b d h1 h2 => cmpS_lt.2 (less_tr (cmpS_lt.1 h1) (cmpS_lt.1 h2))⟩
  rw [cmpS_lt]
  constructor
  · intro h
    have h1 : ¬ cmpS3 b a < 0 := fun q => by have := less_tr h (cmpS_lt.1 q); rw [less_irr] at this; cases this
    have h2 : cmpS3 b a ≠ 0 := fun q => by rw [cmpS_eq.1 q, less_irr] at h; cases h
    omega
  · intro h
    have h1 : Op.bytesLess b.toList a.toList ≠ true := fun q => by have := cmpS_lt.2 q; omega
    have h2 : b ≠ a := fun q => by have := cmpS_eq.2 q; omega
    rcases less_tot (x := a.toList) (y := b.toList) (fun q => h2 (bytes_inj q).symm) with z | z
    · exact z
    · exact absurd z h1
def cmpI (x y : Int) : Int := if x < y then -1 else if x > y then 1 else 0
theorem cmpI_to : TO cmpI := by
  refine ⟨fun a b => ?_, fun a b => ?_, fun a b d => ?_⟩ <;> unfold cmpI <;> (repeat' split) <;> omega
def or2 (x y : Int) : Int := if x = 0 then y else x
theorem pair_to {α β : Type} {c : α → α → Int} {d : β → β → Int} (H : TO c) (K : TO d) : TO fun (x y : α × β) => or2 (c x.1 y.1) (d x.2 y.2) := by
  unfold or2
  refine ⟨fun a b => ?_, fun a b => ?_, fun a b e => ?_⟩
  · split
    · rename_i h
      rw [K.eq]
      constructor
      · intro q; exact Prod.ext ((H.eq _ _).1 h) q
      · intro q; rw [q]
    · rename_i h
      constructor
      · intro q; exact absurd q h
      · intro q; rw [q, H.refl] at h; exact absurd rfl h
  · by_cases h : c a.1 b.1 = 0
    · have h2 : c b.1 a.1 = 0 := by rw [(H.eq _ _).1 h]; exact H.refl _
      rw [if_pos h, if_pos h2]; exact K.sym _ _
    · have h2 : c b.1 a.1 ≠ 0 := fun q => h (by rw [(H.eq _ _).1 q]; exact H.refl _)
      rw [if_neg h, if_neg h2]; exact H.sym _ _
  · by_cases h : c a.1 b.1 = 0
    · rw [if_pos h]
      have e1 := (H.eq _ _).1 h
      by_cases h' : c b.1 e.1 = 0
      · rw [if_pos h', if_pos (by rw [e1]; exact h')]; exact K.tr _ _ _
      · rw [if_neg h', if_neg (by rw [e1]; exact h')]
        intro _ q; rw [e1]; exact q
    · rw [if_neg h]
      by_cases h' : c b.1 e.1 = 0
      · rw [if_pos h', if_neg (by rw [← (H.eq _ _).1 h']; exact h)]
        intro q _; rw [← (H.eq _ _).1 h']; exact q
      · rw [if_neg h']
        intro q1 q2
        have := H.tr _ _ _ q1 q2
        rw [if_neg (by omega)]; exact this
def cmpV (a b : V3) : Int := or2 (cmpI a.1 b.1) (or2 (cmpI a.2.1 b.2.1) (cmpS3 a.2.2 b.2.2))
theorem cmpV_to : TO cmpV := pair_to cmpI_to (pair_to cmpI_to cmpS_to)
abbrev Rw := List V3
def cmpR (r s : Rw) : Int := lexc cmpV r s

/-! ### reading -/
theorem rdp_b {P : Program} {op : BinOp} {t : TypeId} {x y : Operand} {a b : Value} {v : Bool} {K : Bool → Prop} (hop : (op matches .eql | .neq) = false) (h : ∀ w, (Go.binOp op t a b).run P w = .ok (.bool v) w) (hk : K v) :
    rdp P (Go.V.cmpS op t x y a b) (.one .bool) K := by
  refine ⟨v, fun w => ?_, hk⟩
  unfold Go.V.cmpS eqGuard
  cases op <;> first | (cases hop; done) | (simp only [Bool.not_false, if_true, Sem.run_bind, Sem.run_pure, Result.andThen_ok]; exact h w)
theorem lss_mk {t : TypeId} {x y : Operand} {a b : ByteArray} {K : Bool → Prop} (hk : K (Op.bytesLess a.toList b.toList)) : rdp Tryz.prog (Go.V.cmpS .lss t x y (.string a) (.string b)) (.one .bool) K :=
  rdp_b rfl (fun w => by rw [binOp_string_lss, Sem.run_pure]) hk
theorem gtr_mk {t : TypeId} {x y : Operand} {a b : ByteArray} {K : Bool → Prop} (hk : K (!(Op.bytesLess a.toList b.toList || a.toList == b.toList))) : rdp Tryz.prog (Go.V.cmpS .gtr t x y (.string a) (.string b)) (.one .bool) K :=
  rdp_b rfl (fun w => by rw [binOp_string_gtr, Sem.run_pure]) hk
theorem neq_mk {t : TypeId} {x y : Operand} {a b : ByteArray} {w : World} {K : Bool → Prop} (hk : K (!(a.toList == b.toList))) : rd Tryz.prog (Go.V.cmpS .neq t x y (.string a) (.string b)) (.one .bool) w K := by
  refine ⟨_, fun w' _ => ?_, hk⟩
  unfold Go.V.cmpS eqGuard
  simp only [Bool.not_true, Bool.false_eq_true, if_false, Sem.run_bind, Sem.run_pure, Result.andThen_ok, binOp_string_neq]
  rfl
theorem tyI : TyS Tryz.prog 22 3 (.int .i64 0) 1 8 := ⟨by kernel_rfl, by kernel_rfl⟩
theorem nanI (n : Int) (w : World) : call Tryz.prog 170 [.int .i64 n] (.one (.one .bool)) w (fun x w' => x = false ∧ w' = w) := by
  refine call_of (S170_calls n w _ ?_)
  unfold S170
  exact ⟨false, by simp [RS.val, VS.val, Sh.val], rfl, rfl⟩
theorem nanL (n : Int) (w : World) : call Tryz.prog 171 [.int .i64 n] (.one (.one .bool)) w (fun x w' => x = false ∧ w' = w) := by
  refine call_of (S171_calls n w _ ?_)
  unfold S171
  exact ⟨false, by simp [RS.val, VS.val, Sh.val], rfl, rfl⟩
theorem nanS (n : ByteArray) (w : World) : call Tryz.prog 172 [.string n] (.one (.one .bool)) w (fun x w' => x = false ∧ w' = w) := by
  refine call_of (S172_calls n w _ ?_)
  unfold S172
  exact neq_mk ⟨!(n.toList == n.toList), rfl, (by rw [beq_self_eq_true]; rfl), rfl⟩
theorem compI (x y : Int) (w : World) : call Tryz.prog 97 [.int .i64 x, .int .i64 y] (.one (.one (.int .i64))) w (fun (r : Int) w' => r = cmpI x y ∧ w' = w) := by
  refine call_of (S97_calls x y w _ ?_)
  unfold S97
  refine call_mono (nanI x w) fun _ w2 ⟨e1, e2⟩ => ?_
  subst e1 e2
  refine call_mono (nanI y w2) fun _ w3 ⟨e1, e2⟩ => ?_
  subst e1 e2
  unfold cmpI
  refine br_f rfl (br_f rfl ?_)
  refine br_dec (fun e => ⟨_, rfl, (if_pos e).symm, rfl⟩) (fun e => ?_)
  rw [if_neg e]
  exact br_dec (fun e2 => ⟨_, rfl, (if_pos e2).symm, rfl⟩) (fun e2 => ⟨_, rfl, (if_neg e2).symm, rfl⟩)
theorem compL (x y : Int) (w : World) : call Tryz.prog 98 [.int .i64 x, .int .i64 y] (.one (.one (.int .i64))) w (fun (r : Int) w' => r = cmpI x y ∧ w' = w) := by
  refine call_of (S98_calls x y w _ ?_)
  unfold S98
  refine call_mono (nanL x w) fun _ w2 ⟨e1, e2⟩ => ?_
  subst e1 e2
  refine call_mono (nanL y w2) fun _ w3 ⟨e1, e2⟩ => ?_
  subst e1 e2
  unfold cmpI
  refine br_f rfl (br_f rfl ?_)
  refine br_dec (fun e => ⟨_, rfl, (if_pos e).symm, rfl⟩) (fun e => ?_)
  rw [if_neg e]
  exact br_dec (fun e2 => ⟨_, rfl, (if_pos e2).symm, rfl⟩) (fun e2 => ⟨_, rfl, (if_neg e2).symm, rfl⟩)
theorem text_mk {t : TypeId} {x1 y1 x2 y2 : Operand} {a b : ByteArray} {A B C : Prop} (h1 : cmpS3 a b = -1 → A) (h2 : cmpS3 a b = 1 → B) (h3 : cmpS3 a b = 0 → C) :
    rdp Tryz.prog (Go.V.cmpS .lss t x1 y1 (.string a) (.string b)) (.one .bool) fun (x : Bool) => br x A (rdp Tryz.prog (Go.V.cmpS .gtr t x2 y2 (.string a) (.string b)) (.one .bool) fun (y : Bool) => br y B C) := by
  refine lss_mk (br_mk (fun q => h1 (if_pos q)) (fun q => ?_))
  refine gtr_mk (br_mk (fun q2 => h2 ?_) (fun q2 => h3 ?_))
  · rw [q] at q2
    simp at q2
    unfold cmpS3
    rw [if_neg (by simp [q]), if_neg q2]
  · rw [q] at q2
    simp at q2
    unfold cmpS3
    rw [if_neg (by simp [q]), if_pos q2]
theorem compS (x y : ByteArray) (w : World) : call Tryz.prog 99 [.string x, .string y] (.one (.one (.int .i64))) w (fun (r : Int) w' => r = cmpS3 x y ∧ w' = w) := by
  refine call_of (S99_calls x y w _ ?_)
  unfold S99
  refine call_mono (nanS x w) fun _ w2 ⟨e1, e2⟩ => ?_
  subst e1 e2
  refine call_mono (nanS y w2) fun _ w3 ⟨e1, e2⟩ => ?_
  subst e1 e2
  refine br_f rfl (br_f rfl ?_)
  exact text_mk (fun q => ⟨_, rfl, q.symm, rfl⟩) (fun q => ⟨_, rfl, q.symm, rfl⟩) (fun q => ⟨_, rfl, q.symm, rfl⟩)
def first0 : List Int → Int
  | [] => 0
  | a :: l => if a = 0 then first0 l else a
theorem first_drop : ∀ {l : List Int} {i : Nat} {x : Int}, l[i]? = some x → first0 (l.drop i) = if x = 0 then first0 (l.drop (i + 1)) else x
  | [], i, x, h => by simp at h
  | a :: l, 0, x, h => by
    simp at h; subst h
    simp [first0]
  | a :: l, i + 1, x, h => by
    simp at h
    simpa using first_drop h
theorem fill_i3 (a b c : Int) : Instr.fill (fun i => some (i * 1, 1)) ((Array.range (3 * 1)).map ((Value.int .i64 0).cells[· % (Value.int .i64 0).cells.size]!)) (#[(0, .int .i64 a), (1, .int .i64 b), (2, .int .i64 c)] : Array (Nat × Value)).toList = some #[.int .i64 a, .int .i64 b, .int .i64 c] := by kernel_rfl
abbrev vv (a : V3) : Value := .agg #[.int .i64 a.1, .int .i64 a.2.1, .string a.2.2]
abbrev encV (a : V3) : List Value := [.int .i64 a.1, .int .i64 a.2.1, .string a.2.2]
def Φc : Facts := fun i ags v _ => (i = 4 → ∀ x y, ags = [.int .i64 x, .int .i64 y] → v = .int .i64 (cmpI x y)) ∧ (i = 9 → ∀ x y, ags = [.int .i64 x, .int .i64 y] → v = .int .i64 (cmpI x y))
theorem tyV : TyS Tryz.prog 56 55 (.agg #[.int .i64 0, .int .i64 0, .string ByteArray.empty]) 3 32 := ⟨by kernel_rfl, by kernel_rfl⟩
theorem encV_len (a : V3) : (encV a).length = 3 := rfl
abbrev RowAt (w : World) (x : Hdr) (r : Rw) : Prop := Sl w x.1 x.2.1 x.2.2 3 (r.flatMap encV)
theorem RowAt.len {w : World} {x : Hdr} {r : Rw} (H : RowAt w x r) : r.length = x.2.1 := by
  have := Sl.len H
  rw [flat_len encV_len] at this; omega
theorem RowAt.le {w : World} {x : Hdr} {r : Rw} (H : RowAt w x r) : r.length ≤ 9223372036854775807 := by
  have := Sl.le H
  have := RowAt.len H
  omega
theorem row_at {w : World} {x : Hdr} {r : Rw} (H : RowAt w x r) {i : Int} {j : Nat} (hj : i = (j : Int)) (hn : j < r.length) {K : (Int × Int × ByteArray × Unit) → Prop} (hk : ∀ p : V3, r[j]? = some p → K (p.1, p.2.1, p.2.2, ())) :
    rdp Tryz.prog (Instr.indexAt 56 (.slice x.1 x.2.1 x.2.2) (.int .i64 i)) (.one .addr) fun ad => rd Tryz.prog (Instr.loadAt 55 (.pointer (some ad))) (.agg [.int .i64, .int .i64, .str]) w K := by
  obtain ⟨p, hp⟩ : ∃ p, r[j]? = some p := ⟨_, List.getElem?_eq_getElem hn⟩
  exact at_agg tyV (by kernel_rfl) encV_len (by omega) H hj hp rfl (hk p hp)
theorem lexc_drop {c : V3 → V3 → Int} {r s : Rw} {i : Nat} {p q : V3} (h : r[i]? = some p) (h' : s[i]? = some q) : lexc c (r.drop i) (s.drop i) = if c p q = 0 then lexc c (r.drop (i + 1)) (s.drop (i + 1)) else c p q := by
  rw [List.drop_eq_getElem_cons (List.getElem?_eq_some_iff.1 h).1, List.drop_eq_getElem_cons (List.getElem?_eq_some_iff.1 h').1]
  rw [(List.getElem?_eq_some_iff.1 h).2, (List.getElem?_eq_some_iff.1 h').2]
  rfl
theorem lexc_end1 {c : V3 → V3 → Int} {r s : Rw} {i : Nat} (h : i = r.length) (h' : i < s.length) : lexc c (r.drop i) (s.drop i) = -1 := by
  rw [List.drop_eq_getElem_cons h', List.drop_of_length_le (by omega)]; rfl
theorem lexc_end2 {c : V3 → V3 → Int} {r s : Rw} {i : Nat} (h : i < r.length) (h' : i = s.length) : lexc c (r.drop i) (s.drop i) = 1 := by
  rw [List.drop_eq_getElem_cons h, List.drop_of_length_le (l := s) (by omega)]; rfl
theorem lexc_end0 {c : V3 → V3 → Int} {r s : Rw} {i : Nat} (h : i = r.length) (h' : i = s.length) : lexc c (r.drop i) (s.drop i) = 0 := by
  rw [List.drop_of_length_le (by omega), List.drop_of_length_le (by omega)]; rfl
theorem comp01 (a b : V3) (w : World) : call Tryz.prog 40 [vv a, vv b] (.one (.one (.int .i64))) w (fun (r : Int) w' => r = cmpV a b ∧ bel w w') := by
  refine call_of (S40_calls a.1 a.2.1 a.2.2 b.1 b.2.1 b.2.2 w _ ?_)
  unfold S40
  refine wr_box fun x1 w2 X1 h2 _ _ => ?_
  refine wr_box fun x3 w4 X3 h4 _ _ => ?_
  replace X1 : Box w4 x1 (encV a) := X1.up h4
  replace X3 : Box w4 x3 (encV b) := X3
  replace h2 := h2.trans h4
  unfold cmpV
  refine rd_box0 (by kernel_rfl) X1 rfl rfl ?_
  refine rd_box0 (by kernel_rfl) X3 rfl rfl ?_
  refine br_dec (fun q => ⟨_, rfl, by unfold or2 cmpI; rw [if_pos q]; rfl, h2⟩) (fun q => ?_)
  refine rd_box0 (by kernel_rfl) X1 rfl rfl ?_
  refine rd_box0 (by kernel_rfl) X3 rfl rfl ?_
  refine br_dec (fun q' => ⟨_, rfl, by unfold or2 cmpI; rw [if_neg q, if_pos q']; rfl, h2⟩) (fun q' => ?_)
  have e1 : cmpI a.1 b.1 = 0 := by unfold cmpI; rw [if_neg q, if_neg q']
  rw [e1]
  refine rd_box (by kernel_rfl) X1 (i := 1) rfl rfl ?_
  refine rd_box (by kernel_rfl) X3 (i := 1) rfl rfl ?_
  refine br_dec (fun r => ⟨_, rfl, by unfold or2 cmpI; rw [if_pos rfl, if_pos r]; rfl, h2⟩) (fun r => ?_)
  refine rd_box (by kernel_rfl) X1 (i := 1) rfl rfl ?_
  refine rd_box (by kernel_rfl) X3 (i := 1) rfl rfl ?_
  refine br_dec (fun r' => ⟨_, rfl, by unfold or2 cmpI; rw [if_pos rfl, if_neg r, if_pos r']; rfl, h2⟩) (fun r' => ?_)
  have e2 : cmpI a.2.1 b.2.1 = 0 := by unfold cmpI; rw [if_neg r, if_neg r']
  rw [e2]
  refine rd_box (by kernel_rfl) X1 (i := 2) rfl rfl ?_
  refine rd_box (by kernel_rfl) X3 (i := 2) rfl rfl ?_
  refine lss_mk (br_mk (fun q2 => ⟨_, rfl, ?_, h2⟩) (fun q2 => ?_))
  · unfold or2 cmpS3; rw [if_pos rfl, if_pos rfl, if_pos q2]
  refine rd_box (by kernel_rfl) X1 (i := 2) rfl rfl ?_
  refine rd_box (by kernel_rfl) X3 (i := 2) rfl rfl ?_
  refine gtr_mk (br_mk (fun q3 => ⟨_, rfl, ?_, h2⟩) (fun q3 => ⟨_, rfl, ?_, h2⟩))
  · rw [q2] at q3
    simp at q3
    unfold or2 cmpS3
    rw [if_pos rfl, if_pos rfl, if_neg (by simp [q2]), if_neg q3]
  · rw [q2] at q3
    simp at q3
    unfold or2 cmpS3
    rw [if_pos rfl, if_pos rfl, if_neg (by simp [q2]), if_pos q3]
theorem rows01 (x y : Hdr) (r s : Rw) (w : World) (HX : RowAt w x r) (HY : RowAt w y s) :
    call Tryz.prog 132 [.slice x.1 x.2.1 x.2.2, .slice y.1 y.2.1 y.2.2] (.one (.one (.int .i64))) w (fun (n : Int) w' => n = cmpR r s ∧ bel w w') := by
  refine call_of (S132_calls _ _ _ _ _ _ w _ ?_)
  unfold S132
  have lx := RowAt.len HX
  have ly := RowAt.len HY
  have mx := RowAt.le HX
  refine join_mk (fun _ w' => bel w w' ∧ ∃ i, i ≤ r.length ∧ i ≤ s.length ∧ (i = r.length ∨ i = s.length) ∧ cmpR r s = lexc cmpV (r.drop i) (s.drop i)) (fun K1 hK => ?_) ?_
  · refine loop_up r.length (fun i w' => bel w w' ∧ cmpR r s = lexc cmpV (r.drop i) (s.drop i) ∧ i ≤ s.length) ⟨bel.refl _, rfl, Nat.zero_le _⟩ fun i w3 hi ⟨hb, he, his⟩ again hag _ => ?_
    refine br_dec (fun e => ?_) (fun e => ?_)
    · refine br_dec (fun e2 => ?_) (fun e2 => ?_)
      · dsimp only at e e2
        refine drw_mk fun w7 h7 _ => ?_
        replace hb := hb.trans h7
        refine row_at (HX.up hb) rfl (by omega) fun p hp => ?_
        refine row_at (HY.up hb) rfl (by omega) fun p' hp' => ?_
        refine call_mono (comp01 p p' w7) fun (n : Int) w17 ⟨en, h17⟩ => ?_
        rw [lexc_drop hp hp'] at he
        subst en
        refine br_ne (fun z => ⟨_, rfl, by rw [he, if_neg z], hb.trans h17⟩) (fun z => ?_)
        rw [if_pos z] at he
        refine z_i64 (by dsimp only; omega) ?_
        exact hag _ (by omega) ⟨hb.trans h17, he, by omega⟩
      · dsimp only at e e2
        exact hK () _ ⟨hb, i, hi, his, .inr (by omega), he⟩
    · dsimp only at e
      exact hK () _ ⟨hb, i, hi, his, .inl (by omega), he⟩
  · rintro _ w3 ⟨hb, i, h1, h2, h3, he⟩ _
    refine br_dec (fun q => ⟨_, rfl, by rw [he, lexc_end1 (by omega) (by omega)], hb⟩) (fun q => ?_)
    refine br_dec (fun q2 => ⟨_, rfl, by rw [he, lexc_end2 (by omega) (by omega)], hb⟩) (fun q2 => ⟨_, rfl, by rw [he, lexc_end0 (by omega) (by omega)], hb⟩)
theorem plainR (r : Rw) : plainV (r.flatMap encV) = true := by
  unfold plainV
  rw [List.all_eq_true]
  intro u hu
  obtain ⟨p, _, hp⟩ := List.mem_flatMap.1 hu
  simp only [List.mem_cons, List.not_mem_nil, or_false] at hp
  rcases hp with rfl | rfl | rfl <;> rfl
end Go.Proofs.YtcfghfmlfgaeaaaGreatDoor

/- Made schemas and instances: the model, and how they lie in memory. -/

namespace Go.Proofs.YtcfghfmlfgaeaaaGreatDoor
open Go.RowKit Go.Q Go.V Go.Bag

/-! ### the model -/
def nm (c k : Nat) : ByteArray := ⟨#[c.toUInt8, (48 + k).toUInt8]⟩
def idB : ByteArray := ⟨#[105, 100]⟩
structure TPar where
  free : List (Int × Bool)
  tos : List Nat
structure TPar.Ok (i : Nat) (t : TPar) : Prop where
  f1 : 1 ≤ t.free.length
  f2 : t.free.length ≤ 2
  ty : ∀ p ∈ t.free, 1 ≤ p.1 ∧ p.1 ≤ 3
  k2 : t.tos.length ≤ 2
  to : ∀ j ∈ t.tos, j < i
structure OkD (D : List TPar) : Prop where
  d1 : 1 ≤ D.length
  d2 : D.length ≤ 3
  each : ∀ (i : Nat) t, D[i]? = some t → TPar.Ok i t
abbrev Col := ByteArray × Int × Bool
def fcols : Nat → List (Int × Bool) → List Col
  | _, [] => []
  | k, p :: l => (nm 99 k, p.1, p.2) :: fcols (k + 1) l
def kcols : Nat → List Nat → List Col
  | _, [] => []
  | k, _ :: l => (nm 102 k, 1, false) :: kcols (k + 1) l
def colsOf (free : List (Int × Bool)) (tos : List Nat) : List Col := (idB, 1, false) :: (fcols 0 free ++ kcols 0 tos)
abbrev TPar.cols (t : TPar) : List Col := colsOf t.free t.tos
abbrev TPar.nf (t : TPar) : Nat := t.free.length
abbrev TPar.nc (t : TPar) : Nat := 1 + t.free.length + t.tos.length
theorem fcols_len : ∀ (l : List (Int × Bool)) (k : Nat), (fcols k l).length = l.length
  | [], _ => rfl
  | _ :: l, k => by simp [fcols, fcols_len l]
theorem kcols_len : ∀ (l : List Nat) (k : Nat), (kcols k l).length = l.length
  | [], _ => rfl
  | _ :: l, k => by simp [kcols, kcols_len l]
theorem fcols_app : ∀ (l : List (Int × Bool)) (k : Nat) (p : Int × Bool), fcols k (l ++ [p]) = fcols k l ++ [(nm 99 (k + l.length), p.1, p.2)]
  | [], _, _ => rfl
  | _ :: l, k, p => by simp [fcols, fcols_app l, Nat.add_assoc, Nat.add_comm 1]
theorem kcols_app : ∀ (l : List Nat) (k : Nat) (p : Nat), kcols k (l ++ [p]) = kcols k l ++ [(nm 102 (k + l.length), 1, false)]
  | [], _, _ => rfl
  | _ :: l, k, p => by simp [kcols, kcols_app l, Nat.add_assoc, Nat.add_comm 1]
theorem fcols_get : ∀ (l : List (Int × Bool)) (k i : Nat) (p : Int × Bool), l[i]? = some p → (fcols k l)[i]? = some (nm 99 (k + i), p.1, p.2)
  | [], _, _, _, h => by simp at h
  | q :: l, k, 0, p, h => by simp at h; subst h; rfl
  | q :: l, k, i + 1, p, h => by
    simp at h
    have := fcols_get l (k + 1) i p h
    simp only [fcols, List.getElem?_cons_succ]
    rw [this, show k + 1 + i = k + (i + 1) by omega]
theorem kcols_get : ∀ (l : List Nat) (k i : Nat), i < l.length → (kcols k l)[i]? = some (nm 102 (k + i), 1, false)
  | [], _, _, h => by simp at h
  | q :: l, k, 0, h => rfl
  | q :: l, k, i + 1, h => by
    simp at h
    have := kcols_get l (k + 1) i h
    simp only [kcols, List.getElem?_cons_succ]
    rw [this, show k + 1 + i = k + (i + 1) by omega]
theorem cols_len (t : TPar) : t.cols.length = t.nc := by
  simp only [TPar.cols, colsOf, List.length_cons, List.length_append, fcols_len, kcols_len, TPar.nc]; omega
theorem cols_id (t : TPar) : t.cols[0]? = some (idB, 1, false) := rfl
theorem cols_free {t : TPar} {k : Nat} {p : Int × Bool} (h : t.free[k]? = some p) : t.cols[1 + k]? = some (nm 99 k, p.1, p.2) := by
  have hk := (List.getElem?_eq_some_iff.1 h).1
  rw [Nat.add_comm]
  show (fcols 0 t.free ++ kcols 0 t.tos)[k]? = _
  rw [List.getElem?_append_left (by rw [fcols_len]; exact hk), fcols_get _ _ _ _ h, Nat.zero_add]
theorem cols_key {t : TPar} {k : Nat} (h : k < t.tos.length) : t.cols[1 + t.nf + k]? = some (nm 102 k, 1, false) := by
  rw [show 1 + t.nf + k = (t.nf + k) + 1 by omega]
  show (fcols 0 t.free ++ kcols 0 t.tos)[t.nf + k]? = _
  rw [List.getElem?_append_right (by rw [fcols_len]; exact Nat.le_add_right _ _), fcols_len, Nat.add_sub_cancel_left, kcols_get _ _ _ h, Nat.zero_add]
theorem col_cases {t : TPar} {c : Nat} (h : c < t.nc) : c = 0 ∨ (∃ k p, c = 1 + k ∧ t.free[k]? = some p) ∨ ∃ k, c = 1 + t.nf + k ∧ k < t.tos.length := by
  have e : t.nc = 1 + t.free.length + t.tos.length := rfl
  by_cases h0 : c = 0
  · exact .inl h0
  · by_cases h1 : c - 1 < t.free.length
    · exact .inr (.inl ⟨c - 1, t.free[c - 1], by omega, List.getElem?_eq_getElem h1⟩)
    · exact .inr (.inr ⟨c - 1 - t.free.length, by show c = 1 + t.free.length + _; omega, by omega⟩)

/-! ### memory -/
theorem tyC : TyS Tryz.prog 37 62 (.agg #[.string ByteArray.empty, .int .i64 0, .bool false]) 3 32 := ⟨by kernel_rfl, by kernel_rfl⟩
theorem tyFo : TyS Tryz.prog 38 64 (.agg #[.slice none 0 0, .string ByteArray.empty]) 2 40 := ⟨by kernel_rfl, by kernel_rfl⟩
abbrev zTb : List Value := [.string ByteArray.empty, .slice none 0 0, .slice none 0 0, .slice none 0 0, .slice none 0 0, .slice none 0 0]
theorem tyTb : TyS Tryz.prog 27 41 (.agg zTb.toArray) 6 136 := ⟨by kernel_rfl, by kernel_rfl⟩
theorem tyRows : TyS Tryz.prog 53 56 (.slice none 0 0) 1 24 := ⟨by kernel_rfl, by kernel_rfl⟩
theorem tyTabs : TyS Tryz.prog 32 53 (.slice none 0 0) 1 24 := ⟨by kernel_rfl, by kernel_rfl⟩
theorem agC : aggOf Tryz.prog 62 3 = true := by kernel_rfl
theorem agFo : aggOf Tryz.prog 64 2 = true := by kernel_rfl
theorem agTb : aggOf Tryz.prog 41 6 = true := by kernel_rfl
abbrev encC (c : Col) : List Value := [.string c.1, .int .i64 c.2.1, .bool c.2.2]
abbrev encFo (p : Hdr × ByteArray) : List Value := [.slice p.1.1 p.1.2.1 p.1.2.2, .string p.2]
abbrev TH := ByteArray × Hdr × Hdr × Hdr × Hdr × Hdr × Unit
abbrev tbc (h : TH) : List Value := [.string h.1, .slice h.2.1.1 h.2.1.2.1 h.2.1.2.2, .slice h.2.2.1.1 h.2.2.1.2.1 h.2.2.1.2.2, .slice h.2.2.2.1.1 h.2.2.2.1.2.1 h.2.2.2.1.2.2, .slice h.2.2.2.2.1.1 h.2.2.2.2.1.2.1 h.2.2.2.2.1.2.2, .slice h.2.2.2.2.2.1.1 h.2.2.2.2.2.1.2.1 h.2.2.2.2.2.1.2.2]
abbrev tbv (h : TH) : Value := .agg (tbc h).toArray
theorem encC_len (c : Col) : (encC c).length = 3 := rfl
theorem encFo_len (c : Hdr × ByteArray) : (encFo c).length = 2 := rfl
theorem tbc_len (c : TH) : (tbc c).length = 6 := rfl
abbrev ColsAt (w : World) (h : Hdr) (cs : List Col) : Prop := Sl w h.1 h.2.1 h.2.2 3 (cs.flatMap encC)
def ForsAt (w : World) (h : Hdr) (nf : Nat) (tos : List Nat) : Prop :=
  ∃ L : List (Hdr × ByteArray), Sl w h.1 h.2.1 h.2.2 2 (L.flatMap encFo) ∧ L.length = tos.length ∧ ∀ (k : Nat) p j, L[k]? = some p → tos[k]? = some j → p.2 = nm 116 j ∧ Sl w p.1.1 p.1.2.1 p.1.2.2 1 (ints .i64 [1 + (nf : Int) + (k : Int)])
theorem ForsAt.up {w w' : World} {h : Hdr} {nf : Nat} {tos : List Nat} (H : ForsAt w h nf tos) (hb : bel w w') : ForsAt w' h nf tos := by
  obtain ⟨L, h1, h2, h3⟩ := H
  exact ⟨L, h1.up hb, h2, fun k p j q1 q2 => ⟨(h3 k p j q1 q2).1, (h3 k p j q1 q2).2.up hb⟩⟩
structure TbAt (w : World) (i : Nat) (h : TH) (t : TPar) : Prop where
  name : h.1 = nm 116 i
  cols : ColsAt w h.2.1 t.cols
  prim : Sl w h.2.2.1.1 h.2.2.1.2.1 h.2.2.1.2.2 1 (ints .i64 [0])
  uniq : h.2.2.2.1 = (none, 0, 0)
  fors : ForsAt w h.2.2.2.2.1 t.nf t.tos
  chks : h.2.2.2.2.2.1 = (none, 0, 0)
theorem TbAt.up {w w' : World} {i : Nat} {h : TH} {t : TPar} (H : TbAt w i h t) (hb : bel w w') : TbAt w' i h t :=
  ⟨H.name, H.cols.up hb, H.prim.up hb, H.uniq, H.fors.up hb, H.chks⟩
def SchAt (w : World) (h : Hdr) (D : List TPar) : Prop :=
  ∃ L : List TH, Sl w h.1 h.2.1 h.2.2 6 (L.flatMap tbc) ∧ L.length = D.length ∧ ∀ (i : Nat) x t, L[i]? = some x → D[i]? = some t → TbAt w i x t
theorem SchAt.up {w w' : World} {h : Hdr} {D : List TPar} (H : SchAt w h D) (hb : bel w w') : SchAt w' h D := by
  obtain ⟨L, h1, h2, h3⟩ := H
  exact ⟨L, h1.up hb, h2, fun i x t q1 q2 => (h3 i x t q1 q2).up hb⟩
theorem SchAt.len {w : World} {h : Hdr} {D : List TPar} (H : SchAt w h D) : D.length = h.2.1 := by
  obtain ⟨L, h1, h2, _⟩ := H
  have := h1.len
  rw [flat_len tbc_len] at this; omega
theorem ColsAt.len {w : World} {h : Hdr} {cs : List Col} (H : ColsAt w h cs) : cs.length = h.2.1 := by
  have := Sl.len H
  rw [flat_len encC_len] at this; omega
theorem ForsAt.len {w : World} {h : Hdr} {nf : Nat} {tos : List Nat} (H : ForsAt w h nf tos) : tos.length = h.2.1 := by
  obtain ⟨L, h1, h2, _⟩ := H
  have := h1.len
  rw [flat_len encFo_len] at this; omega
theorem TbAt.nc {w : World} {i : Nat} {h : TH} {t : TPar} (H : TbAt w i h t) : h.2.1.2.1 = t.nc := by
  have := ColsAt.len H.cols; rw [cols_len] at this; omega
theorem TbAt.nt {w : World} {i : Nat} {h : TH} {t : TPar} (H : TbAt w i h t) : h.2.2.2.2.1.2.1 = t.tos.length := (ForsAt.len H.fors).symm
theorem TbAt.np {w : World} {i : Nat} {h : TH} {t : TPar} (H : TbAt w i h t) : h.2.2.1.2.1 = 1 := by have := H.prim.int; simpa using this.symm

section
variable {w : World} {h : Hdr} {i : Int} {j : Nat} {kk : IntKind}
theorem SchAt.at {D : List TPar} (H : SchAt w h D) (hi : i = (j : Int)) (hj : j < D.length) {K : TH → Prop} (hk : ∀ x t, D[j]? = some t → TbAt w j x t → K x) :
    rdp Tryz.prog (Instr.indexAt 27 (.slice h.1 h.2.1 h.2.2) (.int kk i)) (.one .addr) fun ad => rd Tryz.prog (Instr.loadAt 41 (.pointer (some ad))) (.agg [.str, .slice, .slice, .slice, .slice, .slice]) w K := by
  obtain ⟨L, h1, h2, h3⟩ := H
  obtain ⟨x, hx⟩ : ∃ x, L[j]? = some x := ⟨_, List.getElem?_eq_getElem (by omega)⟩
  obtain ⟨t, ht⟩ : ∃ t, D[j]? = some t := ⟨_, List.getElem?_eq_getElem hj⟩
  exact at_agg tyTb agTb tbc_len (by omega) h1 hi hx rfl (hk x t ht (h3 j x t hx ht))
theorem SchAt.fld {D : List TPar} (H : SchAt w h D) (hi : i = (j : Int)) (hj : j < D.length) {o : Nat} {e : TypeId} (he : scal Tryz.prog e = true) {K : Hdr → Prop}
    (hk : ∀ x t, D[j]? = some t → TbAt w j x t → ∃ y : Hdr, (tbc x)[o]? = some (.slice y.1 y.2.1 y.2.2) ∧ K y) :
    rdp Tryz.prog (Instr.indexAt 27 (.slice h.1 h.2.1 h.2.2) (.int kk i)) (.one .addr) fun ad => rd Tryz.prog (Instr.loadAt e (.pointer (some (ad.add o)))) (.one .slice) w K := by
  obtain ⟨L, h1, h2, h3⟩ := H
  obtain ⟨x, hx⟩ : ∃ x, L[j]? = some x := ⟨_, List.getElem?_eq_getElem (by omega)⟩
  obtain ⟨t, ht⟩ : ∃ t, D[j]? = some t := ⟨_, List.getElem?_eq_getElem hj⟩
  obtain ⟨y, hy, hK⟩ := hk x t ht (h3 j x t hx ht)
  exact idx_agg tyTb tbc_len (by omega) h1 hi hx fun ad hc => rd_cell he (hc o _ hy) rfl hK
theorem SchAt.nam {D : List TPar} (H : SchAt w h D) (hi : i = (j : Int)) (hj : j < D.length) {K : ByteArray → Prop} (hk : K (nm 116 j)) :
    rdp Tryz.prog (Instr.indexAt 27 (.slice h.1 h.2.1 h.2.2) (.int kk i)) (.one .addr) fun ad => rd Tryz.prog (Instr.loadAt 9 (.pointer (some ad))) (.one .str) w K := by
  obtain ⟨L, h1, h2, h3⟩ := H
  obtain ⟨x, hx⟩ : ∃ x, L[j]? = some x := ⟨_, List.getElem?_eq_getElem (by omega)⟩
  obtain ⟨t, ht⟩ : ∃ t, D[j]? = some t := ⟨_, List.getElem?_eq_getElem hj⟩
  have e := (h3 j x t hx ht).name
  refine idx_agg tyTb tbc_len (by omega) h1 hi hx fun ad hc => ?_
  have := hc 0 (.string x.1) rfl
  rw [add_zero] at this
  exact rd_cell (by kernel_rfl) this rfl (by rw [e]; exact hk)
theorem ColsAt.at {cs : List Col} (H : ColsAt w h cs) (hi : i = (j : Int)) {c : Col} (hc : cs[j]? = some c) {K : (ByteArray × Int × Bool × Unit) → Prop} (hk : K (c.1, c.2.1, c.2.2, ())) :
    rdp Tryz.prog (Instr.indexAt 37 (.slice h.1 h.2.1 h.2.2) (.int kk i)) (.one .addr) fun ad => rd Tryz.prog (Instr.loadAt 62 (.pointer (some ad))) (.agg [.str, .int .i64, .bool]) w K :=
  at_agg tyC agC encC_len (by omega) H hi hc rfl hk
theorem ColsAt.typ {cs : List Col} (H : ColsAt w h cs) (hi : i = (j : Int)) {c : Col} (hc : cs[j]? = some c) {K : Int → Prop} (hk : K c.2.1) :
    rdp Tryz.prog (Instr.indexAt 37 (.slice h.1 h.2.1 h.2.2) (.int kk i)) (.one .addr) fun ad => rd Tryz.prog (Instr.loadAt 3 (.pointer (some (ad.add 1)))) (.one (.int .i64)) w K :=
  idx_agg tyC encC_len (by omega) H hi hc fun ad h => rd_cell (by kernel_rfl) (h 1 _ rfl) rfl hk
theorem ColsAt.nul {cs : List Col} (H : ColsAt w h cs) (hi : i = (j : Int)) {c : Col} (hc : cs[j]? = some c) {K : Bool → Prop} (hk : K c.2.2) :
    rdp Tryz.prog (Instr.indexAt 37 (.slice h.1 h.2.1 h.2.2) (.int kk i)) (.one .addr) fun ad => rd Tryz.prog (Instr.loadAt 4 (.pointer (some (ad.add 2)))) (.one .bool) w K :=
  idx_agg tyC encC_len (by omega) H hi hc fun ad h => rd_cell (by kernel_rfl) (h 2 _ rfl) rfl hk
theorem ColsAt.nam {cs : List Col} (H : ColsAt w h cs) (hi : i = (j : Int)) {c : Col} (hc : cs[j]? = some c) {K : ByteArray → Prop} (hk : K c.1) :
    rdp Tryz.prog (Instr.indexAt 37 (.slice h.1 h.2.1 h.2.2) (.int kk i)) (.one .addr) fun ad => rd Tryz.prog (Instr.loadAt 9 (.pointer (some ad))) (.one .str) w K := by
  refine idx_agg tyC encC_len (by omega) H hi hc fun ad h => ?_
  have := h 0 (.string c.1) rfl
  rw [add_zero] at this
  exact rd_cell (by kernel_rfl) this rfl hk
theorem ForsAt.col {nf : Nat} {tos : List Nat} (H : ForsAt w h nf tos) (hi : i = (j : Int)) (hj : j < tos.length) {K : Hdr → Prop}
    (hk : ∀ x : Hdr, Sl w x.1 x.2.1 x.2.2 1 (ints .i64 [1 + (nf : Int) + (j : Int)]) → K x) :
    rdp Tryz.prog (Instr.indexAt 38 (.slice h.1 h.2.1 h.2.2) (.int kk i)) (.one .addr) fun ad => rd Tryz.prog (Instr.loadAt 22 (.pointer (some ad))) (.one .slice) w K := by
  obtain ⟨L, h1, h2, h3⟩ := H
  obtain ⟨x, hx⟩ : ∃ x, L[j]? = some x := ⟨_, List.getElem?_eq_getElem (by omega)⟩
  obtain ⟨t, ht⟩ : ∃ t, tos[j]? = some t := ⟨_, List.getElem?_eq_getElem hj⟩
  refine idx_agg tyFo encFo_len (by omega) h1 hi hx fun ad h => ?_
  have := h 0 (.slice x.1.1 x.1.2.1 x.1.2.2) rfl
  rw [add_zero] at this
  exact rd_cell (by kernel_rfl) this rfl (hk x.1 (h3 j x t hx ht).2)
theorem ForsAt.nam {nf : Nat} {tos : List Nat} (H : ForsAt w h nf tos) (hi : i = (j : Int)) (hj : j < tos.length) {K : ByteArray → Prop} (hk : ∀ to, tos[j]? = some to → K (nm 116 to)) :
    rdp Tryz.prog (Instr.indexAt 38 (.slice h.1 h.2.1 h.2.2) (.int kk i)) (.one .addr) fun ad => rd Tryz.prog (Instr.loadAt 9 (.pointer (some (ad.add 1)))) (.one .str) w K := by
  obtain ⟨L, h1, h2, h3⟩ := H
  obtain ⟨x, hx⟩ : ∃ x, L[j]? = some x := ⟨_, List.getElem?_eq_getElem (by omega)⟩
  obtain ⟨t, ht⟩ : ∃ t, tos[j]? = some t := ⟨_, List.getElem?_eq_getElem hj⟩
  have e := (h3 j x t hx ht).1
  exact idx_agg tyFo encFo_len (by omega) h1 hi hx fun ad h => rd_cell (by kernel_rfl) (h 1 _ rfl) rfl (by rw [e]; exact hk t ht)
end

/-! ### instances -/
abbrev Rows := List Rw
def RowsAt (w : World) (h : Hdr) (R : Rows) : Prop := ∃ hs : List Hdr, Sl w h.1 h.2.1 h.2.2 1 (hs.map hv) ∧ hs.length = R.length ∧ ∀ (i : Nat) x r, hs[i]? = some x → R[i]? = some r → RowAt w x r
def InsAt (w : World) (h : Hdr) (I : List Rows) : Prop := ∃ hs : List Hdr, Sl w h.1 h.2.1 h.2.2 1 (hs.map hv) ∧ hs.length = I.length ∧ ∀ (i : Nat) x r, hs[i]? = some x → I[i]? = some r → RowsAt w x r
theorem RowsAt.up {w w' : World} {h : Hdr} {R : Rows} (H : RowsAt w h R) (hb : bel w w') : RowsAt w' h R := by
  obtain ⟨L, h1, h2, h3⟩ := H
  exact ⟨L, h1.up hb, h2, fun i x r q1 q2 => (h3 i x r q1 q2).up hb⟩
theorem InsAt.up {w w' : World} {h : Hdr} {I : List Rows} (H : InsAt w h I) (hb : bel w w') : InsAt w' h I := by
  obtain ⟨L, h1, h2, h3⟩ := H
  exact ⟨L, h1.up hb, h2, fun i x r q1 q2 => (h3 i x r q1 q2).up hb⟩
theorem RowsAt.len {w : World} {h : Hdr} {R : Rows} (H : RowsAt w h R) : R.length = h.2.1 := by
  obtain ⟨L, h1, h2, _⟩ := H
  have := h1.len
  simp at this; omega
theorem InsAt.len {w : World} {h : Hdr} {R : List Rows} (H : InsAt w h R) : R.length = h.2.1 := by
  obtain ⟨L, h1, h2, _⟩ := H
  have := h1.len
  simp at this; omega
section
variable {w : World} {h : Hdr} {i : Int} {j : Nat} {kk : IntKind}
theorem InsAt.at {R : List Rows} (H : InsAt w h R) (hi : i = (j : Int)) (hj : j < R.length) {K : Hdr → Prop} (hk : ∀ x r, R[j]? = some r → RowsAt w x r → K x) :
    rdp Tryz.prog (Instr.indexAt 32 (.slice h.1 h.2.1 h.2.2) (.int kk i)) (.one .addr) fun ad => rd Tryz.prog (Instr.loadAt 53 (.pointer (some ad))) (.one .slice) w K := by
  have hl := H.len
  obtain ⟨L, h1, h2, h3⟩ := H
  obtain ⟨r, hr⟩ : ∃ t, R[j]? = some t := ⟨_, List.getElem?_eq_getElem hj⟩
  exact at_hdr tyTabs (by kernel_rfl) h1 hi (by omega) fun x hx => hk x r hr (h3 j x r hx hr)
end
/-! ### reads in a later world, facts in the first one -/
section
variable {w w' : World} {h : Hdr} {i : Int} {j : Nat} {kk : IntKind}
theorem SchAt.atB {D : List TPar} (H : SchAt w h D) (hb : bel w w') (hi : i = (j : Int)) (hj : j < D.length) {K : TH → Prop} (hk : ∀ x t, D[j]? = some t → TbAt w j x t → K x) :
    rdp Tryz.prog (Instr.indexAt 27 (.slice h.1 h.2.1 h.2.2) (.int kk i)) (.one .addr) fun ad => rd Tryz.prog (Instr.loadAt 41 (.pointer (some ad))) (.agg [.str, .slice, .slice, .slice, .slice, .slice]) w' K := by
  obtain ⟨L, h1, h2, h3⟩ := H
  obtain ⟨x, hx⟩ : ∃ x, L[j]? = some x := ⟨_, List.getElem?_eq_getElem (by omega)⟩
  obtain ⟨t, ht⟩ : ∃ t, D[j]? = some t := ⟨_, List.getElem?_eq_getElem hj⟩
  exact at_agg tyTb agTb tbc_len (by omega) (h1.up hb) hi hx rfl (hk x t ht (h3 j x t hx ht))
theorem ForsAt.atB {nf : Nat} {tos : List Nat} (H : ForsAt w h nf tos) (hb : bel w w') (hi : i = (j : Int)) (hj : j < tos.length) {K : (Hdr × ByteArray × Unit) → Prop}
    (hk : ∀ x to, tos[j]? = some to → Sl w x.1 x.2.1 x.2.2 1 (ints .i64 [1 + (nf : Int) + (j : Int)]) → K (x, nm 116 to, ())) :
    rdp Tryz.prog (Instr.indexAt 38 (.slice h.1 h.2.1 h.2.2) (.int kk i)) (.one .addr) fun ad => rd Tryz.prog (Instr.loadAt 64 (.pointer (some ad))) (.agg [.slice, .str]) w' K := by
  obtain ⟨L, h1, h2, h3⟩ := H
  obtain ⟨x, hx⟩ : ∃ x, L[j]? = some x := ⟨_, List.getElem?_eq_getElem (by omega)⟩
  obtain ⟨t, ht⟩ : ∃ t, tos[j]? = some t := ⟨_, List.getElem?_eq_getElem hj⟩
  obtain ⟨e, hS⟩ := h3 j x t hx ht
  have hK : K (x.1, x.2, ()) := by rw [e]; exact hk x.1 t ht hS
  exact at_agg tyFo agFo encFo_len (by omega) (h1.up hb) hi hx rfl hK
theorem RowsAt.atB {R : Rows} (H : RowsAt w h R) (hb : bel w w') (hi : i = (j : Int)) (hj : j < R.length) {K : Hdr → Prop} (hk : ∀ x r, R[j]? = some r → RowAt w x r → K x) :
    rdp Tryz.prog (Instr.indexAt 53 (.slice h.1 h.2.1 h.2.2) (.int kk i)) (.one .addr) fun ad => rd Tryz.prog (Instr.loadAt 56 (.pointer (some ad))) (.one .slice) w' K := by
  have hl := H.len
  obtain ⟨L, h1, h2, h3⟩ := H
  obtain ⟨r, hr⟩ : ∃ t, R[j]? = some t := ⟨_, List.getElem?_eq_getElem hj⟩
  exact at_hdr tyRows (by kernel_rfl) (h1.up hb) hi (by omega) fun x hx => hk x r hr (h3 j x r hx hr)
theorem InsAt.atB {R : List Rows} (H : InsAt w h R) (hb : bel w w') (hi : i = (j : Int)) (hj : j < R.length) {K : Hdr → Prop} (hk : ∀ x r, R[j]? = some r → RowsAt w x r → K x) :
    rdp Tryz.prog (Instr.indexAt 32 (.slice h.1 h.2.1 h.2.2) (.int kk i)) (.one .addr) fun ad => rd Tryz.prog (Instr.loadAt 53 (.pointer (some ad))) (.one .slice) w' K := by
  have hl := H.len
  obtain ⟨L, h1, h2, h3⟩ := H
  obtain ⟨r, hr⟩ : ∃ t, R[j]? = some t := ⟨_, List.getElem?_eq_getElem hj⟩
  exact at_hdr tyTabs (by kernel_rfl) (h1.up hb) hi (by omega) fun x hx => hk x r hr (h3 j x r hx hr)
end
theorem RowAt.up {w w' : World} {x : Hdr} {r : Rw} (H : RowAt w x r) (hb : bel w w') : RowAt w' x r := Sl.up H hb

/-! ### good instances -/
structure ValOk (p : Int × Bool) (v : V3) : Prop where
  small : v = (0, 0, ByteArray.empty) ∨ (v.1 = 1 ∧ 0 ≤ v.2.1 ∧ v.2.1 ≤ 2 ∧ v.2.2 = ByteArray.empty) ∨ (v.1 = 2 ∧ 0 ≤ v.2.1 ∧ v.2.1 ≤ 1 ∧ v.2.2 = ByteArray.empty) ∨ (v.1 = 3 ∧ v.2.1 = 0 ∧ (v.2.2 = ByteArray.empty ∨ v.2.2 = ⟨#[97]⟩ ∨ v.2.2 = ⟨#[98]⟩))
  typ : v.1 = 0 ∧ p.2 = true ∨ v.1 = p.1
abbrev keyV (n : Nat) : V3 := (1, (n : Int), ByteArray.empty)
structure RowOk (I : List Rows) (t : TPar) (n : Nat) (r : Rw) : Prop where
  len : r.length = t.nc
  id : r[0]? = some (keyV (n + 1))
  free : ∀ (k : Nat) p v, t.free[k]? = some p → r[1 + k]? = some v → ValOk p v
  key : ∀ (k : Nat) j, t.tos[k]? = some j → ∃ m R, r[1 + t.nf + k]? = some (keyV m) ∧ 1 ≤ m ∧ I[j]? = some R ∧ m ≤ R.length
structure OkI (D : List TPar) (I : List Rows) : Prop where
  len : I.length = D.length
  few : ∀ R ∈ I, R.length ≤ 20
  row : ∀ (i : Nat) t R n r, D[i]? = some t → I[i]? = some R → R[n]? = some r → RowOk I t n r
end Go.Proofs.YtcfghfmlfgaeaaaGreatDoor

/- The conditions of functions, printed by our tool; each is checked against the code by the kernel. -/



namespace Go.Proofs
open Go Go.V Go.RowKit
open Tryz (prog)
set_option maxRecDepth 100000
def S86f (s_a : OA) (s_n s_c : Nat) (w0 : World) (R : KR) : Prop :=
 loop (T := (Int × Unit)) (0, ()) w0 fun (g1 : Int × Unit → World → Prop) (s2 : Int × Unit) w3 => ∀ _ : NV,
 br (decide (s2.1 < ((s_n : Nat) : Int))) (rdp prog (Instr.indexAt 32 (.slice s_a s_n s_c) (ji s2.1)) oA fun (x4 : Addr) =>
 rd prog (jL 53 x4) oS w3 fun (x5 : Hd3) =>
 call prog 46 [jw x5] (.one oB) w3 fun (x6 : Bool) w7 =>
 br x6 (R (ji s2.1) w7)
 (z (IntKind.wrap .i64 (s2.1 + 1)) fun (z8 : Int) =>
 g1 (z8, ()) w7))
 (R (ji (-1)) w3)
def H86f : Hints := ⟨[(2, 0, [(8, (.one (.int .i64)))])], [], [], []⟩
theorem S86f_calls (s_a : OA) (s_n s_c : Nat) (w0 : World) (R : KR) (h : S86f s_a s_n s_c w0 R) : Calls prog 86 #[.slice s_a s_n s_c, (.func (.func 46) #[] #[])] w0 (ret R) :=
 vcFn_sound (H := H86f) follows_ Tryz.func86 (Eq.mpr (by kernel_rfl) h)
def S45f (s_a : OA) (s_n s_c : Nat) (w0 : World) (R : KR) : Prop :=
 call prog 86 [.slice s_a s_n s_c, (.func (.func 46) #[] #[])] (.one oI) w0 fun (x1 : Int) w2 =>
 R (.bool (decide (x1 ≥ 0))) w2
def H45f : Hints := ⟨[], [], [], []⟩
theorem S45f_calls (s_a : OA) (s_n s_c : Nat) (w0 : World) (R : KR) (h : S45f s_a s_n s_c w0 R) : Calls prog 45 #[.slice s_a s_n s_c, (.func (.func 46) #[] #[])] w0 (ret R) :=
 vcFn_sound (H := H45f) follows_ Tryz.func45 (Eq.mpr (by kernel_rfl) h)
def S87f (s_a : OA) (s_n s_c : Nat) (cap1_0 : Addr) (w0 : World) (R : KR) : Prop :=
 loop (T := (Int × Unit)) (0, ()) w0 fun (g1 : Int × Unit → World → Prop) (s2 : Int × Unit) w3 => ∀ _ : NV,
 br (decide (s2.1 < ((s_n : Nat) : Int))) (rdp prog (Instr.indexAt 22 (.slice s_a s_n s_c) (ji s2.1)) oA fun (x4 : Addr) =>
 rd prog (jL 3 x4) oI w3 fun (x5 : Int) =>
 call prog 48 [ji x5, jp cap1_0] (.one oB) w3 fun (x6 : Bool) w7 =>
 br x6 (R (ji s2.1) w7)
 (z (IntKind.wrap .i64 (s2.1 + 1)) fun (z8 : Int) =>
 g1 (z8, ()) w7))
 (R (ji (-1)) w3)
def H87f : Hints := ⟨[(2, 0, [(8, (.one (.int .i64)))])], [], [], []⟩
theorem S87f_calls (s_a : OA) (s_n s_c : Nat) (cap1_0 : Addr) (w0 : World) (R : KR) (h : S87f s_a s_n s_c cap1_0 w0 R) : Calls prog 87 #[.slice s_a s_n s_c, (.func (.func 48) #[] #[jp cap1_0])] w0 (ret R) :=
 vcFn_sound (H := H87f) follows_ Tryz.func87 (Eq.mpr (by kernel_rfl) h)
def S47f (s_a : OA) (s_n s_c : Nat) (cap1_0 : Addr) (w0 : World) (R : KR) : Prop :=
 call prog 87 [.slice s_a s_n s_c, (.func (.func 48) #[] #[jp cap1_0])] (.one oI) w0 fun (x1 : Int) w2 =>
 R (.bool (decide (x1 ≥ 0))) w2
def H47f : Hints := ⟨[], [], [], []⟩
theorem S47f_calls (s_a : OA) (s_n s_c : Nat) (cap1_0 : Addr) (w0 : World) (R : KR) (h : S47f s_a s_n s_c cap1_0 w0 R) : Calls prog 47 #[.slice s_a s_n s_c, (.func (.func 48) #[] #[jp cap1_0])] w0 (ret R) :=
 vcFn_sound (H := H47f) follows_ Tryz.func47 (Eq.mpr (by kernel_rfl) h)
def S87t (s_a : OA) (s_n s_c : Nat) (w0 : World) (R : KR) : Prop :=
 loop (T := (Int × Unit)) (0, ()) w0 fun (g1 : Int × Unit → World → Prop) (s2 : Int × Unit) w3 => ∀ _ : NV,
 br (decide (s2.1 < ((s_n : Nat) : Int))) (rdp prog (Instr.indexAt 22 (.slice s_a s_n s_c) (ji s2.1)) oA fun (x4 : Addr) =>
 rd prog (jL 3 x4) oI w3 fun (x5 : Int) =>
 call prog 105 [ji x5] (.one oB) w3 fun (x6 : Bool) w7 =>
 br x6 (R (ji s2.1) w7)
 (z (IntKind.wrap .i64 (s2.1 + 1)) fun (z8 : Int) =>
 g1 (z8, ()) w7))
 (R (ji (-1)) w3)
def H87t : Hints := ⟨[(2, 0, [(8, (.one (.int .i64)))])], [], [], []⟩
theorem S87t_calls (s_a : OA) (s_n s_c : Nat) (w0 : World) (R : KR) (h : S87t s_a s_n s_c w0 R) : Calls prog 87 #[.slice s_a s_n s_c, (.func (.func 105) #[] #[])] w0 (ret R) :=
 vcFn_sound (H := H87t) follows_ Tryz.func87 (Eq.mpr (by kernel_rfl) h)
def S47t (s_a : OA) (s_n s_c : Nat) (w0 : World) (R : KR) : Prop :=
 call prog 87 [.slice s_a s_n s_c, (.func (.func 105) #[] #[])] (.one oI) w0 fun (x1 : Int) w2 =>
 R (.bool (decide (x1 ≥ 0))) w2
def H47t : Hints := ⟨[], [], [], []⟩
theorem S47t_calls (s_a : OA) (s_n s_c : Nat) (w0 : World) (R : KR) (h : S47t s_a s_n s_c w0 R) : Calls prog 47 #[.slice s_a s_n s_c, (.func (.func 105) #[] #[])] w0 (ret R) :=
 vcFn_sound (H := H47t) follows_ Tryz.func47 (Eq.mpr (by kernel_rfl) h)
def S87k (s_a : OA) (s_n s_c : Nat) (cap1_0 : Addr) (w0 : World) (R : KR) : Prop :=
 loop (T := (Int × Unit)) (0, ()) w0 fun (g1 : Int × Unit → World → Prop) (s2 : Int × Unit) w3 => ∀ _ : NV,
 br (decide (s2.1 < ((s_n : Nat) : Int))) (rdp prog (Instr.indexAt 22 (.slice s_a s_n s_c) (ji s2.1)) oA fun (x4 : Addr) =>
 rd prog (jL 3 x4) oI w3 fun (x5 : Int) =>
 call prog 238 [ji x5, jp cap1_0] (.one oB) w3 fun (x6 : Bool) w7 =>
 br x6 (R (ji s2.1) w7)
 (z (IntKind.wrap .i64 (s2.1 + 1)) fun (z8 : Int) =>
 g1 (z8, ()) w7))
 (R (ji (-1)) w3)
def H87k : Hints := ⟨[(2, 0, [(8, (.one (.int .i64)))])], [], [], []⟩
theorem S87k_calls (s_a : OA) (s_n s_c : Nat) (cap1_0 : Addr) (w0 : World) (R : KR) (h : S87k s_a s_n s_c cap1_0 w0 R) : Calls prog 87 #[.slice s_a s_n s_c, (.func (.func 238) #[] #[jp cap1_0])] w0 (ret R) :=
 vcFn_sound (H := H87k) follows_ Tryz.func87 (Eq.mpr (by kernel_rfl) h)
def S47k (s_a : OA) (s_n s_c : Nat) (cap1_0 : Addr) (w0 : World) (R : KR) : Prop :=
 call prog 87 [.slice s_a s_n s_c, (.func (.func 238) #[] #[jp cap1_0])] (.one oI) w0 fun (x1 : Int) w2 =>
 R (.bool (decide (x1 ≥ 0))) w2
def H47k : Hints := ⟨[], [], [], []⟩
theorem S47k_calls (s_a : OA) (s_n s_c : Nat) (cap1_0 : Addr) (w0 : World) (R : KR) (h : S47k s_a s_n s_c cap1_0 w0 R) : Calls prog 47 #[.slice s_a s_n s_c, (.func (.func 238) #[] #[jp cap1_0])] w0 (ret R) :=
 vcFn_sound (H := H47k) follows_ Tryz.func47 (Eq.mpr (by kernel_rfl) h)
def S88f (s_a : OA) (s_n s_c : Nat) (cap1_0 : Addr) (w0 : World) (R : KR) : Prop :=
 loop (T := (Int × Unit)) (0, ()) w0 fun (g1 : Int × Unit → World → Prop) (s2 : Int × Unit) w3 => ∀ _ : NV,
 br (decide (s2.1 < ((s_n : Nat) : Int))) (rdp prog (Instr.indexAt 38 (.slice s_a s_n s_c) (ji s2.1)) oA fun (x4 : Addr) =>
 rd prog (jL 64 x4) (.agg [.slice, .str]) w3 fun (x5 : Hd3 × ByteArray × Unit) =>
 call prog 50 [.agg #[jw x5.1, .string x5.2.1], jp cap1_0] (.one oB) w3 fun (x6 : Bool) w7 =>
 br x6 (R (ji s2.1) w7)
 (z (IntKind.wrap .i64 (s2.1 + 1)) fun (z8 : Int) =>
 g1 (z8, ()) w7))
 (R (ji (-1)) w3)
def H88f : Hints := ⟨[(2, 0, [(8, (.one (.int .i64)))])], [], [], []⟩
theorem S88f_calls (s_a : OA) (s_n s_c : Nat) (cap1_0 : Addr) (w0 : World) (R : KR) (h : S88f s_a s_n s_c cap1_0 w0 R) : Calls prog 88 #[.slice s_a s_n s_c, (.func (.func 50) #[] #[jp cap1_0])] w0 (ret R) :=
 vcFn_sound (H := H88f) follows_ Tryz.func88 (Eq.mpr (by kernel_rfl) h)
def S49f (s_a : OA) (s_n s_c : Nat) (cap1_0 : Addr) (w0 : World) (R : KR) : Prop :=
 call prog 88 [.slice s_a s_n s_c, (.func (.func 50) #[] #[jp cap1_0])] (.one oI) w0 fun (x1 : Int) w2 =>
 R (.bool (decide (x1 ≥ 0))) w2
def H49f : Hints := ⟨[], [], [], []⟩
theorem S49f_calls (s_a : OA) (s_n s_c : Nat) (cap1_0 : Addr) (w0 : World) (R : KR) (h : S49f s_a s_n s_c cap1_0 w0 R) : Calls prog 49 #[.slice s_a s_n s_c, (.func (.func 50) #[] #[jp cap1_0])] w0 (ret R) :=
 vcFn_sound (H := H49f) follows_ Tryz.func49 (Eq.mpr (by kernel_rfl) h)
def S100p (s_a : OA) (s_n s_c : Nat) (w0 : World) (R : KR) : Prop :=
 loop (T := (Int × Unit)) (0, ()) w0 fun (g1 : Int × Unit → World → Prop) (s2 : Int × Unit) w3 => ∀ _ : NV,
 br (decide (s2.1 < ((s_n : Nat) : Int))) (rdp prog (Instr.indexAt 27 (.slice s_a s_n s_c) (ji s2.1)) oA fun (x4 : Addr) =>
 rd prog (jL 41 x4) (.agg [.str, .slice, .slice, .slice, .slice, .slice]) w3 fun (x5 : ByteArray × Hd3 × Hd3 × TS) =>
 call prog 57 [.agg #[.string x5.1, jw x5.2.1, jw x5.2.2.1, jw x5.2.2.2.1, jw x5.2.2.2.2.1, jw x5.2.2.2.2.2.1]] (.one oB) w3 fun (x6 : Bool) w7 =>
 br x6 (R (ji s2.1) w7)
 (z (IntKind.wrap .i64 (s2.1 + 1)) fun (z8 : Int) =>
 g1 (z8, ()) w7))
 (R (ji (-1)) w3)
def H100p : Hints := ⟨[(2, 0, [(8, (.one (.int .i64)))])], [], [], []⟩
theorem S100p_calls (s_a : OA) (s_n s_c : Nat) (w0 : World) (R : KR) (h : S100p s_a s_n s_c w0 R) : Calls prog 100 #[.slice s_a s_n s_c, (.func (.func 57) #[] #[])] w0 (ret R) :=
 vcFn_sound (H := H100p) follows_ Tryz.func100 (Eq.mpr (by kernel_rfl) h)
def S56p (s_a : OA) (s_n s_c : Nat) (w0 : World) (R : KR) : Prop :=
 call prog 100 [.slice s_a s_n s_c, (.func (.func 57) #[] #[])] (.one oI) w0 fun (x1 : Int) w2 =>
 R (.bool (decide (x1 ≥ 0))) w2
def H56p : Hints := ⟨[], [], [], []⟩
theorem S56p_calls (s_a : OA) (s_n s_c : Nat) (w0 : World) (R : KR) (h : S56p s_a s_n s_c w0 R) : Calls prog 56 #[.slice s_a s_n s_c, (.func (.func 57) #[] #[])] w0 (ret R) :=
 vcFn_sound (H := H56p) follows_ Tryz.func56 (Eq.mpr (by kernel_rfl) h)
def S100r (s_a : OA) (s_n s_c : Nat) (w0 : World) (R : KR) : Prop :=
 loop (T := (Int × Unit)) (0, ()) w0 fun (g1 : Int × Unit → World → Prop) (s2 : Int × Unit) w3 => ∀ _ : NV,
 br (decide (s2.1 < ((s_n : Nat) : Int))) (rdp prog (Instr.indexAt 27 (.slice s_a s_n s_c) (ji s2.1)) oA fun (x4 : Addr) =>
 rd prog (jL 41 x4) (.agg [.str, .slice, .slice, .slice, .slice, .slice]) w3 fun (x5 : ByteArray × Hd3 × Hd3 × TS) =>
 call prog 84 [.agg #[.string x5.1, jw x5.2.1, jw x5.2.2.1, jw x5.2.2.2.1, jw x5.2.2.2.2.1, jw x5.2.2.2.2.2.1]] (.one oB) w3 fun (x6 : Bool) w7 =>
 br x6 (R (ji s2.1) w7)
 (z (IntKind.wrap .i64 (s2.1 + 1)) fun (z8 : Int) =>
 g1 (z8, ()) w7))
 (R (ji (-1)) w3)
def H100r : Hints := ⟨[(2, 0, [(8, (.one (.int .i64)))])], [], [], []⟩
theorem S100r_calls (s_a : OA) (s_n s_c : Nat) (w0 : World) (R : KR) (h : S100r s_a s_n s_c w0 R) : Calls prog 100 #[.slice s_a s_n s_c, (.func (.func 84) #[] #[])] w0 (ret R) :=
 vcFn_sound (H := H100r) follows_ Tryz.func100 (Eq.mpr (by kernel_rfl) h)
def S56r (s_a : OA) (s_n s_c : Nat) (w0 : World) (R : KR) : Prop :=
 call prog 100 [.slice s_a s_n s_c, (.func (.func 84) #[] #[])] (.one oI) w0 fun (x1 : Int) w2 =>
 R (.bool (decide (x1 ≥ 0))) w2
def H56r : Hints := ⟨[], [], [], []⟩
theorem S56r_calls (s_a : OA) (s_n s_c : Nat) (w0 : World) (R : KR) (h : S56r s_a s_n s_c w0 R) : Calls prog 56 #[.slice s_a s_n s_c, (.func (.func 84) #[] #[])] w0 (ret R) :=
 vcFn_sound (H := H56r) follows_ Tryz.func56 (Eq.mpr (by kernel_rfl) h)
def S100n (s_a : OA) (s_n s_c : Nat) (cap1_0 : Addr) (w0 : World) (R : KR) : Prop :=
 loop (T := (Int × Unit)) (0, ()) w0 fun (g1 : Int × Unit → World → Prop) (s2 : Int × Unit) w3 => ∀ _ : NV,
 br (decide (s2.1 < ((s_n : Nat) : Int))) (rdp prog (Instr.indexAt 27 (.slice s_a s_n s_c) (ji s2.1)) oA fun (x4 : Addr) =>
 rd prog (jL 41 x4) (.agg [.str, .slice, .slice, .slice, .slice, .slice]) w3 fun (x5 : ByteArray × Hd3 × Hd3 × TS) =>
 call prog 113 [.agg #[.string x5.1, jw x5.2.1, jw x5.2.2.1, jw x5.2.2.2.1, jw x5.2.2.2.2.1, jw x5.2.2.2.2.2.1], jp cap1_0] (.one oB) w3 fun (x6 : Bool) w7 =>
 br x6 (R (ji s2.1) w7)
 (z (IntKind.wrap .i64 (s2.1 + 1)) fun (z8 : Int) =>
 g1 (z8, ()) w7))
 (R (ji (-1)) w3)
def H100n : Hints := ⟨[(2, 0, [(8, (.one (.int .i64)))])], [], [], []⟩
theorem S100n_calls (s_a : OA) (s_n s_c : Nat) (cap1_0 : Addr) (w0 : World) (R : KR) (h : S100n s_a s_n s_c cap1_0 w0 R) : Calls prog 100 #[.slice s_a s_n s_c, (.func (.func 113) #[] #[jp cap1_0])] w0 (ret R) :=
 vcFn_sound (H := H100n) follows_ Tryz.func100 (Eq.mpr (by kernel_rfl) h)
def S104p (s_a : OA) (s_n s_c : Nat) (w0 : World) (R : KR) : Prop :=
 loop (T := (Int × Unit)) (0, ()) w0 fun (g1 : Int × Unit → World → Prop) (s2 : Int × Unit) w3 => ∀ _ : NV,
 br (decide (s2.1 < ((s_n : Nat) : Int))) (rdp prog (Instr.indexAt 43 (.slice s_a s_n s_c) (ji s2.1)) oA fun (x4 : Addr) =>
 rd prog (jL 79 x4) (.agg [.int .i64, .slice]) w3 fun (x5 : Int × Hd3 × Unit) =>
 call prog 60 [.agg #[ji x5.1, jw x5.2.1]] (.one oB) w3 fun (x6 : Bool) w7 =>
 br x6 (R (ji s2.1) w7)
 (z (IntKind.wrap .i64 (s2.1 + 1)) fun (z8 : Int) =>
 g1 (z8, ()) w7))
 (R (ji (-1)) w3)
def H104p : Hints := ⟨[(2, 0, [(8, (.one (.int .i64)))])], [], [], []⟩
theorem S104p_calls (s_a : OA) (s_n s_c : Nat) (w0 : World) (R : KR) (h : S104p s_a s_n s_c w0 R) : Calls prog 104 #[.slice s_a s_n s_c, (.func (.func 60) #[] #[])] w0 (ret R) :=
 vcFn_sound (H := H104p) follows_ Tryz.func104 (Eq.mpr (by kernel_rfl) h)
def S59p (s_a : OA) (s_n s_c : Nat) (w0 : World) (R : KR) : Prop :=
 call prog 104 [.slice s_a s_n s_c, (.func (.func 60) #[] #[])] (.one oI) w0 fun (x1 : Int) w2 =>
 R (.bool (decide (x1 ≥ 0))) w2
def H59p : Hints := ⟨[], [], [], []⟩
theorem S59p_calls (s_a : OA) (s_n s_c : Nat) (w0 : World) (R : KR) (h : S59p s_a s_n s_c w0 R) : Calls prog 59 #[.slice s_a s_n s_c, (.func (.func 60) #[] #[])] w0 (ret R) :=
 vcFn_sound (H := H59p) follows_ Tryz.func59 (Eq.mpr (by kernel_rfl) h)
def S104q (s_a : OA) (s_n s_c : Nat) (w0 : World) (R : KR) : Prop :=
 loop (T := (Int × Unit)) (0, ()) w0 fun (g1 : Int × Unit → World → Prop) (s2 : Int × Unit) w3 => ∀ _ : NV,
 br (decide (s2.1 < ((s_n : Nat) : Int))) (rdp prog (Instr.indexAt 43 (.slice s_a s_n s_c) (ji s2.1)) oA fun (x4 : Addr) =>
 rd prog (jL 79 x4) (.agg [.int .i64, .slice]) w3 fun (x5 : Int × Hd3 × Unit) =>
 call prog 61 [.agg #[ji x5.1, jw x5.2.1]] (.one oB) w3 fun (x6 : Bool) w7 =>
 br x6 (R (ji s2.1) w7)
 (z (IntKind.wrap .i64 (s2.1 + 1)) fun (z8 : Int) =>
 g1 (z8, ()) w7))
 (R (ji (-1)) w3)
def H104q : Hints := ⟨[(2, 0, [(8, (.one (.int .i64)))])], [], [], []⟩
theorem S104q_calls (s_a : OA) (s_n s_c : Nat) (w0 : World) (R : KR) (h : S104q s_a s_n s_c w0 R) : Calls prog 104 #[.slice s_a s_n s_c, (.func (.func 61) #[] #[])] w0 (ret R) :=
 vcFn_sound (H := H104q) follows_ Tryz.func104 (Eq.mpr (by kernel_rfl) h)
def S59q (s_a : OA) (s_n s_c : Nat) (w0 : World) (R : KR) : Prop :=
 call prog 104 [.slice s_a s_n s_c, (.func (.func 61) #[] #[])] (.one oI) w0 fun (x1 : Int) w2 =>
 R (.bool (decide (x1 ≥ 0))) w2
def H59q : Hints := ⟨[], [], [], []⟩
theorem S59q_calls (s_a : OA) (s_n s_c : Nat) (w0 : World) (R : KR) (h : S59q s_a s_n s_c w0 R) : Calls prog 59 #[.slice s_a s_n s_c, (.func (.func 61) #[] #[])] w0 (ret R) :=
 vcFn_sound (H := H59q) follows_ Tryz.func59 (Eq.mpr (by kernel_rfl) h)
def S74h (s_a : OA) (s_n s_c : Nat) (cap1_0 cap1_1 : Addr) (w0 : World) (R : KR) : Prop :=
 loop (T := (Int × Unit)) (0, ()) w0 fun (g1 : Int × Unit → World → Prop) (s2 : Int × Unit) w3 => ∀ _ : NV,
 br (decide (s2.1 < ((s_n : Nat) : Int))) (rdp prog (Instr.indexAt 51 (.slice s_a s_n s_c) (ji s2.1)) oA fun (x4 : Addr) =>
 rd prog (jL 98 x4) (.agg [.str, .slice, .slice, .int .i64]) w3 fun (x5 : ByteArray × Hd3 × Hd3 × Int × Unit) =>
 call prog 36 [.agg #[.string x5.1, jw x5.2.1, jw x5.2.2.1, ji x5.2.2.2.1], jp cap1_0, jp cap1_1] (.one oB) w3 fun (x6 : Bool) w7 =>
 br x6 (R (ji s2.1) w7)
 (z (IntKind.wrap .i64 (s2.1 + 1)) fun (z8 : Int) =>
 g1 (z8, ()) w7))
 (R (ji (-1)) w3)
def H74h : Hints := ⟨[(2, 0, [(8, (.one (.int .i64)))])], [], [], []⟩
theorem S74h_calls (s_a : OA) (s_n s_c : Nat) (cap1_0 cap1_1 : Addr) (w0 : World) (R : KR) (h : S74h s_a s_n s_c cap1_0 cap1_1 w0 R) : Calls prog 74 #[.slice s_a s_n s_c, (.func (.func 36) #[] #[jp cap1_0, jp cap1_1])] w0 (ret R) :=
 vcFn_sound (H := H74h) follows_ Tryz.func74 (Eq.mpr (by kernel_rfl) h)
def S35h (s_a : OA) (s_n s_c : Nat) (cap1_0 cap1_1 : Addr) (w0 : World) (R : KR) : Prop :=
 call prog 74 [.slice s_a s_n s_c, (.func (.func 36) #[] #[jp cap1_0, jp cap1_1])] (.one oI) w0 fun (x1 : Int) w2 =>
 R (.bool (decide (x1 ≥ 0))) w2
def H35h : Hints := ⟨[], [], [], []⟩
theorem S35h_calls (s_a : OA) (s_n s_c : Nat) (cap1_0 cap1_1 : Addr) (w0 : World) (R : KR) (h : S35h s_a s_n s_c cap1_0 cap1_1 w0 R) : Calls prog 35 #[.slice s_a s_n s_c, (.func (.func 36) #[] #[jp cap1_0, jp cap1_1])] w0 (ret R) :=
 vcFn_sound (H := H35h) follows_ Tryz.func35 (Eq.mpr (by kernel_rfl) h)
def S173t (s_a : OA) (s_n s_c : Nat) (cap1_0 : Addr) (w0 : World) (R : KR) : Prop :=
 loop (T := (Int × Unit)) (0, ()) w0 fun (g1 : Int × Unit → World → Prop) (s2 : Int × Unit) w3 => ∀ _ : NV,
 br (decide (s2.1 < ((s_n : Nat) : Int))) (rdp prog (Instr.indexAt 56 (.slice s_a s_n s_c) (ji s2.1)) oA fun (x4 : Addr) =>
 rd prog (jL 55 x4) (.agg [.int .i64, .int .i64, .str]) w3 fun (x5 : Int × Int × ByteArray × Unit) =>
 call prog 107 [.agg #[ji x5.1, ji x5.2.1, .string x5.2.2.1], jp cap1_0] (.one oB) w3 fun (x6 : Bool) w7 =>
 br x6 (R (ji s2.1) w7)
 (z (IntKind.wrap .i64 (s2.1 + 1)) fun (z8 : Int) =>
 g1 (z8, ()) w7))
 (R (ji (-1)) w3)
def H173t : Hints := ⟨[(2, 0, [(8, (.one (.int .i64)))])], [], [], []⟩
theorem S173t_calls (s_a : OA) (s_n s_c : Nat) (cap1_0 : Addr) (w0 : World) (R : KR) (h : S173t s_a s_n s_c cap1_0 w0 R) : Calls prog 173 #[.slice s_a s_n s_c, (.func (.func 107) #[] #[jp cap1_0])] w0 (ret R) :=
 vcFn_sound (H := H173t) follows_ Tryz.func173 (Eq.mpr (by kernel_rfl) h)
def S106t (s_a : OA) (s_n s_c : Nat) (cap1_0 : Addr) (w0 : World) (R : KR) : Prop :=
 call prog 173 [.slice s_a s_n s_c, (.func (.func 107) #[] #[jp cap1_0])] (.one oI) w0 fun (x1 : Int) w2 =>
 R (.bool (decide (x1 ≥ 0))) w2
def H106t : Hints := ⟨[], [], [], []⟩
theorem S106t_calls (s_a : OA) (s_n s_c : Nat) (cap1_0 : Addr) (w0 : World) (R : KR) (h : S106t s_a s_n s_c cap1_0 w0 R) : Calls prog 106 #[.slice s_a s_n s_c, (.func (.func 107) #[] #[jp cap1_0])] w0 (ret R) :=
 vcFn_sound (H := H106t) follows_ Tryz.func106 (Eq.mpr (by kernel_rfl) h)
def S175t (s_a : OA) (s_n s_c : Nat) (w0 : World) (R : KR) : Prop :=
 loop (T := (Int × Unit)) (0, ()) w0 fun (g1 : Int × Unit → World → Prop) (s2 : Int × Unit) w3 => ∀ _ : NV,
 br (decide (s2.1 < ((s_n : Nat) : Int))) (rdp prog (Instr.indexAt 80 (.slice s_a s_n s_c) (ji s2.1)) oA fun (x4 : Addr) =>
 rd prog (jL 159 x4) (.agg [.int .i64, .int .i64, .int .i64]) w3 fun (x5 : Int × Int × Int × Unit) =>
 call prog 110 [.agg #[ji x5.1, ji x5.2.1, ji x5.2.2.1]] (.one oB) w3 fun (x6 : Bool) w7 =>
 br x6 (R (ji s2.1) w7)
 (z (IntKind.wrap .i64 (s2.1 + 1)) fun (z8 : Int) =>
 g1 (z8, ()) w7))
 (R (ji (-1)) w3)
def H175t : Hints := ⟨[(2, 0, [(8, (.one (.int .i64)))])], [], [], []⟩
theorem S175t_calls (s_a : OA) (s_n s_c : Nat) (w0 : World) (R : KR) (h : S175t s_a s_n s_c w0 R) : Calls prog 175 #[.slice s_a s_n s_c, (.func (.func 110) #[] #[])] w0 (ret R) :=
 vcFn_sound (H := H175t) follows_ Tryz.func175 (Eq.mpr (by kernel_rfl) h)
def S109t (s_a : OA) (s_n s_c : Nat) (w0 : World) (R : KR) : Prop :=
 call prog 175 [.slice s_a s_n s_c, (.func (.func 110) #[] #[])] (.one oI) w0 fun (x1 : Int) w2 =>
 R (.bool (decide (x1 ≥ 0))) w2
def H109t : Hints := ⟨[], [], [], []⟩
theorem S109t_calls (s_a : OA) (s_n s_c : Nat) (w0 : World) (R : KR) (h : S109t s_a s_n s_c w0 R) : Calls prog 109 #[.slice s_a s_n s_c, (.func (.func 110) #[] #[])] w0 (ret R) :=
 vcFn_sound (H := H109t) follows_ Tryz.func109 (Eq.mpr (by kernel_rfl) h)
def S186m (s_a : OA) (s_n s_c : Nat) (cap1_0 : Addr) (w0 : World) (R : KR) : Prop :=
 loop (T := (Int × Unit)) (0, ()) w0 fun (g1 : Int × Unit → World → Prop) (s2 : Int × Unit) w3 => ∀ _ : NV,
 br (decide (s2.1 < ((s_n : Nat) : Int))) (rdp prog (Instr.indexAt 53 (.slice s_a s_n s_c) (ji s2.1)) oA fun (x4 : Addr) =>
 rd prog (jL 56 x4) oS w3 fun (x5 : Hd3) =>
 call prog 119 [jw x5, jp cap1_0] (.one oB) w3 fun (x6 : Bool) w7 =>
 br x6 (R (ji s2.1) w7)
 (z (IntKind.wrap .i64 (s2.1 + 1)) fun (z8 : Int) =>
 g1 (z8, ()) w7))
 (R (ji (-1)) w3)
def H186m : Hints := ⟨[(2, 0, [(8, (.one (.int .i64)))])], [], [], []⟩
theorem S186m_calls (s_a : OA) (s_n s_c : Nat) (cap1_0 : Addr) (w0 : World) (R : KR) (h : S186m s_a s_n s_c cap1_0 w0 R) : Calls prog 186 #[.slice s_a s_n s_c, (.func (.func 119) #[] #[jp cap1_0])] w0 (ret R) :=
 vcFn_sound (H := H186m) follows_ Tryz.func186 (Eq.mpr (by kernel_rfl) h)
def S118m (s_a : OA) (s_n s_c : Nat) (cap1_0 : Addr) (w0 : World) (R : KR) : Prop :=
 call prog 186 [.slice s_a s_n s_c, (.func (.func 119) #[] #[jp cap1_0])] (.one oI) w0 fun (x1 : Int) w2 =>
 R (.bool (decide (x1 ≥ 0))) w2
def H118m : Hints := ⟨[], [], [], []⟩
theorem S118m_calls (s_a : OA) (s_n s_c : Nat) (cap1_0 : Addr) (w0 : World) (R : KR) (h : S118m s_a s_n s_c cap1_0 w0 R) : Calls prog 118 #[.slice s_a s_n s_c, (.func (.func 119) #[] #[jp cap1_0])] w0 (ret R) :=
 vcFn_sound (H := H118m) follows_ Tryz.func118 (Eq.mpr (by kernel_rfl) h)
def S215r (s_a : OA) (s_n s_c : Nat) (cap1_0 : Addr) (w0 : World) (R : KR) : Prop :=
 loop (T := (Int × Unit)) (0, ()) w0 fun (g1 : Int × Unit → World → Prop) (s2 : Int × Unit) w3 => ∀ _ : NV,
 br (decide (s2.1 < ((s_n : Nat) : Int))) (rdp prog (Instr.indexAt 39 (.slice s_a s_n s_c) (ji s2.1)) oA fun (x4 : Addr) =>
 rd prog (jL 66 x4) (.agg [.int .i64, .int .i64, .int .i64, .str, .int .i64, .slice]) w3 fun (x5 : Int × Int × Int × ByteArray × Int × Hd3 × Unit) =>
 call prog 148 [.agg #[ji x5.1, ji x5.2.1, ji x5.2.2.1, .string x5.2.2.2.1, ji x5.2.2.2.2.1, jw x5.2.2.2.2.2.1], jp cap1_0] (.one oB) w3 fun (x6 : Bool) w7 =>
 br x6 (R (ji s2.1) w7)
 (z (IntKind.wrap .i64 (s2.1 + 1)) fun (z8 : Int) =>
 g1 (z8, ()) w7))
 (R (ji (-1)) w3)
def H215r : Hints := ⟨[(2, 0, [(8, (.one (.int .i64)))])], [], [], []⟩
theorem S215r_calls (s_a : OA) (s_n s_c : Nat) (cap1_0 : Addr) (w0 : World) (R : KR) (h : S215r s_a s_n s_c cap1_0 w0 R) : Calls prog 215 #[.slice s_a s_n s_c, (.func (.func 148) #[] #[jp cap1_0])] w0 (ret R) :=
 vcFn_sound (H := H215r) follows_ Tryz.func215 (Eq.mpr (by kernel_rfl) h)
def S139r (s_a : OA) (s_n s_c : Nat) (cap1_0 : Addr) (w0 : World) (R : KR) : Prop :=
 call prog 215 [.slice s_a s_n s_c, (.func (.func 148) #[] #[jp cap1_0])] (.one oI) w0 fun (x1 : Int) w2 =>
 R (.bool (decide (x1 ≥ 0))) w2
def H139r : Hints := ⟨[], [], [], []⟩
theorem S139r_calls (s_a : OA) (s_n s_c : Nat) (cap1_0 : Addr) (w0 : World) (R : KR) (h : S139r s_a s_n s_c cap1_0 w0 R) : Calls prog 139 #[.slice s_a s_n s_c, (.func (.func 148) #[] #[jp cap1_0])] w0 (ret R) :=
 vcFn_sound (H := H139r) follows_ Tryz.func139 (Eq.mpr (by kernel_rfl) h)
def S215d (s_a : OA) (s_n s_c : Nat) (cap1_0 : Addr) (w0 : World) (R : KR) : Prop :=
 loop (T := (Int × Unit)) (0, ()) w0 fun (g1 : Int × Unit → World → Prop) (s2 : Int × Unit) w3 => ∀ _ : NV,
 br (decide (s2.1 < ((s_n : Nat) : Int))) (rdp prog (Instr.indexAt 39 (.slice s_a s_n s_c) (ji s2.1)) oA fun (x4 : Addr) =>
 rd prog (jL 66 x4) (.agg [.int .i64, .int .i64, .int .i64, .str, .int .i64, .slice]) w3 fun (x5 : Int × Int × Int × ByteArray × Int × Hd3 × Unit) =>
 call prog 140 [.agg #[ji x5.1, ji x5.2.1, ji x5.2.2.1, .string x5.2.2.2.1, ji x5.2.2.2.2.1, jw x5.2.2.2.2.2.1], jp cap1_0] (.one oB) w3 fun (x6 : Bool) w7 =>
 br x6 (R (ji s2.1) w7)
 (z (IntKind.wrap .i64 (s2.1 + 1)) fun (z8 : Int) =>
 g1 (z8, ()) w7))
 (R (ji (-1)) w3)
def H215d : Hints := ⟨[(2, 0, [(8, (.one (.int .i64)))])], [], [], []⟩
theorem S215d_calls (s_a : OA) (s_n s_c : Nat) (cap1_0 : Addr) (w0 : World) (R : KR) (h : S215d s_a s_n s_c cap1_0 w0 R) : Calls prog 215 #[.slice s_a s_n s_c, (.func (.func 140) #[] #[jp cap1_0])] w0 (ret R) :=
 vcFn_sound (H := H215d) follows_ Tryz.func215 (Eq.mpr (by kernel_rfl) h)
def S139d (s_a : OA) (s_n s_c : Nat) (cap1_0 : Addr) (w0 : World) (R : KR) : Prop :=
 call prog 215 [.slice s_a s_n s_c, (.func (.func 140) #[] #[jp cap1_0])] (.one oI) w0 fun (x1 : Int) w2 =>
 R (.bool (decide (x1 ≥ 0))) w2
def H139d : Hints := ⟨[], [], [], []⟩
theorem S139d_calls (s_a : OA) (s_n s_c : Nat) (cap1_0 : Addr) (w0 : World) (R : KR) (h : S139d s_a s_n s_c cap1_0 w0 R) : Calls prog 139 #[.slice s_a s_n s_c, (.func (.func 140) #[] #[jp cap1_0])] w0 (ret R) :=
 vcFn_sound (H := H139d) follows_ Tryz.func139 (Eq.mpr (by kernel_rfl) h)
def S235n (s_a : OA) (s_n s_c : Nat) (cap1_0 : Addr) (w0 : World) (R : KR) : Prop :=
 loop (T := (Int × Unit)) (0, ()) w0 fun (g1 : Int × Unit → World → Prop) (s2 : Int × Unit) w3 => ∀ _ : NV,
 br (decide (s2.1 < ((s_n : Nat) : Int))) (rdp prog (Instr.indexAt 37 (.slice s_a s_n s_c) (ji s2.1)) oA fun (x4 : Addr) =>
 rd prog (jL 62 x4) (.agg [.str, .int .i64, .bool]) w3 fun (x5 : ByteArray × Int × Bool × Unit) =>
 call prog 236 [.agg #[.string x5.1, ji x5.2.1, .bool x5.2.2.1], jp cap1_0] (.one oB) w3 fun (x6 : Bool) w7 =>
 br x6 (R (ji s2.1) w7)
 (z (IntKind.wrap .i64 (s2.1 + 1)) fun (z8 : Int) =>
 g1 (z8, ()) w7))
 (R (ji (-1)) w3)
def H235n : Hints := ⟨[(2, 0, [(8, (.one (.int .i64)))])], [], [], []⟩
theorem S235n_calls (s_a : OA) (s_n s_c : Nat) (cap1_0 : Addr) (w0 : World) (R : KR) (h : S235n s_a s_n s_c cap1_0 w0 R) : Calls prog 235 #[.slice s_a s_n s_c, (.func (.func 236) #[] #[jp cap1_0])] w0 (ret R) :=
 vcFn_sound (H := H235n) follows_ Tryz.func235 (Eq.mpr (by kernel_rfl) h)
def S184o (s_a : OA) (s_n s_c : Nat) (w0 : World) (R : KR) : Prop :=
 loop (T := (Int × Unit)) (0, ()) w0 fun (g1 : Int × Unit → World → Prop) (s2 : Int × Unit) w3 => ∀ _ : NV,
 br (decide (s2.1 < ((s_n : Nat) : Int))) (rdp prog (Instr.indexAt 229 (.slice s_a s_n s_c) (ji s2.1)) oA fun (x4 : Addr) =>
 rd prog (jL 230 x4) (.one .map) w3 fun (x5 : Option Nat) =>
 call prog 185 [.map x5] (.one oB) w3 fun (x6 : Bool) w7 =>
 br x6 (R (ji s2.1) w7)
 (z (IntKind.wrap .i64 (s2.1 + 1)) fun (z8 : Int) =>
 g1 (z8, ()) w7))
 (R (ji (-1)) w3)
def H184o : Hints := ⟨[(2, 0, [(8, (.one (.int .i64)))])], [], [], []⟩
theorem S184o_calls (s_a : OA) (s_n s_c : Nat) (w0 : World) (R : KR) (h : S184o s_a s_n s_c w0 R) : Calls prog 184 #[.slice s_a s_n s_c, (.func (.func 185) #[] #[])] w0 (ret R) :=
 vcFn_sound (H := H184o) follows_ Tryz.func184 (Eq.mpr (by kernel_rfl) h)
def S182e (s1_a : OA) (s1_n s1_c : Nat) (s2_a : OA) (s2_n s2_c : Nat) (cap2_0 cap2_1 : Addr) (w0 : World) (R : KR) : Prop :=
 br (((s1_n : Nat) : Int) != ((s2_n : Nat) : Int)) (R (.bool false) w0)
 (loop (T := (Int × Unit)) (0, ()) w0 fun (g1 : Int × Unit → World → Prop) (s2 : Int × Unit) w3 => ∀ _ : NV,
 br (decide (s2.1 < ((s1_n : Nat) : Int))) (rdp prog (Instr.indexAt 22 (.slice s1_a s1_n s1_c) (ji s2.1)) oA fun (x4 : Addr) =>
 rd prog (jL 3 x4) oI w3 fun (x5 : Int) =>
 rdp prog (Instr.indexAt 22 (.slice s2_a s2_n s2_c) (ji s2.1)) oA fun (x6 : Addr) =>
 rd prog (jL 3 x6) oI w3 fun (x7 : Int) =>
 call prog 183 [ji x5, ji x7, jp cap2_0, jp cap2_1] (.one oB) w3 fun (x8 : Bool) w9 =>
 br (!x8) (R (.bool false) w9)
 (z (IntKind.wrap .i64 (s2.1 + 1)) fun (z10 : Int) =>
 g1 (z10, ()) w9))
 (R (.bool true) w3))
def H182e : Hints := ⟨[(2, 0, [(17, (.one (.int .i64)))])], [], [], []⟩
theorem S182e_calls (s1_a : OA) (s1_n s1_c : Nat) (s2_a : OA) (s2_n s2_c : Nat) (cap2_0 cap2_1 : Addr) (w0 : World) (R : KR) (h : S182e s1_a s1_n s1_c s2_a s2_n s2_c cap2_0 cap2_1 w0 R) : Calls prog 182 #[.slice s1_a s1_n s1_c, .slice s2_a s2_n s2_c, (.func (.func 183) #[] #[jp cap2_0, jp cap2_1])] w0 (ret R) :=
 vcFn_sound (H := H182e) follows_ Tryz.func182 (Eq.mpr (by kernel_rfl) h)
def S62t (s_0a : OA) (s_0n s_0c : Nat) (l_a : OA) (l_n l_c : Nat) (w0 : World) (R : KR) : Prop :=
 wr prog (Instr.box 29 (.agg #[.slice s_0a s_0n s_0c])) oA w0 fun (x1 : Addr) w2 =>
 rd prog (jL 27 x1) oS w2 fun (x3 : Hd3) =>
 loop (T := (Int × Unit)) (0, ()) w2 fun (g4 : Int × Unit → World → Prop) (s5 : Int × Unit) w6 => ∀ _ : NV,
 br (decide (s5.1 < ((x3.2.1 : Nat) : Int))) (rdp prog (jI 27 x3 s5.1) oA fun (x7 : Addr) =>
 rd prog (jL 41 x7) (.agg [.str, .slice, .slice, .slice, .slice, .slice]) w6 fun (x8 : ByteArray × Hd3 × Hd3 × TS) =>
 wr prog (Instr.alloc 41 true (.tuple #[])) oA w6 fun (x9 : Addr) w10 =>
 wu prog (jS 41 x9 (.agg #[.string x8.1, jw x8.2.1, jw x8.2.2.1, jw x8.2.2.2.1, jw x8.2.2.2.2.1, jw x8.2.2.2.2.2.1])) w10 fun w11 =>
 rd prog (jL 37 (Addr.add x9 1)) oS w11 fun (x12 : Hd3) =>
 loop (T := (Int × Unit)) (0, ()) w11 fun (g13 : Int × Unit → World → Prop) (s14 : Int × Unit) w15 => ∀ _ : NV,
 br (decide (s14.1 < ((x12.2.1 : Nat) : Int))) (join (T := Unit) (fun (_s17 : Unit) w18 => ∀ _ : NV,
 z (IntKind.wrap .i64 (s14.1 + 1)) fun (z19 : Int) =>
 g13 (z19, ()) w18)
  fun (K16 : Unit → World → Prop) =>
 rdp prog (jI 37 x12 s14.1) oA fun (x20 : Addr) =>
 rd prog (jL 62 x20) (.agg [.str, .int .i64, .bool]) w15 fun (x21 : ByteArray × Int × Bool × Unit) =>
 wr prog (Instr.alloc 62 true (.tuple #[])) oA w15 fun (x22 : Addr) w23 =>
 wu prog (jS 62 x22 (.agg #[.string x21.1, ji x21.2.1, .bool x21.2.2.1])) w23 fun w24 =>
 rd prog (jL 41 x9) (.agg [.str, .slice, .slice, .slice, .slice, .slice]) w24 fun (x25 : ByteArray × Hd3 × Hd3 × TS) =>
 call prog 23 [.agg #[.string x25.1, jw x25.2.1, jw x25.2.2.1, jw x25.2.2.2.1, jw x25.2.2.2.2.1, jw x25.2.2.2.2.2.1], ji s14.1] (.one oB) w24 fun (x26 : Bool) w27 =>
 br (!x26) (K16 (()) w27)
 (drw w27 fun w28 =>
 rd prog (jL 62 x22) (.agg [.str, .int .i64, .bool]) w28 fun (x29 : ByteArray × Int × Bool × Unit) =>
 rdp prog (Instr.indexAt 43 (.slice l_a l_n l_c) (ji s5.1)) oA fun (x30 : Addr) =>
 rd prog (jL 3 x30) oI w28 fun (x31 : Int) =>
 rdp prog (Instr.indexAt 43 (.slice l_a l_n l_c) (ji s5.1)) oA fun (x32 : Addr) =>
 rd prog (jL 77 (Addr.add x32 1)) oS w28 fun (x33 : Hd3) =>
 rdp prog (jI 77 x33 s14.1) oA fun (x34 : Addr) =>
 rd prog (jL 82 x34) (.agg [.int .i64, .slice, .slice, .slice, .int .i64]) w28 fun (x35 : Int × Hd3 × Hd3 × Hd3 × Int × Unit) =>
 call prog 63 [ji s5.1, .agg #[.string x29.1, ji x29.2.1, .bool x29.2.2.1], ji x31, .agg #[ji x35.1, jw x35.2.1, jw x35.2.2.1, jw x35.2.2.2.1, ji x35.2.2.2.2.1]] (.one oI) w28 fun (x36 : Int) w37 =>
 br (x36 != 0) (R (ji x36) w37)
 (K16 (()) w37)))
 (z (IntKind.wrap .i64 (s5.1 + 1)) fun (z38 : Int) =>
 g4 (z38, ()) w15))
 (R (ji 0) w6)
def H62t : Hints := ⟨[(2, 0, [(15, (.one (.int .i64)))]), (2, 2, [(23, (.one (.int .i64)))]), (1, 3, [])], [(8, 16)], [], []⟩
theorem S62t_calls (s_0a : OA) (s_0n s_0c : Nat) (l_a : OA) (l_n l_c : Nat) (w0 : World) (R : KR) (h : S62t s_0a s_0n s_0c l_a l_n l_c w0 R) : Calls prog 62 #[.agg #[.slice s_0a s_0n s_0c], .slice l_a l_n l_c, (.func (.func 63) #[] #[])] w0 (ret R) :=
 vcFn_sound (H := H62t) follows_ Tryz.func62 (Eq.mpr (by kernel_rfl) h)
def S62f (s_0a : OA) (s_0n s_0c : Nat) (l_a : OA) (l_n l_c : Nat) (w0 : World) (R : KR) : Prop :=
 wr prog (Instr.box 29 (.agg #[.slice s_0a s_0n s_0c])) oA w0 fun (x1 : Addr) w2 =>
 rd prog (jL 27 x1) oS w2 fun (x3 : Hd3) =>
 loop (T := (Int × Unit)) (0, ()) w2 fun (g4 : Int × Unit → World → Prop) (s5 : Int × Unit) w6 => ∀ _ : NV,
 br (decide (s5.1 < ((x3.2.1 : Nat) : Int))) (rdp prog (jI 27 x3 s5.1) oA fun (x7 : Addr) =>
 rd prog (jL 41 x7) (.agg [.str, .slice, .slice, .slice, .slice, .slice]) w6 fun (x8 : ByteArray × Hd3 × Hd3 × TS) =>
 wr prog (Instr.alloc 41 true (.tuple #[])) oA w6 fun (x9 : Addr) w10 =>
 wu prog (jS 41 x9 (.agg #[.string x8.1, jw x8.2.1, jw x8.2.2.1, jw x8.2.2.2.1, jw x8.2.2.2.2.1, jw x8.2.2.2.2.2.1])) w10 fun w11 =>
 rd prog (jL 37 (Addr.add x9 1)) oS w11 fun (x12 : Hd3) =>
 loop (T := (Int × Unit)) (0, ()) w11 fun (g13 : Int × Unit → World → Prop) (s14 : Int × Unit) w15 => ∀ _ : NV,
 br (decide (s14.1 < ((x12.2.1 : Nat) : Int))) (join (T := Unit) (fun (_s17 : Unit) w18 => ∀ _ : NV,
 z (IntKind.wrap .i64 (s14.1 + 1)) fun (z19 : Int) =>
 g13 (z19, ()) w18)
  fun (K16 : Unit → World → Prop) =>
 rdp prog (jI 37 x12 s14.1) oA fun (x20 : Addr) =>
 rd prog (jL 62 x20) (.agg [.str, .int .i64, .bool]) w15 fun (x21 : ByteArray × Int × Bool × Unit) =>
 wr prog (Instr.alloc 62 true (.tuple #[])) oA w15 fun (x22 : Addr) w23 =>
 wu prog (jS 62 x22 (.agg #[.string x21.1, ji x21.2.1, .bool x21.2.2.1])) w23 fun w24 =>
 rd prog (jL 41 x9) (.agg [.str, .slice, .slice, .slice, .slice, .slice]) w24 fun (x25 : ByteArray × Hd3 × Hd3 × TS) =>
 call prog 23 [.agg #[.string x25.1, jw x25.2.1, jw x25.2.2.1, jw x25.2.2.2.1, jw x25.2.2.2.2.1, jw x25.2.2.2.2.2.1], ji s14.1] (.one oB) w24 fun (x26 : Bool) w27 =>
 br (!x26) (K16 (()) w27)
 (drw w27 fun w28 =>
 rd prog (jL 62 x22) (.agg [.str, .int .i64, .bool]) w28 fun (x29 : ByteArray × Int × Bool × Unit) =>
 rdp prog (Instr.indexAt 43 (.slice l_a l_n l_c) (ji s5.1)) oA fun (x30 : Addr) =>
 rd prog (jL 3 x30) oI w28 fun (x31 : Int) =>
 rdp prog (Instr.indexAt 43 (.slice l_a l_n l_c) (ji s5.1)) oA fun (x32 : Addr) =>
 rd prog (jL 77 (Addr.add x32 1)) oS w28 fun (x33 : Hd3) =>
 rdp prog (jI 77 x33 s14.1) oA fun (x34 : Addr) =>
 rd prog (jL 82 x34) (.agg [.int .i64, .slice, .slice, .slice, .int .i64]) w28 fun (x35 : Int × Hd3 × Hd3 × Hd3 × Int × Unit) =>
 call prog 101 [ji s5.1, .agg #[.string x29.1, ji x29.2.1, .bool x29.2.2.1], ji x31, .agg #[ji x35.1, jw x35.2.1, jw x35.2.2.1, jw x35.2.2.2.1, ji x35.2.2.2.2.1]] (.one oI) w28 fun (x36 : Int) w37 =>
 br (x36 != 0) (R (ji x36) w37)
 (K16 (()) w37)))
 (z (IntKind.wrap .i64 (s5.1 + 1)) fun (z38 : Int) =>
 g4 (z38, ()) w15))
 (R (ji 0) w6)
def H62f : Hints := ⟨[(2, 0, [(15, (.one (.int .i64)))]), (2, 2, [(23, (.one (.int .i64)))]), (1, 3, [])], [(8, 16)], [], []⟩
theorem S62f_calls (s_0a : OA) (s_0n s_0c : Nat) (l_a : OA) (l_n l_c : Nat) (w0 : World) (R : KR) (h : S62f s_0a s_0n s_0c l_a l_n l_c w0 R) : Calls prog 62 #[.agg #[.slice s_0a s_0n s_0c], .slice l_a l_n l_c, (.func (.func 101) #[] #[])] w0 (ret R) :=
 vcFn_sound (H := H62f) follows_ Tryz.func62 (Eq.mpr (by kernel_rfl) h)
def S62p (s_0a : OA) (s_0n s_0c : Nat) (l_a : OA) (l_n l_c : Nat) (w0 : World) (R : KR) : Prop :=
 wr prog (Instr.box 29 (.agg #[.slice s_0a s_0n s_0c])) oA w0 fun (x1 : Addr) w2 =>
 rd prog (jL 27 x1) oS w2 fun (x3 : Hd3) =>
 loop (T := (Int × Unit)) (0, ()) w2 fun (g4 : Int × Unit → World → Prop) (s5 : Int × Unit) w6 => ∀ _ : NV,
 br (decide (s5.1 < ((x3.2.1 : Nat) : Int))) (rdp prog (jI 27 x3 s5.1) oA fun (x7 : Addr) =>
 rd prog (jL 41 x7) (.agg [.str, .slice, .slice, .slice, .slice, .slice]) w6 fun (x8 : ByteArray × Hd3 × Hd3 × TS) =>
 wr prog (Instr.alloc 41 true (.tuple #[])) oA w6 fun (x9 : Addr) w10 =>
 wu prog (jS 41 x9 (.agg #[.string x8.1, jw x8.2.1, jw x8.2.2.1, jw x8.2.2.2.1, jw x8.2.2.2.2.1, jw x8.2.2.2.2.2.1])) w10 fun w11 =>
 rd prog (jL 37 (Addr.add x9 1)) oS w11 fun (x12 : Hd3) =>
 loop (T := (Int × Unit)) (0, ()) w11 fun (g13 : Int × Unit → World → Prop) (s14 : Int × Unit) w15 => ∀ _ : NV,
 br (decide (s14.1 < ((x12.2.1 : Nat) : Int))) (join (T := Unit) (fun (_s17 : Unit) w18 => ∀ _ : NV,
 z (IntKind.wrap .i64 (s14.1 + 1)) fun (z19 : Int) =>
 g13 (z19, ()) w18)
  fun (K16 : Unit → World → Prop) =>
 rdp prog (jI 37 x12 s14.1) oA fun (x20 : Addr) =>
 rd prog (jL 62 x20) (.agg [.str, .int .i64, .bool]) w15 fun (x21 : ByteArray × Int × Bool × Unit) =>
 wr prog (Instr.alloc 62 true (.tuple #[])) oA w15 fun (x22 : Addr) w23 =>
 wu prog (jS 62 x22 (.agg #[.string x21.1, ji x21.2.1, .bool x21.2.2.1])) w23 fun w24 =>
 rd prog (jL 41 x9) (.agg [.str, .slice, .slice, .slice, .slice, .slice]) w24 fun (x25 : ByteArray × Hd3 × Hd3 × TS) =>
 call prog 23 [.agg #[.string x25.1, jw x25.2.1, jw x25.2.2.1, jw x25.2.2.2.1, jw x25.2.2.2.2.1, jw x25.2.2.2.2.2.1], ji s14.1] (.one oB) w24 fun (x26 : Bool) w27 =>
 br (!x26) (K16 (()) w27)
 (drw w27 fun w28 =>
 rd prog (jL 62 x22) (.agg [.str, .int .i64, .bool]) w28 fun (x29 : ByteArray × Int × Bool × Unit) =>
 rdp prog (Instr.indexAt 43 (.slice l_a l_n l_c) (ji s5.1)) oA fun (x30 : Addr) =>
 rd prog (jL 3 x30) oI w28 fun (x31 : Int) =>
 rdp prog (Instr.indexAt 43 (.slice l_a l_n l_c) (ji s5.1)) oA fun (x32 : Addr) =>
 rd prog (jL 77 (Addr.add x32 1)) oS w28 fun (x33 : Hd3) =>
 rdp prog (jI 77 x33 s14.1) oA fun (x34 : Addr) =>
 rd prog (jL 82 x34) (.agg [.int .i64, .slice, .slice, .slice, .int .i64]) w28 fun (x35 : Int × Hd3 × Hd3 × Hd3 × Int × Unit) =>
 call prog 64 [ji s5.1, .agg #[.string x29.1, ji x29.2.1, .bool x29.2.2.1], ji x31, .agg #[ji x35.1, jw x35.2.1, jw x35.2.2.1, jw x35.2.2.2.1, ji x35.2.2.2.2.1]] (.one oI) w28 fun (x36 : Int) w37 =>
 br (x36 != 0) (R (ji x36) w37)
 (K16 (()) w37)))
 (z (IntKind.wrap .i64 (s5.1 + 1)) fun (z38 : Int) =>
 g4 (z38, ()) w15))
 (R (ji 0) w6)
def H62p : Hints := ⟨[(2, 0, [(15, (.one (.int .i64)))]), (2, 2, [(23, (.one (.int .i64)))]), (1, 3, [])], [(8, 16)], [], []⟩
theorem S62p_calls (s_0a : OA) (s_0n s_0c : Nat) (l_a : OA) (l_n l_c : Nat) (w0 : World) (R : KR) (h : S62p s_0a s_0n s_0c l_a l_n l_c w0 R) : Calls prog 62 #[.agg #[.slice s_0a s_0n s_0c], .slice l_a l_n l_c, (.func (.func 64) #[] #[])] w0 (ret R) :=
 vcFn_sound (H := H62p) follows_ Tryz.func62 (Eq.mpr (by kernel_rfl) h)
end Go.Proofs

/- Library functions: membership; names. -/


namespace Go.Proofs.YtcfghfmlfgaeaaaGreatDoor
open Go.RowKit Go.Q Go.V Go.Bag

theorem pre_one {α : Type} {xs : List α} {p : α → Prop} {i : Nat} {x : α} (h : ∀ j, j < i → ∀ y, xs[j]? = some y → p y) (hx : xs[i]? = some x) (hp : p x) : ∀ j, j < i + 1 → ∀ y, xs[j]? = some y → p y := fun j hj y hy => by
  rcases Nat.lt_or_ge j i with q | q
  · exact h j q y hy
  · have : j = i := by omega
    subst this; rw [hx] at hy; cases hy; exact hp
theorem pre_end {α : Type} {xs : List α} {p : α → Prop} {i : Nat} (h : ∀ j, j < i → ∀ y, xs[j]? = some y → p y) (hi : xs.length ≤ i) : ∀ y ∈ xs, p y := fun y hy => by
  obtain ⟨j, hj⟩ := List.getElem?_of_mem hy
  exact h j (by have := (List.getElem?_eq_some_iff.1 hj).1; omega) y hj
theorem containsI (l : Hdr) (xs : List Int) (v : Int) (w : World) (H : Sl w l.1 l.2.1 l.2.2 1 (ints .i64 xs)) :
    call Tryz.prog 25 [.slice l.1 l.2.1 l.2.2, .int .i64 v] (.one (.one .bool)) w (fun (b : Bool) w' => b = decide (v ∈ xs) ∧ bel w w') := by
  refine call_of (S25_calls l.1 l.2.1 l.2.2 v w _ ?_)
  unfold S25
  refine call_mono (r := .one (.one (.int .i64))) (Q := fun (x : Int) w' => (0 ≤ x ↔ v ∈ xs) ∧ bel w w') (call_of (S51_calls l.1 l.2.1 l.2.2 v w _ ?_)) ?_
  · unfold S51
    have hl := H.int
    have hle := H.le
    refine loop_up xs.length (fun i w' => bel w w' ∧ ∀ j, j < i → ∀ y, xs[j]? = some y → y ≠ v) ⟨bel.refl _, fun j hj => by omega⟩ fun i w3 hi ⟨hb, hp⟩ again hag _ => ?_
    refine br_dec (fun e => ?_) (fun e => ?_)
    · dsimp only at e
      refine at_int tyI (by kernel_rfl) (H.up hb) rfl (by omega) fun y hy => ?_
      refine br_eq (fun e1 => ?_) (fun e1 => ?_)
      · subst e1
        exact ⟨(i : Int), rfl, ⟨fun _ => List.mem_of_getElem? hy, fun _ => Int.natCast_nonneg i⟩, hb⟩
      · refine z_i64 (by dsimp only; omega) ?_
        exact hag _ (by omega) ⟨hb, pre_one hp hy (fun q => e1 q.symm)⟩
    · dsimp only at e
      refine ⟨(-1 : Int), rfl, ⟨(fun q => absurd q (by decide)), fun q => ?_⟩, hb⟩
      exact absurd rfl (pre_end (p := fun y => y ≠ v) hp (by omega) v q)
  · rintro x w2 ⟨hx, hb⟩
    exact ⟨_, rfl, decide_eq_decide.2 hx, hb⟩
/-! ### slices.IndexFunc -/
def idxN (q : Nat → Bool) (n : Nat) : Int :=
  match (List.range n).find? q with
  | some j => (j : Int) | none => -1
theorem idxN_none {q : Nat → Bool} {n : Nat} (h : ∀ j, j < n → q j = false) : idxN q n = -1 := by
  unfold idxN
  rw [List.find?_eq_none.2 fun j hj => by simp [h j (List.mem_range.1 hj)]]
theorem idxN_at {q : Nat → Bool} {n j : Nat} (hj : j < n) (h1 : q j = true) (h2 : ∀ i, i < j → q i = false) : idxN q n = (j : Int) := by
  unfold idxN
  have : (List.range n).find? q = some j := by
    rw [List.find?_range_eq_some]
    exact ⟨h1, List.mem_range.2 hj, fun i hi => by simp [h2 i hi]⟩
  rw [this]
theorem scan {P : Program} {t e : TypeId} {vs : VS} {f : FuncId} {fargs : vs.T → List Value} {a : Option Addr} {n c : Nat} {R : Value → World → Prop} {w0 : World} (q : Nat → Bool) (hm : n ≤ 9223372036854775807)
    (STEP : ∀ j, j < n → ∀ w', bel w0 w' → ∀ K : Bool → World → Prop, (∀ w'', bel w' w'' → K (q j) w'') → rdp P (Instr.indexAt t (.slice a n c) (.int .i64 (j : Int))) (.one .addr) fun ad => rd P (Instr.loadAt e (.pointer (some ad))) vs w' fun x => call P f (fargs x) (.one (.one .bool)) w' K)
    (hk : ∀ w', bel w0 w' → R (.int .i64 (idxN q n)) w') :
    loop (T := (Int × Unit)) (0, ()) w0 fun (again1 : (Int × Unit) → World → Prop) (s2 : (Int × Unit)) w3 => ∀ _ : Nat → Value,
      br (decide (s2.1 < ((n : Nat) : Int))) (rdp P (Instr.indexAt t (.slice a n c) (.int .i64 s2.1)) (.one .addr) fun (x4 : Addr) =>
      rd P (Instr.loadAt e (.pointer (some x4))) vs w3 fun x5 =>
      call P f (fargs x5) (.one (.one .bool)) w3 fun (x6 : Bool) (w7 : World) =>
      br x6 (R (.int .i64 s2.1) w7)
      (z (IntKind.wrap .i64 (s2.1 + 1)) fun (z8 : Int) =>
      again1 (z8, ()) w7))
      (R (.int .i64 (-1)) w3) := by
  refine loop_up n (fun i w' => bel w0 w' ∧ ∀ j, j < i → q j = false) ⟨bel.refl _, fun j hj => by omega⟩ fun i w3 hi ⟨hb, hq⟩ again hag _ => ?_
  refine br_dec (fun e1 => ?_) (fun e1 => ?_)
  · dsimp only at e1
    refine STEP i (by omega) w3 hb _ fun w'' hb2 => ?_
    refine br_mk (fun e2 => ?_) (fun e2 => ?_)
    · rw [← idxN_at (n := n) (j := i) (by omega) e2 hq]; exact hk _ (hb.trans hb2)
    · refine z_i64 (by dsimp only; omega) ?_
      refine hag _ (by omega) ⟨hb.trans hb2, fun j hj => ?_⟩
      rcases Nat.lt_or_ge j i with h | h
      · exact hq j h
      · have : j = i := by omega
        subst this; exact e2
  · dsimp only at e1
    have : i = n := by omega
    subst this
    rw [← idxN_none hq]; exact hk _ hb
abbrev RIdx (q : Nat → Bool) (n : Nat) (w : World) : Int → World → Prop := fun x w' => x = idxN q n ∧ bel w w'
theorem scanC {P : Program} {t e : TypeId} {vs : VS} {f : FuncId} {fargs : vs.T → List Value} {a : Option Addr} {n c : Nat} {w0 : World} (q : Nat → Bool) (hm : n ≤ 9223372036854775807)
    (STEP : ∀ j, j < n → ∀ w', bel w0 w' → ∀ K : Bool → World → Prop, (∀ w'', bel w' w'' → K (q j) w'') → rdp P (Instr.indexAt t (.slice a n c) (.int .i64 (j : Int))) (.one .addr) fun ad => rd P (Instr.loadAt e (.pointer (some ad))) vs w' fun x => call P f (fargs x) (.one (.one .bool)) w' K) :
    loop (T := (Int × Unit)) (0, ()) w0 fun (again1 : (Int × Unit) → World → Prop) (s2 : (Int × Unit)) w3 => ∀ _ : Nat → Value,
      br (decide (s2.1 < ((n : Nat) : Int))) (rdp P (Instr.indexAt t (.slice a n c) (.int .i64 s2.1)) (.one .addr) fun (x4 : Addr) =>
      rd P (Instr.loadAt e (.pointer (some x4))) vs w3 fun x5 =>
      call P f (fargs x5) (.one (.one .bool)) w3 fun (x6 : Bool) (w7 : World) =>
      br x6 ((fun (v : Value) (w' : World) => ∃ x : Int, v = (RS.one (.one (.int .i64))).val x ∧ RIdx q n w0 x w') (.int .i64 s2.1) w7)
      (z (IntKind.wrap .i64 (s2.1 + 1)) fun (z8 : Int) =>
      again1 (z8, ()) w7))
      ((fun (v : Value) (w' : World) => ∃ x : Int, v = (RS.one (.one (.int .i64))).val x ∧ RIdx q n w0 x w') (.int .i64 (-1)) w3) :=
  scan (R := fun (v : Value) (w' : World) => ∃ x : Int, v = (RS.one (.one (.int .i64))).val x ∧ RIdx q n w0 x w') q hm STEP fun _ hb => ⟨_, rfl, rfl, hb⟩
theorem any_none {q : Nat → Bool} {n : Nat} (h : ∀ j, j < n → q j = false) : decide (idxN q n ≥ 0) = false := by rw [idxN_none h]; rfl

/-! ### strings -/
theorem eqS {t : TypeId} {x y : Operand} {a b : ByteArray} {w : World} {K : Bool → Prop} (hk : K (decide (a = b))) : rd Tryz.prog (Go.V.cmpS .eql t x y (.string a) (.string b)) (.one .bool) w K := by
  refine ⟨_, fun w' _ => ?_, hk⟩
  unfold Go.V.cmpS eqGuard
  simp only [Bool.not_true, Bool.false_eq_true, if_false, Sem.run_bind, Sem.run_pure, Result.andThen_ok, binOp_string_eql]
  have : (a.toList == b.toList) = decide (a = b) := by
    rw [Bool.eq_iff_iff]
    simp only [beq_iff_eq, decide_eq_true_eq]
    exact ⟨bytes_inj, fun h => by rw [h]⟩
  rw [this]; rfl
theorem addS {t : TypeId} {x y : Operand} {a b : ByteArray} {K : ByteArray → Prop} (hs : a.size + b.size ≤ 1000000) (hk : K (a ++ b)) : rdp Tryz.prog (Go.V.cmpS .add t x y (.string a) (.string b)) (.one .str) K := by
  refine ⟨a ++ b, fun w => ?_, hk⟩
  unfold Go.V.cmpS eqGuard
  simp only [Bool.not_false, if_true, Sem.run_bind, Sem.run_pure, Result.andThen_ok]
  rw [binOp_string_add]
  unfold Op.stringOp
  rw [if_neg (by show ¬ ((a.size + b.size : Nat) : Int) > 9223372036854775807; omega)]
  rfl
theorem atS {s : ByteArray} {i : Int} {j : Nat} {w : World} {K : Int → Prop} (hi : i = (j : Int)) (hj : j < s.size) (hk : K (((s[j]'hj).toNat : Nat) : Int)) : rd Tryz.prog (Instr.index 9 (.string s) (.int .i64 i)) (.one (.int .u8)) w K := by
  subst hi
  refine ⟨_, fun w' _ => ?_, hk⟩
  rw [run_index_string w' 9 s .i64 (j : Int) (by kernel_rfl), dif_pos ⟨by omega, by omega⟩]
  rfl
end Go.Proofs.YtcfghfmlfgaeaaaGreatDoor

/- Library functions: the kit's contracts laid at this seat (printed by the kit's shelf tool). -/





namespace Go.Proofs.YtcfghfmlfgaeaaaGreatDoor
open Go.Shelf
def lays144_ren : Go.Shelf.Ren := ⟨fun | 144 => 178 | 143 => 234 | 219 => 286 | 217 => 314 | 225 => 315 | 224 => 316 | 267 => 317 | 266 => 334 | 314 => 335 | n => n, fun | 9 => 9 | 4 => 4 | 3 => 3 | 5 => 5 | 46 => 128 | 146 => 205 | 51 => 204 | n => n, fun | 1 => 2 | n => n⟩
theorem lays144 : Go.Proofs.Lays.n144 Tryz.prog lays144_ren := {
  mixed := by kernel_rfl
  f143 := Tryz.func234.trans (congrArg some (by kernel_rfl))
  f144 := Tryz.func178.trans (congrArg some (by kernel_rfl))
  f217 := Tryz.func314.trans (congrArg some (by kernel_rfl))
  f219 := Tryz.func286.trans (congrArg some (by kernel_rfl))
  f224 := Tryz.func316.trans (congrArg some (by kernel_rfl))
  f225 := Tryz.func315.trans (congrArg some (by kernel_rfl))
  f266 := Tryz.func334.trans (congrArg some (by kernel_rfl))
  f267 := Tryz.func317.trans (congrArg some (by kernel_rfl))
  f314 := Tryz.func335.trans (congrArg some (by kernel_rfl))
  t3 := Tryz.underlying3
  a3 := Tryz.isAgg3
  z3 := Tryz.sizeOf3
  v3 := Tryz.zeroValue3
  t4 := Tryz.underlying4
  a4 := Tryz.isAgg4
  z4 := Tryz.sizeOf4
  v4 := Tryz.zeroValue4
  t5 := Tryz.underlying5
  a5 := Tryz.isAgg5
  z5 := Tryz.sizeOf5
  v5 := Tryz.zeroValue5
  t9 := Tryz.underlying9
  a9 := Tryz.isAgg9
  z9 := Tryz.sizeOf9
  v9 := Tryz.zeroValue9
  t46 := Tryz.underlying128
  a46 := Tryz.isAgg128
  z46 := Tryz.sizeOf128
  v46 := Tryz.zeroValue128
  t51 := Tryz.underlying204
  a51 := Tryz.isAgg204
  z51 := Tryz.sizeOf204
  v51 := Tryz.zeroValue204
  t146 := Tryz.underlying205
  a146 := Tryz.isAgg205
  z146 := Tryz.sizeOf205
  v146 := Tryz.zeroValue205
  g1 := by kernel_rfl }
def lays246_ren : Go.Shelf.Ren := ⟨fun | 246 => 318 | 283 => 336 | 284 => 337 | 285 => 338 | 286 => 339 | 129 => 169 | 317 => 344 | 318 => 345 | 319 => 346 | 320 => 347 | 337 => 349 | 338 => 350 | n => n, fun | 2 => 2 | 3 => 3 | 9 => 9 | 4 => 4 | 171 => 327 | 0 => 0 | 53 => 23 | 37 => 104 | 5 => 5 | 173 => 329 | 212 => 335 | 51 => 204 | 20 => 20 | 213 => 336 | 46 => 128 | 232 => 338 | 233 => 339 | n => n, fun | 17 => 3 | 18 => 4 | 19 => 5 | n => n⟩
theorem lays246 : Go.Proofs.Lays.n246 Tryz.prog lays246_ren := {
  mixed := by kernel_rfl
  f129 := Tryz.func169.trans (congrArg some (by kernel_rfl))
  f246 := Tryz.func318.trans (congrArg some (by kernel_rfl))
  f283 := Tryz.func336.trans (congrArg some (by kernel_rfl))
  f284 := Tryz.func337.trans (congrArg some (by kernel_rfl))
  f285 := Tryz.func338.trans (congrArg some (by kernel_rfl))
  f286 := Tryz.func339.trans (congrArg some (by kernel_rfl))
  f317 := Tryz.func344.trans (congrArg some (by kernel_rfl))
  f318 := Tryz.func345.trans (congrArg some (by kernel_rfl))
  f319 := Tryz.func346.trans (congrArg some (by kernel_rfl))
  f320 := Tryz.func347.trans (congrArg some (by kernel_rfl))
  f337 := Tryz.func349.trans (congrArg some (by kernel_rfl))
  f338 := Tryz.func350.trans (congrArg some (by kernel_rfl))
  t0 := Tryz.underlying0
  a0 := Tryz.isAgg0
  z0 := Tryz.sizeOf0
  v0 := Tryz.zeroValue0
  t2 := Tryz.underlying2
  a2 := Tryz.isAgg2
  z2 := Tryz.sizeOf2
  v2 := Tryz.zeroValue2
  t3 := Tryz.underlying3
  a3 := Tryz.isAgg3
  z3 := Tryz.sizeOf3
  v3 := Tryz.zeroValue3
  t4 := Tryz.underlying4
  a4 := Tryz.isAgg4
  z4 := Tryz.sizeOf4
  v4 := Tryz.zeroValue4
  t5 := Tryz.underlying5
  a5 := Tryz.isAgg5
  z5 := Tryz.sizeOf5
  v5 := Tryz.zeroValue5
  t9 := Tryz.underlying9
  a9 := Tryz.isAgg9
  z9 := Tryz.sizeOf9
  v9 := Tryz.zeroValue9
  t20 := Tryz.underlying20
  a20 := Tryz.isAgg20
  z20 := Tryz.sizeOf20
  v20 := Tryz.zeroValue20
  t37 := Tryz.underlying104
  a37 := Tryz.isAgg104
  z37 := Tryz.sizeOf104
  v37 := Tryz.zeroValue104
  t46 := Tryz.underlying128
  a46 := Tryz.isAgg128
  z46 := Tryz.sizeOf128
  v46 := Tryz.zeroValue128
  t51 := Tryz.underlying204
  a51 := Tryz.isAgg204
  z51 := Tryz.sizeOf204
  v51 := Tryz.zeroValue204
  t53 := Tryz.underlying23
  a53 := Tryz.isAgg23
  z53 := Tryz.sizeOf23
  v53 := Tryz.zeroValue23
  t171 := Tryz.underlying327
  a171 := Tryz.isAgg327
  z171 := Tryz.sizeOf327
  v171 := Tryz.zeroValue327
  t173 := Tryz.underlying329
  a173 := Tryz.isAgg329
  z173 := Tryz.sizeOf329
  v173 := Tryz.zeroValue329
  t212 := Tryz.underlying335
  a212 := Tryz.isAgg335
  z212 := Tryz.sizeOf335
  v212 := Tryz.zeroValue335
  t213 := Tryz.underlying336
  a213 := Tryz.isAgg336
  z213 := Tryz.sizeOf336
  t232 := Tryz.underlying338
  a232 := Tryz.isAgg338
  z232 := Tryz.sizeOf338
  v232 := Tryz.zeroValue338
  t233 := Tryz.underlying339
  a233 := Tryz.isAgg339
  z233 := Tryz.sizeOf339
  v233 := Tryz.zeroValue339
  g17 := by kernel_rfl
  g18 := by kernel_rfl
  g19 := by kernel_rfl }
def laysGw15_ren : Go.Shelf.Ren := ⟨fun | 15 => 232 | 20 => 285 | n => n, fun | 9 => 9 | 23 => 269 | 3 => 3 | 4 => 4 | 0 => 0 | 21 => 21 | n => n, fun | n => n⟩
theorem laysGw15 : Go.Proofs.LaysGw.n15 Tryz.prog laysGw15_ren := {
  mixed := by kernel_rfl
  f15 := Tryz.func232.trans (congrArg some (by kernel_rfl))
  f20 := Tryz.func285.trans (congrArg some (by kernel_rfl))
  t0 := Tryz.underlying0
  a0 := Tryz.isAgg0
  z0 := Tryz.sizeOf0
  v0 := Tryz.zeroValue0
  i0 := by kernel_rfl
  t3 := Tryz.underlying3
  a3 := Tryz.isAgg3
  z3 := Tryz.sizeOf3
  v3 := Tryz.zeroValue3
  i3 := by kernel_rfl
  t4 := Tryz.underlying4
  a4 := Tryz.isAgg4
  z4 := Tryz.sizeOf4
  v4 := Tryz.zeroValue4
  i4 := by kernel_rfl
  t9 := Tryz.underlying9
  a9 := Tryz.isAgg9
  z9 := Tryz.sizeOf9
  v9 := Tryz.zeroValue9
  i9 := by kernel_rfl
  t21 := Tryz.underlying21
  a21 := Tryz.isAgg21
  z21 := Tryz.sizeOf21
  v21 := Tryz.zeroValue21
  i21 := by kernel_rfl
  t23 := Tryz.underlying269
  a23 := Tryz.isAgg269
  z23 := Tryz.sizeOf269
  v23 := Tryz.zeroValue269
  i23 := by kernel_rfl }
def ML (w : World) : Prop := ∃ m : Int, w.cell? ⟨2, 0, none⟩ = some (.int .i64 m)
theorem ML.up {w w' : World} (h : ML w) (hb : Go.V.bel w w') : ML w' := by obtain ⟨m, hm⟩ := h; exact ⟨m, Go.V.bel.cell hb hm⟩
theorem containsStr (s sub : ByteArray) (w : World) (hs : s.size < 4294967281) (hm : ML w) : Go.V.call Tryz.prog 178 [.string s, .string sub] (.one (.one .bool)) w (fun (b : Bool) w' => b = Lib.contains s.data.toList sub.data.toList ∧ w' = w) := by
  obtain ⟨m, hm⟩ := hm
  exact (Any.strings_Contains lays144 s sub m w hs hm).mono fun e w' ⟨h1, h2⟩ => ⟨_, h1, rfl, h2⟩
theorem fmtSmall (i : Nat) (hi : i < 100) (w : World) : Go.V.call Tryz.prog 288 [.int .i64 (i : Int), .int .i64 10] (.one (.one .str)) w (fun (b : ByteArray) w' => b = ⟨(Lib.decDigits i).toArray⟩ ∧ w' = w) := by
  refine Go.V.call_of (S288_calls (i : Int) 10 w _ ?_)
  unfold S288
  refine Go.V.call_mono (r := .one (.one .str)) (Q := fun (b : ByteArray) w' => b = ⟨(Lib.decDigits i).toArray⟩ ∧ w' = w) ((Any.internal_strconv_FormatInt_10_small lays246 i hi w).mono fun e w' ⟨h1, h2⟩ => ⟨_, h1, rfl, h2⟩) ?_
  rintro x w' ⟨rfl, rfl⟩
  exact ⟨_, rfl, rfl, rfl⟩
end Go.Proofs.YtcfghfmlfgaeaaaGreatDoor

/- Package schema: names, tables found, keys. -/

namespace Go.Proofs.YtcfghfmlfgaeaaaGreatDoor
open Go.RowKit Go.Q Go.V Go.Bag

def goodNames : List ByteArray := [nm 116 0, nm 116 1, nm 116 2, idB, nm 99 0, nm 99 1, nm 102 0, nm 102 1]
def resB : ByteArray := ⟨#[32, 115, 101, 108, 101, 99, 116, 32, 100, 105, 115, 116, 105, 110, 99, 116, 32, 97, 108, 108, 32, 102, 114, 111, 109, 32, 119, 104, 101, 114, 101, 32, 103, 114, 111, 117, 112, 32, 98, 121, 32, 104, 97, 118, 105, 110, 103, 32, 97, 115, 32, 111, 110, 32, 117, 110, 105, 111, 110, 32, 101, 120, 99, 101, 112, 116, 32, 105, 110, 116, 101, 114, 115, 101, 99, 116, 32, 106, 111, 105, 110, 32, 105, 110, 110, 101, 114, 32, 108, 101, 102, 116, 32, 114, 105, 103, 104, 116, 32, 102, 117, 108, 108, 32, 99, 114, 111, 115, 115, 32, 115, 101, 109, 105, 32, 97, 110, 116, 105, 32, 97, 110, 100, 32, 111, 114, 32, 110, 111, 116, 32, 105, 115, 32, 110, 117, 108, 108, 32, 116, 114, 117, 101, 32, 102, 97, 108, 115, 101, 32, 105, 110, 32, 99, 97, 115, 101, 32, 119, 104, 101, 110, 32, 116, 104, 101, 110, 32, 101, 108, 115, 101, 32, 101, 110, 100, 32, 118, 97, 108, 117, 101, 115, 32, 116, 97, 98, 108, 101, 32, 112, 114, 105, 109, 97, 114, 121, 32, 117, 110, 105, 113, 117, 101, 32, 102, 111, 114, 101, 105, 103, 110, 32, 114, 101, 102, 101, 114, 101, 110, 99, 101, 115, 32, 99, 104, 101, 99, 107, 32, 105, 110, 116, 32, 98, 111, 111, 108, 32, 116, 101, 120, 116, 32, 99, 111, 117, 110, 116, 32, 115, 117, 109, 32, 109, 105, 110, 32, 109, 97, 120, 32, 99, 111, 97, 108, 101, 115, 99, 101, 32, 108, 101, 110, 103, 116, 104, 32, 115, 97, 109, 101, 32, 109, 111, 100, 32]⟩
theorem good_size : ∀ s ∈ goodNames, s.size = 2 := by decide
theorem good_0 : ∀ s ∈ goodNames, (97 ≤ (s.data.toList.getD 0 0).toNat ∧ (s.data.toList.getD 0 0).toNat ≤ 122) := by decide
theorem good_1 : ∀ s ∈ goodNames, ((97 ≤ (s.data.toList.getD 1 0).toNat ∧ (s.data.toList.getD 1 0).toNat ≤ 122) ∨ (48 ≤ (s.data.toList.getD 1 0).toNat ∧ (s.data.toList.getD 1 0).toNat ≤ 57)) := by decide
theorem good_res : ∀ s ∈ goodNames, Lib.contains resB.data.toList ((⟨#[32]⟩ ++ s ++ ⟨#[32]⟩ : ByteArray)).data.toList = false := by decide +kernel
theorem get_data {s : ByteArray} {j : Nat} (h : j < s.size) : s[j]'h = s.data.toList.getD j 0 := by
  obtain ⟨d⟩ := s
  have h' : j < d.toList.length := by rw [Array.length_toList]; exact h
  rw [List.getD_eq_getElem?_getD, List.getElem?_eq_getElem h']
  simp [ByteArray.getElem_eq_getElem_data]
theorem nm_inj : ∀ i, i < 3 → ∀ j, j < 3 → nm 116 i = nm 116 j → i = j := by decide
theorem t_good (i : Nat) (hi : i < 3) : nm 116 i ∈ goodNames := by
  have : i = 0 ∨ i = 1 ∨ i = 2 := by omega
  rcases this with rfl | rfl | rfl <;> simp [goodNames]

theorem letterF (c : Int) (w : World) : call Tryz.prog 177 [.int .u8 c] (.one (.one .bool)) w (fun (b : Bool) w' => b = decide (97 ≤ c ∧ c ≤ 122) ∧ w' = w) := by
  refine call_of (S177_calls c w _ ?_)
  unfold S177
  refine br_dec (fun e => ⟨_, rfl, ?_, rfl⟩) (fun e => ⟨_, rfl, (decide_eq_false (by omega)).symm, rfl⟩)
  exact decide_eq_decide.2 (by omega)
theorem nameP (s : ByteArray) (hs : s ∈ goodNames) (w : World) (hm : ML w) : call Tryz.prog 114 [.string s] (.one (.one .bool)) w (fun (b : Bool) w' => b = true ∧ bel w w') := by
  have h2 := good_size s hs
  have g0 := good_0 s hs
  have g1 := good_1 s hs
  refine call_of (S114_calls s w _ ?_)
  unfold S114
  refine eqS (br_f (decide_eq_false fun q => by rw [q] at h2; exact absurd h2 (by decide)) ?_)
  refine br_dec (fun e => by omega) (fun _ => ?_)
  refine atS (j := 0) rfl (by omega) ?_
  refine call_mono (letterF _ w) ?_
  rintro x w' ⟨rfl, rfl⟩
  rw [get_data (by omega)]
  refine br_f (by rw [decide_eq_true (by omega)]; rfl) ?_
  refine addS (by rw [h2]; decide) ?_
  refine addS (by rw [ByteArray.size_append, h2]; decide) ?_
  refine call_mono (containsStr resB _ w' (by decide +kernel) hm) ?_
  rintro x w'' ⟨hx, rfl⟩
  have hr := good_res s hs
  refine br_f (hx.trans hr) ?_
  refine loop_up 2 (fun i w1 => bel w'' w1) (bel.refl _) fun i w11 hi hb again hag _ => ?_
  refine br_dec (fun e => ?_) (fun e => ⟨true, rfl, rfl, hb⟩)
  dsimp only at e
  have hi2 : i < 2 := by omega
  refine join_mk (fun _ w1 => bel w'' w1) (fun K hK => ?_) ?_
  · refine atS (j := i) rfl (by omega) ?_
    refine call_mono (letterF _ w11) ?_
    rintro x w12 ⟨rfl, rfl⟩
    rw [get_data (by omega)]
    have hi3 : i = 0 ∨ i = 1 := by omega
    rcases hi3 with rfl | rfl
    · exact br_f (by rw [decide_eq_true (by omega)]; rfl) (hK _ _ hb)
    · rcases g1 with g1 | g1
      · exact br_f (by rw [decide_eq_true (by omega)]; rfl) (hK _ _ hb)
      · refine br_t (by rw [decide_eq_false (by omega)]; rfl) ?_
        exact br_dec (fun e => by omega) (fun _ => br_dec (fun e => by omega) (fun _ => hK _ _ hb))
  · rintro _ w14 hb _
    refine z_i64 (by omega) ?_
    exact hag _ hi2 hb

/-! ### tables and columns found -/
section
variable {w : World} {h : Hdr} {D : List TPar}
theorem findP (H : SchAt w h D) (hD : OkD D) {j : Nat} (hj : j < D.length) : call Tryz.prog 66 [.agg #[.slice h.1 h.2.1 h.2.2], .string (nm 116 j)] (.many [.one (.int .i64), .one .bool]) w (fun (x : Int × Bool × Unit) w' => x.1 = (j : Int) ∧ x.2.1 = true ∧ bel w w') := by
  have hl := H.len
  have h3 := hD.d2
  have hm : h.2.1 ≤ 9223372036854775807 := by omega
  refine call_of (S66_calls h.1 h.2.1 h.2.2 (nm 116 j) w _ ?_)
  unfold S66
  refine wr_box fun x1 w2 X1 h2 _ _ => ?_
  refine wr_box fun x3 w4 X3 h4 _ _ => ?_
  replace X1 : Box w4 x1 [.slice h.1 h.2.1 h.2.2] := Box.up (show Box w2 x1 [.slice h.1 h.2.1 h.2.2] from X1) h4
  replace X3 : Box w4 x3 [.string (nm 116 j)] := X3
  have h04 := h2.trans h4
  refine rd_box0 (by kernel_rfl) X1 rfl rfl ?_
  refine call_mono (r := .one (.one (.int .i64))) (Q := RIdx (fun i => decide (nm 116 i = nm 116 j)) h.2.1 w4) (call_of (S100n_calls h.1 h.2.1 h.2.2 x3 w4 _ ?_)) ?_
  · unfold S100n
    refine scanC (vs := .agg [.str, .slice, .slice, .slice, .slice, .slice]) (fargs := fun x => [tbv x, .pointer (some x3)]) _ hm (fun i hi w' hb K hK => ?_)
    refine ((H.up h04).up hb).at rfl (by omega) fun x t ht T => ?_
    refine call_of (S113_calls x.1 x.2.1.1 x.2.1.2.1 x.2.1.2.2 x.2.2.1.1 x.2.2.1.2.1 x.2.2.1.2.2 x.2.2.2.1.1 x.2.2.2.1.2.1 x.2.2.2.1.2.2 x.2.2.2.2.1.1 x.2.2.2.2.1.2.1 x.2.2.2.2.1.2.2 x.2.2.2.2.2.1.1 x.2.2.2.2.2.1.2.1 x.2.2.2.2.2.1.2.2 x3 w' _ ?_)
    unfold S113
    refine wr_box fun y1 w5 Y1 h5 _ _ => ?_
    replace Y1 : Box w5 y1 (tbc x) := Y1
    refine rd_box0 (by kernel_rfl) Y1 rfl rfl ?_
    refine rd_box0 (by kernel_rfl) ((X3.up hb).up h5) rfl rfl ?_
    refine eqS ⟨_, rfl, ?_⟩
    rw [T.name]
    exact hK w5 h5
  · rintro x w7 ⟨hx, hb⟩
    have e : x = (j : Int) := by
      rw [hx]
      exact idxN_at (by omega) (decide_eq_true rfl) fun i hi => decide_eq_false fun q => by have := nm_inj i (by omega) j (by omega) q; omega
    subst e
    refine z_eq (m := (j : Int)) (by rw [if_neg (by omega)]) ?_
    exact ⟨((j : Int), true, ()), by simp [RS.val, Vval, VS.val, Sh.val], rfl, rfl, h04.trans hb⟩
theorem targetP (H : SchAt w h D) (hD : OkD D) {i k to : Nat} {t : TPar} (ht : D[i]? = some t) (hk : t.tos[k]? = some to) :
    call Tryz.prog 30 [.agg #[.slice h.1 h.2.1 h.2.2], .int .i64 (i : Int), .int .i64 (k : Int)] (.many [.one (.int .i64), .one .bool]) w (fun (x : Int × Bool × Unit) w' => x.1 = (to : Int) ∧ x.2.1 = true ∧ bel w w') := by
  have hl := H.len
  have hi : i < D.length := (List.getElem?_eq_some_iff.1 ht).1
  have hkl : k < t.tos.length := (List.getElem?_eq_some_iff.1 hk).1
  refine call_of (S30_calls h.1 h.2.1 h.2.2 i k w _ ?_)
  unfold S30
  refine wr_box fun x1 w2 X1 h2 _ _ => ?_
  replace X1 : Box w2 x1 [.slice h.1 h.2.1 h.2.2] := X1
  replace H := H.up h2
  refine br_dec (fun e => by omega) (fun _ => ?_)
  refine rd_box0 (by kernel_rfl) X1 rfl rfl ?_
  refine br_dec (fun e => by dsimp only at e; omega) (fun _ => ?_)
  refine br_dec (fun e => by omega) (fun _ => ?_)
  refine rd_box0 (by kernel_rfl) X1 rfl rfl ?_
  refine H.fld (o := 4) rfl hi (by kernel_rfl) fun x t' ht' T => ⟨x.2.2.2.2.1, rfl, ?_⟩
  obtain rfl : t = t' := by rw [ht] at ht'; cases ht'; rfl
  refine br_dec (fun e => by have := T.nt; omega) (fun _ => ?_)
  refine drw_mk fun w7 h7 _ => ?_
  replace X1 := X1.up h7
  replace H := H.up h7
  refine rd_boxN X1 (by kernel_rfl) rfl ?_
  refine rd_box0 (by kernel_rfl) X1 rfl rfl ?_
  refine H.fld (o := 4) rfl hi (by kernel_rfl) fun x t' ht' T => ⟨x.2.2.2.2.1, rfl, ?_⟩
  obtain rfl : t = t' := by rw [ht] at ht'; cases ht'; rfl
  refine T.fors.nam rfl hkl fun to' hto => ?_
  obtain rfl : to = to' := by rw [hk] at hto; cases hto; rfl
  have hto2 := (hD.each i t ht).to to (List.mem_of_getElem? hk)
  refine call_mono (findP H hD (j := to) (by omega)) ?_
  rintro (x : Int × Bool × Unit) w15 ⟨e1, e2, hb⟩
  exact ⟨x, rfl, e1, e2, (h2.trans h7).trans hb⟩
end
end Go.Proofs.YtcfghfmlfgaeaaaGreatDoor

/- Package schema: columns, keys, references. -/

namespace Go.Proofs.YtcfghfmlfgaeaaaGreatDoor
open Go.RowKit Go.Q Go.V Go.Bag

theorem sl_zero {w : World} {a : Option Addr} {n c sz : Nat} {xs : List Value} (S : Sl w a n c sz xs) : Sl w a 0 c sz [] := ⟨by simp, Nat.zero_le _, S.most, fun h => ⟨rfl, (S.nil' h).2⟩, fun k u hu => by simp at hu⟩
/-! ### names of columns -/
theorem c_inj : ∀ i, i < 2 → ∀ j, j < 2 → nm 99 i = nm 99 j → i = j := by decide
theorem f_inj : ∀ i, i < 2 → ∀ j, j < 2 → nm 102 i = nm 102 j → i = j := by decide
theorem cf_ne : ∀ i, i < 2 → ∀ j, j < 2 → nm 99 i ≠ nm 102 j := by decide
theorem ci_ne : ∀ i, i < 2 → nm 99 i ≠ idB := by decide
theorem fi_ne : ∀ i, i < 2 → nm 102 i ≠ idB := by decide
section
variable {i : Nat} {t : TPar}
theorem col_name (ok : t.Ok i) {c : Nat} {y : Col} (h : t.cols[c]? = some y) : (c = 0 ∧ y = (idB, 1, false)) ∨ (∃ k p, k < 2 ∧ c = 1 + k ∧ t.free[k]? = some p ∧ y = (nm 99 k, p.1, p.2)) ∨ ∃ k, k < 2 ∧ c = 1 + t.nf + k ∧ k < t.tos.length ∧ y = (nm 102 k, 1, false) := by
  have hc : c < t.nc := by have := (List.getElem?_eq_some_iff.1 h).1; rwa [cols_len] at this
  have := ok.f2
  have := ok.k2
  rcases col_cases hc with rfl | ⟨k, p, rfl, hp⟩ | ⟨k, rfl, hk⟩
  · rw [cols_id] at h; cases h; exact .inl ⟨rfl, rfl⟩
  · rw [cols_free hp] at h; cases h
    exact .inr (.inl ⟨k, p, by have := (List.getElem?_eq_some_iff.1 hp).1; omega, rfl, hp, rfl⟩)
  · rw [cols_key hk] at h; cases h
    exact .inr (.inr ⟨k, by omega, rfl, hk, rfl⟩)
theorem col_inj (ok : t.Ok i) {c d : Nat} {x y : Col} (hx : t.cols[c]? = some x) (hy : t.cols[d]? = some y) (h : x.1 = y.1) : c = d := by
  rcases col_name ok hx with ⟨rfl, rfl⟩ | ⟨k, p, hk, rfl, hp, rfl⟩ | ⟨k, hk, rfl, hk2, rfl⟩ <;> rcases col_name ok hy with ⟨rfl, rfl⟩ | ⟨l, q, hl, rfl, hq, rfl⟩ | ⟨l, hl, rfl, hl2, rfl⟩
  · rfl
  · exact absurd h.symm (ci_ne l hl)
  · exact absurd h.symm (fi_ne l hl)
  · exact absurd h (ci_ne k hk)
  · have := c_inj k hk l hl h; omega
  · exact absurd h (cf_ne k hk l hl)
  · exact absurd h (fi_ne k hk)
  · exact absurd h.symm (cf_ne l hl k hk)
  · have := f_inj k hk l hl h; omega
theorem col_good (ok : t.Ok i) {c : Nat} {x : Col} (hx : t.cols[c]? = some x) : x.1 ∈ goodNames := by
  rcases col_name ok hx with ⟨rfl, rfl⟩ | ⟨k, p, hk, rfl, hp, rfl⟩ | ⟨k, hk, rfl, hk2, rfl⟩
  · simp [goodNames]
  · have : k = 0 ∨ k = 1 := by omega
    rcases this with rfl | rfl <;> simp [goodNames]
  · have : k = 0 ∨ k = 1 := by omega
    rcases this with rfl | rfl <;> simp [goodNames]
theorem col_type (ok : t.Ok i) {c : Nat} {x : Col} (hx : t.cols[c]? = some x) : 1 ≤ x.2.1 ∧ x.2.1 ≤ 3 := by
  rcases col_name ok hx with ⟨rfl, rfl⟩ | ⟨k, p, hk, rfl, hp, rfl⟩ | ⟨k, hk, rfl, hk2, rfl⟩
  · exact ⟨by show (1 : Int) ≤ 1; omega, by show (1 : Int) ≤ 3; omega⟩
  · exact ok.ty p (List.mem_of_getElem? hp)
  · exact ⟨by show (1 : Int) ≤ 1; omega, by show (1 : Int) ≤ 3; omega⟩
theorem nc_le (ok : t.Ok i) : t.nc ≤ 5 := by
  have := ok.f2; have := ok.k2; show 1 + t.free.length + t.tos.length ≤ 5; omega
end

section
variable {w : World} {i : Nat} {x : TH} {t : TPar}
theorem columnP (T : TbAt w i x t) (ok : t.Ok i) {c : Nat} {y : Col} (hc : t.cols[c]? = some y) :
    call Tryz.prog 179 [tbv x, .string y.1] (.many [.one (.int .i64), .one .bool]) w (fun (r : Int × Bool × Unit) w' => r.1 = (c : Int) ∧ r.2.1 = true ∧ bel w w') := by
  have hn := T.nc
  have hle := nc_le ok
  have hm : x.2.1.2.1 ≤ 9223372036854775807 := by omega
  have hcl : c < t.nc := by have := (List.getElem?_eq_some_iff.1 hc).1; rwa [cols_len] at this
  refine call_of (S179_calls x.1 x.2.1.1 x.2.1.2.1 x.2.1.2.2 x.2.2.1.1 x.2.2.1.2.1 x.2.2.1.2.2 x.2.2.2.1.1 x.2.2.2.1.2.1 x.2.2.2.1.2.2 x.2.2.2.2.1.1 x.2.2.2.2.1.2.1 x.2.2.2.2.1.2.2 x.2.2.2.2.2.1.1 x.2.2.2.2.2.1.2.1 x.2.2.2.2.2.1.2.2 y.1 w _ ?_)
  unfold S179
  refine wr_box fun x1 w2 X1 h2 _ _ => ?_
  refine wr_box fun x3 w4 X3 h4 _ _ => ?_
  replace X1 : Box w4 x1 (tbc x) := Box.up (show Box w2 x1 (tbc x) from X1) h4
  replace X3 : Box w4 x3 [.string y.1] := X3
  have h04 := h2.trans h4
  refine rd_box (by kernel_rfl) X1 (i := 1) rfl rfl ?_
  refine call_mono (r := .one (.one (.int .i64))) (Q := RIdx (fun j => decide ((t.cols[j]?).map (·.1) = some y.1)) x.2.1.2.1 w4) (call_of (S235n_calls x.2.1.1 x.2.1.2.1 x.2.1.2.2 x3 w4 _ ?_)) ?_
  · unfold S235n
    refine scanC (vs := .agg [.str, .int .i64, .bool]) (fargs := fun z => [.agg #[.string z.1, .int .i64 z.2.1, .bool z.2.2.1], .pointer (some x3)]) _ hm (fun j hj w' hb K hK => ?_)
    obtain ⟨z, hz⟩ : ∃ z, t.cols[j]? = some z := ⟨_, List.getElem?_eq_getElem (by rw [cols_len]; omega)⟩
    refine ColsAt.at ((T.cols.up h04).up hb) rfl hz ?_
    refine call_of (S236_calls z.1 z.2.1 z.2.2 x3 w' _ ?_)
    unfold S236
    refine wr_box fun y1 w5 Y1 h5 _ _ => ?_
    replace Y1 : Box w5 y1 (encC z) := Y1
    refine rd_box0 (by kernel_rfl) Y1 rfl rfl ?_
    refine rd_box0 (by kernel_rfl) ((X3.up hb).up h5) rfl rfl ?_
    refine eqS ⟨_, rfl, ?_⟩
    have := hK w5 h5
    rw [hz] at this
    simpa using this
  · rintro r w7 ⟨hx, hb⟩
    have e : r = (c : Int) := by
      rw [hx]
      refine idxN_at (by omega) (by rw [hc]; simp) fun j hj => decide_eq_false fun q => ?_
      obtain ⟨z, hz⟩ : ∃ z, t.cols[j]? = some z := ⟨_, List.getElem?_eq_getElem (by rw [cols_len]; omega)⟩
      rw [hz] at q
      have := col_inj ok hz hc (by simpa using q)
      omega
    subst e
    refine z_eq (m := (c : Int)) (by rw [if_neg (by omega)]) ?_
    exact ⟨((c : Int), true, ()), by simp [RS.val, Vval, VS.val, Sh.val], rfl, rfl, h04.trans hb⟩
theorem keyP (T : TbAt w i x t) (_ok : t.Ok i) {l : Hdr} {c : Nat} (hc : c < t.nc) (S : Sl w l.1 l.2.1 l.2.2 1 (ints .i64 [(c : Int)])) :
    call Tryz.prog 237 [tbv x, .slice l.1 l.2.1 l.2.2] (.one (.one (.int .i64))) w (fun (r : Int) w' => r = 0 ∧ bel w w') := by
  have hn := T.nc
  have hl : l.2.1 = 1 := by have := S.int; simpa using this.symm
  refine call_of (S237_calls x.1 x.2.1.1 x.2.1.2.1 x.2.1.2.2 x.2.2.1.1 x.2.2.1.2.1 x.2.2.1.2.2 x.2.2.2.1.1 x.2.2.2.1.2.1 x.2.2.2.1.2.2 x.2.2.2.2.1.1 x.2.2.2.2.1.2.1 x.2.2.2.2.1.2.2 x.2.2.2.2.2.1.1 x.2.2.2.2.2.1.2.1 x.2.2.2.2.2.1.2.2 l.1 l.2.1 l.2.2 w _ ?_)
  unfold S237
  refine wr_box fun x1 w2 X1 h2 _ _ => ?_
  replace X1 : Box w2 x1 (tbc x) := X1
  refine loop_up 1 (fun _ w' => bel w2 w') (bel.refl _) fun j w5 hj hb again hag _ => ?_
  refine br_dec (fun e => ?_) (fun e => ?_)
  · have hj0 : j = 0 := by omega
    subst hj0
    have S' := (S.up h2).up hb
    refine at_int tyI (by kernel_rfl) S' (j := 0) rfl (by omega) fun y hy => ?_
    obtain rfl : (c : Int) = y := by simpa using hy
    refine br_dec (fun e => by omega) (fun _ => ?_)
    refine rd_box (by kernel_rfl) (X1.up hb) (i := 1) rfl rfl ?_
    refine br_dec (fun e => by dsimp only at e; omega) (fun _ => ?_)
    refine sl_to tyI (m := 0) rfl (Nat.zero_le _) ?_
    refine call_mono (containsI (l.1, 0, l.2.2) [] (c : Int) w5 (sl_zero S')) ?_
    rintro b w11 ⟨rfl, hb2⟩
    refine br_f (by simp) ?_
    refine z_i64 (by omega) ?_
    exact hag _ (by omega) (hb.trans hb2)
  · refine br_f (by rw [hl]; rfl) ⟨(0 : Int), rfl, rfl, h2.trans hb⟩
end
end Go.Proofs.YtcfghfmlfgaeaaaGreatDoor

/- Package schema: keys, tables, references. -/

namespace Go.Proofs.YtcfghfmlfgaeaaaGreatDoor
open Go.RowKit Go.Q Go.V Go.Bag

theorem tyLI : TyS Tryz.prog 36 22 (.slice none 0 0) 1 24 := ⟨by kernel_rfl, by kernel_rfl⟩
abbrev hdrs (hs : List Hdr) : List Value := hs.map hv
section
variable {w : World} {i : Nat} {x : TH} {t : TPar}
set_option maxHeartbeats 800000 in
theorem keysP (T : TbAt w i x t) (ok : t.Ok i) :
    call Tryz.prog 180 [tbv x] (.one (.one (.int .i64))) w (fun (r : Int) w' => r = 0 ∧ bel w w') := by
  have hn := T.nc
  have hp := T.np
  have hf := T.nt
  have hu := T.uniq
  have hk2 := ok.k2
  refine call_of (S180_calls x.1 x.2.1.1 x.2.1.2.1 x.2.1.2.2 x.2.2.1.1 x.2.2.1.2.1 x.2.2.1.2.2 x.2.2.2.1.1 x.2.2.2.1.2.1 x.2.2.2.1.2.2 x.2.2.2.2.1.1 x.2.2.2.2.1.2.1 x.2.2.2.2.1.2.2 x.2.2.2.2.2.1.1 x.2.2.2.2.2.1.2.1 x.2.2.2.2.2.1.2.2 w _ ?_)
  unfold S180
  refine wr_box fun x1 w2 X1 h _ _ => ?_
  replace X1 : Box w2 x1 (tbc x) := X1
  refine rd_boxN X1 (by kernel_rfl) rfl ?_
  refine rd_box (by kernel_rfl) X1 (i := 2) rfl rfl ?_
  refine call_mono (keyP (T.up h) ok (c := 0) (l := x.2.2.1) (by show 0 < 1 + t.free.length + t.tos.length; omega) (T.prim.up h)) ?_
  rintro r w6 ⟨rfl, hb⟩
  replace X1 := X1.up hb; replace h := h.trans hb
  refine br_f rfl ?_
  refine rd_box (by kernel_rfl) X1 (i := 2) rfl rfl ?_
  refine call_mono (r := .one (.one .bool)) (Q := fun (b : Bool) w' => b = false ∧ bel w6 w') (call_of (S47k_calls x.2.2.1.1 x.2.2.1.2.1 x.2.2.1.2.2 x1 w6 _ ?_)) ?_
  · unfold S47k
    refine call_mono (r := .one (.one (.int .i64))) (Q := RIdx (fun _ => false) x.2.2.1.2.1 w6) (call_of (S87k_calls x.2.2.1.1 x.2.2.1.2.1 x.2.2.1.2.2 x1 w6 _ ?_)) ?_
    · unfold S87k
      refine scanC (vs := .one (.int .i64)) (fargs := fun z : Int => [.int .i64 z, .pointer (some x1)]) _ (by omega) (fun j hj w' hb K hK => ?_)
      have hj0 : j = 0 := by omega
      subst hj0
      refine at_int tyI (by kernel_rfl) ((T.prim.up h).up hb) (j := 0) rfl (by omega) fun y hy => ?_
      obtain rfl : 0 = y := by simpa using hy
      refine call_of (S238_calls 0 x1 w' _ ?_)
      unfold S238
      refine rd_box (by kernel_rfl) (X1.up hb) (i := 1) rfl rfl ?_
      refine ColsAt.nul ((T.cols.up h).up hb) (j := 0) rfl (cols_id t) ?_
      exact ⟨false, rfl, hK w' (bel.refl _)⟩
    · rintro r w' ⟨hr, hb⟩
      exact ⟨_, rfl, by rw [hr]; exact any_none fun _ _ => rfl, hb⟩
  rintro b w9 ⟨rfl, hb⟩
  replace X1 := X1.up hb; replace h := h.trans hb
  refine br_f rfl ?_
  refine rd_box (by kernel_rfl) X1 (i := 3) rfl rfl ?_
  refine call_mono (r := .one (.one .slice)) (Q := fun (y : Hdr) w' => y = (none, 0, 0) ∧ bel w9 w') (call_of (S239_calls x.2.2.2.1.1 x.2.2.2.1.2.1 x.2.2.2.1.2.2 w9 _ ?_)) ?_
  · unfold S239
    refine rd_nil tyLI ?_
    refine br_t (by rw [hu]; rfl) ⟨((none, 0, 0) : Hdr), rfl, rfl, bel.refl _⟩
  rintro y w12 ⟨rfl, hb⟩
  replace X1 := X1.up hb; replace h := h.trans hb
  refine rd_box (by kernel_rfl) X1 (i := 4) rfl rfl ?_
  obtain ⟨L, L1, L2, L3⟩ := T.fors.up h
  refine loop_upA t.tos.length (fun j (s : Hdr) w' => bel w12 w' ∧ Own w' w12.heap.size 22 1 s.1 s.2.1 s.2.2 (hdrs ((L.take j).map (·.1)))) ⟨bel.refl _, Own.nil _ _ _ _⟩ fun j s w16 hj ⟨hb16, O⟩ again hag _ => ?_
  have hlen : s.2.1 = j := by have := O.1; simp at this; omega
  refine br_dec (fun e => ?_) (fun e => ?_)
  · dsimp only at e
    obtain ⟨p, hp'⟩ : ∃ p, L[j]? = some p := ⟨_, List.getElem?_eq_getElem (by omega)⟩
    refine at_agg tyFo agFo encFo_len (by omega) (L1.up hb16) rfl hp' rfl ?_
    refine var_mk (z := .agg #[.slice none 0 0, .string ByteArray.empty]) (v := .agg (encFo p).toArray) (by kernel_rfl) (by kernel_rfl) rfl rfl fun x19 w21 X19 h21 _ => ?_
    replace X19 : Box w21 x19 (encFo p) := X19
    refine rd_box0 (by kernel_rfl) X19 rfl rfl ?_
    have O21 := Own.kept O h21
    have hb21 := hb16.trans h21
    refine wr_app1 tyLI (v := .slice p.1.1 p.1.2.1 p.1.2.2) O21 hb21.size rfl (by omega) (by omega) rfl rfl (by omega) (by unfold maxLen; omega) fun a' c' w26 O26 g26 _ _ => ?_
    refine z_i64 (by dsimp only; omega) ?_
    refine hag (a', s.2.1 + 1, c') _ (by omega) ⟨bel.own hb21 O21 g26 (Nat.le_refl _), ?_⟩
    rw [List.take_add_one, hp', List.map_append]
    show Own w26 _ _ 1 a' (s.2.1 + 1) c' (((L.take j).map (·.1) ++ [p.1]).map hv)
    rw [List.map_append]
    exact O26
  · dsimp only at e
    have hj' : j = t.tos.length := by omega
    rw [List.take_of_length_le (by omega)] at O
    refine loop_up j (fun _ w' => bel w16 w') (bel.refl _) fun k w30 hk hb30 again2 hag2 _ => ?_
    have O30 := Own.kept O hb30
    refine br_dec (fun e2 => ?_) (fun e2 => ⟨(0 : Int), rfl, rfl, (h.trans hb16).trans hb30⟩)
    dsimp only at e2
    refine at_hdr tyLI (by kernel_rfl) O30.sl rfl (by omega) fun y hy => ?_
    rw [List.getElem?_map] at hy
    obtain ⟨p, hp', rfl⟩ := Option.map_eq_some_iff.1 hy
    obtain ⟨to, hto⟩ : ∃ to, t.tos[k]? = some to := ⟨_, List.getElem?_eq_getElem (by omega)⟩
    have hb12 := hb16.trans hb30
    refine rd_boxN (X1.up hb12) (by kernel_rfl) rfl ?_
    refine call_mono (keyP (T.up (h.trans hb12)) ok (c := 1 + t.nf + k) (l := p.1) (by show 1 + t.free.length + k < 1 + t.free.length + t.tos.length; omega) (by
      rw [show ((1 + t.nf + k : Nat) : Int) = 1 + (t.nf : Int) + (k : Int) by omega]
      exact (L3 k p to hp' hto).2.up hb12)) ?_
    rintro r w35 ⟨rfl, hb⟩
    refine br_f rfl ?_
    refine z_i64 (by dsimp only; omega) ?_
    exact hag2 _ (by omega) (hb30.trans hb)

set_option maxHeartbeats 800000 in
theorem tableP (T : TbAt w i x t) (ok : t.Ok i) (hm : ML w) :
    call Tryz.prog 115 [tbv x] (.one (.one (.int .i64))) w (fun (r : Int) w' => r = 0 ∧ bel w w') := by
  have hn := T.nc
  have hf := T.nt
  have hu := T.uniq
  have hc := T.chks
  have hk2 := ok.k2
  have hle := nc_le ok
  have h1 : 1 ≤ t.nc := by show 1 ≤ 1 + t.free.length + t.tos.length; omega
  refine call_of (S115_calls x.1 x.2.1.1 x.2.1.2.1 x.2.1.2.2 x.2.2.1.1 x.2.2.1.2.1 x.2.2.1.2.2 x.2.2.2.1.1 x.2.2.2.1.2.1 x.2.2.2.1.2.2 x.2.2.2.2.1.1 x.2.2.2.2.1.2.1 x.2.2.2.2.1.2.2 x.2.2.2.2.2.1.1 x.2.2.2.2.2.1.2.1 x.2.2.2.2.2.1.2.2 w _ ?_)
  unfold S115
  refine wr_box fun x1 w2 X1 h _ _ => ?_
  replace X1 : Box w2 x1 (tbc x) := X1
  have e3 : x.2.2.2.1.2.1 = 0 := by rw [hu]
  have e5 : x.2.2.2.2.2.1.2.1 = 0 := by rw [hc]
  refine rd_box (by kernel_rfl) X1 (i := 1) rfl rfl ?_
  refine br_dec (fun e => by dsimp only at e; omega) (fun _ => ?_)
  refine rd_box (by kernel_rfl) X1 (i := 3) rfl rfl ?_
  refine br_dec (fun e => by dsimp only at e; omega) (fun _ => ?_)
  refine rd_box (by kernel_rfl) X1 (i := 4) rfl rfl ?_
  refine br_dec (fun e => by dsimp only at e; omega) (fun _ => ?_)
  refine rd_box (by kernel_rfl) X1 (i := 5) rfl rfl ?_
  refine br_dec (fun e => by dsimp only at e; omega) (fun _ => ?_)
  refine rd_box (by kernel_rfl) X1 (i := 1) rfl rfl ?_
  refine br_eq (fun e => by dsimp only at e; omega) (fun _ => ?_)
  refine rd_box (by kernel_rfl) X1 (i := 1) rfl rfl ?_
  refine loop_up t.nc (fun _ w' => bel w2 w') (bel.refl _) fun j w11 hj hb again hag _ => ?_
  refine br_dec (fun e => ?_) (fun e => ?_)
  · dsimp only at e
    have hj' : j < t.nc := by omega
    refine join_mk (fun _ w' => bel w2 w') (fun K hK => ?_) ?_
    · obtain ⟨y, hy⟩ : ∃ y, t.cols[j]? = some y := ⟨_, List.getElem?_eq_getElem (by rw [cols_len]; omega)⟩
      have ht := col_type ok hy
      refine ColsAt.at ((T.cols.up h).up hb) rfl hy ?_
      refine var_mk (z := .agg #[.string ByteArray.empty, .int .i64 0, .bool false]) (v := .agg (encC y).toArray) (by kernel_rfl) (by kernel_rfl) rfl rfl fun x18 w20 Y h20 _ => ?_
      replace Y : Box w20 x18 (encC y) := Y
      replace hb := hb.trans h20
      refine rd_box0 (by kernel_rfl) Y rfl rfl ?_
      refine call_mono (nameP y.1 (col_good ok hy) w20 (hm.up (h.trans hb))) ?_
      rintro b w23 ⟨rfl, hb2⟩
      replace Y := Y.up hb2; replace hb := hb.trans hb2
      refine br_f rfl ?_
      refine rd_boxN (X1.up hb) (by kernel_rfl) rfl ?_
      refine rd_box0 (by kernel_rfl) Y rfl rfl ?_
      refine call_mono (columnP (T.up (h.trans hb)) ok hy) ?_
      rintro (r : Int × Bool × Unit) w27 ⟨er, _, hb2⟩
      replace Y := Y.up hb2; replace hb := hb.trans hb2
      refine br_dec (fun e => by omega) (fun _ => ?_)
      refine rd_box (by kernel_rfl) Y (i := 1) rfl rfl ?_
      refine br_ne (fun e1 => ?_) (fun _ => hK _ _ hb)
      refine rd_box (by kernel_rfl) Y (i := 1) rfl rfl ?_
      refine br_ne (fun e2 => ?_) (fun _ => hK _ _ hb)
      refine rd_box (by kernel_rfl) Y (i := 1) rfl rfl ?_
      exact br_ne (fun e3 => by omega) (fun _ => hK _ _ hb)
    · rintro _ w14 hb _
      refine z_i64 (by omega) ?_
      exact hag _ hj' hb
  · refine rd_boxN (X1.up hb) (by kernel_rfl) rfl ?_
    refine call_mono (keysP (T.up (h.trans hb)) ok) ?_
    rintro r w33 ⟨rfl, hb2⟩
    replace hb := hb.trans hb2
    refine br_f rfl ?_
    refine rd_box (by kernel_rfl) (X1.up hb) (i := 5) rfl rfl ?_
    refine loop_up 0 (fun _ w' => bel w2 w') hb fun j w37 hj hb again hag _ => ?_
    refine br_dec (fun e => by dsimp only at e; omega) (fun _ => ⟨(0 : Int), rfl, rfl, h.trans hb⟩)
theorem referenceP {h : Hdr} {D : List TPar} (H : SchAt w h D) (hD : OkD D) (T : TbAt w i x t) (_ok : t.Ok i) {y : Hdr} {k to : Nat} (hk : k < t.tos.length) (hto : to < D.length) (S : Sl w y.1 y.2.1 y.2.2 1 (ints .i64 [1 + (t.nf : Int) + (k : Int)])) :
    call Tryz.prog 116 [.agg #[.slice h.1 h.2.1 h.2.2], tbv x, .agg #[.slice y.1 y.2.1 y.2.2, .string (nm 116 to)]] (.one (.one (.int .i64))) w (fun (r : Int) w' => r = 0 ∧ bel w w') := by
  have hy1 : y.2.1 = 1 := by have := S.int; simpa using this.symm
  refine call_of (S116_calls h.1 h.2.1 h.2.2 x.1 x.2.1.1 x.2.1.2.1 x.2.1.2.2 x.2.2.1.1 x.2.2.1.2.1 x.2.2.1.2.2 x.2.2.2.1.1 x.2.2.2.1.2.1 x.2.2.2.1.2.2 x.2.2.2.2.1.1 x.2.2.2.2.1.2.1 x.2.2.2.2.1.2.2 x.2.2.2.2.2.1.1 x.2.2.2.2.2.1.2.1 x.2.2.2.2.2.1.2.2 y.1 y.2.1 y.2.2 (nm 116 to) w _ ?_)
  unfold S116
  refine wr_box fun x1 w2 X1 h2 _ _ => ?_
  refine wr_box fun x3 w4 X3 h4 _ _ => ?_
  refine wr_box fun x5 w6 X5 h6 _ _ => ?_
  replace X1 : Box w6 x1 [.slice h.1 h.2.1 h.2.2] := Box.up (Box.up (show Box w2 x1 [.slice h.1 h.2.1 h.2.2] from X1) h4) h6
  replace X3 : Box w6 x3 (tbc x) := Box.up (show Box w4 x3 (tbc x) from X3) h6
  replace X5 : Box w6 x5 [.slice y.1 y.2.1 y.2.2, .string (nm 116 to)] := X5
  have hb := (h2.trans h4).trans h6
  clear h2 h4 h6
  refine rd_boxN X1 (by kernel_rfl) rfl ?_
  refine rd_box (by kernel_rfl) X5 (i := 1) rfl rfl ?_
  refine call_mono (findP (H.up hb) hD hto) ?_
  rintro (r : Int × Bool × Unit) w10 ⟨e1, e2, hb2⟩
  replace X1 := X1.up hb2; replace X3 := X3.up hb2; replace X5 := X5.up hb2; replace hb := hb.trans hb2
  refine br_f (by rw [e2]; rfl) ?_
  refine rd_box0 (by kernel_rfl) X1 rfl rfl ?_
  refine (H.up hb).at e1 hto fun z t' ht' T' => ?_
  refine var_mk (z := .agg zTb.toArray) (v := tbv z) (by kernel_rfl) (by kernel_rfl) rfl rfl fun x14 w16 Z h16 _ => ?_
  replace Z : Box w16 x14 (tbc z) := Z
  replace X3 := X3.up h16; replace X5 := X5.up h16; replace hb := hb.trans h16
  replace T' := T'.up h16
  have hp := T'.np
  refine rd_box0 (by kernel_rfl) X5 rfl rfl ?_
  refine rd_box (by kernel_rfl) Z (i := 2) rfl rfl ?_
  refine call_mono (r := .one (.one .bool)) (Q := fun (b : Bool) w' => b = true ∧ bel w16 w') (call_of (S182e_calls y.1 y.2.1 y.2.2 z.2.2.1.1 z.2.2.1.2.1 z.2.2.1.2.2 x3 x14 w16 _ ?_)) ?_
  · unfold S182e
    refine br_ne (fun e => absurd (by omega) e) (fun _ => ?_)
    refine loop_up 1 (fun _ w' => bel w16 w') (bel.refl _) fun j w3 hj hb3 again hag _ => ?_
    refine br_dec (fun e => ?_) (fun e => ⟨true, rfl, rfl, hb3⟩)
    have hj0 : j = 0 := by omega
    subst hj0
    refine at_int tyI (by kernel_rfl) ((S.up hb).up hb3) (j := 0) rfl (by omega) fun a ha => ?_
    obtain rfl : 1 + (t.nf : Int) + (k : Int) = a := by simpa using ha
    refine at_int tyI (by kernel_rfl) (T'.prim.up hb3) (j := 0) rfl (by omega) fun b hb' => ?_
    obtain rfl : 0 = b := by simpa using hb'
    refine call_mono (r := .one (.one .bool)) (Q := fun (b : Bool) w' => b = true ∧ bel w3 w') (call_of (S183_calls (1 + (t.nf : Int) + (k : Int)) 0 x3 x14 w3 _ ?_)) ?_
    · unfold S183
      refine drw_mk fun w1 h1 _ => ?_
      refine rd_box (by kernel_rfl) ((X3.up hb3).up h1) (i := 1) rfl rfl ?_
      refine ColsAt.typ (((T.cols.up hb).up hb3).up h1) (j := 1 + t.nf + k) (by omega) (cols_key hk) ?_
      refine rd_box (by kernel_rfl) ((Z.up hb3).up h1) (i := 1) rfl rfl ?_
      refine ColsAt.typ ((T'.cols.up hb3).up h1) (j := 0) rfl (cols_id t') ?_
      exact ⟨true, rfl, rfl, h1⟩
    · rintro b w9 ⟨rfl, hb4⟩
      refine br_f rfl ?_
      refine z_i64 (by omega) ?_
      exact hag _ (by omega) (hb3.trans hb4)
  · rintro b w20 ⟨rfl, hb2⟩
    exact br_f rfl ⟨(0 : Int), rfl, rfl, hb.trans hb2⟩
end
end Go.Proofs.YtcfghfmlfgaeaaaGreatDoor

/- Maps: sets of small numbers; the order of the tables. -/




namespace Go.Proofs.YtcfghfmlfgaeaaaGreatDoor
open Go.RowKit Go.Q Go.V Go.Bag

noncomputable abbrev RB : Value → Option (DataW Unit × List MemPlace) := plainElem Tryz.prog 4
theorem undI : Tryz.prog.underlying 3 = some (.int .i64) := by kernel_rfl
theorem undBo : Tryz.prog.underlying 4 = some .bool := by kernel_rfl
theorem undMB : Tryz.prog.underlying 230 = some (.map 3 4) := by kernel_rfl
theorem litwf {a : Int} (h : -1000000000 ≤ a ∧ a ≤ 1000000000) : (Lit.int .i64 a).wf = true := by
  have h1 : IntKind.min .i64 = -9223372036854775808 := by decide
  have h2 : IntKind.max .i64 = 9223372036854775807 := by decide
  have h3 : (Lit.int .i64 a).wf = (decide (IntKind.min .i64 ≤ a) && decide (a ≤ IntKind.max .i64)) := rfl
  rw [h3, h1, h2]
  simp; omega
def cnt (S : Nat → Bool) : Nat := (S 0).toNat + (S 1).toNat + (S 2).toNat
def updS (S : Nat → Bool) (t : Nat) (b : Bool) : Nat → Bool := fun k => if k = t then b else S k
theorem cnt_put {S : Nat → Bool} {t : Nat} (h : t < 3) : cnt (updS S t true) = if S t then cnt S else cnt S + 1 := by
  have : t = 0 ∨ t = 1 ∨ t = 2 := by omega
  unfold cnt updS
  rcases this with rfl | rfl | rfl <;> cases h0 : S 0 <;> cases h1 : S 1 <;> cases h2 : S 2 <;> simp_all
theorem cnt_del {S : Nat → Bool} {t : Nat} (h : t < 3) : cnt (updS S t false) + (if S t then 1 else 0) = cnt S := by
  have : t = 0 ∨ t = 1 ∨ t = 2 := by omega
  unfold cnt updS
  rcases this with rfl | rfl | rfl <;> cases h0 : S 0 <;> cases h1 : S 1 <;> cases h2 : S 2 <;> simp_all
structure MapB (w : World) (b : Nat) (S : Nat → Bool) : Prop where
  ex : ∃ D : DataW Unit, w.ownsMap Tryz.prog 3 RB b 3 D ∧ (∀ k : Nat, k < 3 → Maps.has D (.int .i64 (k : Int)) = S k) ∧ Maps.size D = cnt S
theorem cnt_le (S : Nat → Bool) : cnt S ≤ 3 := by
  unfold cnt
  have h : ∀ b : Bool, b.toNat ≤ 1 := by decide
  have := h (S 0); have := h (S 1); have := h (S 2)
  omega
theorem own_tight {P : Program} {k : TypeId} {R : Value → Option (DataW Unit × List MemPlace)} {w : World} {b n : Nat} {D : DataW Unit} (h : w.ownsMap P k R b n D) : w.ownsMap P k R b (Maps.size D) D := by
  obtain ⟨es, clock, hb, F, hs, rfl⟩ := h
  refine ⟨es, clock, hb, F, ?_, rfl⟩
  simp [Maps.size, length_sorted]
theorem MapB.keep {w w' : World} {b : Nat} {S : Nat → Bool} {o : Option Nat} (H : MapB w b S) (hg : w.grownBy w' o) (hb : some b ≠ o) : MapB w' b S := by
  obtain ⟨D, h1, h2, h3⟩ := H.ex
  exact ⟨D, h1.kept hg hb, h2, h3⟩
theorem MapB.up {w w' : World} {b : Nat} {S : Nat → Bool} (H : MapB w b S) (hb : bel w w') : MapB w' b S := H.keep (grown_of_bel hb none) (by simp)
theorem MapB.lt {w : World} {b : Nat} {S : Nat → Bool} (H : MapB w b S) : b < w.heap.size := by
  obtain ⟨D, h1, _⟩ := H.ex
  exact h1.lt
theorem mb_made {w : World} {K : Option Nat → World → Prop} (hK : ∀ w', MapB w' w.heap.size (fun _ => false) → bel w w' → K (some w.heap.size) w') :
    wr Tryz.prog (Instr.makeMap 230 none) (.one .map) w K :=
  ⟨some w.heap.size, _, run_makeMap _ w, hK _ ⟨.map [], (World.ownsMap_made w _ _ _).mono (by omega), fun _ _ => rfl, rfl⟩ (bel_alloc _ _)⟩
theorem int_key {t : Nat} (h : t < 3) : keyOf Tryz.prog 3 (.int .i64 (t : Int)) = some (.int .i64 (t : Int)) := Maps.keyOf_int_mk undI (litwf ⟨by omega, by omega⟩)
theorem int_ne {k t : Nat} (h : k ≠ t) : (Lit.int .i64 (k : Int)) ≠ .int .i64 (t : Int) := fun e => h (by injection e with _ e; omega)
theorem mb_put {w : World} {b : Nat} {S : Nat → Bool} (H : MapB w b S) {t : Nat} (ht : t < 3) {K : World → Prop} (hK : ∀ w', MapB w' b (updS S t true) → w.grownBy w' (some b) → K w') :
    wu Tryz.prog (Instr.mapUpdate 230 (.map (some b)) (.int .i64 (t : Int)) (.bool true)) w K := by
  obtain ⟨D, h1, h2, h3⟩ := H.ex
  obtain ⟨w', r1, r2, r3⟩ := h1.update (Maps.int_keyed undI) undMB (by unfold maxLen; omega) (int_key ht) (plainElem_bool undBo true)
  have hT := h1.tidy (Maps.int_keyed undI)
  have hsz : Maps.size (D.put (.int .i64 (t : Int)) (.lit (.bool true))) = cnt (updS S t true) := by rw [Maps.size_put (k := .int .i64 (t : Int)) hT, h2 t ht, cnt_put ht, h3]
  refine ⟨w', r1, hK w' ⟨_, (own_tight r2).mono (by rw [hsz]; exact cnt_le _), fun k hk => ?_, hsz⟩ r3⟩
  · unfold updS
    by_cases h : k = t
    · subst h; rw [if_pos rfl]; exact Maps.has_put_same (k := .int .i64 (k : Int)) hT.isMap trivial _
    · rw [if_neg h, Maps.has_put_other (int_ne h), h2 k hk]
theorem mb_del {w : World} {b : Nat} {S : Nat → Bool} (H : MapB w b S) {t : Nat} (ht : t < 3) {ty : TypeId} {K : Value → World → Prop} (hK : ∀ v w', MapB w' b (updS S t false) → w.grownBy w' (some b) → K v w') :
    wr Tryz.prog (Builtin.delete_ #[230, 3] ty #[.map (some b), .int .i64 (t : Int)]) (.one .any) w K := by
  obtain ⟨D, h1, h2, h3⟩ := H.ex
  obtain ⟨w', r1, r2, r3⟩ := h1.drop (Maps.int_keyed undI) undMB (int_key ht) ty
  have hT := h1.tidy (Maps.int_keyed undI)
  refine ⟨.tuple #[], w', r1, hK _ w' ⟨_, r2, fun k hk => ?_, ?_⟩ r3.grown⟩
  · unfold updS
    by_cases h : k = t
    · subst h; rw [if_pos rfl]; exact Maps.has_del_same
    · rw [if_neg h, Maps.has_del_other (int_ne h), h2 k hk]
  · have e1 := Maps.size_del (k := .int .i64 (t : Int)) hT
    have e2 := cnt_del (S := S) ht
    rw [h2 t ht, h3] at e1
    omega
theorem mb_delN {w : World} {t : Nat} (ht : t < 3) {ty : TypeId} {K : Value → World → Prop} (hK : ∀ v, K v w) :
    wr Tryz.prog (Builtin.delete_ #[230, 3] ty #[.map none, .int .i64 (t : Int)]) (.one .any) w K :=
  ⟨.tuple #[], w, Maps.drop_nil (Maps.int_keyed undI) undMB (int_key ht) ty, hK _⟩
theorem mb_len {w : World} {b : Nat} {S : Nat → Bool} (H : MapB w b S) {ty : TypeId} {K : Int → Prop} (hK : K ((cnt S : Nat) : Int)) :
    rd Tryz.prog (Builtin.len_ #[230] ty #[.map (some b)]) (.one (.int .i64)) w K := by
  refine ⟨_, fun w' hb => ?_, hK⟩
  obtain ⟨D, h1, h2, h3⟩ := (H.up hb).ex
  rw [h1.len undMB ty, h3]; rfl
theorem map_nn {m : Option Nat} {x y : Operand} {w : World} {K : Bool → Prop} (hK : K m.isSome) : rd Tryz.prog (Go.V.cmpS .neq 230 x y (.map m) (.map none)) (.one .bool) w K := by
  refine ⟨_, fun w' _ => ?_, hK⟩
  unfold Go.V.cmpS eqGuard
  simp only [Bool.not_true, Bool.false_eq_true, if_false, Sem.run_bind, Sem.run_pure, Result.andThen_ok]
  rw [run_neq_map_nil w' _ _ _ _ undMB]
  cases m <;> rfl
end Go.Proofs.YtcfghfmlfgaeaaaGreatDoor

/- Elements of several cells are stored in rows of one's own. -/

namespace Go.V
open Go Go.RowKit Go.Q

theorem run_storeOwnA {P : Program} {B sz : Nat} {e : TypeId} {ad : Addr} {n c : Nat} : ∀ (vs : List Value) (i : Nat) (w : World) (xs : List Value), Own w B e sz (some ad) n c xs → i + vs.length ≤ xs.length → plainV vs = true →
    ∃ w', (storeCells ad vs i).run P w = .ok () w' ∧ Own w' B e sz (some ad) n c (putAt xs i vs) ∧ w.grownBy w' (some ad.block) ∧ w'.heap.size = w.heap.size
  | [], i, w, xs, hb, _, _ => ⟨w, rfl, hb, grown_refl _ _, rfl⟩
  | v :: vs, i, w, xs, hb, hl, hp => by
    simp only [plainV, List.all_cons, Bool.and_eq_true] at hp
    simp only [List.length_cons] at hl
    obtain ⟨u, hu⟩ : ∃ u, xs[i]? = some u := ⟨_, List.getElem?_eq_getElem (by omega)⟩
    obtain ⟨ad', h1, hc, hfz, _⟩ := hb.cell (j := i) hu
    cases h1
    obtain ⟨w', h1, h2, h3, h4⟩ := run_storeOwnA (P := P) vs (i + 1) (w.setCell (ad.add i) v) (xs.set i v) (hb.set i v) (by simp; omega) hp.2
    refine ⟨w', ?_, h2, ?_, by rw [h4, setCell_size]⟩
    · simp only [storeCells, Sem.run_bind]
      rw [run_store P w (ad.add i) v .plain hp.1, hc]
      simp only [hfz, Bool.false_eq_true, if_false, Result.andThen_ok, h1]
    · refine World.grownBy.trans ?_ h3
      have := setCell_grown w (ad.add i) v
      rwa [add_block] at this
theorem flat_set {α : Type} {enc : α → List Value} {sz : Nat} (he : ∀ a, (enc a).length = sz) (p : α) : ∀ (L : List α) (j : Nat), j < L.length → putAt (L.flatMap enc) (j * sz) (enc p) = (L.set j p).flatMap enc := by
  intro L j hj
  have h1 : L.flatMap enc = (L.take j).flatMap enc ++ (enc L[j] ++ (L.drop (j + 1)).flatMap enc) := by
    conv => lhs; rw [← List.take_append_drop j L, List.drop_eq_getElem_cons hj]
    rw [List.flatMap_append, List.flatMap_cons]
  have h2 : (L.set j p).flatMap enc = (L.take j).flatMap enc ++ (enc p ++ (L.drop (j + 1)).flatMap enc) := by
    rw [List.set_eq_take_append_cons_drop, if_pos hj, List.flatMap_append, List.flatMap_cons]
  have h3 : ((L.take j).flatMap enc).length = j * sz := by rw [flat_len he, List.length_take, Nat.min_eq_left (by omega)]
  rw [h1, h2, ← h3, putAt_at _ _ _ (by rw [List.length_append, he, he]; omega), List.drop_append_of_le_length (by rw [he, he]; omega), List.drop_of_length_le (by rw [he, he]; omega), List.nil_append, List.append_assoc]
theorem set_agg {P : Program} {t e : TypeId} {z : Value} {sz bytes : Nat} (T : TyS P t e z sz bytes) {α : Type} {enc : α → List Value} (he : ∀ a, (enc a).length = sz) {w : World} {B : Nat} {a : Option Addr} {n c j : Nat} {L : List α} (O : Own w B e sz a n c (L.flatMap enc)) {k : IntKind} {i : Int} {v : Value} {p : α} {K : World → Prop}
    (hj : i = (j : Int)) (hn : j < L.length) (hv : v.cells.toList = enc p) (h0 : 0 < sz) (hp : plainV (enc p) = true)
    (hk : ∀ w', Own w' B e sz a n c ((L.set j p).flatMap enc) → w.grownBy w' (blk a) → w'.heap.size = w.heap.size → K w') :
    rdp P (Instr.indexAt t (.slice a n c) (.int k i)) (.one .addr) fun ad => wu P (Instr.storeAt e (.pointer (some ad)) v) w K := by
  have hlen := O.1
  rw [flat_len he] at hlen
  have hL : L.length = n := Nat.eq_of_mul_eq_mul_right h0 hlen
  have hjs : j * sz + sz ≤ (L.flatMap enc).length := by
    rw [flat_len he]
    have : (j + 1) * sz ≤ L.length * sz := Nat.mul_le_mul_right _ hn
    rw [Nat.add_mul, Nat.one_mul] at this; exact this
  obtain ⟨u, hu⟩ : ∃ u, (L.flatMap enc)[j * sz]? = some u := ⟨_, List.getElem?_eq_getElem (by omega)⟩
  obtain ⟨ad, h1, _⟩ := O.cell (j := j * sz) hu
  subst h1
  refine idx_mk T hj (by omega) rfl ?_
  have hvs : v.cells.size = sz := by rw [← Array.length_toList, hv, he]
  have ht : sizeIs P e v.cells.size = true := by
    obtain ⟨i, h1, _, h2, _⟩ := info_parts T.hi
    unfold sizeIs; rw [h1, hvs]; simp [h2]
  obtain ⟨w', h1, h2, h3, h4⟩ := run_storeOwnA (P := P) v.cells.toList (j * sz) w _ O (by rw [hv, he]; exact hjs) (by rw [hv]; exact hp)
  rw [hv, flat_set he p L j hn] at h2
  refine ⟨w', ?_, hk w' h2 h3 h4⟩
  unfold Instr.storeAt Instr.sureAddr storeVar
  simp only [Sem.run_bind, Sem.run_pure, Result.andThen_ok, run_sizeOf ht]
  simp only [ne_eq, not_true_eq_false, if_false]
  rw [storeCells_add]; exact h1
theorem made_flat {α : Type} {enc : α → List Value} {sz : Nat} (he : ∀ a, (enc a).length = sz) (h0 : 0 < sz) (p : α) (cs : Array Value) (hc : cs.toList = enc p) (n : Nat) : (madeCells cs (n * sz)).toList = (List.replicate n p).flatMap enc := by
  refine List.ext_getElem? fun i => ?_
  have hcs : cs.size = sz := by rw [← Array.length_toList, hc, he]
  by_cases hi : i < n * sz
  · have h1 : (List.replicate n p)[i / sz]? = some p := by rw [List.getElem?_replicate, if_pos (Nat.div_lt_of_lt_mul (by rw [Nat.mul_comm]; exact hi))]
    have := flat_get he h1 (Nat.mod_lt i h0)
    rw [Nat.div_add_mod'] at this
    rw [this, ← hc]
    have hm : i % sz < cs.size := by rw [hcs]; exact Nat.mod_lt i h0
    simp [madeCells, hi, hcs]
    rw [getElem!_pos cs _ hm, Array.getElem?_eq_getElem hm]
  · rw [List.getElem?_eq_none (by rw [Array.length_toList, size_madeCells]; omega), List.getElem?_eq_none (by rw [flat_len he, List.length_replicate]; omega)]
end Go.V

/- Package schema: the order of the tables. -/


namespace Go.Proofs.YtcfghfmlfgaeaaaGreatDoor
open Go.RowKit Go.Q Go.V Go.Bag

theorem tyMB : TyS Tryz.prog 229 230 (.map none) 1 8 := ⟨by kernel_rfl, by kernel_rfl⟩
def mval (lo hi : Nat) (bs : Nat → Nat) (k : Nat) : Option Nat := if lo ≤ k ∧ k < hi then some (bs k) else none
def mcells (n lo hi : Nat) (bs : Nat → Nat) : List Value := (List.range n).map fun k => Value.map (mval lo hi bs k)
theorem mcells_get {n lo hi : Nat} {bs : Nat → Nat} {k : Nat} (h : k < n) : (mcells n lo hi bs)[k]? = some (.map (mval lo hi bs k)) := by
  unfold mcells; rw [List.getElem?_map, List.getElem?_range h]; rfl
theorem mcells_set {n lo hi lo' hi' : Nat} {bs bs' : Nat → Nat} {i : Nat} {v : Option Nat} (h1 : ∀ k, k ≠ i → mval lo' hi' bs' k = mval lo hi bs k) (h2 : mval lo' hi' bs' i = v) : (mcells n lo hi bs).set i (.map v) = mcells n lo' hi' bs' := by
  refine List.ext_getElem? fun k => ?_
  by_cases hk : k < n
  · rw [mcells_get hk]
    by_cases e : k = i
    · subst e; rw [List.getElem?_set_self (by unfold mcells; simpa using hk), h2]
    · rw [List.getElem?_set_ne (fun q => e q.symm), mcells_get hk, h1 k e]
  · rw [List.getElem?_eq_none (by unfold mcells; simpa using hk), List.getElem?_eq_none (by unfold mcells; simpa using hk)]
theorem mcells_made (n : Nat) (bs : Nat → Nat) : (madeCells (Value.map none).cells (n * 1)).toList = mcells n 0 0 bs := by
  have e := made_flat (sz := 1) (enc := fun m : Option Nat => [Value.map m]) (fun _ => rfl) (by omega) (none : Option Nat) (Value.map none).cells rfl n
  rw [e]
  unfold mcells mval
  refine List.ext_getElem? fun k => ?_
  have hf : (List.replicate n (none : Option Nat)).flatMap (fun m => [Value.map m]) = (List.replicate n none).map Value.map := List.map_eq_flatMap.symm
  rw [hf, List.getElem?_map, List.getElem?_map, List.getElem?_replicate]
  by_cases hk : k < n
  · rw [if_pos hk, List.getElem?_range hk]
    simp
  · rw [if_neg hk, List.getElem?_eq_none (by simpa using hk)]
    rfl
structure MInv (w : World) (B : Nat) (ad : Addr) (n lo hi : Nat) (bs : Nat → Nat) (S : Nat → Nat → Bool) : Prop where
  own : Own w B 230 1 (some ad) n n (mcells n lo hi bs)
  map : ∀ k, lo ≤ k → k < hi → MapB w (bs k) (S k)
  apart : ∀ k, lo ≤ k → k < hi → bs k ≠ ad.block ∧ B ≤ bs k
  two : ∀ k l, lo ≤ k → k < hi → lo ≤ l → l < hi → k ≠ l → bs k ≠ bs l
theorem MInv.keep {w w' : World} {B : Nat} {ad : Addr} {n lo hi : Nat} {bs : Nat → Nat} {S : Nat → Nat → Bool} {o : Option Nat} (H : MInv w B ad n lo hi bs S) (hg : w.grownBy w' o) (h1 : some ad.block ≠ o) (h2 : ∀ k, lo ≤ k → k < hi → some (bs k) ≠ o) : MInv w' B ad n lo hi bs S :=
  ⟨H.own.keptBy hg (.inr h1), fun k a b => (H.map k a b).keep hg (h2 k a b), H.apart, H.two⟩
theorem MInv.up {w w' : World} {B : Nat} {ad : Addr} {n lo hi : Nat} {bs : Nat → Nat} {S : Nat → Nat → Bool} (H : MInv w B ad n lo hi bs S) (hb : bel w w') : MInv w' B ad n lo hi bs S := H.keep (grown_of_bel hb none) (by simp) (fun _ _ _ => by simp)
theorem MInv.turn {w w' : World} {B : Nat} {ad : Addr} {n lo hi : Nat} {bs : Nat → Nat} {S : Nat → Nat → Bool} (H : MInv w B ad n lo hi bs S) {i : Nat} (hi1 : lo ≤ i) (hi2 : i < hi) {T : Nat → Bool} (M : MapB w' (bs i) T) (hg : w.grownBy w' (some (bs i))) : MInv w' B ad n lo hi bs (fun k => if k = i then T else S k) := by
  refine ⟨H.own.keptBy hg (.inr fun e => (H.apart i hi1 hi2).1 (by injection e with e; exact e.symm)), fun k a b => ?_, H.apart, H.two⟩
  by_cases e : k = i
  · subst e; rw [if_pos rfl]; exact M
  · rw [if_neg e]
    exact (H.map k a b).keep hg fun q => H.two k i a b hi1 hi2 e (by injection q)
theorem MInv.congr {w : World} {B : Nat} {ad : Addr} {n lo hi : Nat} {bs : Nat → Nat} {S S' : Nat → Nat → Bool} (H : MInv w B ad n lo hi bs S) (h : ∀ k, lo ≤ k → k < hi → S k = S' k) : MInv w B ad n lo hi bs S' :=
  ⟨H.own, fun k a b => by rw [← h k a b]; exact H.map k a b, H.apart, H.two⟩
abbrev OwnN (w : World) (B : Nat) (h : Hdr) (xs : List Int) : Prop := Own w B 3 1 h.1 h.2.1 h.2.2 (ints .i64 xs)
theorem cnt_0 {S : Nat → Bool} (h : ∀ t, S t = false) : cnt S = 0 := by unfold cnt; rw [h 0, h 1, h 2]; rfl
theorem at_map {w : World} {a : Option Addr} {n c j : Nat} {xs : List Value} (H : Sl w a n c 1 xs) {k : IntKind} {i : Int} {m : Option Nat} {K : Option Nat → Prop} (hj : i = (j : Int)) (hv : xs[j]? = some (.map m)) (hk : K m) :
    rdp Tryz.prog (Instr.indexAt 229 (.slice a n c) (.int k i)) (.one .addr) fun ad => rd Tryz.prog (Instr.loadAt 230 (.pointer (some ad))) (.one .map) w K :=
  at_mk (s := .map) tyMB (by kernel_rfl) H hj hv rfl hk
def tosOf (D : List TPar) (k : Nat) : List Nat := ((D[k]?).map (·.tos)).getD []

section
variable {w : World} {h : Hdr} {D : List TPar}
set_option maxHeartbeats 1600000 in
theorem orderP (H : SchAt w h D) (hD : OkD D) : call Tryz.prog 117 [.agg #[.slice h.1 h.2.1 h.2.2]] (.many [.one .slice, .one (.int .i64)]) w (fun (x : Hdr × Int × Unit) w' => x.2.1 = 0 ∧ bel w w') := by
  have hl := H.len
  have hd1 := hD.d1
  have hd2 := hD.d2
  refine call_of (S117_calls h.1 h.2.1 h.2.2 w _ ?_)
  unfold S117
  refine wr_box fun x1 w2 X1 h2 _ _ => ?_
  replace X1 : Box w2 x1 [.slice h.1 h.2.1 h.2.2] := X1
  refine rd_box0 (by kernel_rfl) X1 rfl rfl ?_
  refine wr_make tyMB h.2.1 rfl rfl (by omega) (by unfold maxLen; omega) fun ad w5 O hb5 hbk _ => ?_
  have O5 := O w2.heap.size (Nat.le_refl _)
  rw [mcells_made h.2.1 fun _ => 0] at O5
  refine rd_box0 (by kernel_rfl) (X1.up hb5) rfl rfl ?_
  have had : w2.heap.size ≤ ad.block := by omega
  -- what is kept
  have Hb : ∀ {w' : World}, bel w2 w' → SchAt w' h D := fun q => (H.up h2).up q
  have Xb1 : ∀ {w' : World}, bel w2 w' → Box w' x1 [.slice h.1 h.2.1 h.2.2] := fun q => X1.up q
  let full : Nat → Nat → Bool := fun k t => decide (t ∈ tosOf D k)
  refine loop_up h.2.1 (fun i w' => bel w2 w' ∧ ∃ bs, MInv w' w2.heap.size ad h.2.1 0 i bs full) ⟨hb5, fun _ => 0, O5, fun k _ q => by omega, fun k _ q => by omega, fun k l _ q => by omega⟩ fun i w9 hi ⟨hb9, bs, M⟩ again hag _ => ?_
  refine br_dec (fun e => ?_) (fun e => ?_)
  · dsimp only at e
    have hi' : i < D.length := by omega
    refine (H.up h2).atB hb9 rfl hi' fun x t ht T => ?_
    have ok := hD.each i t ht
    have hto : tosOf D i = t.tos := by unfold tosOf; rw [ht]; rfl
    refine var_mk (z := .agg zTb.toArray) (v := tbv x) (by kernel_rfl) (by kernel_rfl) rfl rfl fun x12 w14 X12 h14 hx12 => ?_
    replace X12 : Box w14 x12 (tbc x) := X12
    have hal := (M.own.lt ad.block rfl).2
    have s9 := h14.size
    replace hb9 := hb9.trans h14
    replace M := M.up h14
    refine mb_made fun w16 N hb16 => ?_
    have M16 := M.up hb16
    have s14 := hb9.size
    have l12 := X12.lt
    have hbl : ∀ k, k < i → bs k < w14.heap.size := fun k hk => (M.map k (Nat.zero_le _) hk).lt
    refine set_mk tyMB M16.own (j := i) rfl (by omega) rfl fun w18 O18 g18 _ => ?_
    replace g18 : w16.grownBy w18 (some ad.block) := g18
    have es : (mcells h.2.1 0 i bs).set i (.map (some w14.heap.size)) = mcells h.2.1 0 (i + 1) (fun k => if k = i then w14.heap.size else bs k) := mcells_set (fun k hk => by
      unfold mval
      by_cases hki : k < i
      · rw [if_pos ⟨Nat.zero_le _, by omega⟩, if_pos ⟨Nat.zero_le _, hki⟩]
        simp only [if_neg hk]
      · rw [if_neg (by omega), if_neg (by omega)]) (by
      unfold mval
      rw [if_pos ⟨Nat.zero_le _, by omega⟩]; simp)
    rw [es] at O18
    have M18 : MInv w18 w2.heap.size ad h.2.1 0 (i + 1) (fun k => if k = i then w14.heap.size else bs k) (fun k => if k = i then (fun _ => false) else full k) := by
      refine ⟨O18, fun k a b => ?_, fun k a b => ?_, fun k l a b c d q => ?_⟩
      · by_cases hk : k = i
        · simp only [if_pos hk]
          exact N.keep g18 fun q => by injection q; omega
        · simp only [if_neg hk]
          exact (M16.map k a (by omega)).keep g18 fun q => (M16.apart k a (by omega)).1 (by injection q)
      · by_cases hk : k = i
        · simp only [if_pos hk]; exact ⟨by omega, by omega⟩
        · simp only [if_neg hk]; exact M.apart k a (by omega)
      · by_cases hk : k = i <;> by_cases hl : l = i
        · omega
        · simp only [if_pos hk, if_neg hl]; have := hbl l (by omega); omega
        · simp only [if_neg hk, if_pos hl]; have := hbl k (by omega); omega
        · simp only [if_neg hk, if_neg hl]; exact M.two k l a (by omega) c (by omega) q
    have hb2 : bel w2 w18 := (hb9.trans hb16).grownAt g18 had
    have X12' : Box w18 x12 (tbc x) := (X12.up hb16).grown g18 (by intro q; injection q; omega)
    refine rd_box (by kernel_rfl) X12' (i := 4) rfl rfl ?_
    have hnt := T.nt
    have hk2 := ok.k2
    refine loop_up t.tos.length (fun j w' => bel w2 w' ∧ MInv w' w2.heap.size ad h.2.1 0 (i + 1) (fun k => if k = i then w14.heap.size else bs k) (fun k => if k = i then (fun t' => decide (t' ∈ t.tos.take j)) else full k)) ⟨hb2, M18.congr fun k _ _ => by
      by_cases hk : k = i
      · rw [if_pos hk, if_pos hk]; simp
      · rw [if_neg hk, if_neg hk]⟩ fun j w22 hj ⟨hb22, M22⟩ again2 hag2 _ => ?_
    refine br_dec (fun e2 => ?_) (fun e2 => ?_)
    · dsimp only at e2
      have hj' : j < t.tos.length := by omega
      refine T.fors.atB hb22 rfl hj' fun y to hto' _ => ?_
      have hto2 := ok.to to (List.mem_of_getElem? hto')
      refine var_mk (z := .agg #[.slice none 0 0, .string ByteArray.empty]) (v := .agg #[.slice y.1 y.2.1 y.2.2, .string (nm 116 to)]) (by kernel_rfl) (by kernel_rfl) rfl rfl fun x25 w27 X25 h27 _ => ?_
      replace X25 : Box w27 x25 [.slice y.1 y.2.1 y.2.2, .string (nm 116 to)] := X25
      replace hb22 := hb22.trans h27
      refine rd_boxN (Xb1 hb22) (by kernel_rfl) rfl ?_
      refine rd_box (by kernel_rfl) X25 (i := 1) rfl rfl ?_
      refine call_mono (findP (Hb hb22) hD (j := to) (by omega)) ?_
      rintro (r : Int × Bool × Unit) w31 ⟨e1, e3, hb31⟩
      replace hb22 := hb22.trans hb31
      replace M22 := (M22.up h27).up hb31
      refine br_f (by rw [e3]; rfl) ?_
      have hmv : mval 0 (i + 1) (fun k => if k = i then w14.heap.size else bs k) i = some w14.heap.size := by unfold mval; rw [if_pos ⟨Nat.zero_le _, by omega⟩]; simp
      refine at_map M22.own.sl (j := i) rfl (mcells_get (by omega)) ?_
      rw [hmv, e1]
      have hm2 := M22.map i (Nat.zero_le _) (by omega)
      simp only [if_true] at hm2
      refine mb_put hm2 (t := to) (by omega) fun w34 N34 g34 => ?_
      refine z_i64 (by dsimp only; omega) ?_
      have hap := M22.apart i (Nat.zero_le _) (by omega)
      simp only [if_true] at hap
      refine hag2 _ hj' ⟨hb22.grownAt g34 hap.2, (M22.turn (i := i) (Nat.zero_le _) (by omega) (by simpa using N34) (by simpa using g34)).congr fun k _ _ => ?_⟩
      by_cases hk : k = i
      · rw [if_pos hk, if_pos hk]
        funext t'
        unfold updS
        rw [List.take_add_one, hto']
        by_cases ht' : t' = to
        · simp [ht']
        · simp [ht']
      · rw [if_neg hk, if_neg hk, if_neg hk]
    · dsimp only at e2
      have hj' : j = t.tos.length := by omega
      refine z_i64 (by dsimp only; omega) ?_
      refine hag _ (by omega) ⟨hb22, _, M22.congr fun k _ _ => ?_⟩
      by_cases hk : k = i
      · rw [if_pos hk, hk, hj', List.take_length]
        show _ = fun t' => decide (t' ∈ tosOf D i)
        rw [hto]
      · rw [if_neg hk]
  · dsimp only at e
    have hin : i = h.2.1 := by omega
    subst hin
    have hadl := (M.own.lt ad.block rfl).2
    have hbl : ∀ k, k < h.2.1 → bs k < w9.heap.size := fun k hk => (M.map k (Nat.zero_le _) hk).lt
    refine rd_box0 (by kernel_rfl) (Xb1 hb9) rfl rfl ?_
    refine loop_upA h.2.1 (fun r (s : Hdr) w' => bel w2 w' ∧ w9.heap.size ≤ w'.heap.size ∧ (∃ xs : List Int, OwnN w' w9.heap.size s xs ∧ xs.length = r) ∧ MInv w' w2.heap.size ad h.2.1 r h.2.1 bs (fun k t => decide (t ∈ tosOf D k ∧ r ≤ t))) ⟨hb9, Nat.le_refl _, ⟨[], Own.nil _ _ _ _, rfl⟩, M.congr fun k _ _ => by funext t'; simp [full]⟩ fun r s w40 hr ⟨hb40, s40, ⟨xs, Os, hxs⟩, M40⟩ again2 hag2 _ => ?_
    have hsl : s.2.1 = r := by have := Os.1; simp [ints] at this; omega
    refine br_dec (fun e2 => ?_) (fun e2 => ⟨(s, (0 : Int), ()), rfl, rfl, h2.trans hb40⟩)
    dsimp only at e2
    have hr' : r < h.2.1 := by omega
    refine call_mono (r := .one (.one (.int .i64))) (Q := RIdx (fun k => decide (r ≤ k) && (((cnt (fun t => decide (t ∈ tosOf D k ∧ r ≤ t)) : Nat) : Int) == 0)) h.2.1 w40) (call_of (S184o_calls (some ad) h.2.1 h.2.1 w40 _ ?_)) ?_
    · unfold S184o
      refine scanC (vs := .one .map) (fargs := fun m : Option Nat => [.map m]) _ (by omega) (fun k hk w' hb K hK => ?_)
      have M' := M40.up hb
      refine at_map M'.own.sl (j := k) rfl (mcells_get hk) ?_
      refine call_of (S185_calls (mval r h.2.1 bs k) w' _ ?_)
      unfold S185
      refine map_nn ?_
      by_cases hrk : r ≤ k
      · have em : mval r h.2.1 bs k = some (bs k) := by unfold mval; rw [if_pos ⟨hrk, hk⟩]
        rw [em]
        refine br_t rfl ?_
        refine mb_len (M'.map k hrk hk) ⟨_, rfl, ?_⟩
        have := hK w' (bel.refl _)
        rwa [decide_eq_true hrk, Bool.true_and] at this
      · have em : mval r h.2.1 bs k = none := by unfold mval; rw [if_neg (by omega)]
        rw [em]
        refine br_f rfl ⟨false, rfl, ?_⟩
        have := hK w' (bel.refl _)
        rwa [decide_eq_false hrk, Bool.false_and] at this
    rintro x41 w42 ⟨hx, hb42⟩
    have ex : x41 = (r : Int) := by
      rw [hx]
      refine idxN_at hr' ?_ fun k hk => by rw [decide_eq_false (by omega)]; rfl
      rw [decide_eq_true (Nat.le_refl _), Bool.true_and, cnt_0 fun t' => decide_eq_false fun q => ?_]
      · rfl
      · obtain ⟨t, ht⟩ : ∃ t, D[r]? = some t := ⟨_, List.getElem?_eq_getElem (by omega)⟩
        have e3 : tosOf D r = t.tos := by unfold tosOf; rw [ht]; rfl
        rw [e3] at q
        have := (hD.each r t ht).to t' q.1
        omega
    subst ex
    refine br_dec (fun e3 => by omega) (fun _ => ?_)
    have Os42 := Own.kept Os hb42
    have M42 := M40.up hb42
    have s42 := hb42.size
    refine wr_app1 tyI (v := .int .i64 (r : Int)) Os42 (by omega) rfl (by omega) (by omega) rfl rfl (by omega) (by unfold maxLen; omega) fun a' c' w46 O46 g46 _ _ => ?_
    have hoff : ∀ b, b < w9.heap.size → some b ≠ blk s.1 := fun b hb q => by have := (Os42.lt b q.symm).1; omega
    have M46 := M42.keep g46 (hoff _ hadl) fun k a b => hoff _ (hbl k b)
    have hb46 : bel w2 w46 := (hb40.trans hb42).own Os42 g46 (by have := hb9.size; omega)
    have s46 := g46.size
    replace O46 : OwnN w46 w9.heap.size (a', s.2.1 + 1, c') (xs ++ [(r : Int)]) := by
      show Own w46 _ _ 1 a' (s.2.1 + 1) c' (ints .i64 (xs ++ [(r : Int)]))
      rw [ints_app]; exact O46
    refine set_mk tyMB M46.own (j := r) rfl hr' rfl fun w48 O48 g48 _ => ?_
    replace g48 : w46.grownBy w48 (some ad.block) := g48
    have es : (mcells h.2.1 r h.2.1 bs).set r (.map none) = mcells h.2.1 (r + 1) h.2.1 bs := mcells_set (fun k hk => by
      unfold mval
      by_cases hki : r + 1 ≤ k ∧ k < h.2.1
      · rw [if_pos hki, if_pos ⟨by omega, hki.2⟩]
      · rw [if_neg hki, if_neg (by omega)]) (by unfold mval; rw [if_neg (by omega)])
    rw [es] at O48
    have M48 : MInv w48 w2.heap.size ad h.2.1 (r + 1) h.2.1 bs (fun k t => decide (t ∈ tosOf D k ∧ r ≤ t)) :=
      ⟨O48, fun k a b => (M46.map k (by omega) b).keep g48 fun q => (M46.apart k (by omega) b).1 (by injection q), fun k a b => M46.apart k (by omega) b, fun k l a b c d => M46.two k l (by omega) b (by omega) d⟩
    replace O46 : OwnN w48 w9.heap.size (a', s.2.1 + 1, c') (xs ++ [(r : Int)]) := O46.keptBy g48 (.inr fun q => by have := (O46.lt ad.block q).1; omega)
    have hb48 := hb46.grownAt g48 had
    have s48 := g48.size
    refine loop_up h.2.1 (fun j w' => bel w2 w' ∧ w9.heap.size ≤ w'.heap.size ∧ OwnN w' w9.heap.size (a', s.2.1 + 1, c') (xs ++ [(r : Int)]) ∧ MInv w' w2.heap.size ad h.2.1 (r + 1) h.2.1 bs (fun k t => decide (t ∈ tosOf D k ∧ (if k < j then r + 1 else r) ≤ t))) ⟨hb48, by omega, O46, M48.congr fun k _ _ => by funext t'; simp⟩ fun j w51 hj ⟨hb51, s51, O51, M51⟩ again3 hag3 _ => ?_
    refine br_dec (fun e3 => ?_) (fun e3 => ?_)
    · dsimp only at e3
      have hj' : j < h.2.1 := by omega
      refine at_map M51.own.sl (j := j) rfl (mcells_get hj') ?_
      by_cases hjr : r + 1 ≤ j
      · have em : mval (r + 1) h.2.1 bs j = some (bs j) := by unfold mval; rw [if_pos ⟨hjr, hj'⟩]
        rw [em]
        refine mb_del (M51.map j hjr hj') (t := r) (by omega) fun _ w55 N55 g55 => ?_
        refine z_i64 (by dsimp only; omega) ?_
        have hap := (M51.apart j hjr hj').2
        refine hag3 _ hj' ⟨hb51.grownAt g55 hap, by have := g55.size; omega, O51.keptBy g55 (.inr fun q => by have := (O51.lt _ q).1; have := hbl j hj'; omega), (M51.turn hjr hj' N55 g55).congr fun k ha hb => ?_⟩
        by_cases hk : k = j
        · subst hk
          rw [if_pos rfl]
          funext t'
          unfold updS
          simp only [Nat.lt_irrefl, if_false, Nat.lt_succ_self, if_true]
          by_cases ht' : t' = r
          · rw [if_pos ht']; symm; exact decide_eq_false (by omega)
          · rw [if_neg ht']; exact decide_eq_decide.2 ⟨fun q => ⟨q.1, by omega⟩, fun q => ⟨q.1, by omega⟩⟩
        · rw [if_neg hk]
          funext t'
          by_cases hkj : k < j
          · rw [if_pos hkj, if_pos (by omega)]
          · rw [if_neg hkj, if_neg (by omega)]
      · have em : mval (r + 1) h.2.1 bs j = none := by unfold mval; rw [if_neg (by omega)]
        rw [em]
        refine mb_delN (by omega) fun _ => ?_
        refine z_i64 (by dsimp only; omega) ?_
        refine hag3 _ hj' ⟨hb51, s51, O51, M51.congr fun k ha hb => ?_⟩
        funext t'
        have hkj : ¬ k < j + 1 := by omega
        rw [if_neg hkj, if_neg (by omega)]
    · dsimp only at e3
      have hj' : j = h.2.1 := by omega
      refine z_i64 (by dsimp only; omega) ?_
      refine hag2 (a', s.2.1 + 1, c') _ hr' ⟨hb51, s51, ⟨_, O51, by simp [hxs]⟩, M51.congr fun k ha hb => ?_⟩
      funext t'
      rw [if_pos (by omega)]
end
end Go.Proofs.YtcfghfmlfgaeaaaGreatDoor

/- Package schema: Valid; package region: Plain. -/


namespace Go.Proofs.YtcfghfmlfgaeaaaGreatDoor
open Go.RowKit Go.Q Go.V Go.Bag

section
variable {w : World} {h : Hdr} {D : List TPar}
set_option maxHeartbeats 800000 in
theorem validP (H : SchAt w h D) (hD : OkD D) (hm : ML w) : call Tryz.prog 67 [.agg #[.slice h.1 h.2.1 h.2.2]] (.one (.one (.int .i64))) w (fun (r : Int) w' => r = 0 ∧ bel w w') := by
  have hl := H.len
  have hd2 := hD.d2
  refine call_of (S67_calls h.1 h.2.1 h.2.2 w _ ?_)
  unfold S67
  refine wr_box fun x1 w2 X1 h2 _ _ => ?_
  replace X1 : Box w2 x1 [.slice h.1 h.2.1 h.2.2] := X1
  refine rd_box0 (by kernel_rfl) X1 rfl rfl ?_
  refine br_dec (fun e => by dsimp only at e; omega) (fun _ => ?_)
  refine rd_box0 (by kernel_rfl) X1 rfl rfl ?_
  replace H := H.up h2; replace hm := hm.up h2
  refine loop_up h.2.1 (fun _ w' => bel w2 w') (bel.refl _) fun i w7 hi hb again hag _ => ?_
  refine br_dec (fun e => ?_) (fun e => ?_)
  · dsimp only at e
    have hi' : i < D.length := by omega
    refine H.atB hb rfl hi' fun x t ht T => ?_
    have ok := hD.each i t ht
    refine var_mk (z := .agg zTb.toArray) (v := tbv x) (by kernel_rfl) (by kernel_rfl) rfl rfl fun x10 w12 X10 h12 _ => ?_
    replace X10 : Box w12 x10 (tbc x) := X10
    replace hb := hb.trans h12
    refine rd_box0 (by kernel_rfl) X10 rfl rfl ?_
    rw [T.name]
    refine call_mono (nameP _ (t_good i (by omega)) w12 (hm.up hb)) ?_
    rintro b w15 ⟨rfl, h15⟩
    replace X10 := X10.up h15; replace hb := hb.trans h15
    refine br_f rfl ?_
    refine rd_boxN (X1.up hb) (by kernel_rfl) rfl ?_
    refine rd_box0 (by kernel_rfl) X10 rfl rfl ?_
    rw [T.name]
    refine call_mono (findP (H.up hb) hD hi') ?_
    rintro (r : Int × Bool × Unit) w19 ⟨e1, _, h19⟩
    replace X10 := X10.up h19; replace hb := hb.trans h19
    refine br_dec (fun e => by dsimp only at e; omega) (fun _ => ?_)
    refine rd_boxN X10 (by kernel_rfl) rfl ?_
    refine call_mono (tableP (T.up hb) ok (hm.up hb)) ?_
    rintro r w22 ⟨rfl, h22⟩
    replace hb := hb.trans h22
    refine br_f rfl ?_
    refine z_i64 (by dsimp only; omega) ?_
    exact hag _ (by omega) hb
  · dsimp only at e
    refine rd_box0 (by kernel_rfl) (X1.up hb) rfl rfl ?_
    refine loop_up h.2.1 (fun _ w' => bel w2 w') hb fun i w27 hi hb again hag _ => ?_
    refine br_dec (fun e => ?_) (fun e => ?_)
    · dsimp only at e
      have hi' : i < D.length := by omega
      refine H.atB hb rfl hi' fun x t ht T => ?_
      have ok := hD.each i t ht
      have hnt := T.nt
      have hk2 := ok.k2
      refine var_mk (z := .agg zTb.toArray) (v := tbv x) (by kernel_rfl) (by kernel_rfl) rfl rfl fun x30 w32 X30 h32 _ => ?_
      replace X30 : Box w32 x30 (tbc x) := X30
      have hb0 := hb.trans h32
      refine rd_box (by kernel_rfl) X30 (i := 4) rfl rfl ?_
      refine loop_up t.tos.length (fun _ w' => bel w32 w') (bel.refl _) fun j w36 hj hb again2 hag2 _ => ?_
      refine br_dec (fun e => ?_) (fun e => ?_)
      · dsimp only at e
        have hj' : j < t.tos.length := by omega
        refine (T.fors.up hb0).atB hb rfl hj' fun y to hto' S => ?_
        have hto2 := ok.to to (List.mem_of_getElem? hto')
        refine var_mk (z := .agg #[.slice none 0 0, .string ByteArray.empty]) (v := .agg #[.slice y.1 y.2.1 y.2.2, .string (nm 116 to)]) (by kernel_rfl) (by kernel_rfl) rfl rfl fun x39 w41 X39 h41 _ => ?_
        replace X39 : Box w41 x39 [.slice y.1 y.2.1 y.2.2, .string (nm 116 to)] := X39
        replace hb := hb.trans h41
        have hbb := hb0.trans hb
        refine rd_boxN (X1.up hbb) (by kernel_rfl) rfl ?_
        refine rd_boxN (X30.up hb) (by kernel_rfl) rfl ?_
        refine rd_boxN X39 (by kernel_rfl) rfl ?_
        refine call_mono (referenceP (H.up hbb) hD (T.up hbb) ok hj' (by omega) (S.up hb)) ?_
        rintro r w46 ⟨rfl, h46⟩
        refine br_f rfl ?_
        refine z_i64 (by dsimp only; omega) ?_
        exact hag2 _ hj' (hb.trans h46)
      · refine z_i64 (by dsimp only; omega) ?_
        exact hag _ (by omega) (hb0.trans hb)
    · refine rd_boxN (X1.up hb) (by kernel_rfl) rfl ?_
      refine call_mono (orderP (H.up hb) hD) ?_
      rintro (r : Hdr × Int × Unit) w51 ⟨e1, h51⟩
      exact ⟨r.2.1, rfl, e1, (h2.trans hb).trans h51⟩
end
def ksOf (nf j : Nat) : List Int := (List.range j).map fun k : Nat => 1 + (nf : Int) + (k : Int)
section
variable {w : World} {i : Nat} {x : TH} {t : TPar}
set_option maxHeartbeats 800000 in
theorem plainP (T : TbAt w i x t) (ok : t.Ok i) : call Tryz.prog 85 [tbv x] (.one (.one .bool)) w (fun (r : Bool) w' => r = true ∧ bel w w') := by
  have hn := T.nc
  have hp := T.np
  have hf := T.nt
  have hu := T.uniq
  have hc := T.chks
  have hk2 := ok.k2
  have e3 : x.2.2.2.1.2.1 = 0 := by rw [hu]
  have e5 : x.2.2.2.2.2.1.2.1 = 0 := by rw [hc]
  refine call_of (S85_calls x.1 x.2.1.1 x.2.1.2.1 x.2.1.2.2 x.2.2.1.1 x.2.2.1.2.1 x.2.2.1.2.2 x.2.2.2.1.1 x.2.2.2.1.2.1 x.2.2.2.1.2.2 x.2.2.2.2.1.1 x.2.2.2.2.1.2.1 x.2.2.2.2.1.2.2 x.2.2.2.2.2.1.1 x.2.2.2.2.2.1.2.1 x.2.2.2.2.2.1.2.2 w _ ?_)
  unfold S85
  refine wr_box fun x1 w2 X1 h _ _ => ?_
  replace X1 : Box w2 x1 (tbc x) := X1
  refine drw_mk fun w3 h3 _ => ?_
  replace X1 := X1.up h3; replace h := h.trans h3
  refine rd_box (by kernel_rfl) X1 (i := 2) rfl rfl ?_
  refine br_ne (fun e => by dsimp only at e; omega) (fun _ => ?_)
  refine rd_box (by kernel_rfl) X1 (i := 1) rfl rfl ?_
  refine rd_box (by kernel_rfl) X1 (i := 2) rfl rfl ?_
  refine at_int tyI (by kernel_rfl) (T.prim.up h) (j := 0) rfl (by omega) fun y hy => ?_
  obtain rfl : 0 = y := by simpa using hy
  refine ColsAt.typ (T.cols.up h) (j := 0) rfl (cols_id t) ?_
  refine br_f rfl ?_
  refine rd_box (by kernel_rfl) X1 (i := 3) rfl rfl ?_
  refine br_dec (fun e => by dsimp only at e; omega) (fun _ => ?_)
  refine rd_box (by kernel_rfl) X1 (i := 4) rfl rfl ?_
  refine loop_upA t.tos.length (fun j (s : Hdr) w' => bel w3 w' ∧ Own w' w3.heap.size 3 1 s.1 s.2.1 s.2.2 (ints .i64 (ksOf t.nf j))) ⟨bel.refl _, Own.nil _ _ _ _⟩ fun j s w16 hj ⟨hb, O⟩ again hag _ => ?_
  have hlen : s.2.1 = j := by have := O.1; simp [ksOf, ints] at this; omega
  refine br_dec (fun e => ?_) (fun e => ?_)
  · dsimp only at e
    have hj' : j < t.tos.length := by omega
    refine (T.fors.up h).atB hb rfl hj' fun y to hto' S => ?_
    have hy1 : y.2.1 = 1 := by have := S.int; simpa using this.symm
    refine var_mk (z := .agg #[.slice none 0 0, .string ByteArray.empty]) (v := .agg #[.slice y.1 y.2.1 y.2.2, .string (nm 116 to)]) (by kernel_rfl) (by kernel_rfl) rfl rfl fun x18 w20 X18 h20 _ => ?_
    replace X18 : Box w20 x18 [.slice y.1 y.2.1 y.2.2, .string (nm 116 to)] := X18
    refine drw_mk fun w21 h21 _ => ?_
    replace h20 := h20.trans h21
    replace X18 := X18.up h21
    replace O := Own.kept O h20
    replace hb := hb.trans h20
    have hbb := h.trans hb
    replace S := S.up hb
    have hcol : t.cols[1 + t.nf + j]? = some (nm 102 j, 1, false) := cols_key hj'
    have hcI : 1 + (t.nf : Int) + (j : Int) = ((1 + t.nf + j : Nat) : Int) := by omega
    have hsm : t.nf ≤ 2 := ok.f2
    refine rd_box0 (by kernel_rfl) X18 rfl rfl ?_
    refine br_ne (fun e => by dsimp only at e; omega) (fun _ => ?_)
    refine rd_box (by kernel_rfl) (X1.up hb) (i := 1) rfl rfl ?_
    refine rd_box0 (by kernel_rfl) X18 rfl rfl ?_
    refine at_int tyI (by kernel_rfl) S (j := 0) rfl (by omega) fun y1 hy => ?_
    obtain rfl : 1 + (t.nf : Int) + (j : Int) = y1 := by simpa using hy
    refine ColsAt.typ (T.cols.up hbb) hcI hcol ?_
    refine br_f rfl ?_
    refine rd_box (by kernel_rfl) (X1.up hb) (i := 1) rfl rfl ?_
    refine rd_box0 (by kernel_rfl) X18 rfl rfl ?_
    refine at_int tyI (by kernel_rfl) S (j := 0) rfl (by omega) fun y1 hy => ?_
    obtain rfl : 1 + (t.nf : Int) + (j : Int) = y1 := by simpa using hy
    refine ColsAt.nul (T.cols.up hbb) hcI hcol ?_
    refine br_f rfl ?_
    refine rd_box0 (by kernel_rfl) X18 rfl rfl ?_
    refine at_int tyI (by kernel_rfl) S (j := 0) rfl (by omega) fun y1 hy => ?_
    obtain rfl : 1 + (t.nf : Int) + (j : Int) = y1 := by simpa using hy
    refine rd_box (by kernel_rfl) (X1.up hb) (i := 2) rfl rfl ?_
    refine at_int tyI (by kernel_rfl) (T.prim.up hbb) (j := 0) rfl (by omega) fun y2 hy => ?_
    obtain rfl : 0 = y2 := by simpa using hy
    refine br_eq (fun e => by omega) (fun _ => ?_)
    refine rd_box0 (by kernel_rfl) X18 rfl rfl ?_
    refine at_int tyI (by kernel_rfl) S (j := 0) rfl (by omega) fun y1 hy => ?_
    obtain rfl : 1 + (t.nf : Int) + (j : Int) = y1 := by simpa using hy
    refine call_mono (containsI s (ksOf t.nf j) _ w21 O.sl) ?_
    rintro b w45 ⟨rfl, h45⟩
    have hnot : ¬ (1 + (t.nf : Int) + (j : Int)) ∈ ksOf t.nf j := by
      intro q
      obtain ⟨k, hk, e⟩ := List.mem_map.1 q
      have := List.mem_range.1 hk
      omega
    refine br_f (decide_eq_false hnot) ?_
    replace O := Own.kept O h45
    replace S := S.up h45; replace X18 := X18.up h45; replace hb := hb.trans h45
    refine rd_box0 (by kernel_rfl) X18 rfl rfl ?_
    refine at_int tyI (by kernel_rfl) S (j := 0) rfl (by omega) fun y1 hy => ?_
    obtain rfl : 1 + (t.nf : Int) + (j : Int) = y1 := by simpa using hy
    refine wr_app1 tyI (v := .int .i64 (1 + (t.nf : Int) + (j : Int))) O hb.size rfl (by omega) (by omega) rfl rfl (by omega) (by unfold maxLen; omega) fun a' c' w52 O52 g52 _ _ => ?_
    refine z_i64 (by dsimp only; omega) ?_
    refine hag (a', s.2.1 + 1, c') _ hj' ⟨bel.own hb O g52 (Nat.le_refl _), ?_⟩
    have ek : ksOf t.nf (j + 1) = ksOf t.nf j ++ [1 + (t.nf : Int) + (j : Int)] := by simp only [ksOf, List.range_succ, List.map_append, List.map_cons, List.map_nil]
    rw [ek, ints, List.map_append]
    exact O52
  · dsimp only at e
    refine rd_box (by kernel_rfl) (X1.up hb) (i := 5) rfl rfl ?_
    refine call_mono (r := .one (.one .bool)) (Q := fun (b : Bool) w' => b = false ∧ bel w16 w') (call_of (S139r_calls x.2.2.2.2.2.1.1 x.2.2.2.2.2.1.2.1 x.2.2.2.2.2.1.2.2 x1 w16 _ ?_)) ?_
    · unfold S139r
      refine call_mono (r := .one (.one (.int .i64))) (Q := RIdx (fun _ => false) x.2.2.2.2.2.1.2.1 w16) (call_of (S215r_calls x.2.2.2.2.2.1.1 x.2.2.2.2.2.1.2.1 x.2.2.2.2.2.1.2.2 x1 w16 _ ?_)) ?_
      · unfold S215r
        refine scanC (vs := .agg [(.int .i64), (.int .i64), (.int .i64), .str, (.int .i64), .slice]) (fargs := fun z => [.agg #[.int .i64 z.1, .int .i64 z.2.1, .int .i64 z.2.2.1, .string z.2.2.2.1, .int .i64 z.2.2.2.2.1, .slice z.2.2.2.2.2.1.1 z.2.2.2.2.2.1.2.1 z.2.2.2.2.2.1.2.2], .pointer (some x1)]) _ (by omega) (fun j hj w' hb K hK => by omega)
      · rintro r w' ⟨hr, hb⟩
        exact ⟨_, rfl, by rw [hr]; exact any_none fun _ _ => rfl, hb⟩
    rintro b w56 ⟨rfl, h56⟩
    exact ⟨true, rfl, rfl, (h.trans hb).trans h56⟩
end
section
variable {w : World} {h : Hdr} {D : List TPar}
theorem PlainP (H : SchAt w h D) (hD : OkD D) (hm : ML w) : call Tryz.prog 44 [.agg #[.slice h.1 h.2.1 h.2.2]] (.one (.one .bool)) w (fun (r : Bool) w' => r = true ∧ bel w w') := by
  have hl := H.len
  have hd2 := hD.d2
  refine call_of (S44_calls h.1 h.2.1 h.2.2 w _ ?_)
  unfold S44
  refine wr_box fun x1 w2 X1 h2 _ _ => ?_
  replace X1 : Box w2 x1 [.slice h.1 h.2.1 h.2.2] := X1
  refine rd_boxN X1 (by kernel_rfl) rfl ?_
  refine call_mono (validP (H.up h2) hD (hm.up h2)) ?_
  rintro r w5 ⟨rfl, h5⟩
  have hb := h2.trans h5
  refine br_t rfl ?_
  refine rd_box0 (by kernel_rfl) (X1.up h5) rfl rfl ?_
  refine call_mono (r := .one (.one .bool)) (Q := fun (b : Bool) w' => b = false ∧ bel w5 w') (call_of (S56r_calls h.1 h.2.1 h.2.2 w5 _ ?_)) ?_
  · unfold S56r
    refine call_mono (r := .one (.one (.int .i64))) (Q := RIdx (fun _ => false) h.2.1 w5) (call_of (S100r_calls h.1 h.2.1 h.2.2 w5 _ ?_)) ?_
    · unfold S100r
      refine scanC (vs := .agg [.str, .slice, .slice, .slice, .slice, .slice]) (fargs := fun x => [tbv x]) _ (by omega) (fun i hi w' hb' K hK => ?_)
      refine ((H.up hb).up hb').at rfl (by omega) fun x t ht T => ?_
      refine call_of (S84_calls x.1 x.2.1.1 x.2.1.2.1 x.2.1.2.2 x.2.2.1.1 x.2.2.1.2.1 x.2.2.1.2.2 x.2.2.2.1.1 x.2.2.2.1.2.1 x.2.2.2.1.2.2 x.2.2.2.2.1.1 x.2.2.2.2.1.2.1 x.2.2.2.2.1.2.2 x.2.2.2.2.2.1.1 x.2.2.2.2.2.1.2.1 x.2.2.2.2.2.1.2.2 w' _ ?_)
      unfold S84
      refine wr_box fun y1 w3 Y1 h3 _ _ => ?_
      replace Y1 : Box w3 y1 (tbc x) := Y1
      refine rd_boxN Y1 (by kernel_rfl) rfl ?_
      refine call_mono (plainP (T.up h3) (hD.each i t ht)) ?_
      rintro b w6 ⟨rfl, h6⟩
      exact ⟨false, rfl, hK _ (h3.trans h6)⟩
    · rintro r w' ⟨hr, hb⟩
      exact ⟨_, rfl, by rw [hr]; exact any_none fun _ _ => rfl, hb⟩
  · rintro b w8 ⟨rfl, h8⟩
    exact ⟨true, rfl, rfl, hb.trans h8⟩
end
end Go.Proofs.YtcfghfmlfgaeaaaGreatDoor

/- Values: valid ones, texts of keys; maps by texts of keys. -/

namespace Go.Proofs.YtcfghfmlfgaeaaaGreatDoor
open Go.RowKit Go.Q Go.V Go.Bag Go.Lib

def SmallV (v : V3) : Prop := v = (0, 0, ByteArray.empty) ∨ (v.1 = 1 ∧ 0 ≤ v.2.1 ∧ v.2.1 ≤ 20 ∧ v.2.2 = ByteArray.empty) ∨ (v.1 = 2 ∧ (v.2.1 = 0 ∨ v.2.1 = 1) ∧ v.2.2 = ByteArray.empty) ∨ (v.1 = 3 ∧ v.2.1 = 0 ∧ (v.2.2 = ByteArray.empty ∨ v.2.2 = ⟨#[97]⟩ ∨ v.2.2 = ⟨#[98]⟩))
theorem ValOk.small' {p : Int × Bool} {v : V3} (h : ValOk p v) : SmallV v := by
  rcases h.small with q | ⟨a, b, c, d⟩ | ⟨a, b, c, d⟩ | q
  · exact .inl q
  · exact .inr (.inl ⟨a, b, by omega, d⟩)
  · exact .inr (.inr (.inl ⟨a, by omega, d⟩))
  · exact .inr (.inr (.inr q))
theorem small_key {n : Nat} (h : n ≤ 20) : SmallV (keyV n) := .inr (.inl ⟨rfl, by show (0 : Int) ≤ (n : Int); omega, by show (n : Int) ≤ 20; omega, rfl⟩)
theorem pred39 (w : World) : PredAt Tryz.prog 233 #[] encR (fun r => decide (r < 32) || decide (126 < r) || decide (r = 39)) w := fun W r _ => by
  unfold FnGives
  by_cases h1 : r < 32 <;> by_cases h2 : 126 < r <;> by_cases h3 : r = 39
  all_goals
    have z1 : (r : Int) < 32 ↔ r < 32 := by omega
    have z2 : (r : Int) > 126 ↔ 126 < r := by omega
    have z3 : (r : Int) = 39 ↔ r = 39 := by omega
    go_enter Tryz.func233, Tryz.ntmps233
    go_wp2
    all_goals first | (exfalso; omega) | (go_ret; exact ⟨by first | (simp [h1, h2, h3]; done) | (simp [h1, h2, h3]; omega), 0, rfl⟩)
def okT (s : ByteArray) : Prop := s = ByteArray.empty ∨ s = ⟨#[97]⟩ ∨ s = ⟨#[98]⟩
theorem idx_ok : ∀ s, okT s → Lib.idxFunc (fun r => decide (r < 32) || decide (126 < r) || decide (r = 39)) true s = -1 := by
  rintro s (rfl | rfl | rfl) <;> decide +kernel
theorem vtextP (s : ByteArray) (hs : okT s) (w : World) : call Tryz.prog 174 [.string s] (.one (.one .bool)) w (fun (b : Bool) w' => b = true ∧ bel w w') := by
  have hsz : s.size ≤ 1 := by rcases hs with rfl | rfl | rfl <;> decide
  refine call_of (S174_calls s w _ ?_)
  unfold S174
  refine br_dec (fun _ => ?_) (fun e => absurd (by omega) e)
  refine call_mono (r := .one (.one (.int .i64))) (Q := fun (x : Int) w' => x = -1 ∧ bel w w') ((Any.strings_IndexFunc laysGw15 233 #[] (enters_of Tryz.func233 (by kernel_rfl) rfl) _ s w (pred39 w)).mono fun e w' ⟨h1, h2⟩ => ⟨_, h1, idx_ok s hs, h2⟩) ?_
  rintro x w2 ⟨rfl, hb⟩
  exact ⟨true, rfl, rfl, hb⟩
theorem emptyS : decide (ByteArray.empty = ByteArray.empty) = true := decide_eq_true rfl
theorem vvalidP (v : V3) (hv : SmallV v) (w : World) : call Tryz.prog 108 [.agg (encV v).toArray] (.one (.one .bool)) w (fun (b : Bool) w' => b = true ∧ bel w w') := by
  refine call_of (S108_calls v.1 v.2.1 v.2.2 w _ ?_)
  unfold S108
  refine wr_box fun x1 w2 X1 h _ _ => ?_
  replace X1 : Box w2 x1 (encV v) := X1
  refine rd_box0 (by kernel_rfl) X1 rfl rfl ?_
  rcases hv with rfl | ⟨a, b, c, d⟩ | ⟨a, b, d⟩ | ⟨a, b, d⟩
  · refine br_t rfl ?_
    refine rd_box (by kernel_rfl) X1 (i := 1) rfl rfl ?_
    refine br_t rfl ?_
    refine rd_box (by kernel_rfl) X1 (i := 2) rfl rfl ?_
    exact eqS ⟨true, by rw [emptyS]; rfl, rfl, h⟩
  · refine br_f (by rw [a]; rfl) ?_
    refine br_t (by rw [a]; rfl) ?_
    refine rd_box (by kernel_rfl) X1 (i := 1) rfl rfl ?_
    refine br_dec (fun _ => ?_) (fun e => absurd (by omega) e)
    refine rd_box (by kernel_rfl) X1 (i := 1) rfl rfl ?_
    refine br_dec (fun _ => ?_) (fun e => absurd (by omega) e)
    refine rd_box (by kernel_rfl) X1 (i := 2) rfl rfl ?_
    rw [d]
    exact eqS ⟨true, by rw [emptyS]; rfl, rfl, h⟩
  · refine br_f (by rw [a]; rfl) ?_
    refine br_f (by rw [a]; rfl) ?_
    refine br_t (by rw [a]; rfl) ?_
    refine rd_box (by kernel_rfl) X1 (i := 1) rfl rfl ?_
    refine br_eq (fun e => ?_) (fun e => ?_)
    · refine rd_box (by kernel_rfl) X1 (i := 2) rfl rfl ?_
      rw [d]
      exact eqS ⟨true, by rw [emptyS]; rfl, rfl, h⟩
    · refine rd_box (by kernel_rfl) X1 (i := 1) rfl rfl ?_
      refine br_eq (fun _ => ?_) (fun e2 => by omega)
      refine rd_box (by kernel_rfl) X1 (i := 2) rfl rfl ?_
      rw [d]
      exact eqS ⟨true, by rw [emptyS]; rfl, rfl, h⟩
  · refine br_f (by rw [a]; rfl) ?_
    refine br_f (by rw [a]; rfl) ?_
    refine br_f (by rw [a]; rfl) ?_
    refine br_t (by rw [a]; rfl) ?_
    refine rd_box (by kernel_rfl) X1 (i := 1) rfl rfl ?_
    refine br_eq (fun _ => ?_) (fun e => absurd b e)
    refine rd_box (by kernel_rfl) X1 (i := 2) rfl rfl ?_
    refine call_mono (vtextP v.2.2 d w2) ?_
    rintro x w20 ⟨rfl, hb⟩
    exact ⟨true, rfl, rfl, h.trans hb⟩
/-! ### texts of keys -/
def dg (n : Nat) : ByteArray := ⟨(Lib.decDigits n).toArray⟩
def kt (n : Nat) : ByteArray := ByteArray.empty ++ (dg n ++ ⟨#[44]⟩)
theorem kt_inj : ∀ i, i < 21 → ∀ j, j < 21 → kt i = kt j → i = j := by decide +kernel
theorem dg_size : ∀ i, i < 21 → (dg i).size ≤ 3 := by decide +kernel
theorem kt_size : ∀ i, i < 21 → (kt i).size ≤ 4 := by decide +kernel
theorem valTextP (n : Nat) (hn : n ≤ 20) (w : World) : call Tryz.prog 241 [.agg (encV (keyV n)).toArray] (.one (.one .str)) w (fun (b : ByteArray) w' => b = dg n ∧ bel w w') := by
  refine call_of (S241_calls 1 n ByteArray.empty w _ ?_)
  unfold S241
  refine wr_box fun x1 w2 X1 h _ _ => ?_
  replace X1 : Box w2 x1 (encV (keyV n)) := X1
  refine rd_boxN X1 (by kernel_rfl) rfl ?_
  refine call_mono (vvalidP (keyV n) (small_key hn) w2) ?_
  rintro b w5 ⟨rfl, hb⟩
  replace X1 := X1.up hb
  refine br_f rfl ?_
  refine rd_box0 (by kernel_rfl) X1 rfl rfl ?_
  refine br_t rfl ?_
  refine rd_box (by kernel_rfl) X1 (i := 1) rfl rfl ?_
  refine call_mono (fmtSmall n (by omega) w5) ?_
  rintro x w9 ⟨rfl, rfl⟩
  exact ⟨_, rfl, rfl, h.trans hb⟩
/-! ### maps by texts of keys -/
theorem undS : Tryz.prog.underlying 9 = some .string := by kernel_rfl
theorem undMI : Tryz.prog.underlying 234 = some (.map 9 3) := by kernel_rfl
theorem undMT : Tryz.prog.underlying 236 = some (.map 9 4) := by kernel_rfl
theorem kt_key {n : Nat} (h : n < 21) : keyOf Tryz.prog 9 (.string (kt n)) = some (.string (kt n).data.toList) := by
  have := kt_size n h
  exact WideMaps.keyOf_string_mk undS (by unfold maxLen; omega)
structure MapK (e : TypeId) (w : World) (b m : Nat) (S : Nat → Bool) : Prop where
  ex : ∃ D : DataW Unit, w.ownsMap Tryz.prog 9 (plainElem Tryz.prog e) b m D ∧ ∀ k : Nat, k < 21 → Maps.has D (.string (kt k).data.toList) = S k
theorem MapK.keep {e : TypeId} {w w' : World} {b m : Nat} {S : Nat → Bool} {o : Option Nat} (H : MapK e w b m S) (hg : w.grownBy w' o) (hb : some b ≠ o) : MapK e w' b m S := by
  obtain ⟨D, h1, h2⟩ := H.ex
  exact ⟨D, h1.kept hg hb, h2⟩
theorem MapK.up {e : TypeId} {w w' : World} {b m : Nat} {S : Nat → Bool} (H : MapK e w b m S) (hb : bel w w') : MapK e w' b m S := H.keep (grown_of_bel hb none) (by simp)
theorem mk_made {t e : TypeId} {w : World} {K : Option Nat → World → Prop} (hK : ∀ w', MapK e w' w.heap.size 0 (fun _ => false) → bel w w' → K (some w.heap.size) w') :
    wr Tryz.prog (Instr.makeMap t none) (.one .map) w K :=
  ⟨some w.heap.size, _, run_makeMap _ w, hK _ ⟨.map [], (World.ownsMap_made w _ _ _).mono (by omega), fun _ _ => rfl⟩ (bel_alloc _ _)⟩
theorem ktl_inj {k n : Nat} (hk : k < 21) (hn : n < 21) (h : (Lit.string (kt k).data.toList) = .string (kt n).data.toList) : k = n := by
  injection h with h
  refine kt_inj k hk n hn ?_
  have e : (kt k).data = (kt n).data := Array.toList_inj.1 h
  generalize kt k = x at e ⊢
  generalize kt n = y at e ⊢
  cases x; cases y
  simp only at e
  rw [e]
theorem mk_put {t e : TypeId} (ht : Tryz.prog.underlying t = some (.map 9 e)) {v : Value} {d : DataW Unit} {ps : List MemPlace} (hv : plainElem Tryz.prog e v = some (d, ps)) {w : World} {b m : Nat} {S : Nat → Bool} (H : MapK e w b m S) (hm : m < 100) {n : Nat} (hn : n < 21) {K : World → Prop}
    (hK : ∀ w', MapK e w' b (m + 1) (fun k => k == n || S k) → w.grownBy w' (some b) → K w') :
    wu Tryz.prog (Instr.mapUpdate t (.map (some b)) (.string (kt n)) v) w K := by
  obtain ⟨D, h1, h2⟩ := H.ex
  obtain ⟨w', r1, r2, r3⟩ := h1.update (Maps.string_keyed undS) ht (by unfold maxLen; omega) (kt_key hn) hv
  refine ⟨w', r1, hK w' ⟨_, r2, fun k hk => ?_⟩ r3⟩
  by_cases h : k = n
  · subst h; rw [Maps.has_put_same (k := .string (kt k).data.toList) h1.isMap trivial]; simp
  · rw [Maps.has_put_other (fun e => h (ktl_inj hk hn e)), h2 k hk]
    simp [h]
theorem zero_int (w : World) : (zeroValue 3).run Tryz.prog w = .ok (.int .i64 0) w := by
  obtain ⟨i, hi0, hz0, hz1, hz2⟩ := info_parts tyI.hi
  unfold zeroValue typeInfo
  simp only [Sem.run_bind, run_program, Result.andThen_ok, hi0, Sem.run_pure, hz0]
theorem mk_look {w : World} {b m : Nat} {S : Nat → Bool} (H : MapK 3 w b m S) {n : Nat} (hn : n < 21) {K : (Int × Bool × Unit) → Prop} (hK : ∀ x, K (x, S n, ())) :
    rdM Tryz.prog bel (Instr.lookup 234 (.map (some b)) (.string (kt n)) true) [.one (.int .i64), .one .bool] w K := by
  obtain ⟨D, h1, h2⟩ := H.ex
  obtain ⟨v, ps, hr, hv⟩ := h1.look_ok (Maps.string_keyed undS) undMI (zero_int w) (plainElem_int undI (by decide)) (kt_key hn)
  obtain ⟨a, rfl, ha, _⟩ := plainElem_int_inv undI hv
  refine ⟨(a, S n, ()), fun w' hb => ?_, hK _⟩
  have h1' := h1.kept (grown_of_bel hb none) (by simp)
  obtain ⟨v', ps', hr', hv'⟩ := h1'.look_ok (Maps.string_keyed undS) undMI (zero_int w') (plainElem_int undI (by decide)) (kt_key hn)
  obtain ⟨a', rfl, ha', _⟩ := plainElem_int_inv undI hv'
  simp only [Prod.mk.injEq] at ha ha'
  have e : a' = a := by
    have q := ha'.1.symm.trans ha.1
    simp only [DataW.lit.injEq, Lit.int.injEq, true_and] at q
    exact q
  rw [hr', e, h2 n hn]; rfl
theorem tyBo : TyS Tryz.prog 106 4 (.bool false) 1 1 := ⟨by kernel_rfl, by kernel_rfl⟩
theorem zero_bool (w : World) : (zeroValue 4).run Tryz.prog w = .ok (.bool false) w := by
  obtain ⟨i, hi0, hz0, hz1, hz2⟩ := info_parts tyBo.hi
  unfold zeroValue typeInfo
  simp only [Sem.run_bind, run_program, Result.andThen_ok, hi0, Sem.run_pure, hz0]
theorem plain_bool_inv {v : Value} {z : DataW Unit × List MemPlace} (h : plainElem Tryz.prog 4 v = some z) : ∃ a, v = .bool a ∧ z = (.lit (.bool a), []) := by
  unfold plainElem at h
  rw [undBo] at h
  cases v <;> simp at h
  exact ⟨_, rfl, h.symm⟩
structure MapT (w : World) (b m : Nat) (S : Nat → Bool) : Prop where
  ex : ∃ D : DataW Unit, w.ownsMap Tryz.prog 9 (plainElem Tryz.prog 4) b m D ∧ ∀ k : Nat, k < 21 → D.atKey (.string (kt k).data.toList) (.lit (.bool false)) = .lit (.bool (S k))
theorem MapT.keep {w w' : World} {b m : Nat} {S : Nat → Bool} {o : Option Nat} (H : MapT w b m S) (hg : w.grownBy w' o) (hb : some b ≠ o) : MapT w' b m S := by
  obtain ⟨D, h1, h2⟩ := H.ex
  exact ⟨D, h1.kept hg hb, h2⟩
theorem MapT.up {w w' : World} {b m : Nat} {S : Nat → Bool} (H : MapT w b m S) (hb : bel w w') : MapT w' b m S := H.keep (grown_of_bel hb none) (by simp)
theorem mt_made {w : World} {K : Option Nat → World → Prop} (hK : ∀ w', MapT w' w.heap.size 0 (fun _ => false) → bel w w' → K (some w.heap.size) w') :
    wr Tryz.prog (Instr.makeMap 236 none) (.one .map) w K :=
  ⟨some w.heap.size, _, run_makeMap _ w, hK _ ⟨.map [], (World.ownsMap_made w _ _ _).mono (by omega), fun _ _ => rfl⟩ (bel_alloc _ _)⟩
theorem mt_put {w : World} {b m : Nat} {S : Nat → Bool} (H : MapT w b m S) (hm : m < 100) {n : Nat} (hn : n < 21) {K : World → Prop}
    (hK : ∀ w', MapT w' b (m + 1) (fun k => k == n || S k) → w.grownBy w' (some b) → K w') :
    wu Tryz.prog (Instr.mapUpdate 236 (.map (some b)) (.string (kt n)) (.bool true)) w K := by
  obtain ⟨D, h1, h2⟩ := H.ex
  obtain ⟨w', r1, r2, r3⟩ := h1.update (Maps.string_keyed undS) undMT (by unfold maxLen; omega) (kt_key hn) (plainElem_bool undBo true)
  refine ⟨w', r1, hK w' ⟨_, r2, fun k hk => ?_⟩ r3⟩
  by_cases h : k = n
  · subst h; rw [Maps.atKey_put_same (k := .string (kt k).data.toList) h1.isMap trivial]; simp
  · rw [Maps.atKey_put_other (fun e => h (ktl_inj hk hn e)), h2 k hk]
    simp [h]
theorem mt_look {w : World} {b m : Nat} {S : Nat → Bool} (H : MapT w b m S) {n : Nat} (hn : n < 21) {K : Bool → Prop} (hK : K (S n)) :
    rd Tryz.prog (Instr.lookup 236 (.map (some b)) (.string (kt n)) false) (.one .bool) w K := by
  refine ⟨S n, fun w' hb => ?_, hK⟩
  obtain ⟨D, h1, h2⟩ := (H.up hb).ex
  obtain ⟨v, ps, hr, hv⟩ := h1.lookup (Maps.string_keyed undS) undMT (zero_bool w') (plainElem_bool undBo false) (kt_key hn)
  obtain ⟨a, rfl, ha⟩ := plain_bool_inv hv
  rw [h2 n hn] at ha
  simp only [Prod.mk.injEq, DataW.lit.injEq, Lit.bool.injEq] at ha
  rw [hr, ← ha.1]; rfl
end Go.Proofs.YtcfghfmlfgaeaaaGreatDoor
