/- Readable slices, owned slices, and how they are kept; laws of append and make in that form. No program's text is in sight. -/
import Derived.WalkKit
import Derived.WalkSpells
import Derived.WalkLawsBesides
import Derived.Deep.QuietTactic
import Derived.BigQuiet
import Derived.Lib.Hide
import Derived.Deep.RegionHeld3
import Derived.Deep.AppendLies
import Derived.StillTailTactics
namespace Go.Q
open Go.RowKit

/-- a readable slice: n elements of sz cells; its cells are xs -/
structure Sl (w : World) (a : Option Addr) (n sz : Nat) (xs : List Value) : Prop where
  len : xs.length = n * sz
  le : n ≤ 9223372036854775807
  at' : ∀ j u, xs[j]? = some u → ∃ ad, a = some ad ∧ w.cell? (ad.add j) = some u ∧ ad.block < w.heap.size

def ints (k : IntKind) (xs : List Int) : List Value := xs.map (Value.int k)

theorem ints_len (k : IntKind) (xs : List Int) : (ints k xs).length = xs.length := by simp [ints]
theorem ints_app (k : IntKind) (xs ys : List Int) : ints k (xs ++ ys) = ints k xs ++ ints k ys := by simp [ints]

theorem add_block (a : Addr) (j : Nat) : (a.add j).block = a.block := by unfold Addr.add; split <;> rfl

theorem Sl.int {w : World} {a : Option Addr} {n : Nat} {k : IntKind} {xs : List Int} (h : Sl w a n 1 (ints k xs)) : xs.length = n := by
  have := h.len; simpa [ints] using this

theorem Sl.nil (w : World) (a : Option Addr) (sz : Nat) : Sl w a 0 sz [] := ⟨by simp, by omega, fun j u h => by simp at h⟩

theorem Sl.get {w : World} {a : Option Addr} {n : Nat} {k : IntKind} {xs : List Int} (h : Sl w a n 1 (ints k xs)) {i : Nat} (hi : i < n) :
    ∃ ad x, a = some ad ∧ w.cell? (ad.add i) = some (.int k x) ∧ Hid (xs[i]? = some x) ∧ ad.block < w.heap.size := by
  have hl := h.int
  obtain ⟨x, hx⟩ : ∃ x, xs[i]? = some x := ⟨_, List.getElem?_eq_getElem (by omega)⟩
  obtain ⟨ad, h1, h2, h3⟩ := h.at' i (.int k x) (by simp [ints, hx])
  exact ⟨ad, x, h1, h2, Lib.hid hx, h3⟩

theorem Sl.below {w w' : World} {a : Option Addr} {n sz : Nat} {xs : List Value} {B : Nat} (h : Sl w a n sz xs) (hb : Below B w w') (hB : ∀ ad, a = some ad → ad.block < B) : Sl w' a n sz xs :=
  ⟨h.len, h.le, fun j u hj => by
    obtain ⟨ad, h1, h2, h3⟩ := h.at' j u hj
    refine ⟨ad, h1, ?_, Nat.lt_of_lt_of_le h3 hb.size⟩
    rw [hb.cell (by rw [add_block]; exact hB ad h1)]; exact h2⟩

theorem Sl.lt {w : World} {a : Option Addr} {n sz : Nat} {xs : List Value} (h : Sl w a n sz xs) (hn : 0 < n * sz) : ∀ ad, a = some ad → ad.block < w.heap.size := by
  intro ad hd
  have hl := h.len
  obtain ⟨u, hu⟩ : ∃ u, xs[0]? = some u := ⟨_, List.getElem?_eq_getElem (by omega)⟩
  obtain ⟨ad', h1, _, h3⟩ := h.at' 0 u hu
  rw [hd] at h1; cases h1; exact h3

/-- kept over anything that leaves the blocks of w alone -/
theorem Sl.kept {w w' : World} {a : Option Addr} {n sz : Nat} {xs : List Value} (h : Sl w a n sz xs) (hb : Below w.heap.size w w') : Sl w' a n sz xs :=
  ⟨h.len, h.le, fun j u hj => by
    obtain ⟨ad, h1, h2, h3⟩ := h.at' j u hj
    refine ⟨ad, h1, ?_, Nat.lt_of_lt_of_le h3 hb.size⟩
    rw [hb.cell (by rw [add_block]; exact h3)]; exact h2⟩

theorem below_drewN {B : Nat} {w : World} (n : Nat) : Below B w (w.drewN n) := by
  refine ⟨?_, ?_, ?_, ?_, ?_⟩ <;> simp [World.drewN]

/-- an owned slice: at the head of a block of its own (from B on), or nil -/
def Own (w : World) (B : Nat) (e : TypeId) (sz : Nat) (a : Option Addr) (n c : Nat) (xs : List Value) : Prop := w.ownsRow B e sz (.slice a n c) n xs

def blk (a : Option Addr) : Option Nat := a.map (·.block)

theorem blk_own (a : Option Addr) (n c : Nat) : Value.ownBlock (.slice a n c) = blk a := by cases a <;> rfl

theorem Own.sl {w : World} {B : Nat} {e : TypeId} {sz : Nat} {a : Option Addr} {n c : Nat} {xs : List Value} (h : Own w B e sz a n c xs) (hn : n ≤ 9223372036854775807) : Sl w a n sz xs := by
  refine ⟨h.1, hn, fun j u hj => ?_⟩
  rcases h.2 with ⟨h1, h2⟩ | ⟨g, cap, cur, h1, h2, h3, h4⟩
  · have := h.1; subst h2; simp at this; subst this; simp at hj
  · cases h1
    exact ⟨_, rfl, h.cells rfl j u hj, (Array.getElem?_eq_some_iff.1 h3).1⟩

theorem Own.le {w : World} {B : Nat} {e : TypeId} {sz : Nat} {a : Option Addr} {n c : Nat} {xs : List Value} (h : Own w B e sz a n c xs) : n ≤ 9223372036854775807 := by
  rcases h.2 with ⟨_, h2⟩ | ⟨g, cap, cur, h1, h2, h3, h4, h5, _⟩
  · omega
  · unfold maxLen at h5; omega

theorem Own.nil (w : World) (B : Nat) (e : TypeId) (sz : Nat) : Own w B e sz none 0 0 [] := World.ownsRow_nil w B e sz

theorem Own.kept {w w' : World} {B : Nat} {e : TypeId} {sz : Nat} {a : Option Addr} {n c : Nat} {xs : List Value} (h : Own w B e sz a n c xs) (hb : Below w.heap.size w w') : Own w' B e sz a n c xs := by
  refine ⟨h.1, ?_⟩
  rcases h.2 with h2 | ⟨g, cap, cur, h1, h2, h3, h4⟩
  · exact .inl h2
  · exact .inr ⟨g, cap, cur, h1, h2, (hb.block g (Array.getElem?_eq_some_iff.1 h3).1).trans h3, h4⟩

theorem Own.keptBy {w w' : World} {B : Nat} {e : TypeId} {sz : Nat} {a : Option Addr} {n c : Nat} {xs : List Value} {row : Option Nat} (h : Own w B e sz a n c xs) (hb : w.grownBy w' row) (hne : blk a = none ∨ blk a ≠ row) : Own w' B e sz a n c xs :=
  World.ownsRow.kept h hb (by rw [blk_own]; exact hne)

theorem Own.lt {w : World} {B : Nat} {e : TypeId} {sz : Nat} {a : Option Addr} {n c : Nat} {xs : List Value} (h : Own w B e sz a n c xs) : ∀ k, blk a = some k → B ≤ k ∧ k < w.heap.size := by
  intro k hk
  exact World.ownsRow.lt h k (by rw [blk_own]; exact hk)

theorem Own.drewN {w : World} {B : Nat} {e : TypeId} {sz : Nat} {a : Option Addr} {n c : Nat} {xs : List Value} (h : Own w B e sz a n c xs) (k : Nat) : Own (w.drewN k) B e sz a n c xs := h.kept (below_drewN k)

theorem Own.drew {w : World} {B : Nat} {e : TypeId} {sz : Nat} {a : Option Addr} {n c : Nat} {xs : List Value} (h : Own w B e sz a n c xs) : Own w.drew B e sz a n c xs := h.drewN 1

theorem Own.alloc {w : World} {B : Nat} {e : TypeId} {sz : Nat} {a : Option Addr} {n c : Nat} {xs : List Value} (h : Own w B e sz a n c xs) (o : Obj) : Own (w.alloc o) B e sz a n c xs := World.ownsRow.alloc h o

theorem below_grown {B : Nat} {a w w' : World} {e : TypeId} {sz : Nat} {sa : Option Addr} {n c : Nat} {xs : List Value} (h : Below B a w) (hown : Own w B e sz sa n c xs) (hg : w.grownBy w' (blk sa)) (hB : B ≤ w.heap.size) : Below B a w' :=
  h.grown hg hB (fun k hk => (hown.lt k hk).1)

/-- what an append leaves: the new value is owned; only its own old row and new blocks have turned; the old elements stand where they stood -/
structure Appd (w w' : World) (B : Nat) (e : TypeId) (sz : Nat) (sa : Option Addr) (n : Nat) (a' : Option Addr) (n' c' : Nat) (xs : List Value) : Prop where
  own : Own w' B e sz a' n' c' xs
  grown : w.grownBy w' (blk sa)
  old : ∀ ad, sa = some ad → ∀ j, j < n * sz → w'.cell? (ad.add j) = w.cell? (ad.add j)
  at' : blk a' = blk sa ∨ blk a' = some w.heap.size ∨ blk a' = none

theorem addr_succ (a : Addr) (k : Nat) : a.add (k + 1) = ⟨a.block, a.off + (k + 1), none⟩ := by simp [Addr.add]

theorem addr_add0 (g j : Nat) : (⟨g, 0, none⟩ : Addr).add j = ⟨g, j, none⟩ := by unfold Addr.add; split <;> simp_all

theorem run_app {P : Program} (w : World) (t ty : TypeId)
    (base : Nat) (e : TypeId) (z : Value) (size bytes : Nat) (ht : P.underlying t = some (.slice e)) (hi : (P.info? e).map (fun i => (i.zero, i.size, i.bytes)) = some (some z, size, bytes))
    (hzs : z.cells.size = size) (hsz : 0 < size)
    (sa : Option Addr) (n c : Nat) (xs : List Value) (hown : Own w base e size sa n c xs)
    (ad : Addr) (m mc : Nat) (news : List Value) (hl : news.length = m * size) (hnews : ∀ j u, news[j]? = some u → w.cell? (ad.add j) = some u) (h1 : ∀ u ∈ news, u.oneCell' = true)
    (hbytes : (n + m) * bytes ≤ 140737488355328) (h63 : n + m ≤ maxLen) (hbase : base ≤ w.heap.size) :
    ∃ a' c' w', (Builtin.append_ #[t, t] ty #[.slice sa n c, .slice (some ad) m mc]).run P w = .ok (.slice a' (n + m) c') w' ∧ Appd w w' base e size sa n a' (n + m) c' (xs ++ news) := by
  obtain ⟨i, hi0, hz0, hz1, hz2⟩ := info_parts hi
  subst hz1
  subst hz2
  by_cases hroom : n + m ≤ c
  · rcases hown.2 with ⟨h1', h2⟩ | ⟨g, cap, cur, h1', h2, h3, h4, h5, h6, h7⟩
    · cases h1'
      obtain rfl : m = 0 := by omega
      have hn : news = [] := List.eq_nil_of_length_eq_zero (by simpa using hl)
      have hx : xs = [] := List.eq_nil_of_length_eq_zero (by simpa using hown.1)
      subst hn; subst hx
      refine ⟨none, 0, w, ?_, Own.nil _ _ _ _, ⟨rfl, rfl, rfl, Nat.le_refl _, fun _ _ _ => rfl⟩, (fun _ h => by cases h), .inl rfl⟩
      simp [Builtin.append_, run_underlying ht, sizeOf, typeInfo, hi0, Builtin.lenOf, Builtin.firstCells, loadCells, loadCellsFrom]
    · cases h1'
      have hfit : n * i.size + news.length ≤ cur.size := by rw [hl, h6, ← Nat.add_mul]; exact Nat.mul_le_mul_right _ hroom
      have hr := run_append_room (P := P) w t ty e i ht hi0 g n c cur h3 ad m mc news hl hnews h1 hroom hfit
      refine ⟨_, _, _, hr, ⟨by rw [List.length_append, hown.1, hl, Nat.add_mul], .inr ⟨g, c, _, rfl, h2, setRow_heap w g cur _ e _ h3, hroom, h5, ?_, ?_⟩⟩, ⟨rfl, rfl, rfl, by simp, fun k _ hk => setRow_other w g k _ (fun e => hk (by simp [blk, e]))⟩, ?_, .inl rfl⟩
      · simp only [List.size_toArray, List.length_append, List.length_take, List.length_drop, Array.length_toList]
        omega
      · have hlen : (xs ++ news).length = (n + m) * i.size := by rw [List.length_append, hown.1, hl, Nat.add_mul]
        rw [h7, ← hlen]
        exact List.take_left
      · intro ad0 h0 j hj
        cases h0
        rw [addr_add0, cell_setRow_same w g j cur _ e _ h3, cell_of_row w g j cur e _ h3]
        have hjc : j < cur.size := by omega
        simp only [List.getElem?_toArray, List.append_assoc]
        rw [List.getElem?_append_left (by rw [List.length_take, Array.length_toList]; omega), List.getElem?_take]
        simp [hj]
  · have grown : ∀ (row : Option Nat), ∀ (cs : Array Value), w.grownBy (w.drew.alloc (.cells cs e)) row := fun row cs => ⟨rfl, rfl, rfl, by simp, fun k hk _ => Go.RowKit.Below.heap_alloc w.drew _ k hk⟩
    have hcm : grownCap w (n + m) c e ≤ maxLen := grownCap_le_maxLen w (n + m) c e h63
    have hge := grownCap_ge w (n + m) c e
    have hlen : (xs ++ news).length = (n + m) * i.size := by rw [List.length_append, hown.1, hl, Nat.add_mul]
    have hownN : Own (w.drew.alloc (.cells (xs.toArray ++ news.toArray ++ Builtin.zeroCells z.cells (grownCap w (n + m) c e - (n + m))) e)) base e i.size (some ⟨w.heap.size, 0, none⟩) (n + m) (grownCap w (n + m) c e) (xs ++ news) := by
      refine ⟨hlen, .inr ⟨w.heap.size, _, _, rfl, hbase, heap_alloc_new w.drew _, hge, hcm, ?_, ?_⟩⟩
      · simp only [Array.size_append, List.size_toArray, size_zeroCells, hzs, hown.1, hl, ← Nat.add_mul]
        congr 1
        omega
      · simp only [Array.toList_append, List.append_assoc]
        rw [← List.append_assoc, ← hlen]
        exact List.take_left
    have h63' : n + m ≤ 9223372036854775807 := by simp only [maxLen] at h63; omega
    rcases hown.2 with ⟨h1', h2⟩ | ⟨g, cap, cur, h1', h2, h3, h4, h5, h6, h7⟩
    · cases h1'
      have hx : xs = [] := List.eq_nil_of_length_eq_zero (by simpa using hown.1)
      subst hx
      have hr := run_append_nil (P := P) w t ty e i z ht hi0 hz0 ad m mc news hl hnews (by omega) (by omega) (by have hb := hbytes; simp only [Nat.zero_add] at hb; omega)
      simp only [Nat.zero_add, List.nil_append, Array.empty_append] at hownN ⊢
      exact ⟨_, _, _, hr, hownN, grown _ _, (fun _ h => by cases h), .inr (.inl rfl)⟩
    · cases h1'
      have holds : ∀ j u, xs[j]? = some u → w.cell? ((⟨g, 0, none⟩ : Addr).add j) = some u := World.ownsRow.cells hown (g := g) rfl
      have hr := run_append_grow (P := P) w t ty e i z ht hi0 hz0 ⟨g, 0, none⟩ n c xs hown.1 holds ad m mc news hl hnews (by omega) (by omega) (growslice_fits (by omega) hbytes)
      refine ⟨_, _, _, hr, hownN, grown _ _, ?_, .inr (.inl rfl)⟩
      intro ad0 h0 j hj
      cases h0
      have hg : g < w.heap.size := (Array.getElem?_eq_some_iff.1 h3).1
      exact World.cell?_of_block (w := w) (by rw [add_block]; exact Go.RowKit.Below.heap_alloc w.drew _ g hg)

theorem wp_app {P : Program} {w : World} {o : Oper} {a : Act} {K : Act → World → Prop} {Q : Exit → Act → World → Prop} (s x : Operand) (t : TypeId)
    (ho : o.op = .call { callee := .builtin .append, args := #[s, x], argTypes := #[t, t] })
    (base : Nat) (e : TypeId) (z : Value) (size bytes : Nat) (ht : P.underlying t = some (.slice e)) (hi : (P.info? e).map (fun i => (i.zero, i.size, i.bytes)) = some (some z, size, bytes))
    (hzs : z.cells.size = size) (hsz : 0 < size)
    (sa : Option Addr) (n c : Nat) (xs : List Value) (hs : a.eval s = .slice sa n c) (hown : Own w base e size sa n c xs)
    (ad : Addr) (m mc : Nat) (news : List Value) (hx : a.eval x = .slice (some ad) m mc) (hl : news.length = m * size) (hnews : ∀ j u, news[j]? = some u → w.cell? (ad.add j) = some u) (h1 : ∀ u ∈ news, u.oneCell' = true)
    (hbytes : (n + m) * bytes ≤ 140737488355328) (h63 : n + m ≤ maxLen) (hbase : base ≤ w.heap.size)
    (h : ∀ a' c' w', Appd w w' base e size sa n a' (n + m) c' (xs ++ news) → K (a.put o.dst (.slice a' (n + m) c')) w') : o.wp P a w K Q := by
  obtain ⟨a', c', w', hr, h2⟩ := run_app (P := P) w t o.type base e z size bytes ht hi hzs hsz sa n c xs hown ad m mc news hl hnews h1 hbytes h63 hbase
  unfold Oper.wp execOp
  simp only [ho, resolve, invoke, builtin, Sem.run_bind, Sem.run_pure, Result.andThen_ok, List.map_toArray, List.map_cons, List.map_nil, hs, hx, hr]
  exact h a' c' w' h2

theorem wpList_app {P : Program} {w : World} {ops : Array Oper} {rest : List Oper} {o : Oper} {a : Act} {Q : Exit → Act → World → Prop} (hgd : o.guard = none) (s x : Operand) (t : TypeId)
    (ho : o.op = .call { callee := .builtin .append, args := #[s, x], argTypes := #[t, t] })
    (base : Nat) (e : TypeId) (z : Value) (size bytes : Nat) (ht : P.underlying t = some (.slice e)) (hi : (P.info? e).map (fun i => (i.zero, i.size, i.bytes)) = some (some z, size, bytes))
    (hzs : z.cells.size = size) (hsz : 0 < size)
    (sa : Option Addr) (n c : Nat) (xs : List Value) (hs : a.eval s = .slice sa n c) (hown : Own w base e size sa n c xs)
    (ad : Addr) (m mc : Nat) (news : List Value) (hx : a.eval x = .slice (some ad) m mc) (hl : news.length = m * size) (hnews : ∀ j u, news[j]? = some u → w.cell? (ad.add j) = some u) (h1 : ∀ u ∈ news, u.oneCell' = true)
    (hbytes : (n + m) * bytes ≤ 140737488355328) (h63 : n + m ≤ maxLen) (hbase : base ≤ w.heap.size)
    (h : ∀ a' c' w', Appd w w' base e size sa n a' (n + m) c' (xs ++ news) → wpList P ops Q rest (a.put o.dst (.slice a' (n + m) c')) w') : wpList P ops Q (o :: rest) a w :=
  wpList_plain hgd fun _ hK => wp_app s x t ho base e z size bytes ht hi hzs hsz sa n c xs hs hown ad m mc news hx hl hnews h1 hbytes h63 hbase fun a' c' w' h2 => hK _ _ (h a' c' w' h2)

/-- at a step of a region that draws -/
theorem step_app {P : Program} {w : World} {ops : Array Oper} {o : Oper} {a : Act} {K : Act → World → Prop} {Q : Exit → Act → World → Prop} {E : Prop} (hgd : o.guard = none) (s x : Operand) (t : TypeId)
    (ho : o.op = .call { callee := .builtin .append, args := #[s, x], argTypes := #[t, t] })
    (base : Nat) (e : TypeId) (z : Value) (size bytes : Nat) (ht : P.underlying t = some (.slice e)) (hi : (P.info? e).map (fun i => (i.zero, i.size, i.bytes)) = some (some z, size, bytes))
    (hzs : z.cells.size = size) (hsz : 0 < size)
    (sa : Option Addr) (n c : Nat) (xs : List Value) (hs : a.eval s = .slice sa n c) (hown : Own w base e size sa n c xs)
    (ad : Addr) (m mc : Nat) (news : List Value) (hx : a.eval x = .slice (some ad) m mc) (hl : news.length = m * size) (hnews : ∀ j u, news[j]? = some u → w.cell? (ad.add j) = some u) (h1 : ∀ u ∈ news, u.oneCell' = true)
    (hbytes : (n + m) * bytes ≤ 140737488355328) (h63 : n + m ≤ maxLen) (hbase : base ≤ w.heap.size)
    (h : ∀ a' c' w', Appd w w' base e size sa n a' (n + m) c' (xs ++ news) → K (a.put o.dst (.slice a' (n + m) c')) w') :
    if Region.wanted o (yielded ops a.tmps) = true then Oper.wp P o a w K Q else E := by
  have hw : Region.wanted o (yielded ops a.tmps) = true := by simp [Region.wanted, hgd]
  rw [if_pos hw]
  exact wp_app s x t ho base e z size bytes ht hi hzs hsz sa n c xs hs hown ad m mc news hx hl hnews h1 hbytes h63 hbase h

/-- what an append of an own slice leaves unchanged below B -/
theorem Appd.below {B : Nat} {a w w' : World} {e : TypeId} {sz : Nat} {sa : Option Addr} {n c : Nat} {xs ys : List Value} {a' : Option Addr} {n' c' : Nat} (h : Appd w w' B e sz sa n a' n' c' ys) (hown : Own w B e sz sa n c xs) (hb : Below B a w) (hB : B ≤ w.heap.size) : Below B a w' :=
  below_grown hb hown h.grown hB
theorem Appd.size {B : Nat} {w w' : World} {e : TypeId} {sz : Nat} {sa : Option Addr} {n : Nat} {ys : List Value} {a' : Option Addr} {n' c' : Nat} (h : Appd w w' B e sz sa n a' n' c' ys) : w.heap.size ≤ w'.heap.size := h.grown.size
/-- a cell of a block below B, or of the row's own old elements -/
theorem Appd.cell {B : Nat} {w w' : World} {e : TypeId} {sz : Nat} {sa : Option Addr} {n c : Nat} {xs ys : List Value} {a' : Option Addr} {n' c' : Nat} (h : Appd w w' B e sz sa n a' n' c' ys) (hown : Own w B e sz sa n c xs) {p : Addr} (hp : p.block < B) (hB : B ≤ w.heap.size) : w'.cell? p = w.cell? p :=
  World.cell?_of_block (w := w) (h.grown.block p.block (by omega) (fun e => by have := hown.lt p.block e.symm; omega))

theorem cell_new (w : World) (vs : Array Value) (e : TypeId) : ∀ j u, vs.toList[j]? = some u → (w.alloc (.cells vs e)).cell? ((⟨w.heap.size, 0, none⟩ : Addr).add j) = some u := by
  intro j u hu
  rw [Addr.add_lit, cell_of_row (w.alloc (.cells vs e)) w.heap.size (0 + j) vs e (0, 0) (heap_alloc_new w _)]
  simpa using hu

theorem Own.cell {w : World} {B : Nat} {e : TypeId} {sz : Nat} {a : Option Addr} {n c : Nat} {xs : List Value} (h : Own w B e sz a n c xs) {j : Nat} {u : Value} (hj : xs[j]? = some u) :
    ∃ ad, a = some ad ∧ w.cell? (ad.add j) = some u ∧ w.frozen? (ad.add j) = false ∧ B ≤ ad.block ∧ ad.block < w.heap.size := by
  rcases h.2 with ⟨h1, h2⟩ | ⟨g, cap, cur, h1, h2, h3, h4⟩
  · have := h.1; subst h2; simp at this; subst this; simp at hj
  · cases h1
    refine ⟨_, rfl, World.ownsRow.cells h rfl j u hj, ?_, h2, (Array.getElem?_eq_some_iff.1 h3).1⟩
    simp [World.frozen?, add_block, h3]

theorem Own.geti {w : World} {B : Nat} {e : TypeId} {a : Option Addr} {n c : Nat} {k : IntKind} {xs : List Int} (h : Own w B e 1 a n c (ints k xs)) {i : Nat} (hi : i < n) :
    ∃ ad x, a = some ad ∧ w.cell? (ad.add i) = some (.int k x) ∧ w.frozen? (ad.add i) = false ∧ Hid (xs[i]? = some x) ∧ B ≤ ad.block ∧ ad.block < w.heap.size := by
  have hl : xs.length = n := by have := h.1; simpa [ints] using this
  obtain ⟨x, hx⟩ : ∃ x, xs[i]? = some x := ⟨_, List.getElem?_eq_getElem (by omega)⟩
  obtain ⟨ad, h1, h2, h3, h4, h5⟩ := h.cell (j := i) (u := .int k x) (by simp [ints, hx])
  exact ⟨ad, x, h1, h2, h3, Lib.hid hx, h4, h5⟩

/-- a store into an owned slice -/
theorem Own.set {w : World} {B : Nat} {e : TypeId} {sz : Nat} {ad : Addr} {n c : Nat} {xs : List Value} (h : Own w B e sz (some ad) n c xs) (j : Nat) (u : Value) :
    Own (w.setCell (ad.add j) u) B e sz (some ad) n c (xs.set j u) := by
  refine ⟨by rw [List.length_set]; exact h.1, ?_⟩
  rcases h.2 with ⟨h1, h2⟩ | ⟨g, cap, cur, h1, h2, h3, h4, h5, h6, h7⟩
  · cases h1
  · cases h1
    have hlen : xs.length ≤ cur.size := by rw [← h7]; simp; omega
    have hadd : (⟨g, 0, none⟩ : Addr).add j = ⟨g, j, none⟩ := by unfold Addr.add; split <;> simp_all
    refine .inr ⟨g, c, cur.setIfInBounds j u, rfl, h2, ?_, h4, h5, by simpa using h6, ?_⟩
    · rw [hadd]
      simp only [World.setCell, Array.getElem?_modify]
      simp [h3]
    · rw [← h7, Array.toList_setIfInBounds, List.take_set]


theorem wpList_mk {P : Program} {w : World} {ops : Array Oper} {rest : List Oper} {o : Oper} {a : Act} {Q : Exit → Act → World → Prop}
    (hg : o.guard = none) (l c : Operand) (t : TypeId) (hop : o.op = Op.makeSlice t l c)
    (base : Nat) (e : TypeId) (z : Value) (size bytes : Nat) (h1 : P.underlying t = some (.slice e)) (hi : (P.info? e).map (fun i => (i.zero, i.size, i.bytes)) = some (some z, size, bytes))
    (kl kc : IntKind) (L C : Int) (n : Nat) (hl : a.eval l = .int kl L) (hc : a.eval c = .int kc C) (hL : L = (n : Int)) (hC : C = (n : Int)) (b2 : bytes * n ≤ 281474976710656) (b3 : n ≤ maxLen) (b4 : base ≤ w.heap.size)
    (hK : ∀ ad w', Own w' base e size (some ad) n n (madeCells z.cells (n * size)).toList → w.grownBy w' none → ad.block = w.heap.size → wpList P ops Q rest (a.put o.dst (.slice (some ad) n n)) w') :
    wpList P ops Q (o :: rest) a w := by
  obtain ⟨i, hi0, hz0, hz1, hz2⟩ := info_parts hi
  refine wpList_make_full w hg l c t hop base e i z size h1 hi0 hz0 hz1 kl kc L C n hl hc hL hC (by rw [hz2]; exact b2) b3 b4 ?_
  intro w' ho hgr
  exact hK _ w' ho hgr rfl

theorem made_int (k : IntKind) (n : Nat) : (madeCells #[Value.int k 0] n).toList = ints k (List.replicate n 0) := by
  apply List.ext_getElem
  · simp [madeCells, ints]
  · intro i h1 h2
    simp [madeCells, ints, Nat.mod_one]

theorem ints_set (k : IntKind) (xs : List Int) (j : Nat) (x : Int) : (ints k xs).set j (.int k x) = ints k (xs.set j x) := by simp [ints, List.map_set]

/-- a slice literal -/
theorem Own.lit (w : World) (B : Nat) (e : TypeId) (sz n : Nat) (vs : Array Value) (hb : B ≤ w.heap.size) (hn : vs.size = n * sz) (hm : n ≤ maxLen) :
    Own (w.alloc (.cells vs e)) B e sz (some ⟨w.heap.size, 0, none⟩) n n vs.toList :=
  ⟨by simpa using hn, .inr ⟨w.heap.size, n, vs, rfl, hb, heap_alloc_new w _, Nat.le_refl _, hm, hn, List.take_of_length_le (by rw [Array.length_toList, hn]; exact Nat.le_refl _)⟩⟩

/-- the world has only drawn -/
def Dr (w w' : World) : Prop := ∃ m, w' = w.drewN m
theorem Dr.refl (w : World) : Dr w w := ⟨0, rfl⟩
theorem Dr.drewN {w w' : World} (h : Dr w w') (n : Nat) : Dr w (w'.drewN n) := by
  obtain ⟨m, rfl⟩ := h; exact ⟨m + n, World.drewN_drewN _ _ _⟩
theorem Dr.drew {w w' : World} (h : Dr w w') : Dr w w'.drew := h.drewN 1
theorem Dr.trans {w w' w'' : World} (h : Dr w w') (k : Dr w' w'') : Dr w w'' := by
  obtain ⟨m, rfl⟩ := k; exact h.drewN m
theorem Dr.below {B : Nat} {w w' : World} (h : Dr w w') : Below B w w' := by
  obtain ⟨m, rfl⟩ := h; exact below_drewN m
theorem Dr.size {w w' : World} (h : Dr w w') : w'.heap.size = w.heap.size := by
  obtain ⟨m, rfl⟩ := h; rfl
theorem Sl.dr {w w' : World} {a : Option Addr} {n sz : Nat} {xs : List Value} (h : Sl w a n sz xs) (hd : Dr w w') : Sl w' a n sz xs := h.kept hd.below
theorem Own.dr {w w' : World} {B : Nat} {e : TypeId} {sz : Nat} {a : Option Addr} {n c : Nat} {xs : List Value} (h : Own w B e sz a n c xs) (hd : Dr w w') : Own w' B e sz a n c xs := h.kept hd.below
theorem _root_.Go.RowKit.Below.dr {B : Nat} {a w w' : World} (h : Below B a w) (hd : Dr w w') : Below B a w' := h.trans hd.below

/-- a bool is returned; the world has only drawn -/
def QB (b : Bool) (w : World) (e : Ending) (w' : World) : Prop := e = .returned (.bool b) ∧ Dr w w'

/-- a slice of integers that came in: it is nil; or it leads to a row of cap cells, the numbers zs (the first len are its elements, the rest its spare room), each fitting its kind -/
def IsRow (k : IntKind) (w : World) (a : Option Addr) (len cap : Nat) (zs : List Int) : Prop :=
  (a = none ∧ len = 0 ∧ cap = 0 ∧ zs = []) ∨
  ∃ x, a = some x ∧ len ≤ cap ∧ cap ≤ maxLen ∧ zs.length = cap ∧ (∀ i, i < zs.length → w.cell? (x.add i) = some (.int k (zs.getD i 0))) ∧ ∀ n ∈ zs, (Lit.int k n).wf = true

theorem isrow_sl {w : World} {k : IntKind} {a : Option Addr} {len cap : Nat} {zs : List Int} (h : IsRow k w a len cap zs) : Sl w a len 1 (ints k (zs.take len)) := by
  rcases h with ⟨rfl, rfl, rfl, rfl⟩ | ⟨x, rfl, hl, hm, hz, hc, _⟩
  · exact Sl.nil _ _ _
  · refine ⟨by simp [ints]; omega, by unfold maxLen at hm; omega, fun j u hj => ?_⟩
    have hj' : j < len ∧ j < zs.length := by
      have := (List.getElem?_eq_some_iff.1 hj).1
      simp [ints] at this; omega
    have := hc j hj'.2
    refine ⟨x, rfl, ?_, ?_⟩
    · rw [this]
      simp [ints, hj'.1, List.getElem?_eq_getElem hj'.2] at hj
      simp [List.getD_eq_getElem?_getD, List.getElem?_eq_getElem hj'.2, hj]
    · have := World.block_lt_of_cell? _ _ this
      rwa [add_block] at this

theorem isrow_wf {w : World} {k : IntKind} {a : Option Addr} {len cap : Nat} {zs : List Int} (h : IsRow k w a len cap zs) : ∀ n ∈ zs.take len, (Lit.int k n).wf = true := by
  rcases h with ⟨rfl, rfl, rfl, rfl⟩ | ⟨x, rfl, hl, hm, hz, hc, h⟩
  · simp
  · exact fun n hn => h n (List.mem_of_mem_take hn)

end Go.Q
