/- Readable slices, owned slices, and how they are kept; laws of append and make in that form. No program's text is in sight. -/
import Derived.WalkKit
import Derived.WalkSpells
import Derived.WalkLawsBesides
import Derived.Deep.QuietTactic
import Derived.BigQuiet
import Derived.Lib.Hide
import Derived.Deep.RegionHeld3
import Derived.Deep.AppendLies
import Derived.StillTailTactics
namespace Go.Q
open Go.RowKit

/-- a readable slice: n elements of sz cells; its cells are xs -/
structure Sl (w : World) (a : Option Addr) (n c sz : Nat) (xs : List Value) : Prop where
  len : xs.length = n * sz
  cap : n ≤ c
  most : c ≤ 9223372036854775807
  nil' : a = none → n = 0 ∧ c = 0
  at' : ∀ j u, xs[j]? = some u → ∃ ad, a = some ad ∧ w.cell? (ad.add j) = some u ∧ ad.block < w.heap.size

theorem Sl.le {w : World} {a : Option Addr} {n c sz : Nat} {xs : List Value} (h : Sl w a n c sz xs) : n ≤ 9223372036854775807 := Nat.le_trans h.cap h.most

def ints (k : IntKind) (xs : List Int) : List Value := xs.map (Value.int k)
def nats (k : IntKind) (xs : List Nat) : List Value := xs.map fun n : Nat => Value.int k (n : Int)
def bools (xs : List Bool) : List Value := xs.map Value.bool

theorem ints_len (k : IntKind) (xs : List Int) : (ints k xs).length = xs.length := by simp [ints]
theorem ints_app (k : IntKind) (xs ys : List Int) : ints k (xs ++ ys) = ints k xs ++ ints k ys := by simp [ints]
theorem nats_len (k : IntKind) (xs : List Nat) : (nats k xs).length = xs.length := by simp [nats]
theorem nats_app (k : IntKind) (xs ys : List Nat) : nats k (xs ++ ys) = nats k xs ++ nats k ys := by simp [nats]
theorem bools_len (xs : List Bool) : (bools xs).length = xs.length := by simp [bools]
theorem bools_app (xs ys : List Bool) : bools (xs ++ ys) = bools xs ++ bools ys := by simp [bools]

theorem add_block (a : Addr) (j : Nat) : (a.add j).block = a.block := by unfold Addr.add; split <;> rfl
theorem add_zero (a : Addr) : a.add 0 = a := by simp [Addr.add]

theorem Sl.int {w : World} {a : Option Addr} {n c : Nat} {k : IntKind} {xs : List Int} (h : Sl w a n c 1 (ints k xs)) : xs.length = n := by
  have := h.len; simpa [ints] using this
theorem Sl.nat {w : World} {a : Option Addr} {n c : Nat} {k : IntKind} {xs : List Nat} (h : Sl w a n c 1 (nats k xs)) : xs.length = n := by
  have := h.len; simpa [nats] using this
theorem Sl.bool {w : World} {a : Option Addr} {n c : Nat} {xs : List Bool} (h : Sl w a n c 1 (bools xs)) : xs.length = n := by
  have := h.len; simpa [bools] using this

theorem Sl.nil (w : World) (sz : Nat) : Sl w none 0 0 sz [] := ⟨by simp, by omega, by omega, fun _ => ⟨rfl, rfl⟩, fun j u h => by simp at h⟩

theorem Sl.get {w : World} {a : Option Addr} {n c : Nat} {k : IntKind} {xs : List Int} (h : Sl w a n c 1 (ints k xs)) {i : Nat} (hi : i < n) :
    ∃ ad x, a = some ad ∧ w.cell? (ad.add i) = some (.int k x) ∧ Hid (xs[i]? = some x) ∧ ad.block < w.heap.size := by
  have hl := h.int
  obtain ⟨x, hx⟩ : ∃ x, xs[i]? = some x := ⟨_, List.getElem?_eq_getElem (by omega)⟩
  obtain ⟨ad, h1, h2, h3⟩ := h.at' i (.int k x) (by simp [ints, hx])
  exact ⟨ad, x, h1, h2, Lib.hid hx, h3⟩
theorem Sl.getn {w : World} {a : Option Addr} {n c : Nat} {k : IntKind} {xs : List Nat} (h : Sl w a n c 1 (nats k xs)) {i : Nat} (hi : i < n) :
    ∃ (ad : Addr) (x : Nat), a = some ad ∧ w.cell? (ad.add i) = some (.int k (x : Int)) ∧ Hid (xs[i]? = some x) ∧ ad.block < w.heap.size := by
  have hl := h.nat
  obtain ⟨x, hx⟩ : ∃ x, xs[i]? = some x := ⟨_, List.getElem?_eq_getElem (by omega)⟩
  obtain ⟨ad, h1, h2, h3⟩ := h.at' i (.int k (x : Int)) (by simp [nats, hx])
  exact ⟨ad, x, h1, h2, Lib.hid hx, h3⟩
theorem Sl.getb {w : World} {a : Option Addr} {n c : Nat} {xs : List Bool} (h : Sl w a n c 1 (bools xs)) {i : Nat} (hi : i < n) :
    ∃ ad x, a = some ad ∧ w.cell? (ad.add i) = some (.bool x) ∧ Hid (xs[i]? = some x) ∧ ad.block < w.heap.size := by
  have hl := h.bool
  obtain ⟨x, hx⟩ : ∃ x, xs[i]? = some x := ⟨_, List.getElem?_eq_getElem (by omega)⟩
  obtain ⟨ad, h1, h2, h3⟩ := h.at' i (.bool x) (by simp [bools, hx])
  exact ⟨ad, x, h1, h2, Lib.hid hx, h3⟩

theorem Sl.below {w w' : World} {a : Option Addr} {n c sz : Nat} {xs : List Value} {B : Nat} (h : Sl w a n c sz xs) (hb : Below B w w') (hB : ∀ ad, a = some ad → xs ≠ [] → ad.block < B) : Sl w' a n c sz xs :=
  ⟨h.len, h.cap, h.most, h.nil', fun j u hj => by
    obtain ⟨ad, h1, h2, h3⟩ := h.at' j u hj
    refine ⟨ad, h1, ?_, Nat.lt_of_lt_of_le h3 hb.size⟩
    rw [hb.cell (by rw [add_block]; exact hB ad h1 (by rintro rfl; simp at hj))]; exact h2⟩

theorem Sl.lt {w : World} {a : Option Addr} {n c sz : Nat} {xs : List Value} (h : Sl w a n c sz xs) : ∀ ad, a = some ad → xs ≠ [] → ad.block < w.heap.size := by
  intro ad hd hx
  obtain ⟨u, hu⟩ : ∃ u, xs[0]? = some u := ⟨_, List.getElem?_eq_getElem (List.length_pos_iff.2 hx)⟩
  obtain ⟨ad', h1, _, h3⟩ := h.at' 0 u hu
  rw [hd] at h1; cases h1; exact h3

/-- kept over anything that leaves the blocks of w alone -/
theorem Sl.kept {w w' : World} {a : Option Addr} {n c sz : Nat} {xs : List Value} (h : Sl w a n c sz xs) (hb : Below w.heap.size w w') : Sl w' a n c sz xs := h.below hb h.lt

/-- the first m elements, in the same place -/
theorem Sl.take {w : World} {a : Option Addr} {n c sz : Nat} {xs : List Value} (h : Sl w a n c sz xs) {m : Nat} (hm : m ≤ n) : Sl w a m c sz (xs.take (m * sz)) := by
  have hle : m * sz ≤ n * sz := Nat.mul_le_mul_right _ hm
  refine ⟨by rw [List.length_take, h.len]; omega, by have := h.cap; omega, h.most, fun e => ⟨by have := (h.nil' e).1; omega, (h.nil' e).2⟩, fun j u hj => h.at' j u ?_⟩
  rw [List.getElem?_take] at hj
  split at hj
  · exact hj
  · cases hj

theorem Sl.taken {w : World} {a : Option Addr} {n c : Nat} {k : IntKind} {xs : List Nat} (h : Sl w a n c 1 (nats k xs)) {m : Nat} (hm : m ≤ n) : Sl w a m c 1 (nats k (xs.take m)) := by
  have := h.take hm; rw [Nat.mul_one] at this; rw [nats, List.map_take]; exact this
theorem Sl.takei {w : World} {a : Option Addr} {n c : Nat} {k : IntKind} {xs : List Int} (h : Sl w a n c 1 (ints k xs)) {m : Nat} (hm : m ≤ n) : Sl w a m c 1 (ints k (xs.take m)) := by
  have := h.take hm; rw [Nat.mul_one] at this; rw [ints, List.map_take]; exact this

/-- the head of a slice that is an element -/
abbrev Hdr := Option Addr × Nat × Nat
def hv (h : Hdr) : Value := .slice h.1 h.2.1 h.2.2
theorem Sl.geth {w : World} {a : Option Addr} {n c : Nat} {hs : List Hdr} (h : Sl w a n c 1 (hs.map hv)) {i : Nat} (hi : i < n) :
    ∃ (ad : Addr) (x : Hdr), a = some ad ∧ w.cell? (ad.add i) = some (.slice x.1 x.2.1 x.2.2) ∧ Hid (hs[i]? = some x) ∧ ad.block < w.heap.size := by
  have hl : hs.length = n := by have := h.len; simpa using this
  obtain ⟨x, hx⟩ : ∃ x, hs[i]? = some x := ⟨_, List.getElem?_eq_getElem (by omega)⟩
  obtain ⟨ad, h1, h2, h3⟩ := h.at' i (hv x) (by simp [hx])
  exact ⟨ad, x, h1, h2, Lib.hid hx, h3⟩

/-- the slice lies in memory that was not there in w -/
def Fr (w : World) (a : Option Addr) : Prop := ∀ ad, a = some ad → w.heap.size ≤ ad.block
theorem Fr.none (w : World) : Fr w none := fun _ h => by cases h

/-- kept over what turns one row and new blocks alone -/
theorem Sl.grown {w w' : World} {a : Option Addr} {n c sz : Nat} {xs : List Value} {row : Option Nat} (h : Sl w a n c sz xs) (hg : w.grownBy w' row) (hne : ∀ ad, a = some ad → xs ≠ [] → some ad.block ≠ row) : Sl w' a n c sz xs :=
  ⟨h.len, h.cap, h.most, h.nil', fun j u hj => by
    obtain ⟨ad, h1, h2, h3⟩ := h.at' j u hj
    refine ⟨ad, h1, ?_, Nat.lt_of_lt_of_le h3 hg.size⟩
    rw [World.cell?_of_block (w := w) (hg.block _ (by rw [add_block]; exact h3) (by rw [add_block]; exact hne ad h1 (by rintro rfl; simp at hj)))]; exact h2⟩

theorem below_drewN {B : Nat} {w : World} (n : Nat) : Below B w (w.drewN n) := by
  refine ⟨?_, ?_, ?_, ?_, ?_⟩ <;> simp [World.drewN]

/-- an owned slice: at the head of a block of its own (from B on), or nil -/
def Own (w : World) (B : Nat) (e : TypeId) (sz : Nat) (a : Option Addr) (n c : Nat) (xs : List Value) : Prop := w.ownsRow B e sz (.slice a n c) n xs

def blk (a : Option Addr) : Option Nat := a.map (·.block)

theorem blk_own (a : Option Addr) (n c : Nat) : Value.ownBlock (.slice a n c) = blk a := by cases a <;> rfl

theorem Own.sl {w : World} {B : Nat} {e : TypeId} {sz : Nat} {a : Option Addr} {n c : Nat} {xs : List Value} (h : Own w B e sz a n c xs) : Sl w a n c sz xs := by
  rcases h.2 with ⟨h1, h2⟩ | ⟨g, cap, cur, h1, h2, h3, h4, h5, _⟩
  · cases h1
    refine ⟨h.1, by omega, by omega, fun _ => ⟨rfl, rfl⟩, fun j u hj => ?_⟩
    have := h.1; simp at this; subst this; simp at hj
  · cases h1
    refine ⟨h.1, h4, by unfold maxLen at h5; omega, (fun e => by cases e), fun j u hj => ?_⟩
    exact ⟨_, rfl, h.cells rfl j u hj, (Array.getElem?_eq_some_iff.1 h3).1⟩

theorem Own.le {w : World} {B : Nat} {e : TypeId} {sz : Nat} {a : Option Addr} {n c : Nat} {xs : List Value} (h : Own w B e sz a n c xs) : n ≤ 9223372036854775807 := by
  rcases h.2 with ⟨_, h2⟩ | ⟨g, cap, cur, h1, h2, h3, h4, h5, _⟩
  · omega
  · unfold maxLen at h5; omega

theorem Own.nil (w : World) (B : Nat) (e : TypeId) (sz : Nat) : Own w B e sz none 0 0 [] := World.ownsRow_nil w B e sz

theorem Own.kept {w w' : World} {B : Nat} {e : TypeId} {sz : Nat} {a : Option Addr} {n c : Nat} {xs : List Value} (h : Own w B e sz a n c xs) (hb : Below w.heap.size w w') : Own w' B e sz a n c xs := by
  refine ⟨h.1, ?_⟩
  rcases h.2 with h2 | ⟨g, cap, cur, h1, h2, h3, h4⟩
  · exact .inl h2
  · exact .inr ⟨g, cap, cur, h1, h2, (hb.block g (Array.getElem?_eq_some_iff.1 h3).1).trans h3, h4⟩

theorem Own.keptBy {w w' : World} {B : Nat} {e : TypeId} {sz : Nat} {a : Option Addr} {n c : Nat} {xs : List Value} {row : Option Nat} (h : Own w B e sz a n c xs) (hb : w.grownBy w' row) (hne : blk a = none ∨ blk a ≠ row) : Own w' B e sz a n c xs :=
  World.ownsRow.kept h hb (by rw [blk_own]; exact hne)

theorem Own.lt {w : World} {B : Nat} {e : TypeId} {sz : Nat} {a : Option Addr} {n c : Nat} {xs : List Value} (h : Own w B e sz a n c xs) : ∀ k, blk a = some k → B ≤ k ∧ k < w.heap.size := by
  intro k hk
  exact World.ownsRow.lt h k (by rw [blk_own]; exact hk)

theorem Own.fr {w w0 : World} {e : TypeId} {sz : Nat} {a : Option Addr} {n c : Nat} {xs : List Value} {B : Nat} (h : Own w B e sz a n c xs) (hB : B = w0.heap.size) : Fr w0 a := by
  intro ad ha
  subst ha
  rw [← hB]; exact (h.lt ad.block rfl).1

theorem Own.drewN {w : World} {B : Nat} {e : TypeId} {sz : Nat} {a : Option Addr} {n c : Nat} {xs : List Value} (h : Own w B e sz a n c xs) (k : Nat) : Own (w.drewN k) B e sz a n c xs := h.kept (below_drewN k)

theorem Own.drew {w : World} {B : Nat} {e : TypeId} {sz : Nat} {a : Option Addr} {n c : Nat} {xs : List Value} (h : Own w B e sz a n c xs) : Own w.drew B e sz a n c xs := h.drewN 1

theorem Own.alloc {w : World} {B : Nat} {e : TypeId} {sz : Nat} {a : Option Addr} {n c : Nat} {xs : List Value} (h : Own w B e sz a n c xs) (o : Obj) : Own (w.alloc o) B e sz a n c xs := World.ownsRow.alloc h o

theorem below_grown {B : Nat} {a w w' : World} {e : TypeId} {sz : Nat} {sa : Option Addr} {n c : Nat} {xs : List Value} (h : Below B a w) (hown : Own w B e sz sa n c xs) (hg : w.grownBy w' (blk sa)) (hB : B ≤ w.heap.size) : Below B a w' :=
  h.grown hg hB (fun k hk => (hown.lt k hk).1)

/-- what an append leaves: the new value is owned; only its own old row and new blocks have turned; the old elements stand where they stood -/
structure Appd (w w' : World) (B : Nat) (e : TypeId) (sz : Nat) (sa : Option Addr) (n : Nat) (a' : Option Addr) (n' c' : Nat) (xs : List Value) : Prop where
  own : Own w' B e sz a' n' c' xs
  grown : w.grownBy w' (blk sa)
  old : ∀ ad, sa = some ad → ∀ j, j < n * sz → w'.cell? (ad.add j) = w.cell? (ad.add j)
  at' : blk a' = blk sa ∨ blk a' = some w.heap.size ∨ blk a' = none

theorem addr_succ (a : Addr) (k : Nat) : a.add (k + 1) = ⟨a.block, a.off + (k + 1), none⟩ := by simp [Addr.add]

theorem addr_add0 (g j : Nat) : (⟨g, 0, none⟩ : Addr).add j = ⟨g, j, none⟩ := by unfold Addr.add; split <;> simp_all

theorem run_app {P : Program} (w : World) (t ty : TypeId)
    (base : Nat) (e : TypeId) (z : Value) (size bytes : Nat) (ht : P.underlying t = some (.slice e)) (hi : (P.info? e).map (fun i => (i.zero, i.size, i.bytes)) = some (some z, size, bytes))
    (hzs : z.cells.size = size) (hsz : 0 < size)
    (sa : Option Addr) (n c : Nat) (xs : List Value) (hown : Own w base e size sa n c xs)
    (ad : Addr) (m mc : Nat) (news : List Value) (hl : news.length = m * size) (hnews : ∀ j u, news[j]? = some u → w.cell? (ad.add j) = some u) (h1 : ∀ u ∈ news, u.oneCell' = true)
    (hbytes : (n + m) * bytes ≤ 140737488355328) (h63 : n + m ≤ maxLen) (hbase : base ≤ w.heap.size) :
    ∃ a' c' w', (Builtin.append_ #[t, t] ty #[.slice sa n c, .slice (some ad) m mc]).run P w = .ok (.slice a' (n + m) c') w' ∧ Appd w w' base e size sa n a' (n + m) c' (xs ++ news) := by
  obtain ⟨i, hi0, hz0, hz1, hz2⟩ := info_parts hi
  subst hz1
  subst hz2
  by_cases hroom : n + m ≤ c
  · rcases hown.2 with ⟨h1', h2⟩ | ⟨g, cap, cur, h1', h2, h3, h4, h5, h6, h7⟩
    · cases h1'
      obtain rfl : m = 0 := by omega
      have hn : news = [] := List.eq_nil_of_length_eq_zero (by simpa using hl)
      have hx : xs = [] := List.eq_nil_of_length_eq_zero (by simpa using hown.1)
      subst hn; subst hx
      refine ⟨none, 0, w, ?_, Own.nil _ _ _ _, ⟨rfl, rfl, rfl, Nat.le_refl _, fun _ _ _ => rfl⟩, (fun _ h => by cases h), .inl rfl⟩
      simp [Builtin.append_, run_underlying ht, sizeOf, typeInfo, hi0, Builtin.lenOf, Builtin.firstCells, loadCells, loadCellsFrom]
    · cases h1'
      have hfit : n * i.size + news.length ≤ cur.size := by rw [hl, h6, ← Nat.add_mul]; exact Nat.mul_le_mul_right _ hroom
      have hr := run_append_room (P := P) w t ty e i ht hi0 g n c cur h3 ad m mc news hl hnews h1 hroom hfit
      refine ⟨_, _, _, hr, ⟨by rw [List.length_append, hown.1, hl, Nat.add_mul], .inr ⟨g, c, _, rfl, h2, setRow_heap w g cur _ e _ h3, hroom, h5, ?_, ?_⟩⟩, ⟨rfl, rfl, rfl, by simp, fun k _ hk => setRow_other w g k _ (fun e => hk (by simp [blk, e]))⟩, ?_, .inl rfl⟩
      · simp only [List.size_toArray, List.length_append, List.length_take, List.length_drop, Array.length_toList]
        omega
      · have hlen : (xs ++ news).length = (n + m) * i.size := by rw [List.length_append, hown.1, hl, Nat.add_mul]
        rw [h7, ← hlen]
        exact List.take_left
      · intro ad0 h0 j hj
        cases h0
        rw [addr_add0, cell_setRow_same w g j cur _ e _ h3, cell_of_row w g j cur e _ h3]
        have hjc : j < cur.size := by omega
        simp only [List.getElem?_toArray, List.append_assoc]
        rw [List.getElem?_append_left (by rw [List.length_take, Array.length_toList]; omega), List.getElem?_take]
        simp [hj]
  · have grown : ∀ (row : Option Nat), ∀ (cs : Array Value), w.grownBy (w.drew.alloc (.cells cs e)) row := fun row cs => ⟨rfl, rfl, rfl, by simp, fun k hk _ => Go.RowKit.Below.heap_alloc w.drew _ k hk⟩
    have hcm : grownCap w (n + m) c e ≤ maxLen := grownCap_le_maxLen w (n + m) c e h63
    have hge := grownCap_ge w (n + m) c e
    have hlen : (xs ++ news).length = (n + m) * i.size := by rw [List.length_append, hown.1, hl, Nat.add_mul]
    have hownN : Own (w.drew.alloc (.cells (xs.toArray ++ news.toArray ++ Builtin.zeroCells z.cells (grownCap w (n + m) c e - (n + m))) e)) base e i.size (some ⟨w.heap.size, 0, none⟩) (n + m) (grownCap w (n + m) c e) (xs ++ news) := by
      refine ⟨hlen, .inr ⟨w.heap.size, _, _, rfl, hbase, heap_alloc_new w.drew _, hge, hcm, ?_, ?_⟩⟩
      · simp only [Array.size_append, List.size_toArray, size_zeroCells, hzs, hown.1, hl, ← Nat.add_mul]
        congr 1
        omega
      · simp only [Array.toList_append, List.append_assoc]
        rw [← List.append_assoc, ← hlen]
        exact List.take_left
    have h63' : n + m ≤ 9223372036854775807 := by simp only [maxLen] at h63; omega
    rcases hown.2 with ⟨h1', h2⟩ | ⟨g, cap, cur, h1', h2, h3, h4, h5, h6, h7⟩
    · cases h1'
      have hx : xs = [] := List.eq_nil_of_length_eq_zero (by simpa using hown.1)
      subst hx
      have hr := run_append_nil (P := P) w t ty e i z ht hi0 hz0 ad m mc news hl hnews (by omega) (by omega) (by have hb := hbytes; simp only [Nat.zero_add] at hb; omega)
      simp only [Nat.zero_add, List.nil_append, Array.empty_append] at hownN ⊢
      exact ⟨_, _, _, hr, hownN, grown _ _, (fun _ h => by cases h), .inr (.inl rfl)⟩
    · cases h1'
      have holds : ∀ j u, xs[j]? = some u → w.cell? ((⟨g, 0, none⟩ : Addr).add j) = some u := World.ownsRow.cells hown (g := g) rfl
      have hr := run_append_grow (P := P) w t ty e i z ht hi0 hz0 ⟨g, 0, none⟩ n c xs hown.1 holds ad m mc news hl hnews (by omega) (by omega) (growslice_fits (by omega) hbytes)
      refine ⟨_, _, _, hr, hownN, grown _ _, ?_, .inr (.inl rfl)⟩
      intro ad0 h0 j hj
      cases h0
      have hg : g < w.heap.size := (Array.getElem?_eq_some_iff.1 h3).1
      exact World.cell?_of_block (w := w) (by rw [add_block]; exact Go.RowKit.Below.heap_alloc w.drew _ g hg)

theorem wp_app {P : Program} {w : World} {o : Oper} {a : Act} {K : Act → World → Prop} {Q : Exit → Act → World → Prop} (s x : Operand) (t : TypeId)
    (ho : o.op = .call { callee := .builtin .append, args := #[s, x], argTypes := #[t, t] })
    (base : Nat) (e : TypeId) (z : Value) (size bytes : Nat) (ht : P.underlying t = some (.slice e)) (hi : (P.info? e).map (fun i => (i.zero, i.size, i.bytes)) = some (some z, size, bytes))
    (hzs : z.cells.size = size) (hsz : 0 < size)
    (sa : Option Addr) (n c : Nat) (xs : List Value) (hs : a.eval s = .slice sa n c) (hown : Own w base e size sa n c xs)
    (ad : Addr) (m mc : Nat) (news : List Value) (hx : a.eval x = .slice (some ad) m mc) (hl : news.length = m * size) (hnews : ∀ j u, news[j]? = some u → w.cell? (ad.add j) = some u) (h1 : ∀ u ∈ news, u.oneCell' = true)
    (hbytes : (n + m) * bytes ≤ 140737488355328) (h63 : n + m ≤ maxLen) (hbase : base ≤ w.heap.size)
    (h : ∀ a' c' w', Appd w w' base e size sa n a' (n + m) c' (xs ++ news) → K (a.put o.dst (.slice a' (n + m) c')) w') : o.wp P a w K Q := by
  obtain ⟨a', c', w', hr, h2⟩ := run_app (P := P) w t o.type base e z size bytes ht hi hzs hsz sa n c xs hown ad m mc news hl hnews h1 hbytes h63 hbase
  unfold Oper.wp execOp
  simp only [ho, resolve, invoke, builtin, Sem.run_bind, Sem.run_pure, Result.andThen_ok, List.map_toArray, List.map_cons, List.map_nil, hs, hx, hr]
  exact h a' c' w' h2

theorem wpList_app {P : Program} {w : World} {ops : Array Oper} {rest : List Oper} {o : Oper} {a : Act} {Q : Exit → Act → World → Prop} (hgd : o.guard = none) (s x : Operand) (t : TypeId)
    (ho : o.op = .call { callee := .builtin .append, args := #[s, x], argTypes := #[t, t] })
    (base : Nat) (e : TypeId) (z : Value) (size bytes : Nat) (ht : P.underlying t = some (.slice e)) (hi : (P.info? e).map (fun i => (i.zero, i.size, i.bytes)) = some (some z, size, bytes))
    (hzs : z.cells.size = size) (hsz : 0 < size)
    (sa : Option Addr) (n c : Nat) (xs : List Value) (hs : a.eval s = .slice sa n c) (hown : Own w base e size sa n c xs)
    (ad : Addr) (m mc : Nat) (news : List Value) (hx : a.eval x = .slice (some ad) m mc) (hl : news.length = m * size) (hnews : ∀ j u, news[j]? = some u → w.cell? (ad.add j) = some u) (h1 : ∀ u ∈ news, u.oneCell' = true)
    (hbytes : (n + m) * bytes ≤ 140737488355328) (h63 : n + m ≤ maxLen) (hbase : base ≤ w.heap.size)
    (h : ∀ a' c' w', Appd w w' base e size sa n a' (n + m) c' (xs ++ news) → wpList P ops Q rest (a.put o.dst (.slice a' (n + m) c')) w') : wpList P ops Q (o :: rest) a w :=
  wpList_plain hgd fun _ hK => wp_app s x t ho base e z size bytes ht hi hzs hsz sa n c xs hs hown ad m mc news hx hl hnews h1 hbytes h63 hbase fun a' c' w' h2 => hK _ _ (h a' c' w' h2)

/-- at a step of a region that draws -/
theorem step_app {P : Program} {w : World} {ops : Array Oper} {o : Oper} {a : Act} {K : Act → World → Prop} {Q : Exit → Act → World → Prop} {E : Prop} (hgd : o.guard = none) (s x : Operand) (t : TypeId)
    (ho : o.op = .call { callee := .builtin .append, args := #[s, x], argTypes := #[t, t] })
    (base : Nat) (e : TypeId) (z : Value) (size bytes : Nat) (ht : P.underlying t = some (.slice e)) (hi : (P.info? e).map (fun i => (i.zero, i.size, i.bytes)) = some (some z, size, bytes))
    (hzs : z.cells.size = size) (hsz : 0 < size)
    (sa : Option Addr) (n c : Nat) (xs : List Value) (hs : a.eval s = .slice sa n c) (hown : Own w base e size sa n c xs)
    (ad : Addr) (m mc : Nat) (news : List Value) (hx : a.eval x = .slice (some ad) m mc) (hl : news.length = m * size) (hnews : ∀ j u, news[j]? = some u → w.cell? (ad.add j) = some u) (h1 : ∀ u ∈ news, u.oneCell' = true)
    (hbytes : (n + m) * bytes ≤ 140737488355328) (h63 : n + m ≤ maxLen) (hbase : base ≤ w.heap.size)
    (h : ∀ a' c' w', Appd w w' base e size sa n a' (n + m) c' (xs ++ news) → K (a.put o.dst (.slice a' (n + m) c')) w') :
    if Region.wanted o (yielded ops a.tmps) = true then Oper.wp P o a w K Q else E := by
  have hw : Region.wanted o (yielded ops a.tmps) = true := by simp [Region.wanted, hgd]
  rw [if_pos hw]
  exact wp_app s x t ho base e z size bytes ht hi hzs hsz sa n c xs hs hown ad m mc news hx hl hnews h1 hbytes h63 hbase h

/-- what an append of an own slice leaves unchanged below B -/
theorem Appd.below {B : Nat} {a w w' : World} {e : TypeId} {sz : Nat} {sa : Option Addr} {n c : Nat} {xs ys : List Value} {a' : Option Addr} {n' c' : Nat} (h : Appd w w' B e sz sa n a' n' c' ys) (hown : Own w B e sz sa n c xs) (hb : Below B a w) (hB : B ≤ w.heap.size) : Below B a w' :=
  below_grown hb hown h.grown hB
theorem Appd.size {B : Nat} {w w' : World} {e : TypeId} {sz : Nat} {sa : Option Addr} {n : Nat} {ys : List Value} {a' : Option Addr} {n' c' : Nat} (h : Appd w w' B e sz sa n a' n' c' ys) : w.heap.size ≤ w'.heap.size := h.grown.size
/-- a cell of a block below B, or of the row's own old elements -/
theorem Appd.cell {B : Nat} {w w' : World} {e : TypeId} {sz : Nat} {sa : Option Addr} {n c : Nat} {xs ys : List Value} {a' : Option Addr} {n' c' : Nat} (h : Appd w w' B e sz sa n a' n' c' ys) (hown : Own w B e sz sa n c xs) {p : Addr} (hp : p.block < B) (hB : B ≤ w.heap.size) : w'.cell? p = w.cell? p :=
  World.cell?_of_block (w := w) (h.grown.block p.block (by omega) (fun e => by have := hown.lt p.block e.symm; omega))

theorem cell_new (w : World) (vs : Array Value) (e : TypeId) : ∀ j u, vs.toList[j]? = some u → (w.alloc (.cells vs e)).cell? ((⟨w.heap.size, 0, none⟩ : Addr).add j) = some u := by
  intro j u hu
  rw [Addr.add_lit, cell_of_row (w.alloc (.cells vs e)) w.heap.size (0 + j) vs e (0, 0) (heap_alloc_new w _)]
  simpa using hu

theorem Own.cell {w : World} {B : Nat} {e : TypeId} {sz : Nat} {a : Option Addr} {n c : Nat} {xs : List Value} (h : Own w B e sz a n c xs) {j : Nat} {u : Value} (hj : xs[j]? = some u) :
    ∃ ad, a = some ad ∧ w.cell? (ad.add j) = some u ∧ w.frozen? (ad.add j) = false ∧ B ≤ ad.block ∧ ad.block < w.heap.size := by
  rcases h.2 with ⟨h1, h2⟩ | ⟨g, cap, cur, h1, h2, h3, h4⟩
  · have := h.1; subst h2; simp at this; subst this; simp at hj
  · cases h1
    refine ⟨_, rfl, World.ownsRow.cells h rfl j u hj, ?_, h2, (Array.getElem?_eq_some_iff.1 h3).1⟩
    simp [World.frozen?, add_block, h3]

theorem Own.geti {w : World} {B : Nat} {e : TypeId} {a : Option Addr} {n c : Nat} {k : IntKind} {xs : List Int} (h : Own w B e 1 a n c (ints k xs)) {i : Nat} (hi : i < n) :
    ∃ ad x, a = some ad ∧ w.cell? (ad.add i) = some (.int k x) ∧ w.frozen? (ad.add i) = false ∧ Hid (xs[i]? = some x) ∧ B ≤ ad.block ∧ ad.block < w.heap.size := by
  have hl : xs.length = n := by have := h.1; simpa [ints] using this
  obtain ⟨x, hx⟩ : ∃ x, xs[i]? = some x := ⟨_, List.getElem?_eq_getElem (by omega)⟩
  obtain ⟨ad, h1, h2, h3, h4, h5⟩ := h.cell (j := i) (u := .int k x) (by simp [ints, hx])
  exact ⟨ad, x, h1, h2, h3, Lib.hid hx, h4, h5⟩

theorem Own.getn {w : World} {B : Nat} {e : TypeId} {a : Option Addr} {n c : Nat} {k : IntKind} {xs : List Nat} (h : Own w B e 1 a n c (nats k xs)) {i : Nat} (hi : i < n) :
    ∃ (ad : Addr) (x : Nat), a = some ad ∧ w.cell? (ad.add i) = some (.int k (x : Int)) ∧ w.frozen? (ad.add i) = false ∧ Hid (xs[i]? = some x) ∧ B ≤ ad.block ∧ ad.block < w.heap.size := by
  have hl : xs.length = n := by have := h.1; simpa [nats] using this
  obtain ⟨x, hx⟩ : ∃ x, xs[i]? = some x := ⟨_, List.getElem?_eq_getElem (by omega)⟩
  obtain ⟨ad, h1, h2, h3, h4, h5⟩ := h.cell (j := i) (u := .int k (x : Int)) (by simp [nats, hx])
  exact ⟨ad, x, h1, h2, h3, Lib.hid hx, h4, h5⟩
theorem Own.getb {w : World} {B : Nat} {e : TypeId} {a : Option Addr} {n c : Nat} {xs : List Bool} (h : Own w B e 1 a n c (bools xs)) {i : Nat} (hi : i < n) :
    ∃ ad x, a = some ad ∧ w.cell? (ad.add i) = some (.bool x) ∧ w.frozen? (ad.add i) = false ∧ Hid (xs[i]? = some x) ∧ B ≤ ad.block ∧ ad.block < w.heap.size := by
  have hl : xs.length = n := by have := h.1; simpa [bools] using this
  obtain ⟨x, hx⟩ : ∃ x, xs[i]? = some x := ⟨_, List.getElem?_eq_getElem (by omega)⟩
  obtain ⟨ad, h1, h2, h3, h4, h5⟩ := h.cell (j := i) (u := .bool x) (by simp [bools, hx])
  exact ⟨ad, x, h1, h2, h3, Lib.hid hx, h4, h5⟩

/-- a store into an owned slice -/
theorem Own.set {w : World} {B : Nat} {e : TypeId} {sz : Nat} {ad : Addr} {n c : Nat} {xs : List Value} (h : Own w B e sz (some ad) n c xs) (j : Nat) (u : Value) :
    Own (w.setCell (ad.add j) u) B e sz (some ad) n c (xs.set j u) := by
  refine ⟨by rw [List.length_set]; exact h.1, ?_⟩
  rcases h.2 with ⟨h1, h2⟩ | ⟨g, cap, cur, h1, h2, h3, h4, h5, h6, h7⟩
  · cases h1
  · cases h1
    have hlen : xs.length ≤ cur.size := by rw [← h7]; simp; omega
    have hadd : (⟨g, 0, none⟩ : Addr).add j = ⟨g, j, none⟩ := by unfold Addr.add; split <;> simp_all
    refine .inr ⟨g, c, cur.setIfInBounds j u, rfl, h2, ?_, h4, h5, by simpa using h6, ?_⟩
    · rw [hadd]
      simp only [World.setCell, Array.getElem?_modify]
      simp [h3]
    · rw [← h7, Array.toList_setIfInBounds, List.take_set]


theorem wpList_mk {P : Program} {w : World} {ops : Array Oper} {rest : List Oper} {o : Oper} {a : Act} {Q : Exit → Act → World → Prop}
    (hg : o.guard = none) (l c : Operand) (t : TypeId) (hop : o.op = Op.makeSlice t l c)
    (base : Nat) (e : TypeId) (z : Value) (size bytes : Nat) (h1 : P.underlying t = some (.slice e)) (hi : (P.info? e).map (fun i => (i.zero, i.size, i.bytes)) = some (some z, size, bytes))
    (kl kc : IntKind) (L C : Int) (n : Nat) (hl : a.eval l = .int kl L) (hc : a.eval c = .int kc C) (hL : L = (n : Int)) (hC : C = (n : Int)) (b2 : bytes * n ≤ 281474976710656) (b3 : n ≤ maxLen) (b4 : base ≤ w.heap.size)
    (hK : ∀ ad w', Own w' base e size (some ad) n n (madeCells z.cells (n * size)).toList → w.grownBy w' none → ad.block = w.heap.size → wpList P ops Q rest (a.put o.dst (.slice (some ad) n n)) w') :
    wpList P ops Q (o :: rest) a w := by
  obtain ⟨i, hi0, hz0, hz1, hz2⟩ := info_parts hi
  refine wpList_make_full w hg l c t hop base e i z size h1 hi0 hz0 hz1 kl kc L C n hl hc hL hC (by rw [hz2]; exact b2) b3 b4 ?_
  intro w' ho hgr
  exact hK _ w' ho hgr rfl

theorem made_int (k : IntKind) (n : Nat) : (madeCells #[Value.int k 0] n).toList = ints k (List.replicate n 0) := by
  apply List.ext_getElem
  · simp [madeCells, ints]
  · intro i h1 h2
    simp [madeCells, ints, Nat.mod_one]

theorem nats_set (k : IntKind) (xs : List Nat) (j : Nat) (x : Nat) : (nats k xs).set j (.int k (x : Int)) = nats k (xs.set j x) := by simp [nats, List.map_set]
theorem bools_set (xs : List Bool) (j : Nat) (x : Bool) : (bools xs).set j (.bool x) = bools (xs.set j x) := by simp [bools, List.map_set]
theorem made_nat (k : IntKind) (n : Nat) : (madeCells #[Value.int k 0] n).toList = nats k (List.replicate n 0) := by
  apply List.ext_getElem
  · simp [madeCells, nats]
  · intro i h1 h2
    simp [madeCells, nats, Nat.mod_one]
theorem made_bool (n : Nat) : (madeCells #[Value.bool false] n).toList = bools (List.replicate n false) := by
  apply List.ext_getElem
  · simp [madeCells, bools]
  · intro i h1 h2
    simp [madeCells, bools, Nat.mod_one]

theorem ints_set (k : IntKind) (xs : List Int) (j : Nat) (x : Int) : (ints k xs).set j (.int k x) = ints k (xs.set j x) := by simp [ints, List.map_set]

/-- a slice literal -/
theorem Own.lit (w : World) (B : Nat) (e : TypeId) (sz n : Nat) (vs : Array Value) (hb : B ≤ w.heap.size) (hn : vs.size = n * sz) (hm : n ≤ maxLen) :
    Own (w.alloc (.cells vs e)) B e sz (some ⟨w.heap.size, 0, none⟩) n n vs.toList :=
  ⟨by simpa using hn, .inr ⟨w.heap.size, n, vs, rfl, hb, heap_alloc_new w _, Nat.le_refl _, hm, hn, List.take_of_length_le (by rw [Array.length_toList, hn]; exact Nat.le_refl _)⟩⟩

/-- the world has only drawn -/
def Dr (w w' : World) : Prop := ∃ m, w' = w.drewN m
theorem Dr.refl (w : World) : Dr w w := ⟨0, rfl⟩
theorem Dr.drewN {w w' : World} (h : Dr w w') (n : Nat) : Dr w (w'.drewN n) := by
  obtain ⟨m, rfl⟩ := h; exact ⟨m + n, World.drewN_drewN _ _ _⟩
theorem Dr.drew {w w' : World} (h : Dr w w') : Dr w w'.drew := h.drewN 1
theorem Dr.trans {w w' w'' : World} (h : Dr w w') (k : Dr w' w'') : Dr w w'' := by
  obtain ⟨m, rfl⟩ := k; exact h.drewN m
theorem Dr.below {B : Nat} {w w' : World} (h : Dr w w') : Below B w w' := by
  obtain ⟨m, rfl⟩ := h; exact below_drewN m
theorem Dr.size {w w' : World} (h : Dr w w') : w'.heap.size = w.heap.size := by
  obtain ⟨m, rfl⟩ := h; rfl
theorem Sl.dr {w w' : World} {a : Option Addr} {n c sz : Nat} {xs : List Value} (h : Sl w a n c sz xs) (hd : Dr w w') : Sl w' a n c sz xs := h.kept hd.below
theorem Own.dr {w w' : World} {B : Nat} {e : TypeId} {sz : Nat} {a : Option Addr} {n c : Nat} {xs : List Value} (h : Own w B e sz a n c xs) (hd : Dr w w') : Own w' B e sz a n c xs := h.kept hd.below
theorem _root_.Go.RowKit.Below.dr {B : Nat} {a w w' : World} (h : Below B a w) (hd : Dr w w') : Below B a w' := h.trans hd.below

/-- a bool is returned; the world has only drawn -/
def QB (b : Bool) (w : World) (e : Ending) (w' : World) : Prop := e = .returned (.bool b) ∧ Dr w w'

theorem Fr.mono {w w1 : World} {a : Option Addr} (h : Fr w1 a) (hb : w.heap.size ≤ w1.heap.size) : Fr w a := fun ad ha => Nat.le_trans hb (h ad ha)
theorem Fr.ne {w : World} {a : Option Addr} (h : Fr w a) {g : Nat} (hg : g < w.heap.size) : ∀ ad, a = some ad → some ad.block ≠ some g := by
  intro ad ha hx
  have := h ad ha
  simp at hx; omega
theorem grown_trans {a b c : World} {row : Option Nat} (h : a.grownBy b row) (k : b.grownBy c row) : a.grownBy c row :=
  ⟨k.os.trans h.os, k.tape.trans h.tape, k.output.trans h.output, Nat.le_trans h.size k.size, fun i hi hr => (k.block i (by have := h.size; omega) hr).trans (h.block i hi hr)⟩
/-- a store turns one block alone -/
theorem grown_set (w : World) (p : Addr) (u : Value) : w.grownBy (w.setCell p u) (some p.block) :=
  ⟨rfl, rfl, rfl, by simp [World.setCell], fun k _ hr => Below.heap_setCell _ _ _ _ (fun e => hr (by rw [e]))⟩
theorem grown_set2 (w : World) (g o1 o2 : Nat) (u1 u2 : Value) : w.grownBy ((w.setCell ⟨g, o1, none⟩ u1).setCell ⟨g, o2, none⟩ u2) (some g) := grown_trans (grown_set _ _ _) (grown_set _ _ _)
theorem grown_set3 (w : World) (g o1 o2 o3 : Nat) (u1 u2 u3 : Value) : w.grownBy (((w.setCell ⟨g, o1, none⟩ u1).setCell ⟨g, o2, none⟩ u2).setCell ⟨g, o3, none⟩ u3) (some g) := grown_trans (grown_set2 _ _ _ _ _ _) (grown_set _ _ _)

theorem cell_at (W : World) (vs : Array Value) (e : TypeId) (B o : Nat) (u : Value) (h : W.heap.size = B) (hu : vs[o]? = some u) : (W.alloc (.cells vs e)).cell? ⟨B, o, none⟩ = some u := by
  subst h
  rw [cell_of_row (W.alloc (.cells vs e)) W.heap.size o vs e (0, 0) (heap_alloc_new W _)]; exact hu
theorem frozen_at (W : World) (vs : Array Value) (e : TypeId) (B o : Nat) (h : W.heap.size = B) : (W.alloc (.cells vs e)).frozen? ⟨B, o, none⟩ = false := by
  subst h
  unfold World.frozen?
  rw [heap_alloc_new W]
  simp
theorem cell_drew (w : World) (p : Addr) : w.drew.cell? p = w.cell? p := rfl
theorem frozen_drew (w : World) (p : Addr) : w.drew.frozen? p = w.frozen? p := rfl
theorem far1 (w : World) (g o1 b o : Nat) (u1 : Value) (h : b ≠ g) : (w.setCell ⟨g, o1, none⟩ u1).cell? ⟨b, o, none⟩ = w.cell? ⟨b, o, none⟩ :=
  World.cell?_of_block (w := w) (Below.heap_setCell _ _ _ _ h)
theorem far2 (w : World) (g o1 o2 b o : Nat) (u1 u2 : Value) (h : b ≠ g) : ((w.setCell ⟨g, o1, none⟩ u1).setCell ⟨g, o2, none⟩ u2).cell? ⟨b, o, none⟩ = w.cell? ⟨b, o, none⟩ := by
  rw [far1 _ _ _ _ _ _ h, far1 _ _ _ _ _ _ h]
theorem far3 (w : World) (g o1 o2 o3 b o : Nat) (u1 u2 u3 : Value) (h : b ≠ g) : (((w.setCell ⟨g, o1, none⟩ u1).setCell ⟨g, o2, none⟩ u2).setCell ⟨g, o3, none⟩ u3).cell? ⟨b, o, none⟩ = w.cell? ⟨b, o, none⟩ := by
  rw [far1 _ _ _ _ _ _ h, far2 _ _ _ _ _ _ _ _ h]

/-- below the heap's old size every cell reads as before: two rules for the walk -/
theorem bcell {W w1 : World} (hb : Below W.heap.size W w1) : (∀ b o, b < W.heap.size → w1.cell? ⟨b, o, none⟩ = W.cell? ⟨b, o, none⟩) ∧ (∀ b o, b < W.heap.size → w1.frozen? ⟨b, o, none⟩ = W.frozen? ⟨b, o, none⟩) :=
  ⟨fun b o h => hb.cell (p := ⟨b, o, none⟩) h, fun b o h => hb.frozen (p := ⟨b, o, none⟩) h⟩

/-- the second slice does not lie in the first one's block -/
def Off (p q : Option Addr) : Prop := ∀ gd ad, p = some gd → q = some ad → ad.block ≠ gd.block
theorem Off.nil (q : Option Addr) : Off none q := fun _ _ h => by cases h
theorem Off.app {w w' : World} {B : Nat} {e : TypeId} {sz : Nat} {sa : Option Addr} {n : Nat} {a' : Option Addr} {n' c' : Nat} {ys : List Value} {q : Option Addr} (h : Off sa q) (hap : Appd w w' B e sz sa n a' n' c' ys) (hq : ∀ ad, q = some ad → ad.block < w.heap.size) : Off a' q := by
  intro gd ad hg ha hx
  subst hg ha
  rcases hap.at' with h1 | h1 | h1
  · cases sa with
    | none => simp [blk] at h1
    | some sd => simp [blk] at h1; exact h sd ad rfl rfl (by omega)
  · simp [blk] at h1; have := hq ad rfl; omega
  · simp [blk] at h1
theorem Off.fresh {w : World} {B : Nat} {e : TypeId} {sz : Nat} {a : Option Addr} {n c : Nat} {xs : List Value} {q : Option Addr} (hown : Own w B e sz a n c xs) (hf : Fr w q) : Off a q := by
  intro gd ad hg ha hx
  subst hg ha
  have h1 := (hown.lt gd.block rfl).2
  have h2 := hf ad rfl
  omega
theorem Off.old {w : World} {B : Nat} {e : TypeId} {sz : Nat} {a : Option Addr} {n c : Nat} {xs : List Value} {q : Option Addr} (hown : Own w B e sz a n c xs) (hq : ∀ ad, q = some ad → ad.block < B) : Off a q := by
  intro gd ad hg ha hx
  subst hg ha
  have h1 := (hown.lt gd.block rfl).1
  have h2 := hq ad rfl
  omega
theorem Off.ne {p q : Option Addr} (h : Off p q) : ∀ ad, q = some ad → some ad.block ≠ blk p := by
  intro ad ha hx
  cases p with
  | none => simp [blk] at hx
  | some gd => simp [blk] at hx; exact h gd ad rfl ha hx

/-- 'append(out, x)' of one element, which the walk has just laid into a new block -/
theorem app1 {P : Program} {w0 wS : World} {ops : Array Oper} {rest : List Oper} {o : Oper} {a : Act} {Q : Exit → Act → World → Prop} {us : Array Value} (T E : TypeId) (z : Value) (sz bytes : Nat)
    (ht : P.underlying T = some (.slice E)) (hi : (P.info? E).map (fun i => (i.zero, i.size, i.bytes)) = some (some z, sz, bytes)) (hz : z.cells.size = sz) (hs0 : 0 < sz) (hb0 : 0 < bytes)
    (hgd : o.guard = none) (s x : Operand) (ho : o.op = .call { callee := .builtin .append, args := #[s, x], argTypes := #[T, T] })
    (base : Nat) (sa : Option Addr) (n c : Nat) (xs : List Value) (hown : Own w0 base E sz sa n c xs) (hbel : Below base wS w0) (hbase : base ≤ w0.heap.size)
    (hs : a.eval s = .slice sa n c) (hx : a.eval x = .slice (some ⟨w0.heap.size, 0, none⟩) 1 1) (hus : us.size = sz) (hu : ∀ u ∈ us.toList, u.oneCell' = true) (hbytes : (n + 1) * bytes ≤ 140737488355328)
    (h : ∀ a' c' w', Appd (w0.alloc (.cells us E)) w' base E sz sa n a' (n + 1) c' (xs ++ us.toList) → Below base wS w' → base ≤ w'.heap.size → wpList P ops Q rest (a.put o.dst (.slice a' (n + 1) c')) w') :
    wpList P ops Q (o :: rest) a (w0.alloc (.cells us E)) := by
  have hle : n + 1 ≤ (n + 1) * bytes := Nat.le_mul_of_pos_right _ hb0
  refine wpList_app hgd s x T ho base E z sz bytes ht hi hz hs0 sa n c xs hs (hown.alloc _) _ 1 1 us.toList hx (by simpa using hus) (cell_new _ _ _) hu hbytes (by unfold maxLen; omega) (by simp; omega) ?_
  intro a' c' w' hap
  refine h a' c' w' hap (hap.below (hown.alloc _) (hbel.alloc hbase _) (by simp; omega)) ?_
  have := hap.size; simp at this; omega

/-- the same at a step of a region that draws -/
theorem sapp1 {P : Program} {w0 wS : World} {ops : Array Oper} {o : Oper} {a : Act} {K : Act → World → Prop} {Q : Exit → Act → World → Prop} {F : Prop} {us : Array Value} (T E : TypeId) (z : Value) (sz bytes : Nat)
    (ht : P.underlying T = some (.slice E)) (hi : (P.info? E).map (fun i => (i.zero, i.size, i.bytes)) = some (some z, sz, bytes)) (hz : z.cells.size = sz) (hs0 : 0 < sz) (hb0 : 0 < bytes)
    (hgd : o.guard = none) (s x : Operand) (ho : o.op = .call { callee := .builtin .append, args := #[s, x], argTypes := #[T, T] })
    (base : Nat) (sa : Option Addr) (n c : Nat) (xs : List Value) (hown : Own w0 base E sz sa n c xs) (hbel : Below base wS w0) (hbase : base ≤ w0.heap.size)
    (hs : a.eval s = .slice sa n c) (hx : a.eval x = .slice (some ⟨w0.heap.size, 0, none⟩) 1 1) (hus : us.size = sz) (hu : ∀ u ∈ us.toList, u.oneCell' = true) (hbytes : (n + 1) * bytes ≤ 140737488355328)
    (h : ∀ a' c' w', Appd (w0.alloc (.cells us E)).drew w' base E sz sa n a' (n + 1) c' (xs ++ us.toList) → Below base wS w' → base ≤ w'.heap.size → K (a.put o.dst (.slice a' (n + 1) c')) w') :
    if Region.wanted o (yielded ops a.tmps) = true then Oper.wp P o a (w0.alloc (.cells us E)).drew K Q else F := by
  have hle : n + 1 ≤ (n + 1) * bytes := Nat.le_mul_of_pos_right _ hb0
  refine step_app hgd s x T ho base E z sz bytes ht hi hz hs0 sa n c xs hs ((hown.alloc _).drew) _ 1 1 us.toList hx (by simpa using hus) (cell_new _ _ _) hu hbytes (by unfold maxLen; omega) (by simp; omega) ?_
  intro a' c' w' hap
  refine h a' c' w' hap (hap.below ((hown.alloc _).drew) ((hbel.alloc hbase _).drew) (by simp; omega)) ?_
  have := hap.size; simp at this; omega

end Go.Q
