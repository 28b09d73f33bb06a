import Derived.Great.BuildSlice
import Derived.KernelRfl
import Derived.Test.YtajpdnphamomjaaDoorGY
import Derived.Lib.AppendIntMem
import Derived.Lib.ItoaLen
import Derived.Test.YtajpdnphamomjaaDoorPackFractionOf1

/- The calculus, tenth part: slices, quotients, shifts. -/


namespace Go.V
open Go Go.RowKit Go.Q

/-- a slice type, its elements' type, their zero, cells and bytes -/
structure TyS (P : Program) (t e : TypeId) (z : Value) (sz bytes : Nat) : Prop where
  ht : P.underlying t = some (.slice e)
  hi : (P.info? e).map (fun i => (i.zero, i.size, i.bytes)) = some (some z, sz, bytes)
theorem TyS.size {P : Program} {t e : TypeId} {z : Value} {sz bytes : Nat} (T : TyS P t e z sz bytes) {w : World} : (sizeOf e).run P w = .ok sz w := by
  obtain ⟨i, h1, _, h2, _⟩ := info_parts T.hi
  subst h2
  refine run_sizeOf ?_
  unfold sizeIs; rw [h1]; simp

theorem least_nat {P : Nat → Prop} (h : ∃ n, P n) : ∃ n, P n ∧ ∀ m, P m → n ≤ m := by
  obtain ⟨n, hn⟩ := h
  induction n using Nat.strongRecOn with
  | ind n ih =>
    by_cases hm : ∃ m, m < n ∧ P m
    · obtain ⟨m, h1, h2⟩ := hm
      exact ih m h1 h2
    · exact ⟨n, hn, fun m hp => by
        rcases Nat.lt_or_ge m n with q | q
        · exact absurd ⟨m, q, hp⟩ hm
        · exact q⟩
/-- a loop with a ghost: what is true of a round, and its measure, hang on a value that the code does not hold -/
theorem loop_gh {G T : Type} {x0 : T} {w0 : World} {body : (T → World → Prop) → T → World → Prop} (I : G → T → World → Prop) (μ : G → Nat) (g0 : G) (h0 : I g0 x0 w0)
    (h : ∀ g x w, I g x w → ∀ again, (∀ g' x' w', I g' x' w' → μ g' < μ g → again x' w') → body again x w) : loop x0 w0 body := by
  classical
  let P : T → World → Nat → Prop := fun x w n => ∃ g, I g x w ∧ μ g = n
  let m : T → World → Nat := fun x w => if hx : ∃ n, P x w n then Classical.choose (least_nat hx) else 0
  have spec : ∀ x w, (∃ g, I g x w) → ∃ g, I g x w ∧ μ g = m x w := by
    intro x w ⟨g, hg⟩
    have hx : ∃ n, P x w n := ⟨μ g, g, hg, rfl⟩
    have := (Classical.choose_spec (least_nat hx)).1
    simp only [m, hx, dif_pos]; exact this
  have least : ∀ x w g, I g x w → m x w ≤ μ g := by
    intro x w g hg
    have hx : ∃ n, P x w n := ⟨μ g, g, hg, rfl⟩
    simp only [m, hx, dif_pos]
    exact (Classical.choose_spec (least_nat hx)).2 _ ⟨g, hg, rfl⟩
  refine ⟨fun x w => ∃ g, I g x w, m, ⟨g0, h0⟩, fun x w hI => ?_⟩
  obtain ⟨g, hg, hm⟩ := spec x w hI
  exact h g x w hg _ fun g' x' w' hg' hl => ⟨⟨g', hg'⟩, by have := least x' w' g' hg'; omega⟩

/-! ### elements -/
theorem idx_mk {P : Program} {t e : TypeId} {z : Value} {sz bytes : Nat} (T : TyS P t e z sz bytes) {a : Option Addr} {ad : Addr} {n c j : Nat} {k : IntKind} {i : Int} {K : Addr → Prop} (hj : i = (j : Int)) (h : j < n) (ha : a = some ad) (hk : K (ad.add (j * sz))) :
    rdp P (Instr.indexAt t (.slice a n c) (.int k i)) (.one .addr) K := by
  subst hj ha
  refine ⟨ad.add (j * sz), fun w => ?_, hk⟩
  unfold Instr.indexAt asIntOf
  simp only [Sem.run_bind, Sem.run_pure, Result.andThen_ok, run_underlying T.ht]
  rw [if_pos ⟨by omega, by omega⟩]
  simp only [Sem.run_bind, T.size, Result.andThen_ok, Int.toNat_natCast]
  rfl
/-- an element of one cell is read -/
theorem at_mk {P : Program} {t e : TypeId} {z : Value} {bytes : Nat} (T : TyS P t e z 1 bytes) (he : scal P e = true) {w : World} {a : Option Addr} {n c j : Nat} {xs : List Value} (H : Sl w a n c 1 xs) {k : IntKind} {i : Int} {s : Sh} {v : Value} {x : s.T} {K : s.T → Prop}
    (hj : i = (j : Int)) (hv : xs[j]? = some v) (hx : s.get v = some x) (hk : K x) :
    rdp P (Instr.indexAt t (.slice a n c) (.int k i)) (.one .addr) fun ad => rd P (Instr.loadAt e (.pointer (some ad))) (.one s) w K := by
  obtain ⟨ad, h1, h2, _⟩ := H.at' j v hv
  have hn : j < n := by have := (List.getElem?_eq_some_iff.1 hv).1; have := H.len; omega
  refine idx_mk T hj hn h1 ?_
  rw [Nat.mul_one]
  exact rd_cell he h2 hx hk
theorem at_nat {P : Program} {t e : TypeId} {z : Value} {bytes : Nat} (T : TyS P t e z 1 bytes) (he : scal P e = true) {w : World} {a : Option Addr} {n c j : Nat} {kk : IntKind} {xs : List Nat} (H : Sl w a n c 1 (nats kk xs)) {k : IntKind} {i : Int} {K : Int → Prop}
    (hj : i = (j : Int)) (hn : j < n) (hk : ∀ x : Nat, xs[j]? = some x → K (x : Int)) :
    rdp P (Instr.indexAt t (.slice a n c) (.int k i)) (.one .addr) fun ad => rd P (Instr.loadAt e (.pointer (some ad))) (.one (.int kk)) w K := by
  have hl := H.nat
  obtain ⟨x, hx⟩ : ∃ x, xs[j]? = some x := ⟨_, List.getElem?_eq_getElem (by omega)⟩
  exact at_mk T he H (s := .int kk) (v := .int kk (x : Int)) hj (by simp [nats, hx]) (by simp [Sh.get]) (hk x hx)
theorem at_int {P : Program} {t e : TypeId} {z : Value} {bytes : Nat} (T : TyS P t e z 1 bytes) (he : scal P e = true) {w : World} {a : Option Addr} {n c j : Nat} {kk : IntKind} {xs : List Int} (H : Sl w a n c 1 (ints kk xs)) {k : IntKind} {i : Int} {K : Int → Prop}
    (hj : i = (j : Int)) (hn : j < n) (hk : ∀ x : Int, xs[j]? = some x → K x) :
    rdp P (Instr.indexAt t (.slice a n c) (.int k i)) (.one .addr) fun ad => rd P (Instr.loadAt e (.pointer (some ad))) (.one (.int kk)) w K := by
  have hl := H.int
  obtain ⟨x, hx⟩ : ∃ x, xs[j]? = some x := ⟨_, List.getElem?_eq_getElem (by omega)⟩
  exact at_mk T he H (s := .int kk) (v := .int kk x) hj (by simp [ints, hx]) (by simp [Sh.get]) (hk x hx)
theorem at_bool {P : Program} {t e : TypeId} {z : Value} {bytes : Nat} (T : TyS P t e z 1 bytes) (he : scal P e = true) {w : World} {a : Option Addr} {n c j : Nat} {xs : List Bool} (H : Sl w a n c 1 (bools xs)) {k : IntKind} {i : Int} {K : Bool → Prop}
    (hj : i = (j : Int)) (hn : j < n) (hk : ∀ x : Bool, xs[j]? = some x → K x) :
    rdp P (Instr.indexAt t (.slice a n c) (.int k i)) (.one .addr) fun ad => rd P (Instr.loadAt e (.pointer (some ad))) (.one .bool) w K := by
  have hl := H.bool
  obtain ⟨x, hx⟩ : ∃ x, xs[j]? = some x := ⟨_, List.getElem?_eq_getElem (by omega)⟩
  exact at_mk T he H (s := .bool) (v := .bool x) hj (by simp [bools, hx]) rfl (hk x hx)
theorem at_hdr {P : Program} {t e : TypeId} {z : Value} {bytes : Nat} (T : TyS P t e z 1 bytes) (he : scal P e = true) {w : World} {a : Option Addr} {n c j : Nat} {hs : List Hdr} (H : Sl w a n c 1 (hs.map hv)) {k : IntKind} {i : Int} {K : (Option Addr × Nat × Nat) → Prop}
    (hj : i = (j : Int)) (hn : j < n) (hk : ∀ x : Hdr, hs[j]? = some x → K x) :
    rdp P (Instr.indexAt t (.slice a n c) (.int k i)) (.one .addr) fun ad => rd P (Instr.loadAt e (.pointer (some ad))) (.one .slice) w K := by
  have hl : hs.length = n := by have := H.len; simpa using this
  obtain ⟨x, hx⟩ : ∃ x, hs[j]? = some x := ⟨_, List.getElem?_eq_getElem (by omega)⟩
  exact at_mk T he H (s := .slice) (v := hv x) hj (by simp [hx]) rfl (hk x hx)

/-! ### elements of several cells -/
theorem add_add (a : Addr) (m o : Nat) : (a.add m).add o = a.add (m + o) := by
  rcases Nat.eq_zero_or_pos m with h | h
  · subst h; rw [Go.Q.add_zero, Nat.zero_add]
  · rcases Nat.eq_zero_or_pos o with h' | h'
    · subst h'; rw [Go.Q.add_zero, Nat.add_zero]
    · obtain ⟨m, rfl⟩ : ∃ k, m = k + 1 := ⟨m - 1, by omega⟩
      obtain ⟨o, rfl⟩ : ∃ k, o = k + 1 := ⟨o - 1, by omega⟩
      rw [addr_succ, addr_succ, show m + 1 + (o + 1) = (m + 1 + o) + 1 by omega, addr_succ]
      show (⟨a.block, a.off + (m + 1) + (o + 1), none⟩ : Addr) = ⟨a.block, a.off + (m + 1 + o + 1), none⟩
      congr 1; omega
theorem flat_get {α : Type} {enc : α → List Value} {sz : Nat} (he : ∀ a, (enc a).length = sz) : ∀ {L : List α} {j : Nat} {p : α} (_ : L[j]? = some p) {o : Nat} (_ : o < sz), (L.flatMap enc)[j * sz + o]? = (enc p)[o]?
  | [], j, p, hp, o, ho => by simp at hp
  | x :: L, 0, p, hp, o, ho => by
    simp at hp; subst hp
    rw [Nat.zero_mul, Nat.zero_add, List.flatMap_cons, List.getElem?_append_left (by rw [he]; exact ho)]
  | x :: L, j + 1, p, hp, o, ho => by
    simp at hp
    have e : (j + 1) * sz + o = sz + (j * sz + o) := by rw [Nat.add_mul, Nat.one_mul]; omega
    rw [e, List.flatMap_cons, List.getElem?_append_right (by rw [he]; omega), he, Nat.add_sub_cancel_left]
    exact flat_get he hp ho
theorem flat_len {α : Type} {enc : α → List Value} {sz : Nat} (he : ∀ a, (enc a).length = sz) : ∀ (L : List α), (L.flatMap enc).length = L.length * sz
  | [] => by simp
  | x :: L => by rw [List.flatMap_cons, List.length_append, he, flat_len he L, List.length_cons, Nat.add_mul, Nat.one_mul, Nat.add_comm]
theorem idx_agg {P : Program} {t e : TypeId} {z : Value} {sz bytes : Nat} (T : TyS P t e z sz bytes) {α : Type} {enc : α → List Value} (he : ∀ a, (enc a).length = sz) (h0 : 0 < sz) {w : World} {a : Option Addr} {n c j : Nat} {L : List α} (H : Sl w a n c sz (L.flatMap enc)) {k : IntKind} {i : Int} {p : α} {K : Addr → Prop}
    (hj : i = (j : Int)) (hp : L[j]? = some p) (hk : ∀ ad, (∀ o v, (enc p)[o]? = some v → w.cell? (ad.add o) = some v) → K ad) : rdp P (Instr.indexAt t (.slice a n c) (.int k i)) (.one .addr) K := by
  have hlen := H.len
  rw [flat_len he] at hlen
  have hL : L.length = n := Nat.eq_of_mul_eq_mul_right h0 hlen
  have hjl := (List.getElem?_eq_some_iff.1 hp).1
  obtain ⟨u, hu⟩ : ∃ u, (enc p)[0]? = some u := ⟨_, List.getElem?_eq_getElem (by rw [he]; exact h0)⟩
  have hu' := flat_get he hp h0
  rw [hu] at hu'
  obtain ⟨ad, h1, _, _⟩ := H.at' _ _ hu'
  refine idx_mk T hj (by omega) h1 (hk _ fun o v hv => ?_)
  have ho : o < sz := by have := (List.getElem?_eq_some_iff.1 hv).1; rw [he] at this; exact this
  have hg := flat_get he hp ho
  rw [hv] at hg
  obtain ⟨ad', h2, h3, _⟩ := H.at' _ _ hg
  rw [h1] at h2; cases h2
  rw [add_add]; exact h3
theorem at_agg {P : Program} {t e : TypeId} {z : Value} {sz bytes : Nat} (T : TyS P t e z sz bytes) (ht : aggOf P e sz = true) {α : Type} {enc : α → List Value} (he : ∀ a, (enc a).length = sz) (h0 : 0 < sz) {w : World} {a : Option Addr} {n c j : Nat} {L : List α} (H : Sl w a n c sz (L.flatMap enc)) {k : IntKind} {i : Int} {p : α} {l : List Sh} {x : LT l} {K : LT l → Prop}
    (hj : i = (j : Int)) (hp : L[j]? = some p) (hx : Lget l (enc p) = some x) (hk : K x) : rdp P (Instr.indexAt t (.slice a n c) (.int k i)) (.one .addr) fun ad => rd P (Instr.loadAt e (.pointer (some ad))) (.agg l) w K :=
  idx_agg T he h0 H hj hp fun ad h => rd_cells (by rw [he]; exact ht) h hx hk

/-- an element of one cell is written -/
theorem wu_own {P : Program} {e : TypeId} (hs : sizeIs P e 1 = true) {w : World} {B : Nat} {e' : TypeId} {ad : Addr} {n c j : Nat} {xs : List Value} (O : Own w B e' 1 (some ad) n c xs) {v : Value} {K : World → Prop} (hn : j < n) (hp : v.oneCell' = true)
    (hk : ∀ w', Own w' B e' 1 (some ad) n c (xs.set j v) → w.grownBy w' (blk (some ad)) → w'.heap.size = w.heap.size → K w') :
    wu P (Instr.storeAt e (.pointer (some (ad.add j))) v) w K := by
  have hvc : v.cells = #[v] := by cases v <;> first | rfl | (simp [Value.oneCell'] at hp)
  have hl : xs.length = n := by have := O.1; omega
  obtain ⟨u, hu⟩ : ∃ u, xs[j]? = some u := ⟨_, List.getElem?_eq_getElem (by omega)⟩
  obtain ⟨ad', h1, hc, hfz, _⟩ := O.cell (j := j) hu
  cases h1
  have hg := setCell_grown w (ad.add j) v
  rw [add_block] at hg
  refine ⟨_, ?_, hk _ (O.set j v) hg (setCell_size _ _ _)⟩
  unfold Instr.storeAt Instr.sureAddr storeVar
  simp only [Sem.run_bind, Sem.run_pure, Result.andThen_ok, run_sizeOf hs, hvc, List.size_toArray, List.length_cons, List.length_nil, Nat.zero_add, ne_eq, not_true_eq_false, if_false]
  simp only [storeCells, Sem.run_bind]
  rw [add_zero, run_store P w (ad.add j) v .plain hp, hc]
  simp only [hfz, Bool.false_eq_true, if_false, Result.andThen_ok, Sem.run_pure]
theorem set_mk {P : Program} {t e : TypeId} {z : Value} {bytes : Nat} (T : TyS P t e z 1 bytes) {w : World} {B : Nat} {a : Option Addr} {n c j : Nat} {xs : List Value} (O : Own w B e 1 a n c xs) {k : IntKind} {i : Int} {v : Value} {K : World → Prop}
    (hj : i = (j : Int)) (hn : j < n) (hp : v.oneCell' = true)
    (hk : ∀ w', Own w' B e 1 a n c (xs.set j v) → w.grownBy w' (blk a) → w'.heap.size = w.heap.size → K w') :
    rdp P (Instr.indexAt t (.slice a n c) (.int k i)) (.one .addr) fun ad => wu P (Instr.storeAt e (.pointer (some ad)) v) w K := by
  have hl : xs.length = n := by have := O.1; omega
  obtain ⟨u, hu⟩ : ∃ u, xs[j]? = some u := ⟨_, List.getElem?_eq_getElem (by omega)⟩
  obtain ⟨ad, h1, _⟩ := O.cell (j := j) hu
  subst h1
  refine idx_mk T hj hn rfl ?_
  rw [Nat.mul_one]
  refine wu_own ?_ O hn hp hk
  obtain ⟨i, h1, _, h2, _⟩ := info_parts T.hi
  unfold sizeIs; rw [h1]; simp [h2]

/-! ### literals, make, append -/
theorem wr_lit {P : Program} {t e : TypeId} {z : Value} {sz bytes : Nat} (T : TyS P t e z sz bytes) {w : World} {n : Nat} {parts : Array (Nat × Value)} {k : (Option Addr × Nat × Nat) → World → Prop} (cells : Array Value)
    (hf : Instr.fill (fun i => some (i * sz, sz)) ((Array.range (n * sz)).map (z.cells[· % z.cells.size]!)) parts.toList = some cells) (h0 : n * sz ≠ 0) (hl : n * sz ≤ 16777216) (hc : cells.size = n * sz) (hm : n ≤ maxLen)
    (hk : ∀ ad w', (∀ B, B ≤ w.heap.size → Own w' B e sz (some ad) n n cells.toList) → bel w w' → ad.block = w.heap.size → w'.heap.size = w.heap.size + 1 → k (some ad, n, n) w') :
    wr P (Instr.buildSlice t n parts) (.one .slice) w k := by
  refine ⟨(some ⟨w.heap.size, 0, none⟩, n, n), w.alloc (.cells cells e), ?_, hk _ _ (fun B hB => Own.lit w B e sz n cells hB hc hm) (bel_alloc _ _) rfl (by simp)⟩
  obtain ⟨i, hi0, hz0, hz1, hz2⟩ := info_parts T.hi
  subst hz1
  unfold Instr.buildSlice
  simp only [Sem.run_bind, run_underlying T.ht, Result.andThen_ok, T.size]
  rw [if_neg (by omega), if_neg h0]
  simp only [Sem.run_bind, Sem.run_pure, Result.andThen_ok]
  have hzv : (zeroValue e).run P w = .ok z w := by
    unfold zeroValue typeInfo
    simp only [Sem.run_bind, run_program, Result.andThen_ok, hi0, Sem.run_pure, hz0]
  simp only [hzv, Result.andThen_ok, hf]
  rfl
theorem fill_one (sz : Nat) (v : Value) (zs : Array Value) (h1 : v.cells.size = sz) (h2 : zs.size = sz) : Instr.fill (fun i => some (i * sz, sz)) zs [(0, v)] = some v.cells := by
  unfold Instr.fill
  simp only [Nat.zero_mul, Nat.zero_add, h1, h2, ne_eq, not_true_eq_false, decide_false, Nat.lt_irrefl, gt_iff_lt, Bool.or_self, Bool.false_eq_true, if_false]
  unfold Instr.fill
  congr 1
  have key : ∀ (l : List Value) (m : Nat) (cs : Array Value), m + l.length = cs.size → (l.zipIdx m).foldl (fun (cs : Array Value) (p : Value × Nat) => cs.setIfInBounds p.2 p.1) cs = (cs.toList.take m ++ l).toArray := by
    intro l
    induction l with
    | nil => intro m cs h; simp at h; simp [h, List.take_of_length_le]
    | cons x l ih =>
      intro m cs h
      simp only [List.length_cons] at h
      simp only [List.zipIdx_cons, List.foldl_cons]
      rw [ih (m + 1) _ (by simp; omega)]
      congr 1
      rw [Array.toList_setIfInBounds]
      have hm : m < cs.toList.length := by simp; omega
      rw [List.take_set, List.take_add_one]
      have h3 : (List.take m cs.toList).length = m := by rw [List.length_take]; omega
      rw [List.getElem?_eq_getElem hm, List.set_append, if_neg (by omega), h3]
      simp
  have := key v.cells.toList 0 zs (by simp; omega)
  simp only [List.take_zero, List.nil_append] at this
  rw [← Array.foldl_toList, Array.toList_zipIdx, this]
/-- 'append(s, v)': an element is laid behind -/
theorem wr_app1 {P : Program} {t e : TypeId} {z : Value} {sz bytes : Nat} (T : TyS P t e z sz bytes) {w : World} {B : Nat} {sa : Option Addr} {n c : Nat} {xs : List Value} (O : Own w B e sz sa n c xs) {ty : TypeId} {v : Value} {k : (Option Addr × Nat × Nat) → World → Prop}
    (hB : B ≤ w.heap.size) (hz : z.cells.size = sz) (hs : 0 < sz) (hsl : sz ≤ 16777216) (hv : v.cells.size = sz) (hp : plainV v.cells.toList = true) (hb : (n + 1) * bytes ≤ 140737488355328) (hn : n + 1 ≤ maxLen)
    (hk : ∀ a' c' w', Own w' B e sz a' (n + 1) c' (xs ++ v.cells.toList) → w.grownBy w' (blk sa) → (blk a' = blk sa ∨ (∀ b, blk a' = some b → w.heap.size ≤ b)) → w.heap.size ≤ w'.heap.size → k (a', n + 1, c') w') :
    wr P (Instr.buildSlice t 1 #[(0, v)]) (.one .slice) w fun x w1 => wr P (Builtin.append_ #[t, t] ty #[.slice sa n c, .slice x.1 x.2.1 x.2.2]) (.one .slice) w1 k := by
  refine wr_lit T v.cells (fill_one sz v _ hv (by simp)) (by omega) (by omega) (by omega) (by unfold maxLen; omega) fun ad w1 L h1 h2 h3 => ?_
  have O1 : Own w1 B e sz sa n c xs := O.kept h1
  have L1 := L B hB
  have hl : v.cells.toList.length = 1 * sz := by simpa using hv
  obtain ⟨a', c', w2, hr, hA⟩ := run_app (P := P) w1 t ty B e z sz bytes T.ht T.hi hz hs sa n c xs O1 ad 1 1 v.cells.toList hl (fun j u hj => by
      obtain ⟨ad', q1, q2, _⟩ := L1.cell (j := j) hj
      cases q1; exact q2) (fun u hu => by
      unfold plainV at hp; rw [List.all_eq_true] at hp; exact hp u hu) hb hn (by omega)
  refine ⟨(a', n + 1, c'), w2, hr, hk a' c' w2 hA.own ((grown_of_bel h1 _).trans hA.grown) ?_ (by have := hA.size; omega)⟩
  rcases hA.at' with q | q | q
  · exact .inl q
  · exact .inr fun b hb => by rw [q] at hb; cases hb; omega
  · exact .inr fun b hb => by rw [q] at hb; cases hb
/-- 'make([]T, n)' -/
theorem wr_make {P : Program} {t e : TypeId} {z : Value} {sz bytes : Nat} (T : TyS P t e z sz bytes) {w : World} {kl kc : IntKind} {L C : Int} {k : (Option Addr × Nat × Nat) → World → Prop} (n : Nat) (hL : L = (n : Int)) (hC : C = (n : Int)) (hb : bytes * n ≤ 281474976710656) (hn : n ≤ maxLen)
    (hk : ∀ ad w', (∀ B, B ≤ w.heap.size → Own w' B e sz (some ad) n n (madeCells z.cells (n * sz)).toList) → bel w w' → ad.block = w.heap.size → w'.heap.size = w.heap.size + 1 → k (some ad, n, n) w') :
    wr P (Instr.makeSlice t (.int kl L) (.int kc C)) (.one .slice) w k := by
  obtain ⟨i, hi0, hz0, hz1, hz2⟩ := info_parts T.hi
  subst hL hC hz1 hz2
  have h63' : (n : Int) ≤ 9223372036854775807 := by unfold maxLen at hn; omega
  have hb' : (i.bytes : Int) * (n : Int) ≤ 281474976710656 := by
    have h : ((i.bytes * n : Nat) : Int) ≤ 281474976710656 := by omega
    rwa [Int.natCast_mul] at h
  have hr := run_make (P := P) w t e i z T.ht hi0 hz0 kl kc n n (by omega) (Int.le_refl _) hb' h63'
  simp only [Int.toNat_natCast] at hr
  exact ⟨(some ⟨w.heap.size, 0, none⟩, n, n), _, hr, hk _ _ (fun B hB => World.ownsRow_lit w _ n hB hn (size_madeCells _ _)) (bel_alloc _ _) rfl (by simp)⟩
/-- 'make([]T, 0, c)' -/
theorem wr_make0 {P : Program} {t e : TypeId} {z : Value} {sz bytes : Nat} (T : TyS P t e z sz bytes) {w : World} {kl kc : IntKind} {C : Int} {k : (Option Addr × Nat × Nat) → World → Prop} (c : Nat) (hC : C = (c : Int)) (hb : bytes * c ≤ 281474976710656) (hn : c ≤ maxLen)
    (hk : ∀ ad w', (∀ B, B ≤ w.heap.size → Own w' B e sz (some ad) 0 c []) → bel w w' → ad.block = w.heap.size → w'.heap.size = w.heap.size + 1 → k (some ad, 0, c) w') :
    wr P (Instr.makeSlice t (.int kl 0) (.int kc C)) (.one .slice) w k := by
  obtain ⟨i, hi0, hz0, hz1, hz2⟩ := info_parts T.hi
  subst hC hz1 hz2
  have h63' : (c : Int) ≤ 9223372036854775807 := by unfold maxLen at hn; omega
  have hb' : (i.bytes : Int) * (c : Int) ≤ 281474976710656 := by
    have h : ((i.bytes * c : Nat) : Int) ≤ 281474976710656 := by omega
    rwa [Int.natCast_mul] at h
  have hr := run_make (P := P) w t e i z T.ht hi0 hz0 kl kc 0 c (Int.le_refl _) (by omega) hb' h63'
  simp only [Int.toNat_natCast, Int.toNat_zero] at hr
  exact ⟨(some ⟨w.heap.size, 0, none⟩, 0, c), _, hr, hk _ _ (fun B hB => World.ownsRow_made w _ c hB hn (size_madeCells _ _)) (bel_alloc _ _) rfl (by simp)⟩
/-- 'T{}' -/
theorem wr_lit0 {P : Program} {t e : TypeId} {z : Value} {sz bytes : Nat} (T : TyS P t e z sz bytes) {w : World} {k : (Option Addr × Nat × Nat) → World → Prop}
    (hk : ∀ ad w', (∀ B, B ≤ w.heap.size → Own w' B e sz (some ad) 0 0 []) → bel w w' → ad.block = w.heap.size → w'.heap.size = w.heap.size + 1 → k (some ad, 0, 0) w') :
    wr P (Instr.buildSlice t 0 #[]) (.one .slice) w k := by
  refine ⟨(some ⟨w.heap.size, 0, none⟩, 0, 0), w.alloc (.cells #[] e), ?_, hk _ _ (fun B hB => Own.lit w B e sz 0 #[] hB (by simp) (by unfold maxLen; omega)) (bel_alloc _ _) rfl (by simp)⟩
  unfold Instr.buildSlice
  simp only [Sem.run_bind, run_underlying T.ht, Result.andThen_ok, T.size]
  simp [Instr.fill, newRow, Array.range_zero']
  rfl
/-- 'append(s, r...)': a readable slice is laid behind -/
theorem wr_app {P : Program} {t e : TypeId} {z : Value} {sz bytes : Nat} (T : TyS P t e z sz bytes) {w : World} {B : Nat} {sa : Option Addr} {n c : Nat} {xs : List Value} (O : Own w B e sz sa n c xs) {ty : TypeId} {ad : Addr} {m mc : Nat} {ys : List Value} (H : Sl w (some ad) m mc sz ys) {k : (Option Addr × Nat × Nat) → World → Prop}
    (hB : B ≤ w.heap.size) (hz : z.cells.size = sz) (hs : 0 < sz) (hp : plainV ys = true) (hb : (n + m) * bytes ≤ 140737488355328) (hn : n + m ≤ maxLen)
    (hk : ∀ a' c' w', Own w' B e sz a' (n + m) c' (xs ++ ys) → w.grownBy w' (blk sa) → (blk a' = blk sa ∨ (∀ b, blk a' = some b → w.heap.size ≤ b)) → w.heap.size ≤ w'.heap.size → k (a', n + m, c') w') :
    wr P (Builtin.append_ #[t, t] ty #[.slice sa n c, .slice (some ad) m mc]) (.one .slice) w k := by
  obtain ⟨a', c', w2, hr, hA⟩ := run_app (P := P) w t ty B e z sz bytes T.ht T.hi hz hs sa n c xs O ad m mc ys H.len (fun j u hj => by
      obtain ⟨ad', q1, q2, _⟩ := H.at' j u hj
      cases q1; exact q2) (fun u hu => by
      unfold plainV at hp; rw [List.all_eq_true] at hp; exact hp u hu) hb hn hB
  refine ⟨(a', n + m, c'), w2, hr, hk a' c' w2 hA.own hA.grown ?_ hA.size⟩
  rcases hA.at' with q | q | q
  · exact .inl q
  · exact .inr fun b hb => by rw [q] at hb; cases hb; omega
  · exact .inr fun b hb => by rw [q] at hb; cases hb
theorem equal_nil {P : Program} {t e : TypeId} {a : Option Addr} {n c : Nat} {w : World} (ht : P.underlying t = some (.slice e)) : (Op.equal t (.slice a n c) (.slice none 0 0)).run P w = .ok a.isNone w := by
  have key : ∀ d : Nat, (Op.equalIn (d + 1) t (.slice a n c) (.slice none 0 0)).run P w = .ok a.isNone w := by
    intro d
    cases a <;> simp [Op.equalIn, run_underlying ht]
  exact key 9999
theorem rd_nil {P : Program} {t e : TypeId} {z : Value} {sz bytes : Nat} (T : TyS P t e z sz bytes) {x y : Operand} {a : Option Addr} {n c : Nat} {w : World} {k : Bool → Prop} (hk : k a.isNone) : rd P (cmpS .eql t x y (.slice a n c) (.slice none 0 0)) (.one .bool) w k := by
  refine ⟨a.isNone, fun w' _ => ?_, hk⟩
  unfold cmpS eqGuard Go.binOp
  simp only [Bool.not_true, Bool.false_eq_true, if_false, Sem.run_bind, Sem.run_pure, Result.andThen_ok, equal_nil T.ht]
  rfl
theorem rd_notnil {P : Program} {t e : TypeId} {z : Value} {sz bytes : Nat} (T : TyS P t e z sz bytes) {x y : Operand} {a : Option Addr} {n c : Nat} {w : World} {k : Bool → Prop} (hk : k a.isSome) : rd P (cmpS .neq t x y (.slice a n c) (.slice none 0 0)) (.one .bool) w k := by
  refine ⟨a.isSome, fun w' _ => ?_, hk⟩
  unfold cmpS eqGuard Go.binOp
  simp only [Bool.not_true, Bool.false_eq_true, if_false, Sem.run_bind, Sem.run_pure, Result.andThen_ok, equal_nil T.ht]
  cases a <;> rfl
/-- the frame over an append or a store -/
theorem bel.own {a w w' : World} {B : Nat} {e : TypeId} {sz : Nat} {sa : Option Addr} {n c : Nat} {xs : List Value} (h : bel a w) (O : Own w B e sz sa n c xs) (hg : w.grownBy w' (blk sa)) (hB : a.heap.size ≤ B) : bel a w' :=
  h.grown hg fun k hk => Nat.le_trans hB (O.lt k hk).1

/-! ### quotients and shifts -/
theorem rdp_bin {P : Program} {op : BinOp} {t : TypeId} {x y : Operand} {a b : Value} {k : IntKind} {v : Int} {K : Int → Prop} (hop : (op matches .eql | .neq) = false) (h : ∀ w, (Go.binOp op t a b).run P w = .ok (.int k v) w) (hk : K v) :
    rdp P (cmpS op t x y a b) (.one (.int k)) K := by
  refine ⟨v, fun w => ?_, hk⟩
  unfold cmpS eqGuard
  cases op <;> first | (cases hop; done) | (simp only [Bool.not_false, if_true, Sem.run_bind, Sem.run_pure, Result.andThen_ok]; exact h w)
theorem rdp_quo {P : Program} {t : TypeId} {x y : Operand} {k : IntKind} {a b : Int} {K : Int → Prop} (hb : b ≠ 0) (hk : K (k.wrap (a.tdiv b))) : rdp P (cmpS .quo t x y (.int k a) (.int k b)) (.one (.int k)) K := by
  refine rdp_bin rfl (fun w => ?_) hk
  unfold Go.binOp Op.intDiv
  simp [hb]
theorem rdp_rem {P : Program} {t : TypeId} {x y : Operand} {k : IntKind} {a b : Int} {K : Int → Prop} (hb : b ≠ 0) (hk : K (a.tmod b)) : rdp P (cmpS .rem t x y (.int k a) (.int k b)) (.one (.int k)) K := by
  refine rdp_bin rfl (fun w => ?_) hk
  unfold Go.binOp Op.intDiv
  simp [hb]
theorem rdp_shr {P : Program} {t : TypeId} {x y : Operand} {k k' : IntKind} {a b : Int} (m : Nat) {K : Int → Prop} (hb : b = (m : Int)) (hm : m ≤ k.bits) (hk : K (a / 2 ^ m)) : rdp P (cmpS .shr t x y (.int k a) (.int k' b)) (.one (.int k)) K := by
  refine rdp_bin rfl (fun w => ?_) hk
  subst hb
  unfold Go.binOp Op.shift
  have : min m k.bits = m := by omega
  have h2 : ¬ ((m : Int) < 0) := by omega
  simp only [h2, if_false, Int.toNat_natCast, this, Sem.run_pure]
  rw [Int.fdiv_eq_ediv_of_nonneg _ (Int.pow_nonneg (by omega))]
theorem rdp_shl {P : Program} {t : TypeId} {x y : Operand} {k k' : IntKind} {a b : Int} (m : Nat) {K : Int → Prop} (hb : b = (m : Int)) (hm : m ≤ k.bits) (hk : K (k.wrap (a * 2 ^ m))) : rdp P (cmpS .shl t x y (.int k a) (.int k' b)) (.one (.int k)) K := by
  refine rdp_bin rfl (fun w => ?_) hk
  subst hb
  unfold Go.binOp Op.shift
  have : min m k.bits = m := by omega
  have h2 : ¬ ((m : Int) < 0) := by omega
  simp only [h2, if_false, Int.toNat_natCast, this, Sem.run_pure]

/-! ### parts of slices -/
theorem TyS.elem {P : Program} {t e : TypeId} {z : Value} {sz bytes : Nat} (T : TyS P t e z sz bytes) : P.elem t = e := by
  unfold Program.elem; rw [T.ht]
theorem sl_to {P : Program} {t e : TypeId} {z : Value} {sz bytes : Nat} (T : TyS P t e z sz bytes) {a : Option Addr} {n c m : Nat} {k : IntKind} {i : Int} {K : (Option Addr × Nat × Nat) → Prop} (hi : i = (m : Int)) (hm : m ≤ c) (hk : K (a, m, c)) :
    rdp P (Instr.sliceAt t (.slice a n c) none (some (.int k i)) none) (.one .slice) K := by
  subst hi
  refine ⟨(a, m, c), fun w => ?_, hk⟩
  have ht : P.underlying t = some (.slice (P.elem t)) := by rw [T.elem]; exact T.ht
  rw [run_sliceAt_slice _ _ _ _ _ _ ht, run_slice_h _ _ _ _ _ ht _ _ (by omega) (by omega), T.elem, T.size]
  simp only [Result.andThen_ok, sliced, Int.toNat_natCast, Nat.sub_zero, Nat.zero_mul]
  cases a with
  | none => simp [VS.val, Sh.val]
  | some ad => simp [VS.val, Sh.val, add_zero]
end Go.V

/- Package fraction: sums of numbers. -/



namespace Go.Proofs.YtajpdnphamomjaaDoor
open Go.RowKit Go.Q Go.Q.Num Go.V

theorem tyNat : TyS Tryd.prog 44 65 (.int .u32 0) 1 4 := ⟨by kernel_rfl, by kernel_rfl⟩
theorem scU32 : scal Tryd.prog 65 = true := by kernel_rfl
abbrev Hd := Option Addr × Nat × Nat
/-- a number of package fraction in memory -/
abbrev NF (w : World) (s : Hd) (x : Nat) : Prop := NumAt 4294967296 .u32 w s.1 s.2.1 s.2.2 x
theorem callF {f : FuncId} {args : List Value} {w : World} {x L : Nat} (h : Calls Tryd.prog f args.toArray w (QNum 4294967296 .u32 x L w)) : call Tryd.prog f args (.one (.one .slice)) w (fun v w' => NF w' v x ∧ v.2.1 ≤ L ∧ bel w w') :=
  Calls.mono h fun _ _ ⟨a, n, c, he, h1, h2, h3, _⟩ => ⟨(a, n, c), he, h1, h2, h3⟩
theorem callT {f : FuncId} {args : List Value} {w : World} {a : Option Addr} {n c x : Nat} (h : Calls Tryd.prog f args.toArray w (QTrim 4294967296 .u32 a n c x w)) : call Tryd.prog f args (.one (.one .slice)) w (fun v w' => v.1 = a ∧ v.2.2 = c ∧ NF w' v x ∧ v.2.1 ≤ n ∧ bel w w') :=
  Calls.mono h fun _ _ ⟨n', he, h1, h2, h3⟩ => ⟨(a, n', c), he, rfl, rfl, h1, h2, h3.below⟩
theorem callC {f : FuncId} {args : List Value} {w : World} {x : Int} (h : Calls Tryd.prog f args.toArray w (QInt x w)) : call Tryd.prog f args (.one (.one (.int .i64))) w (fun v w' => v = x ∧ bel w w') :=
  Calls.mono h fun _ _ ⟨he, h1⟩ => ⟨x, he, rfl, h1.below⟩
theorem dig_ge {B : Nat} {l : List Nat} (h : Low B l) (hl : l ≠ [] → B ^ (l.length - 1) ≤ val B l) : Dig B l := by
  refine ⟨h, fun x hx e => ?_⟩
  subst e
  obtain ⟨m, rfl⟩ : ∃ m, l = m ++ [0] := by
    rw [List.getLast?_eq_some_iff] at hx; exact hx
  have h1 := hl (by simp)
  have hB : 0 < B := by have := h 0 (by simp); omega
  have h2 := val_lt hB (l := m) (fun d hd => h d (by simp [hd]))
  rw [val_snoc, Nat.mul_zero, Nat.add_zero, List.length_append, List.length_singleton, Nat.add_sub_cancel] at h1
  omega
theorem ge_of {B : Nat} (hB : 1 < B) {l m : List Nat} (hl : Dig B l) (hm : Dig B m) (h0 : l ≠ [] ∨ m ≠ []) : B ^ (max l.length m.length - 1) ≤ val B l + val B m := by
  by_cases h : l.length ≤ m.length
  · have : m ≠ [] := by
      rcases h0 with h0 | h0
      · intro e; subst e; simp at h; exact h0 h
      · exact h0
    have := hm.ge (by omega) this
    rw [Nat.max_eq_right h]; omega
  · have : l ≠ [] := by rintro rfl; simp at h
    have := hl.ge (by omega) this
    rw [Nat.max_eq_left (by omega)]; omega

abbrev ST := Hd × Int × Int × Unit
structure AddI (w0 : World) (la lb : List Nat) (N : Nat) (s : ST) (w : World) (k cc : Nat) (out : List Nat) : Prop where
  i : s.2.2.1 = (k : Int)
  c : s.2.1 = (cc : Int)
  small : cc ≤ 1
  own : Own w w0.heap.size 65 1 s.1.1 s.1.2.1 s.1.2.2 (nats .u32 out)
  low : Low 4294967296 out
  val' : val 4294967296 out + 4294967296 ^ k * cc = val 4294967296 (la.take k) + val 4294967296 (lb.take k)
  most : k ≤ N ∨ k = N + 1 ∧ cc = 0 ∧ 4294967296 ^ N ≤ val 4294967296 out
  bel' : bel w0 w
theorem AddI.len {w0 : World} {la lb : List Nat} {N : Nat} {s : ST} {w : World} {k cc : Nat} {out : List Nat} (h : AddI w0 la lb N s w k cc out) : out.length = s.1.2.1 := by
  have := h.own.1; simpa [nats_len] using this
theorem u32_mod (t : Nat) : IntKind.u32.wrap (t : Int) = ((t % 4294967296 : Nat) : Int) := by
  rw [IntKind.wrap_u32]; omega

end Go.Proofs.YtajpdnphamomjaaDoor

/- The conditions of functions, printed by our tool; each is checked against the code by the kernel. -/



namespace Go.Proofs
open Go Go.V Go.RowKit
end Go.Proofs

/- Package fraction: differences of numbers. -/


namespace Go.Proofs.YtajpdnphamomjaaDoor
open Go.RowKit Go.Q Go.Q.Num Go.V

theorem plain_nats (k : IntKind) (l : List Nat) : plainV (nats k l) = true := by
  unfold plainV nats
  rw [List.all_eq_true]
  intro v hv
  obtain ⟨x, _, rfl⟩ := List.mem_map.1 hv
  rfl
structure SubI (w0 : World) (la lb : List Nat) (hd : Hd) (i br : Int) (w : World) (k bb : Nat) (out : List Nat) : Prop where
  i : i = (k : Int)
  c : br = (bb : Int)
  small : bb ≤ 1
  most : k ≤ la.length
  own : Own w w0.heap.size 65 1 hd.1 hd.2.1 hd.2.2 (nats .u32 (out ++ la.drop k))
  len : out.length = k
  low : Low 4294967296 out
  val' : val 4294967296 out + val 4294967296 (lb.take k) = val 4294967296 (la.take k) + 4294967296 ^ k * bb
  bel' : bel w0 w
abbrev SS := Int × Int × Unit

theorem sub_low {B : Nat} (hB : 0 < B) {la lb : List Nat} (h : Low B la) (h' : Low B lb) {k : Nat} {x : Nat} (hx : la[k]? = some x) {bb : Nat} (hb : bb ≤ 1) :
    ∃ d c' : Nat, x + B * c' = d + bb + dg lb k ∧ d < B ∧ c' ≤ 1 ∧ ((x : Int) - bb - dg lb k < 0 ↔ c' = 1) := by
  have h1 := h.get hx
  have h2 := h'.dg hB k
  by_cases hc : x < bb + dg lb k
  · exact ⟨x + B - bb - dg lb k, 1, by omega, by omega, by omega, by omega⟩
  · exact ⟨x - bb - dg lb k, 0, by omega, by omega, by omega, by omega⟩
theorem sub_set {out la : List Nat} {k x d : Nat} (h : out.length = k) (hx : la[k]? = some x) : (out ++ la.drop k).set k d = (out ++ [d]) ++ la.drop (k + 1) := by
  have hk := (List.getElem?_eq_some_iff.1 hx).1
  have hd : la.drop k = x :: la.drop (k + 1) := by
    rw [List.drop_eq_getElem_cons hk]; congr 1; exact (List.getElem?_eq_some_iff.1 hx).2
  rw [hd, List.set_append, if_neg (by omega), h]
  simp
theorem sub_get {out la : List Nat} {k x : Nat} (h : out.length = k) (hx : la[k]? = some x) : (out ++ la.drop k)[k]? = some x := by
  rw [List.getElem?_append_right (by omega), h]; simpa using hx

end Go.Proofs.YtajpdnphamomjaaDoor

/- Package fraction: numbers doubled. -/

namespace Go.Proofs.YtajpdnphamomjaaDoor
open Go.RowKit Go.Q Go.Q.Num Go.V

theorem ior_nat (k : IntKind) (a b : Nat) (ha : a < 2 ^ k.bits) (hb : b < 2 ^ k.bits) : ior k (a : Int) (b : Int) = k.wrap ((a ||| b : Nat) : Int) := by
  unfold ior
  rw [BitVec.ofInt_natCast, BitVec.ofInt_natCast, BitVec.toNat_or, BitVec.toNat_ofNat, BitVec.toNat_ofNat, Nat.mod_eq_of_lt ha, Nat.mod_eq_of_lt hb]
theorem or_low (i p q : Nat) (hq : q < 2 ^ i) : (2 ^ i * p) ||| q = 2 ^ i * p + q := (Nat.two_pow_add_eq_or_of_lt hq p).symm
theorem dbl_or (x bb : Nat) (hb : bb ≤ 1) : ior .u32 (((2 * x % 4294967296 : Nat)) : Int) (bb : Int) = (((2 * x + bb) % 4294967296 : Nat) : Int) := by
  have e : 2 * x % 4294967296 = 2 ^ 1 * (x % 2147483648) := by omega
  rw [ior_nat .u32 _ _ (by show _ < 2 ^ 32; omega) (by show _ < 2 ^ 32; omega), e, or_low 1 _ _ (by omega), IntKind.wrap_u32]
  omega

abbrev SD := Int × Hd × Int × Unit
structure DblI (w0 : World) (la : List Nat) (b0 : Nat) (bit : Int) (hd : Hd) (i : Int) (w : World) (k bb : Nat) (out : List Nat) : Prop where
  i : i = (k : Int)
  c : bit = (bb : Int)
  small : bb ≤ 1
  most : k ≤ la.length
  len' : hd.2.1 = k
  own : Own w w0.heap.size 65 1 hd.1 hd.2.1 hd.2.2 (nats .u32 out)
  low : Low 4294967296 out
  val' : val 4294967296 out + 4294967296 ^ k * bb = 2 * val 4294967296 (la.take k) + b0
  bel' : bel w0 w
theorem DblI.len {w0 : World} {la : List Nat} {b0 : Nat} {bit : Int} {hd : Hd} {i : Int} {w : World} {k bb : Nat} {out : List Nat} (h : DblI w0 la b0 bit hd i w k bb out) : out.length = k := by
  have := h.own.1; rw [h.len'] at this; simpa [nats_len] using this

end Go.Proofs.YtajpdnphamomjaaDoor

/- Plain law of the binary division: bits of digits. -/

namespace Go.Proofs.YtajpdnphamomjaaDoor
open Go.RowKit Go.Q Go.Q.Num Go.V

theorem div_pow {B : Nat} (hB : 0 < B) {l : List Nat} {j d : Nat} (h : Low B l) (hd : l[j]? = some d) : val B l / B ^ j = d + B * val B (l.drop (j + 1)) := by
  have hj := (List.getElem?_eq_some_iff.1 hd).1
  have h1 := val_lt hB (h.take j)
  rw [List.length_take, Nat.min_eq_left (by omega)] at h1
  rw [val_take_split B l j (by omega), Nat.add_mul_div_left _ _ (Nat.pow_pos hB), Nat.div_eq_of_lt h1, Nat.zero_add, val_drop hd]
theorem pow_js (j s : Nat) : 2 ^ (32 * j + s) = 4294967296 ^ j * 2 ^ s := by rw [Nat.pow_add, Nat.pow_mul]
theorem bit_of {l : List Nat} {j d s : Nat} (h : Low 4294967296 l) (hd : l[j]? = some d) (hs : s < 32) : val 4294967296 l / 2 ^ (32 * j + s) % 2 = d / 2 ^ s % 2 := by
  rw [pow_js, ← Nat.div_div_eq_div_mul, div_pow (by omega) h hd]
  generalize val 4294967296 (l.drop (j + 1)) = R
  have e : 4294967296 = 2 ^ s * (2 * 2 ^ (31 - s)) := by
    have : s + 1 + (31 - s) = 32 := by omega
    rw [← Nat.mul_assoc, ← Nat.pow_succ, ← Nat.pow_add, this]
  rw [e, Nat.mul_assoc, Nat.add_mul_div_left _ _ (Nat.pow_pos (by omega)), Nat.mul_assoc]
  omega
theorem set_bit {out : List Nat} {j s o Q : Nat} (h : Low 4294967296 out) (ho : out[j]? = some o) (hv : val 4294967296 out = 2 ^ (32 * j + s + 1) * Q) (hs : s < 32) :
    o ||| 2 ^ s = o + 2 ^ s ∧ o + 2 ^ s < 4294967296 ∧ val 4294967296 (out.set j (o + 2 ^ s)) = val 4294967296 out + 2 ^ (32 * j + s) := by
  have h1 := div_pow (by omega) h ho
  have ho9 := h.get ho
  rw [hv, Nat.add_assoc, pow_js, Nat.mul_assoc, Nat.mul_div_cancel_left _ (Nat.pow_pos (by omega))] at h1
  have e : 4294967296 = 2 ^ (s + 1) * 2 ^ (31 - s) := by
    have : s + 1 + (31 - s) = 32 := by omega
    rw [← Nat.pow_add, this]
  have hc : ∃ c, o = 2 ^ (s + 1) * c := by
    refine ⟨Q - 2 ^ (31 - s) * val 4294967296 (out.drop (j + 1)), ?_⟩
    rw [Nat.mul_sub, h1, ← Nat.mul_assoc, ← e]; omega
  obtain ⟨c, hc⟩ := hc
  have hlt : c < 2 ^ (31 - s) := by
    rw [hc, e] at ho9
    exact Nat.lt_of_mul_lt_mul_left ho9
  have hp : 2 ^ s < 2 ^ (s + 1) := Nat.pow_lt_pow_right (by omega) (by omega)
  refine ⟨by rw [hc]; exact or_low (s + 1) c _ hp, ?_, ?_⟩
  · have h2 : 2 ^ (s + 1) * (c + 1) ≤ 4294967296 := by rw [e]; exact Nat.mul_le_mul_left _ hlt
    rw [Nat.mul_add, ← hc, Nat.mul_one] at h2
    omega
  · have h3 := val_set (B := 4294967296) (y := o + 2 ^ s) ho
    rw [Nat.mul_add, ← pow_js] at h3
    omega
theorem dm_step {X k y Q r b : Nat} (h : X / 2 ^ (k + 1) = Q * y + r) (hb : X / 2 ^ k % 2 = b) : X / 2 ^ k = 2 * Q * y + (2 * r + b) := by
  have e : X / 2 ^ (k + 1) = X / 2 ^ k / 2 := by rw [Nat.pow_succ, Nat.div_div_eq_div_mul]
  rw [e] at h
  have : 2 * Q * y = 2 * (Q * y) := Nat.mul_assoc _ _ _
  omega
theorem iand1 (k : IntKind) (a : Nat) (ha : a < 2 ^ k.bits) (h1 : 1 < 2 ^ k.bits) : iand k (a : Int) 1 = k.wrap ((a % 2 : Nat) : Int) := by
  unfold iand
  have e : BitVec.ofInt k.bits (1 : Int) = BitVec.ofNat k.bits 1 := BitVec.ofInt_natCast k.bits 1
  rw [BitVec.ofInt_natCast, e, BitVec.toNat_and, BitVec.toNat_ofNat, BitVec.toNat_ofNat, Nat.mod_eq_of_lt ha, Nat.mod_eq_of_lt h1, Nat.and_one_is_mod]
/-- one digit of the short division -/
theorem short_step {la out : List Nat} {j d b0 rest : Nat} (hd : la[j]? = some d) (hlen : la.length = out.length) (h : val 4294967296 (la.drop (j + 1)) = val 4294967296 (out.drop (j + 1)) * b0 + rest) :
    val 4294967296 (la.drop j) = val 4294967296 ((out.set j ((4294967296 * rest + d) / b0)).drop j) * b0 + (4294967296 * rest + d) % b0 := by
  have hj := (List.getElem?_eq_some_iff.1 hd).1
  have hs : (out.set j ((4294967296 * rest + d) / b0))[j]? = some ((4294967296 * rest + d) / b0) := by rw [List.getElem?_set_self (by omega)]
  rw [val_drop hd, val_drop hs, List.drop_set_of_lt (by omega), h]
  have := Nat.div_add_mod (4294967296 * rest + d) b0
  rw [Nat.add_mul, Nat.mul_comm ((4294967296 * rest + d) / b0) b0, Nat.mul_add, Nat.mul_assoc]
  omega
end Go.Proofs.YtajpdnphamomjaaDoor

/- Package fraction: quotients of numbers. -/

namespace Go.Proofs.YtajpdnphamomjaaDoor
open Go.RowKit Go.Q Go.Q.Num Go.V

abbrev SQ1 := Int × Int × Unit
structure ShI (w0 : World) (la : List Nat) (b0 : Nat) (od : Addr) (n : Nat) (r i : Int) (w : World) (k rest : Nat) (out : List Nat) : Prop where
  i : i = (k : Int) - 1
  c : r = (rest : Int)
  small : rest < b0
  most : k ≤ n
  own : Own w w0.heap.size 65 1 (some od) n n (nats .u32 out)
  low : Low 4294967296 out
  val' : val 4294967296 (la.drop k) = val 4294967296 (out.drop k) * b0 + rest
  bel' : bel w0 w
theorem ShI.len {w0 : World} {la : List Nat} {b0 : Nat} {od : Addr} {n : Nat} {r i : Int} {w : World} {k rest : Nat} {out : List Nat} (h : ShI w0 la b0 od n r i w k rest out) : out.length = n := by
  have := h.own.1; simpa [nats_len] using this
abbrev SQ2 := Hd × Int × Unit
structure LgI (w0 : World) (X y : Nat) (od : Addr) (n : Nat) (hd : Hd) (i : Int) (w : World) (k r Q : Nat) (out : List Nat) : Prop where
  i : i = (k : Int) - 1
  most : k ≤ 32 * n
  small : r < y
  num : NF w hd r
  off : Off (some od) hd.1
  own : Own w w0.heap.size 65 1 (some od) n n (nats .u32 out)
  low : Low 4294967296 out
  out' : val 4294967296 out = 2 ^ k * Q
  val' : X / 2 ^ k = Q * y + r
  bel' : bel w0 w
theorem LgI.len {w0 : World} {X y : Nat} {od : Addr} {n : Nat} {hd : Hd} {i : Int} {w : World} {k r Q : Nat} {out : List Nat} (h : LgI w0 X y od n hd i w k r Q out) : out.length = n := by
  have := h.own.1; simpa [nats_len] using this
theorem NF.len {w : World} {hd : Hd} {r y m : Nat} (h : NF w hd r) (hr : r < y) (hy : y < 4294967296 ^ m) : hd.2.1 ≤ m := h.len_le (by omega) (Nat.lt_trans hr hy)
theorem js (k : Nat) : k = 32 * (k / 32) + k % 32 := by omega

end Go.Proofs.YtajpdnphamomjaaDoor

/- Package fraction: the greatest common divisor, small numbers, lowest terms. -/

namespace Go.Proofs.YtajpdnphamomjaaDoor
open Go.RowKit Go.Q Go.Q.Num Go.V

end Go.Proofs.YtajpdnphamomjaaDoor

/- Package fraction: fractions of any size: lowest terms, sums, products. -/

namespace Go.Proofs.YtajpdnphamomjaaDoor
open Go.RowKit Go.Q Go.Q.Num Go.V

abbrev TE := Bool × Hd × Hd × Unit
abbrev EX (L : Nat) (w : World) (t : TE) (r : Rat) : Prop := t.1 = decide (r.num < 0) ∧ NF w t.2.1 r.num.natAbs ∧ NF w t.2.2.1 r.den ∧ t.2.1.2.1 ≤ L ∧ t.2.2.1.2.1 ≤ L
theorem EX.at {L : Nat} {w : World} {t : TE} {r : Rat} (h : EX L w t r) : ExAt L w (sBig.val t) r := by
  obtain ⟨h1, h2, h3, h4, h5⟩ := h
  exact ⟨_, _, _, _, _, _, by rw [← h1]; rfl, h2, h3, h4, h5⟩
theorem NF.up {w w' : World} {s : Hd} {x : Nat} (h : NF w s x) (hb : bel w w') : NF w' s x := h.kept hb
theorem EX.up {L : Nat} {w w' : World} {t : TE} {r : Rat} (h : EX L w t r) (hb : bel w w') : EX L w' t r := ⟨h.1, h.2.1.kept hb, h.2.2.1.kept hb, h.2.2.2⟩

/-- a number that does not lie in a block -/
def Apart (x1 : Addr) (s : Hd) (y : Nat) : Prop := ∀ ad, s.1 = some ad → y ≠ 0 → ad.block ≠ x1.block
theorem Apart.grown {x1 : Addr} {s : Hd} {y : Nat} {w w' : World} (h : Apart x1 s y) (hN : NF w s y) (hg : w.grownBy w' (some x1.block)) : NF w' s y :=
  NumAt.grown hN hg fun ad ha hy _ e => h ad ha hy (by injection e)
theorem Apart.fr {x1 : Addr} {s : Hd} {y : Nat} {w : World} {cs : List Value} (hb : Box w x1 cs) (h : Fr w s.1) : Apart x1 s y := fun ad ha _ e => by
  have := h ad ha; have := hb.lt; omega
theorem Apart.old {x1 : Addr} {s : Hd} {y : Nat} {w : World} (hN : NF w s y) (h : w.heap.size ≤ x1.block) : Apart x1 s y := fun ad ha hy e => by
  have := NumAt.lt_heap hN hy ad ha; omega
theorem pow_lt {n L : Nat} (h : n ≤ L) {x : Nat} (hx : x < 4294967296 ^ n) : x < 4294967296 ^ L := Nat.lt_of_lt_of_le hx (Nat.pow_le_pow_right (by omega) h)

theorem low_num (s : Bool) (p q : Nat) (hq : q ≠ 0) : (Rat.normalize (sg s p) q hq).num.natAbs = p / Nat.gcd p q ∧ (Rat.normalize (sg s p) q hq).den = q / Nat.gcd p q ∧ decide ((Rat.normalize (sg s p) q hq).num < 0) = (s && decide (p ≠ 0)) := by
  by_cases hp : p = 0
  · subst hp
    have e : Rat.normalize (sg s 0) q hq = 0 := by
      have : sg s 0 = 0 := by unfold sg; split <;> rfl
      rw [this]; exact Rat.normalize_zero hq
    rw [e, Nat.gcd_zero_left, Nat.zero_div, Nat.div_self (by omega)]
    exact ⟨rfl, rfl, by simp⟩
  · obtain ⟨h1, h2, h3⟩ := norm_num s p q hq hp
    exact ⟨h1, h2, by rw [h3]; simp [hp]⟩

end Go.Proofs.YtajpdnphamomjaaDoor

/- Package fraction: sums and products of fractions of any size. -/

namespace Go.Proofs.YtajpdnphamomjaaDoor
open Go.RowKit Go.Q Go.Q.Num Go.V

abbrev exV (t : TE) : Value := .agg #[.bool t.1, .slice t.2.1.1 t.2.1.2.1 t.2.1.2.2, .slice t.2.2.1.1 t.2.2.1.2.1 t.2.2.1.2.2]
def NFv (B : Nat) (v : Value) (x L : Nat) (w : World) : Prop := ∃ s : Hd, v = .slice s.1 s.2.1 s.2.2 ∧ NF w s x ∧ s.2.1 ≤ L ∧ ∀ ad, s.1 = some ad → B ≤ ad.block
theorem NFv.up {B : Nat} {v : Value} {x L : Nat} {w w' : World} (h : NFv B v x L w) (hb : bel w w') : NFv B v x L w' := by
  obtain ⟨s, h1, h2, h3⟩ := h; exact ⟨s, h1, h2.up hb, h3⟩
theorem NFv.get {B : Nat} {s : Hd} {x L : Nat} {w : World} (h : NFv B (.slice s.1 s.2.1 s.2.2) x L w) : NF w s x ∧ s.2.1 ≤ L ∧ ∀ ad, s.1 = some ad → B ≤ ad.block := by
  obtain ⟨u, h1, h2, h3⟩ := h
  injection h1 with e1 e2 e3
  obtain ⟨a, n, c⟩ := s
  obtain ⟨a', n', c'⟩ := u
  dsimp only at e1 e2 e3 h3
  subst e1 e2 e3
  exact ⟨h2, h3⟩
theorem callF' {f : FuncId} {args : List Value} {w : World} {x L : Nat} (h : Calls Tryd.prog f args.toArray w (QNum 4294967296 .u32 x L w)) : call Tryd.prog f args (.one (.one .slice)) w (fun v w' => NF w' v x ∧ v.2.1 ≤ L ∧ Fr w v.1 ∧ bel w w') :=
  Calls.mono h fun _ _ ⟨a, n, c, he, h1, h2, h3, h4⟩ => ⟨(a, n, c), he, h1, h2, h4, h3⟩
theorem mulC2 (s u : Hd) (x y L M : Nat) (w : World) (h1 : NF w s x) (h2 : NF w u y) (hl1 : s.2.1 ≤ L) (hl2 : u.2.1 ≤ M) (hL : L ≤ 1000000) (hM : M ≤ 1000000) (B : Nat) (hB : B ≤ w.heap.size) :
    call Tryd.prog 34 [.slice s.1 s.2.1 s.2.2, .slice u.1 u.2.1 u.2.2] (.one (.one .slice)) w (fun v w' => bel w w' ∧ NFv B (.slice v.1 v.2.1 v.2.2) (x * y) (L + M) w') :=
  call_mono (callF' (mulF s.1 u.1 s.2.1 u.2.1 s.2.2 u.2.2 x y w h1 h2 (by omega) (by omega))) fun v w' ⟨hN, hl, hf, hb⟩ => ⟨hb, v, rfl, hN, by omega, fun ad ha => Nat.le_trans hB (hf ad ha)⟩
theorem past {w : World} {B : Nat} {p q : Option Addr} (hB : B < w.heap.size) (f : ∀ ad, q = some ad → B + 1 ≤ ad.block) (g : Fr w p ∨ p = q) : ∀ ad, p = some ad → B < ad.block := by
  intro ad ha
  rcases g with g | g
  · have := g ad ha; omega
  · have := f ad (by rw [← g]; exact ha); omega
theorem EX.grown {L : Nat} {w w' : World} {t : TE} {r : Rat} {b : Addr} (h : EX L w t r) (hg : w.grownBy w' (some b.block)) (k1 : ∀ ad, t.2.1.1 = some ad → b.block < ad.block) (k2 : ∀ ad, t.2.2.1.1 = some ad → b.block < ad.block) : EX L w' t r :=
  ⟨h.1, NumAt.grown h.2.1 hg (fun ad ha _ _ e => by have := k1 ad ha; injection e; omega), NumAt.grown h.2.2.1 hg (fun ad ha _ _ e => by have := k2 ad ha; injection e; omega), h.2.2.2⟩
theorem times_normE (r s : Rat) (b c : Bool) (h : b = decide (r.num < 0)) (h' : c = decide (s.num < 0)) : ∃ hq : r.den * s.den ≠ 0, r * s = Rat.normalize (sg (!(b == c)) (r.num.natAbs * s.num.natAbs)) (r.den * s.den) hq :=
  ⟨Nat.mul_ne_zero r.den_nz s.den_nz, (times_norm r s b c h h').symm⟩

end Go.Proofs.YtajpdnphamomjaaDoor

/- Package fraction: sums of fractions of any size. -/

namespace Go.Proofs.YtajpdnphamomjaaDoor
open Go.RowKit Go.Q Go.Q.Num Go.V

end Go.Proofs.YtajpdnphamomjaaDoor

/- Package fraction: Frac of an Exact, Of. -/

namespace Go.Proofs.YtajpdnphamomjaaDoor
open Go.RowKit Go.Q Go.Q.Num Go.V

abbrev FBo := (Int × Int × Unit) × Bool × Unit
def fracT (r : Rat) : FBo := if Fits r then ((r.num, ((r.den : Nat) : Int), ()), true, ()) else ((0, 0, ()), false, ())
abbrev rFB : RS := .many [.agg [.int .i64, .int .i64], .one .bool]
theorem callU {f : FuncId} {args : List Value} {w : World} {x : Nat} (h : Calls Tryd.prog f args.toArray w (QU64 x w)) : call Tryd.prog f args (.one (.one (.int .u64))) w (fun v w' => v = (x : Int) ∧ bel w w') :=
  Calls.mono h fun _ _ ⟨he, h1⟩ => ⟨(x : Int), he, rfl, h1.below⟩

/-- the fraction that two numbers make -/
def ofT (n d : Int) : FE := if d = 0 then invT else fitT (Rat.divInt n d)
theorem of_norm {n d : Int} (h0 : d ≠ 0) : ∃ hq : d.natAbs ≠ 0, Rat.normalize (sg (decide (n < 0) != decide (d < 0)) n.natAbs) d.natAbs hq = Rat.divInt n d := by
  refine ⟨by omega, ?_⟩
  rw [Rat.normalize_eq_mkRat, ← Rat.divInt_ofNat, Rat.divInt_eq_divInt_iff (by omega) h0]
  have h := sg_cross (n := n) (n' := d) (a := 1) (b := 1) (by omega) (by omega)
  simpa using h

set_option maxHeartbeats 800000 in
theorem ofF (n d : Int) (w : World) (hn : I64 n) (hd : I64 d) : call Tryd.prog 4 [.int .i64 n, .int .i64 d] rFE w (fun x w' => x = ofT n d ∧ bel w w') := by
  refine call_of (S4_calls n d w _ ?_)
  unfold S4
  refine wr_alloc (z := fracv 0 0) (by kernel_rfl) fun x1 w1 Y h hy _ => ?_
  have hne : w.heap.size ≤ x1.block := by omega
  have put : ∀ (w4 : World) (cs : List Value) (p q e : Int), cs.length = 2 → bel w w4 → Box w4 x1 cs → (((p, q, ()), e, ()) : FE) = ofT n d → wu Tryd.prog (Instr.storeAt 23 (.pointer (some x1)) (.agg #[.int .i64 p, .int .i64 q])) w4 fun w10 =>
      rd Tryd.prog (loadVar 23 x1) (.agg [.int .i64, .int .i64]) w10 fun y => ∃ x : FE, Value.tuple #[.agg #[.int .i64 y.1, .int .i64 y.2.1], .int .i64 e] = rFE.val x ∧ x = ofT n d ∧ bel w w10 := by
    intro w4 cs p q e hl h Y he
    refine wu_box Y (by kernel_rfl) (by rw [hl]; exact Nat.le_refl 2) rfl fun w5 Y h' _ => ?_
    have hl' : putAt cs 0 [.int .i64 p, .int .i64 q] = [.int .i64 p, .int .i64 q] := by
      match cs, hl with
      | [_, _], _ => rfl
    have Y2 : Box w5 x1 [.int .i64 p, .int .i64 q] := by rw [← hl']; exact Y
    exact rd_boxV Y2 (by kernel_rfl) rfl ⟨(((p, q, ()), e, ()) : FE), rfl, he, h.grownAt h' hne⟩
  refine br_eq (fun e0 => put _ _ _ _ _ rfl h Y (by unfold ofT; rw [if_pos e0]; rfl)) (fun e0 => ?_)
  refine call_mono (callU (sizeF n _ hn.1 hn.2)) ?_
  rintro _ w2 ⟨rfl, h'⟩
  replace h := h.trans h'; replace Y := Y.up h'; clear h'
  refine call_mono (callU (sizeF d _ hd.1 hd.2)) ?_
  rintro _ w3 ⟨rfl, h'⟩
  replace h := h.trans h'; replace Y := Y.up h'; clear h'
  refine call_mono (callU (gcdF n.natAbs d.natAbs _ (by omega) (by omega))) ?_
  rintro _ w4 ⟨rfl, h'⟩
  replace h := h.trans h'; replace Y := Y.up h'; clear h'
  refine drw_mk fun w5 h' _ => ?_
  replace h := h.trans h'; replace Y := Y.up h'; clear h'
  obtain ⟨hq, hr⟩ := of_norm (n := n) e0
  obtain ⟨m1, m2, m3⟩ := low_num (decide (n < 0) != decide (d < 0)) n.natAbs d.natAbs hq
  rw [hr] at m1 m2 m3
  have hg : 0 < Nat.gcd n.natAbs d.natAbs := Nat.gcd_pos_of_pos_right _ (by omega)
  have l1 := Nat.div_le_self n.natAbs (Nat.gcd n.natAbs d.natAbs)
  have l2 := Nat.div_le_self d.natAbs (Nat.gcd n.natAbs d.natAbs)
  obtain ⟨r, hr'⟩ : ∃ r, r = Rat.divInt n d := ⟨_, rfl⟩
  have hT : ofT n d = fitT r := by unfold ofT; rw [if_neg e0, hr']
  rw [← hr'] at m1 m2 m3
  refine rdp_quo (by omega) ?_
  rw [← Int.ofNat_tdiv, ← m1]
  rw [← m1] at l1
  rw [← m2] at l2
  rw [IntWalk.u64_in _ (by omega)]
  refine rdp_quo (by omega) ?_
  rw [← Int.ofNat_tdiv, ← m2, IntWalk.u64_in _ (by omega)]
  have bad : ¬ Fits r → (((0, 0, ()), 8, ()) : FE) = ofT n d := fun hf => by rw [hT]; unfold fitT; rw [if_neg hf]
  refine br_dec (fun e1 => put _ _ _ _ _ rfl h Y (bad fun hf => by have := hf.1; have := hf.2.1; omega)) (fun e1 => ?_)
  refine br_dec (fun e2 => put _ _ _ _ _ rfl h Y (bad fun hf => by have := hf.2.2; omega)) (fun e2 => ?_)
  have hf : Fits r := ⟨by omega, by omega, by omega⟩
  refine z_i64 (by omega) (z_i64 (by omega) ?_)
  refine wr_alloc (z := fracv 0 0) (by kernel_rfl) fun x20 w6 Z h' hz _ => ?_
  have hne2 : w.heap.size ≤ x20.block := by rw [hz]; exact h.size
  have hyz : x1.block < x20.block := by rw [hz]; exact Y.lt
  replace h := h.trans h'; replace Y := Y.up h'; clear h'
  refine wu_box Z (by kernel_rfl) (Nat.le_refl 2) rfl fun w7 Z hg7 _ => ?_
  replace h := h.grownAt hg7 hne2
  replace Y := Y.grown hg7 (by intro e; injection e; omega)
  have hP : r.num < 0 ↔ (!(decide (n < 0) == decide (d < 0))) = true ∧ r.num ≠ 0 := by
    have q : (decide (n < 0) != decide (d < 0)) = !(decide (n < 0) == decide (d < 0)) := rfl
    rw [q] at m3
    have m1' : n.natAbs = 0 → r.num = 0 := by
      intro h0; rw [h0, Nat.zero_div] at m1; omega
    have m1'' : r.num = 0 → n.natAbs = 0 := by
      intro h0
      rw [h0] at m1
      rcases Nat.eq_zero_or_pos n.natAbs with q | q
      · exact q
      · have : 0 < n.natAbs / Nat.gcd n.natAbs d.natAbs := Nat.div_pos (Nat.gcd_le_left _ q) hg
        have e : (0 : Int).natAbs = 0 := rfl
        omega
    constructor
    · intro hneg
      have m3' := m3
      rw [decide_eq_true hneg] at m3'
      have := m3'.symm
      rw [Bool.and_eq_true] at this
      exact ⟨this.1, by omega⟩
    · rintro ⟨q1, q2⟩
      have : decide (n.natAbs ≠ 0) = true := decide_eq_true (fun h0 => q2 (m1' h0))
      rw [q1, this] at m3
      simpa using m3
  refine join_mk (fun _ w8 => Box w8 x20 [.int .i64 r.num, .int .i64 ((r.den : Nat) : Int)] ∧ bel w w8 ∧ Box w8 x1 [.int .i64 0, .int .i64 0]) (fun K hK => ?_) ?_
  · refine br_mk (fun e3 => ?_) (fun e3 => ?_)
    · refine rd_box0 (by kernel_rfl) Z rfl rfl ?_
      refine z_i64 (by omega) ?_
      have Z0 := wu_boxi (P := Tryd.prog) (t := 2) (i := 0) (v := .int .i64 (0 - ((r.num.natAbs : Nat) : Int))) (k := K ()) Z (by kernel_rfl) (by show 0 < 2; omega) rfl fun w8 Z h' _ => hK _ _ ⟨?_, h.grownAt h' hne2, Y.grown h' (by intro e; injection e; omega)⟩
      · rwa [add_zero] at Z0
      · have : 0 - ((r.num.natAbs : Nat) : Int) = r.num := by
          rcases Decidable.em (r.num = 0) with q | q
          · omega
          · have := hP.2 ⟨e3, q⟩; omega
        rw [← this]
        exact Z
    · refine hK _ _ ⟨?_, h, Y⟩
      have : ((r.num.natAbs : Nat) : Int) = r.num := by
        rcases Decidable.em (r.num < 0) with q | q
        · have := (hP.1 q).1; rw [e3] at this; cases this
        · omega
      rw [← this]
      exact Z
  rintro _ w8 ⟨Z, h, Y⟩ _
  refine rd_boxN Z (by kernel_rfl) rfl ?_
  refine put _ _ _ _ _ rfl h Y ?_
  rw [hT]; unfold fitT; rw [if_pos hf]
end Go.Proofs.YtajpdnphamomjaaDoor

/- Package fraction: operate, Add, Mul. -/

namespace Go.Proofs.YtajpdnphamomjaaDoor
open Go.RowKit Go.Q Go.Q.Num Go.V

theorem small_mul {a b : Int} (h1 : -1073741824 < a) (h2 : a < 1073741824) (h3 : -1073741824 < b) (h4 : b < 1073741824) : -1152921504606846976 ≤ a * b ∧ a * b ≤ 1152921504606846976 := by
  have : (a * b).natAbs ≤ 1073741824 * 1073741824 := by
    rw [Int.natAbs_mul]; exact Nat.mul_le_mul (by omega) (by omega)
  omega
theorem EX.of {L : Nat} {w : World} {t : TE} {r : Rat} (h : ExAt L w (exV t) r) : EX L w t r := by
  obtain ⟨a, n, c, b, m, d, h1, h2, h3, h4, h5⟩ := h
  injection h1 with h1
  injection h1 with h1
  injection h1 with e0 h1
  injection h1 with e1 h1
  injection h1 with e2 _
  injection e0 with e0
  injection e1 with q1 q2 q3
  injection e2 with q4 q5 q6
  subst q1 q2 q3 q4 q5 q6
  exact ⟨e0, h2, h3, h4, h5⟩
theorem EX.mono {L M : Nat} {w : World} {t : TE} {r : Rat} (h : EX L w t r) (hl : L ≤ M := by omega) : EX M w t r := ⟨h.1, h.2.1, h.2.2.1, by have := h.2.2.2.1; omega, by have := h.2.2.2.2; omega⟩
theorem callE {f : FuncId} {args : List Value} {w : World} {L : Nat} {r : Rat} (h : Calls Tryd.prog f args.toArray w (fun e w' => ∃ v, e = .returned v ∧ ExAt L w' v r ∧ Below w.heap.size w w')) : call Tryd.prog f args (.one sBig) w (fun (x : TE) w' => EX L w' x r ∧ bel w w') :=
  Calls.mono h fun _ _ ⟨v, he, ⟨a, n, c, b, m, d, hv, h1, h2, h3, h4⟩, h5⟩ => ⟨((decide (r.num < 0), (a, n, c), (b, m, d), ()) : TE), by rw [he, hv]; rfl, ⟨rfl, h1, h2, h3, h4⟩, h5⟩
theorem fb_inj {x : (Int × Int × Unit) × Bool × Unit} {y : FBo} (h : Value.tuple #[.agg #[.int .i64 x.1.1, .int .i64 x.1.2.1], .bool x.2.1] = rFB.val y) : x = y := by
  obtain ⟨⟨a, b, _⟩, c, _⟩ := x
  obtain ⟨⟨a', b', _⟩, c', _⟩ := y
  have h : Value.tuple #[.agg #[.int .i64 a, .int .i64 b], .bool c] = Value.tuple #[.agg #[.int .i64 a', .int .i64 b'], .bool c'] := h
  simp at h
  obtain ⟨⟨rfl, rfl⟩, rfl⟩ := h
  rfl
theorem valid10f (n d : Int) (w : World) (a : I64 n) (b : I64 d) : Calls Tryd.prog 17 #[fracv n d] w (QBool (decide (IsFrac n d)) w) := validF n d w a.1 a.2 b.1 b.2
theorem add_div {n d n' d' : Int} (h : IsFrac n d) (h' : IsFrac n' d') : Rat.divInt (n * d' + n' * d) (d * d') = Rat.divInt n d + Rat.divInt n' d' := (Rat.divInt_add_divInt n n' (by have := h.1; omega) (by have := h'.1; omega)).symm

end Go.Proofs.YtajpdnphamomjaaDoor

/- Package fraction: Sub, Div. -/

namespace Go.Proofs.YtajpdnphamomjaaDoor
open Go.RowKit Go.Q Go.Q.Num Go.V

theorem frac_neg {n d : Int} (h : IsFrac n d) : IsFrac (-n) d := ⟨h.1, h.2.1, by have := h.2.2.2.1; omega, by have := h.2.2.1; omega, by rw [Int.natAbs_neg]; exact h.2.2.2.2⟩
theorem ratv_neg {n d : Int} (h : IsFrac n d) : ratv (-n) d = -ratv n d := by
  rw [ratv_div h, ratv_div (frac_neg h), Rat.neg_divInt]

theorem inv_frac {n d : Int} (h : IsFrac n d) (h0 : 0 < n) : IsFrac d n := ⟨by omega, h.2.2.2.1, by have := h.1; omega, h.2.1, by rw [Nat.gcd_comm]; exact h.2.2.2.2⟩
theorem inv_frac' {n d : Int} (h : IsFrac n d) (h0 : n < 0) : IsFrac (-d) (-n) := ⟨by omega, by have := h.2.2.1; omega, by have := h.2.1; omega, by have := h.1; omega, by rw [Int.natAbs_neg, Int.natAbs_neg, Nat.gcd_comm]; exact h.2.2.2.2⟩
theorem ratv_inv {n d : Int} (h : IsFrac n d) (h0 : 0 < n) : ratv d n = (ratv n d)⁻¹ := by
  rw [ratv_div h, ratv_div (inv_frac h h0), Rat.inv_divInt]
theorem ratv_inv' {n d : Int} (h : IsFrac n d) (h0 : n < 0) : ratv (-d) (-n) = (ratv n d)⁻¹ := by
  rw [ratv_div h, ratv_div (inv_frac' h h0), Rat.inv_divInt, Rat.divInt_eq_divInt_iff (by omega) (by omega), Int.neg_mul, Int.mul_neg]

end Go.Proofs.YtajpdnphamomjaaDoor

/- The conditions of functions, printed by our tool; each is checked against the code by the kernel. -/



namespace Go.Proofs
open Go Go.V Go.RowKit
end Go.Proofs

/- The walk of FractionExact. -/


namespace Go.Proofs.YtajpdnphamomjaaDoor
open Go.RowKit Go.Q Go.Q.Num Go.V

theorem rd_ne_same {n d : Int} {x y : Operand} {w : World} {K : Bool → Prop} (hk : K false) : rd Tryd.prog (cmpS .neq 23 x y (.agg #[.int .i64 n, .int .i64 d]) (.agg #[.int .i64 n, .int .i64 d])) (.one .bool) w K := by
  refine ⟨false, fun w' _ => ?_, hk⟩
  have := run_neStruct (P := Tryd.prog) (t := 23) (k := .i64) (a := x) (b := y) (xs := [n, d]) (ys := [n, d]) (w := w') (by kernel_rfl) (by kernel_rfl) (by kernel_rfl) (by kernel_rfl) (by kernel_rfl) (by kernel_rfl)
  simp [eqInts] at this
  exact this
theorem rd_eq_same {n d : Int} {x y : Operand} {w : World} {K : Bool → Prop} (hk : K true) : rd Tryd.prog (cmpS .eql 23 x y (.agg #[.int .i64 n, .int .i64 d]) (.agg #[.int .i64 n, .int .i64 d])) (.one .bool) w K := by
  refine ⟨true, fun w' _ => ?_, hk⟩
  have := run_eqStruct (P := Tryd.prog) (t := 23) (k := .i64) (a := x) (b := y) (xs := [n, d]) (ys := [n, d]) (w := w') (by kernel_rfl) (by kernel_rfl) (by kernel_rfl) (by kernel_rfl) (by kernel_rfl) (by kernel_rfl)
  simp [eqInts] at this
  exact this
theorem br_no {a : Int} {A B : Prop} (h : B) : br (a != a) A B := br_ne (fun q => absurd rfl q) (fun _ => h)

end Go.Proofs.YtajpdnphamomjaaDoor

/- The walk of FractionLimits. -/

namespace Go.Proofs.YtajpdnphamomjaaDoor
open Go.RowKit Go.Q Go.Q.Num Go.V

theorem agFrac : aggOf Tryd.prog 23 2 = true := by kernel_rfl
abbrev encF (p : Int × Int) : List Value := [.int .i64 p.1, .int .i64 p.2]
theorem encF_len (p : Int × Int) : (encF p).length = 2 := rfl
theorem rsign_norm (r : Rat) (n d : Int) (h0 : d ≠ 0) (hr : r = Rat.divInt n d) (hd : 0 < d) : rsign r = cmpi n 0 := by
  obtain ⟨hq, h1⟩ := of_norm (n := n) h0
  obtain ⟨m1, m2, m3⟩ := low_num (decide (n < 0) != decide (d < 0)) n.natAbs d.natAbs hq
  rw [h1, ← hr] at m1 m3
  have hdd : decide (d < 0) = false := decide_eq_false (by omega)
  rw [hdd] at m3
  have hg : 0 < Nat.gcd n.natAbs d.natAbs := Nat.gcd_pos_of_pos_right _ (by omega)
  unfold rsign cmpi
  rcases Int.lt_trichotomy n 0 with q | q | q
  · have : decide (r.num < 0) = true := by
      rw [m3, decide_eq_true q, decide_eq_true (show n.natAbs ≠ 0 by omega)]; rfl
    rw [if_pos (of_decide_eq_true this), if_pos q]
  · subst q
    have e : r.num = 0 := by
      have : (0 : Int).natAbs = 0 := rfl
      rw [this, Nat.zero_div] at m1; omega
    have e' : r = 0 := Rat.num_eq_zero.1 e
    rw [e']; rfl
  · have : decide (r.num < 0) = false := by
      rw [m3, decide_eq_false (show ¬ n < 0 by omega)]; rfl
    have hn := of_decide_eq_false this
    have : 0 < n.natAbs / Nat.gcd n.natAbs d.natAbs := Nat.div_pos (Nat.gcd_le_left _ (by omega)) hg
    have e' : r ≠ 0 := by
      rintro rfl
      have : (0 : Rat).num.natAbs = 0 := rfl
      omega
    rw [if_neg hn, if_neg (fun h => e' (Rat.num_eq_zero.1 h)), if_neg (show ¬ n < 0 by omega), if_pos q]
theorem cmp_same (n d n' d' : Int) : (if IsFrac n d ∧ IsFrac n' d' then rsign (ratv n d + -ratv n' d') else 0) = compv n d n' d' := by
  unfold compv
  by_cases h : IsFrac n d ∧ IsFrac n' d'
  · rw [if_pos h, if_pos h]
    obtain ⟨h1, h2⟩ := h
    have hdd : 0 < d * d' := Int.mul_pos (by have := h1.1; omega) (by have := h2.1; omega)
    have e : ratv n d + -ratv n' d' = Rat.divInt (n * d' + -n' * d) (d * d') := by
      rw [← ratv_neg h2, ratv_div h1, ratv_div (frac_neg h2), add_div h1 (frac_neg h2)]
    rw [rsign_norm _ _ _ (by omega) e hdd, Int.neg_mul]
    unfold cmpi
    split <;> split <;> (try split) <;> (try split) <;> omega
  · rw [if_neg h, if_neg h]
theorem compF' (n d n' d' : Int) (w : World) (a : I64 n ∧ I64 d) (b : I64 n' ∧ I64 d') : call Tryd.prog 6 [fracv n d, fracv n' d'] (.one (.one (.int .i64))) w (fun x w' => x = compv n d n' d' ∧ bel w w') :=
  callI (compF n d n' d' w a.1.1 a.1.2 a.2.1 a.2.2 b.1.1 b.1.2 b.2.1 b.2.2)
theorem cmp10' (n d n' d' : Int) (w : World) (a : I64 n ∧ I64 d) (b : I64 n' ∧ I64 d') : call Tryd.prog 7 [fracv n d, fracv n' d'] (.one (.one (.int .i64))) w (fun x w' => x = compv n d n' d' ∧ bel w w') :=
  call_mono (cmp10 n d n' d' w a b) fun x w' ⟨h, hb⟩ => ⟨by rw [h]; exact cmp_same n d n' d', hb⟩
theorem fe_inj {x : (Int × Int × Unit) × Int × Unit} {y : FE} (h : Value.tuple #[.agg #[.int .i64 x.1.1, .int .i64 x.1.2.1], .int .i64 x.2.1] = rFE.val y) : x = y := by
  obtain ⟨⟨a, b, _⟩, c, _⟩ := x
  obtain ⟨⟨a', b', _⟩, c', _⟩ := y
  have h : Value.tuple #[.agg #[.int .i64 a, .int .i64 b], .int .i64 c] = Value.tuple #[.agg #[.int .i64 a', .int .i64 b'], .int .i64 c'] := h
  simp at h
  obtain ⟨⟨rfl, rfl⟩, rfl⟩ := h
  rfl

theorem i64f {n : Int} (h1 : -100000000000000000 ≤ n) (h2 : n ≤ 100000000000000000) : I64 n := ⟨by omega, by omega⟩
end Go.Proofs.YtajpdnphamomjaaDoor

/- The conditions of functions, printed by our tool; each is checked against the code by the kernel. -/



namespace Go.Proofs
open Go Go.V Go.RowKit
/-- querylab/querylabref10.Of -/
def S5 (num_ : Int) (den_ : Int) (w0 : World) (R : Value → World → Prop) : Prop :=
 wr Tryd.prog (Instr.alloc 23 true (.tuple #[])) (.one .addr) w0 fun (x1 : Addr) (w2 : World) =>
 br (den_ == 0) (wu Tryd.prog (Instr.storeAt 23 (.pointer (some x1)) (.agg #[(.int .i64 0), (.int .i64 0)])) w2 fun (w3 : World) =>
 rd Tryd.prog (loadVar 23 x1) (.agg [(.int .i64), (.int .i64)]) w3 fun (x4 : (Int × Int × Unit)) =>
 R (.tuple #[(.agg #[(.int .i64 x4.1), (.int .i64 x4.2.1)]), (.int .i64 1)]) w3)
 (call Tryd.prog 16 [(.int .i64 num_)] (.one (.one .slice)) w2 fun (x5 : (Option Addr × Nat × Nat)) (w6 : World) =>
 call Tryd.prog 16 [(.int .i64 den_)] (.one (.one .slice)) w6 fun (x7 : (Option Addr × Nat × Nat)) (w8 : World) =>
 call Tryd.prog 15 [(.agg #[(.bool (!((decide (num_ < 0)) == (decide (den_ < 0))))), (.slice x5.1 x5.2.1 x5.2.2), (.slice x7.1 x7.2.1 x7.2.2)])] (.one (.agg [.bool, .slice, .slice])) w8 fun (x9 : (Bool × (Option Addr × Nat × Nat) × (Option Addr × Nat × Nat) × Unit)) (w10 : World) =>
 call Tryd.prog 14 [(.agg #[(.bool x9.1), (.slice x9.2.1.1 x9.2.1.2.1 x9.2.1.2.2), (.slice x9.2.2.1.1 x9.2.2.1.2.1 x9.2.2.1.2.2)])] (.many [(.agg [(.int .i64), (.int .i64)]), (.one (.int .i64))]) w10 fun (x11 : ((Int × Int × Unit) × Int × Unit)) (w12 : World) =>
 wu Tryd.prog (Instr.storeAt 23 (.pointer (some x1)) (.agg #[(.int .i64 x11.1.1), (.int .i64 x11.1.2.1)])) w12 fun (w13 : World) =>
 rd Tryd.prog (loadVar 23 x1) (.agg [(.int .i64), (.int .i64)]) w13 fun (x14 : (Int × Int × Unit)) =>
 R (.tuple #[(.agg #[(.int .i64 x14.1), (.int .i64 x14.2.1)]), (.int .i64 x11.2.1)]) w13)
def H5 : Hints := ⟨[], [], [], []⟩
set_option maxRecDepth 100000 in
theorem S5_eq (num_ : Int) (den_ : Int) (w0 : World) (R : Value → World → Prop) : vcFn Tryd.prog H5 Tryd.f5 [(.int .i64 num_), (.int .i64 den_)] w0 R = S5 num_ den_ w0 R := by kernel_rfl
set_option maxRecDepth 100000 in
theorem S5_calls (num_ : Int) (den_ : Int) (w0 : World) (R : Value → World → Prop) (h : S5 num_ den_ w0 R) : Calls Tryd.prog 5 #[(.int .i64 num_), (.int .i64 den_)] w0 (ret R) := by
  rw [← S5_eq] at h; exact vcFn_sound follows_ Tryd.func5 h

/-- querylab/querylabref10.Floor -/
def S9 (a_0 : Int) (a_1 : Int) (w0 : World) (R : Value → World → Prop) : Prop :=
 wr Tryd.prog (Instr.box 23 (.agg #[(.int .i64 a_0), (.int .i64 a_1)])) (.one .addr) w0 fun (x1 : Addr) (w2 : World) =>
 rd Tryd.prog (Instr.loadAt 23 (.pointer (some x1))) (.agg [(.int .i64), (.int .i64)]) w2 fun (x3 : (Int × Int × Unit)) =>
 call Tryd.prog 22 [(.agg #[(.int .i64 x3.1), (.int .i64 x3.2.1)])] (.one (.one .bool)) w2 fun (x4 : Bool) (w5 : World) =>
 br (!x4) (R (.int .i64 0) w5)
 (rd Tryd.prog (Instr.loadAt 2 (.pointer (some x1))) (.one (.int .i64)) w5 fun (x6 : Int) =>
 rd Tryd.prog (Instr.loadAt 2 (.pointer (some (Addr.add x1 1)))) (.one (.int .i64)) w5 fun (x7 : Int) =>
 rdp Tryd.prog (cmpS .quo 2 (.tmp 8) (.tmp 10) (.int .i64 x6) (.int .i64 x7)) (.one (.int .i64)) fun (x8 : Int) =>
 rd Tryd.prog (Instr.loadAt 2 (.pointer (some x1))) (.one (.int .i64)) w5 fun (x9 : Int) =>
 rd Tryd.prog (Instr.loadAt 2 (.pointer (some (Addr.add x1 1)))) (.one (.int .i64)) w5 fun (x10 : Int) =>
 rdp Tryd.prog (cmpS .rem 2 (.tmp 13) (.tmp 15) (.int .i64 x9) (.int .i64 x10)) (.one (.int .i64)) fun (x11 : Int) =>
 br (decide (x11 < 0)) (z (IntKind.wrap .i64 (x8 - 1)) fun (z12 : Int) =>
 R (.int .i64 z12) w5)
 (R (.int .i64 x8) w5))
def H9 : Hints := ⟨[], [], [], []⟩
set_option maxRecDepth 100000 in
theorem S9_eq (a_0 : Int) (a_1 : Int) (w0 : World) (R : Value → World → Prop) : vcFn Tryd.prog H9 Tryd.f9 [(.agg #[(.int .i64 a_0), (.int .i64 a_1)])] w0 R = S9 a_0 a_1 w0 R := by kernel_rfl
set_option maxRecDepth 100000 in
theorem S9_calls (a_0 : Int) (a_1 : Int) (w0 : World) (R : Value → World → Prop) (h : S9 a_0 a_1 w0 R) : Calls Tryd.prog 9 #[(.agg #[(.int .i64 a_0), (.int .i64 a_1)])] w0 (ret R) := by
  rw [← S9_eq] at h; exact vcFn_sound follows_ Tryd.func9 h

/-- querylab/querylabref10.Text -/
def S11 (a_0 : Int) (a_1 : Int) (w0 : World) (R : Value → World → Prop) : Prop :=
 wr Tryd.prog (Instr.box 23 (.agg #[(.int .i64 a_0), (.int .i64 a_1)])) (.one .addr) w0 fun (x1 : Addr) (w2 : World) =>
 rd Tryd.prog (Instr.loadAt 23 (.pointer (some x1))) (.agg [(.int .i64), (.int .i64)]) w2 fun (x3 : (Int × Int × Unit)) =>
 call Tryd.prog 22 [(.agg #[(.int .i64 x3.1), (.int .i64 x3.2.1)])] (.one (.one .bool)) w2 fun (x4 : Bool) (w5 : World) =>
 br (!x4) (R (.string ⟨#[63]⟩) w5)
 (rd Tryd.prog (Instr.loadAt 2 (.pointer (some x1))) (.one (.int .i64)) w5 fun (x6 : Int) =>
 call Tryd.prog 27 [(.int .i64 x6), (.int .i64 10)] (.one (.one .str)) w5 fun (x7 : ByteArray) (w8 : World) =>
 rd Tryd.prog (Instr.loadAt 2 (.pointer (some (Addr.add x1 1)))) (.one (.int .i64)) w8 fun (x9 : Int) =>
 br (x9 != 1) (rd Tryd.prog (Instr.loadAt 2 (.pointer (some (Addr.add x1 1)))) (.one (.int .i64)) w8 fun (x10 : Int) =>
 call Tryd.prog 27 [(.int .i64 x10), (.int .i64 10)] (.one (.one .str)) w8 fun (x11 : ByteArray) (w12 : World) =>
 rdp Tryd.prog (cmpS .add 9 (.const (.string ⟨#[47]⟩)) (.tmp 16) (.string ⟨#[47]⟩) (.string x11)) (.one .str) fun (x13 : ByteArray) =>
 rdp Tryd.prog (cmpS .add 9 (.tmp 13) (.tmp 17) (.string x7) (.string x13)) (.one .str) fun (x14 : ByteArray) =>
 R (.string x14) w12)
 (R (.string x7) w8))
def H11 : Hints := ⟨[], [], [], []⟩
set_option maxRecDepth 100000 in
theorem S11_eq (a_0 : Int) (a_1 : Int) (w0 : World) (R : Value → World → Prop) : vcFn Tryd.prog H11 Tryd.f11 [(.agg #[(.int .i64 a_0), (.int .i64 a_1)])] w0 R = S11 a_0 a_1 w0 R := by kernel_rfl
set_option maxRecDepth 100000 in
theorem S11_calls (a_0 : Int) (a_1 : Int) (w0 : World) (R : Value → World → Prop) (h : S11 a_0 a_1 w0 R) : Calls Tryd.prog 11 #[(.agg #[(.int .i64 a_0), (.int .i64 a_1)])] w0 (ret R) := by
  rw [← S11_eq] at h; exact vcFn_sound follows_ Tryd.func11 h

/-- querylab/fraction.Floor -/
def S8 (a_0 : Int) (a_1 : Int) (w0 : World) (R : Value → World → Prop) : Prop :=
 wr Tryd.prog (Instr.box 23 (.agg #[(.int .i64 a_0), (.int .i64 a_1)])) (.one .addr) w0 fun (x1 : Addr) (w2 : World) =>
 rd Tryd.prog (Instr.loadAt 23 (.pointer (some x1))) (.agg [(.int .i64), (.int .i64)]) w2 fun (x3 : (Int × Int × Unit)) =>
 call Tryd.prog 17 [(.agg #[(.int .i64 x3.1), (.int .i64 x3.2.1)])] (.one (.one .bool)) w2 fun (x4 : Bool) (w5 : World) =>
 br (!x4) (R (.int .i64 0) w5)
 (rd Tryd.prog (Instr.loadAt 2 (.pointer (some x1))) (.one (.int .i64)) w5 fun (x6 : Int) =>
 rd Tryd.prog (Instr.loadAt 2 (.pointer (some (Addr.add x1 1)))) (.one (.int .i64)) w5 fun (x7 : Int) =>
 rdp Tryd.prog (cmpS .quo 2 (.tmp 8) (.tmp 10) (.int .i64 x6) (.int .i64 x7)) (.one (.int .i64)) fun (x8 : Int) =>
 rd Tryd.prog (Instr.loadAt 2 (.pointer (some x1))) (.one (.int .i64)) w5 fun (x9 : Int) =>
 rd Tryd.prog (Instr.loadAt 2 (.pointer (some (Addr.add x1 1)))) (.one (.int .i64)) w5 fun (x10 : Int) =>
 rdp Tryd.prog (cmpS .rem 2 (.tmp 13) (.tmp 15) (.int .i64 x9) (.int .i64 x10)) (.one (.int .i64)) fun (x11 : Int) =>
 br (decide (x11 < 0)) (z (IntKind.wrap .i64 (x8 - 1)) fun (z12 : Int) =>
 R (.int .i64 z12) w5)
 (R (.int .i64 x8) w5))
def H8 : Hints := ⟨[], [], [], []⟩
set_option maxRecDepth 100000 in
theorem S8_eq (a_0 : Int) (a_1 : Int) (w0 : World) (R : Value → World → Prop) : vcFn Tryd.prog H8 Tryd.f8 [(.agg #[(.int .i64 a_0), (.int .i64 a_1)])] w0 R = S8 a_0 a_1 w0 R := by kernel_rfl
set_option maxRecDepth 100000 in
theorem S8_calls (a_0 : Int) (a_1 : Int) (w0 : World) (R : Value → World → Prop) (h : S8 a_0 a_1 w0 R) : Calls Tryd.prog 8 #[(.agg #[(.int .i64 a_0), (.int .i64 a_1)])] w0 (ret R) := by
  rw [← S8_eq] at h; exact vcFn_sound follows_ Tryd.func8 h

/-- querylab/fraction.Text -/
def S10 (a_0 : Int) (a_1 : Int) (w0 : World) (R : Value → World → Prop) : Prop :=
 wr Tryd.prog (Instr.box 23 (.agg #[(.int .i64 a_0), (.int .i64 a_1)])) (.one .addr) w0 fun (x1 : Addr) (w2 : World) =>
 rd Tryd.prog (Instr.loadAt 23 (.pointer (some x1))) (.agg [(.int .i64), (.int .i64)]) w2 fun (x3 : (Int × Int × Unit)) =>
 call Tryd.prog 17 [(.agg #[(.int .i64 x3.1), (.int .i64 x3.2.1)])] (.one (.one .bool)) w2 fun (x4 : Bool) (w5 : World) =>
 br (!x4) (R (.string ⟨#[63]⟩) w5)
 (rd Tryd.prog (Instr.loadAt 2 (.pointer (some x1))) (.one (.int .i64)) w5 fun (x6 : Int) =>
 call Tryd.prog 27 [(.int .i64 x6), (.int .i64 10)] (.one (.one .str)) w5 fun (x7 : ByteArray) (w8 : World) =>
 rd Tryd.prog (Instr.loadAt 2 (.pointer (some (Addr.add x1 1)))) (.one (.int .i64)) w8 fun (x9 : Int) =>
 br (x9 != 1) (rd Tryd.prog (Instr.loadAt 2 (.pointer (some (Addr.add x1 1)))) (.one (.int .i64)) w8 fun (x10 : Int) =>
 call Tryd.prog 27 [(.int .i64 x10), (.int .i64 10)] (.one (.one .str)) w8 fun (x11 : ByteArray) (w12 : World) =>
 rdp Tryd.prog (cmpS .add 9 (.const (.string ⟨#[47]⟩)) (.tmp 16) (.string ⟨#[47]⟩) (.string x11)) (.one .str) fun (x13 : ByteArray) =>
 rdp Tryd.prog (cmpS .add 9 (.tmp 13) (.tmp 17) (.string x7) (.string x13)) (.one .str) fun (x14 : ByteArray) =>
 R (.string x14) w12)
 (R (.string x7) w8))
def H10 : Hints := ⟨[], [], [], []⟩
set_option maxRecDepth 100000 in
theorem S10_eq (a_0 : Int) (a_1 : Int) (w0 : World) (R : Value → World → Prop) : vcFn Tryd.prog H10 Tryd.f10 [(.agg #[(.int .i64 a_0), (.int .i64 a_1)])] w0 R = S10 a_0 a_1 w0 R := by kernel_rfl
set_option maxRecDepth 100000 in
theorem S10_calls (a_0 : Int) (a_1 : Int) (w0 : World) (R : Value → World → Prop) (h : S10 a_0 a_1 w0 R) : Calls Tryd.prog 10 #[(.agg #[(.int .i64 a_0), (.int .i64 a_1)])] w0 (ret R) := by
  rw [← S10_eq] at h; exact vcFn_sound follows_ Tryd.func10 h

/-- querylab/querylablaw10.FractionOf -/
def S3 (n_ : Int) (d_ : Int) (b_0 : Int) (b_1 : Int) (w0 : World) (R : Value → World → Prop) : Prop :=
 wr Tryd.prog (Instr.box 23 (.agg #[(.int .i64 b_0), (.int .i64 b_1)])) (.one .addr) w0 fun (x1 : Addr) (w2 : World) =>
 call Tryd.prog 4 [(.int .i64 n_), (.int .i64 d_)] (.many [(.agg [(.int .i64), (.int .i64)]), (.one (.int .i64))]) w2 fun (x3 : ((Int × Int × Unit) × Int × Unit)) (w4 : World) =>
 wr Tryd.prog (Instr.alloc 23 true (.tuple #[])) (.one .addr) w4 fun (x5 : Addr) (w6 : World) =>
 wu Tryd.prog (Instr.storeAt 23 (.pointer (some x5)) (.agg #[(.int .i64 x3.1.1), (.int .i64 x3.1.2.1)])) w6 fun (w7 : World) =>
 call Tryd.prog 5 [(.int .i64 n_), (.int .i64 d_)] (.many [(.agg [(.int .i64), (.int .i64)]), (.one (.int .i64))]) w7 fun (x8 : ((Int × Int × Unit) × Int × Unit)) (w9 : World) =>
 wr Tryd.prog (Instr.alloc 23 true (.tuple #[])) (.one .addr) w9 fun (x10 : Addr) (w11 : World) =>
 wu Tryd.prog (Instr.storeAt 23 (.pointer (some x10)) (.agg #[(.int .i64 x8.1.1), (.int .i64 x8.1.2.1)])) w11 fun (w12 : World) =>
 drw w12 fun w13 => flEx fun F14 =>
 rd Tryd.prog (Instr.loadAt 23 (.pointer (some x5))) (.agg [(.int .i64), (.int .i64)]) w13 fun (x15 : (Int × Int × Unit)) =>
 rd Tryd.prog (Instr.loadAt 23 (.pointer (some x10))) (.agg [(.int .i64), (.int .i64)]) w13 fun (x16 : (Int × Int × Unit)) =>
 rd Tryd.prog (cmpS .eql 23 (.tmp 23) (.tmp 24) (.agg #[(.int .i64 x15.1), (.int .i64 x15.2.1)]) (.agg #[(.int .i64 x16.1), (.int .i64 x16.2.1)])) (.one .bool) w13 fun (x17 : Bool) =>
 br x17 (br (x3.2.1 == x8.2.1) (rd Tryd.prog (Instr.loadAt 23 (.pointer (some x5))) (.agg [(.int .i64), (.int .i64)]) w13 fun (x18 : (Int × Int × Unit)) =>
 rd Tryd.prog (Instr.loadAt 23 (.pointer (some x1))) (.agg [(.int .i64), (.int .i64)]) w13 fun (x19 : (Int × Int × Unit)) =>
 flc bel w13 (fun _w21 => True) (fun (w20 : World) =>
   call Tryd.prog 6 [(.agg #[(.int .i64 x18.1), (.int .i64 x18.2.1)]), (.agg #[(.int .i64 x19.1), (.int .i64 x19.2.1)])] (.one (.one (.int .i64))) w20 fun (x22 : Int) (w23 : World) =>
 (bel w20 w23 ∧ F14 11 [(.agg #[(.int .i64 x18.1), (.int .i64 x18.2.1)]), (.agg #[(.int .i64 x19.1), (.int .i64 x19.2.1)])] (.int .i64 x22) w23))
  fun (x24 : Int) =>
 rd Tryd.prog (Instr.loadAt 23 (.pointer (some x10))) (.agg [(.int .i64), (.int .i64)]) w13 fun (x25 : (Int × Int × Unit)) =>
 rd Tryd.prog (Instr.loadAt 23 (.pointer (some x1))) (.agg [(.int .i64), (.int .i64)]) w13 fun (x26 : (Int × Int × Unit)) =>
 flc bel w13 (fun w28 => F14 11 [(.agg #[(.int .i64 x18.1), (.int .i64 x18.2.1)]), (.agg #[(.int .i64 x19.1), (.int .i64 x19.2.1)])] (.int .i64 x24) w28 ∧ True) (fun (w27 : World) =>
   call Tryd.prog 7 [(.agg #[(.int .i64 x25.1), (.int .i64 x25.2.1)]), (.agg #[(.int .i64 x26.1), (.int .i64 x26.2.1)])] (.one (.one (.int .i64))) w27 fun (x29 : Int) (w30 : World) =>
 (bel w27 w30 ∧ F14 14 [(.agg #[(.int .i64 x25.1), (.int .i64 x25.2.1)]), (.agg #[(.int .i64 x26.1), (.int .i64 x26.2.1)])] (.int .i64 x29) w30))
  fun (x31 : Int) =>
 br (x24 == x31) (rd Tryd.prog (Instr.loadAt 23 (.pointer (some x5))) (.agg [(.int .i64), (.int .i64)]) w13 fun (x32 : (Int × Int × Unit)) =>
 flc bel w13 (fun w34 => F14 14 [(.agg #[(.int .i64 x25.1), (.int .i64 x25.2.1)]), (.agg #[(.int .i64 x26.1), (.int .i64 x26.2.1)])] (.int .i64 x31) w34 ∧ F14 11 [(.agg #[(.int .i64 x18.1), (.int .i64 x18.2.1)]), (.agg #[(.int .i64 x19.1), (.int .i64 x19.2.1)])] (.int .i64 x24) w34 ∧ True) (fun (w33 : World) =>
   call Tryd.prog 8 [(.agg #[(.int .i64 x32.1), (.int .i64 x32.2.1)])] (.one (.one (.int .i64))) w33 fun (x35 : Int) (w36 : World) =>
 (bel w33 w36 ∧ F14 19 [(.agg #[(.int .i64 x32.1), (.int .i64 x32.2.1)])] (.int .i64 x35) w36))
  fun (x37 : Int) =>
 rd Tryd.prog (Instr.loadAt 23 (.pointer (some x10))) (.agg [(.int .i64), (.int .i64)]) w13 fun (x38 : (Int × Int × Unit)) =>
 flc bel w13 (fun w40 => F14 19 [(.agg #[(.int .i64 x32.1), (.int .i64 x32.2.1)])] (.int .i64 x37) w40 ∧ F14 14 [(.agg #[(.int .i64 x25.1), (.int .i64 x25.2.1)]), (.agg #[(.int .i64 x26.1), (.int .i64 x26.2.1)])] (.int .i64 x31) w40 ∧ F14 11 [(.agg #[(.int .i64 x18.1), (.int .i64 x18.2.1)]), (.agg #[(.int .i64 x19.1), (.int .i64 x19.2.1)])] (.int .i64 x24) w40 ∧ True) (fun (w39 : World) =>
   call Tryd.prog 9 [(.agg #[(.int .i64 x38.1), (.int .i64 x38.2.1)])] (.one (.one (.int .i64))) w39 fun (x41 : Int) (w42 : World) =>
 (bel w39 w42 ∧ F14 21 [(.agg #[(.int .i64 x38.1), (.int .i64 x38.2.1)])] (.int .i64 x41) w42))
  fun (x43 : Int) =>
 br (x37 == x43) (rd Tryd.prog (Instr.loadAt 23 (.pointer (some x1))) (.agg [(.int .i64), (.int .i64)]) w13 fun (x44 : (Int × Int × Unit)) =>
 flc bel w13 (fun w46 => F14 21 [(.agg #[(.int .i64 x38.1), (.int .i64 x38.2.1)])] (.int .i64 x43) w46 ∧ F14 19 [(.agg #[(.int .i64 x32.1), (.int .i64 x32.2.1)])] (.int .i64 x37) w46 ∧ F14 14 [(.agg #[(.int .i64 x25.1), (.int .i64 x25.2.1)]), (.agg #[(.int .i64 x26.1), (.int .i64 x26.2.1)])] (.int .i64 x31) w46 ∧ F14 11 [(.agg #[(.int .i64 x18.1), (.int .i64 x18.2.1)]), (.agg #[(.int .i64 x19.1), (.int .i64 x19.2.1)])] (.int .i64 x24) w46 ∧ True) (fun (w45 : World) =>
   call Tryd.prog 8 [(.agg #[(.int .i64 x44.1), (.int .i64 x44.2.1)])] (.one (.one (.int .i64))) w45 fun (x47 : Int) (w48 : World) =>
 (bel w45 w48 ∧ F14 26 [(.agg #[(.int .i64 x44.1), (.int .i64 x44.2.1)])] (.int .i64 x47) w48))
  fun (x49 : Int) =>
 rd Tryd.prog (Instr.loadAt 23 (.pointer (some x1))) (.agg [(.int .i64), (.int .i64)]) w13 fun (x50 : (Int × Int × Unit)) =>
 flc bel w13 (fun w52 => F14 26 [(.agg #[(.int .i64 x44.1), (.int .i64 x44.2.1)])] (.int .i64 x49) w52 ∧ F14 21 [(.agg #[(.int .i64 x38.1), (.int .i64 x38.2.1)])] (.int .i64 x43) w52 ∧ F14 19 [(.agg #[(.int .i64 x32.1), (.int .i64 x32.2.1)])] (.int .i64 x37) w52 ∧ F14 14 [(.agg #[(.int .i64 x25.1), (.int .i64 x25.2.1)]), (.agg #[(.int .i64 x26.1), (.int .i64 x26.2.1)])] (.int .i64 x31) w52 ∧ F14 11 [(.agg #[(.int .i64 x18.1), (.int .i64 x18.2.1)]), (.agg #[(.int .i64 x19.1), (.int .i64 x19.2.1)])] (.int .i64 x24) w52 ∧ True) (fun (w51 : World) =>
   call Tryd.prog 9 [(.agg #[(.int .i64 x50.1), (.int .i64 x50.2.1)])] (.one (.one (.int .i64))) w51 fun (x53 : Int) (w54 : World) =>
 (bel w51 w54 ∧ F14 28 [(.agg #[(.int .i64 x50.1), (.int .i64 x50.2.1)])] (.int .i64 x53) w54))
  fun (x55 : Int) =>
 br (x49 == x55) (rd Tryd.prog (Instr.loadAt 23 (.pointer (some x5))) (.agg [(.int .i64), (.int .i64)]) w13 fun (x56 : (Int × Int × Unit)) =>
 flc bel w13 (fun w58 => F14 28 [(.agg #[(.int .i64 x50.1), (.int .i64 x50.2.1)])] (.int .i64 x55) w58 ∧ F14 26 [(.agg #[(.int .i64 x44.1), (.int .i64 x44.2.1)])] (.int .i64 x49) w58 ∧ F14 21 [(.agg #[(.int .i64 x38.1), (.int .i64 x38.2.1)])] (.int .i64 x43) w58 ∧ F14 19 [(.agg #[(.int .i64 x32.1), (.int .i64 x32.2.1)])] (.int .i64 x37) w58 ∧ F14 14 [(.agg #[(.int .i64 x25.1), (.int .i64 x25.2.1)]), (.agg #[(.int .i64 x26.1), (.int .i64 x26.2.1)])] (.int .i64 x31) w58 ∧ F14 11 [(.agg #[(.int .i64 x18.1), (.int .i64 x18.2.1)]), (.agg #[(.int .i64 x19.1), (.int .i64 x19.2.1)])] (.int .i64 x24) w58 ∧ True) (fun (w57 : World) =>
   call Tryd.prog 10 [(.agg #[(.int .i64 x56.1), (.int .i64 x56.2.1)])] (.one (.one .str)) w57 fun (x59 : ByteArray) (w60 : World) =>
 (bel w57 w60 ∧ F14 33 [(.agg #[(.int .i64 x56.1), (.int .i64 x56.2.1)])] (.string x59) w60))
  fun (x61 : ByteArray) =>
 rd Tryd.prog (Instr.loadAt 23 (.pointer (some x10))) (.agg [(.int .i64), (.int .i64)]) w13 fun (x62 : (Int × Int × Unit)) =>
 flc bel w13 (fun w64 => F14 33 [(.agg #[(.int .i64 x56.1), (.int .i64 x56.2.1)])] (.string x61) w64 ∧ F14 28 [(.agg #[(.int .i64 x50.1), (.int .i64 x50.2.1)])] (.int .i64 x55) w64 ∧ F14 26 [(.agg #[(.int .i64 x44.1), (.int .i64 x44.2.1)])] (.int .i64 x49) w64 ∧ F14 21 [(.agg #[(.int .i64 x38.1), (.int .i64 x38.2.1)])] (.int .i64 x43) w64 ∧ F14 19 [(.agg #[(.int .i64 x32.1), (.int .i64 x32.2.1)])] (.int .i64 x37) w64 ∧ F14 14 [(.agg #[(.int .i64 x25.1), (.int .i64 x25.2.1)]), (.agg #[(.int .i64 x26.1), (.int .i64 x26.2.1)])] (.int .i64 x31) w64 ∧ F14 11 [(.agg #[(.int .i64 x18.1), (.int .i64 x18.2.1)]), (.agg #[(.int .i64 x19.1), (.int .i64 x19.2.1)])] (.int .i64 x24) w64 ∧ True) (fun (w63 : World) =>
   call Tryd.prog 11 [(.agg #[(.int .i64 x62.1), (.int .i64 x62.2.1)])] (.one (.one .str)) w63 fun (x65 : ByteArray) (w66 : World) =>
 (bel w63 w66 ∧ F14 35 [(.agg #[(.int .i64 x62.1), (.int .i64 x62.2.1)])] (.string x65) w66))
  fun (x67 : ByteArray) =>
 rd Tryd.prog (cmpS .eql 9 (.tmp 56) (.tmp 58) (.string x61) (.string x67)) (.one .bool) w13 fun (x68 : Bool) =>
 br x68 (rd Tryd.prog (Instr.loadAt 23 (.pointer (some x1))) (.agg [(.int .i64), (.int .i64)]) w13 fun (x69 : (Int × Int × Unit)) =>
 flc bel w13 (fun w71 => F14 35 [(.agg #[(.int .i64 x62.1), (.int .i64 x62.2.1)])] (.string x67) w71 ∧ F14 33 [(.agg #[(.int .i64 x56.1), (.int .i64 x56.2.1)])] (.string x61) w71 ∧ F14 28 [(.agg #[(.int .i64 x50.1), (.int .i64 x50.2.1)])] (.int .i64 x55) w71 ∧ F14 26 [(.agg #[(.int .i64 x44.1), (.int .i64 x44.2.1)])] (.int .i64 x49) w71 ∧ F14 21 [(.agg #[(.int .i64 x38.1), (.int .i64 x38.2.1)])] (.int .i64 x43) w71 ∧ F14 19 [(.agg #[(.int .i64 x32.1), (.int .i64 x32.2.1)])] (.int .i64 x37) w71 ∧ F14 14 [(.agg #[(.int .i64 x25.1), (.int .i64 x25.2.1)]), (.agg #[(.int .i64 x26.1), (.int .i64 x26.2.1)])] (.int .i64 x31) w71 ∧ F14 11 [(.agg #[(.int .i64 x18.1), (.int .i64 x18.2.1)]), (.agg #[(.int .i64 x19.1), (.int .i64 x19.2.1)])] (.int .i64 x24) w71 ∧ True) (fun (w70 : World) =>
   call Tryd.prog 10 [(.agg #[(.int .i64 x69.1), (.int .i64 x69.2.1)])] (.one (.one .str)) w70 fun (x72 : ByteArray) (w73 : World) =>
 (bel w70 w73 ∧ F14 40 [(.agg #[(.int .i64 x69.1), (.int .i64 x69.2.1)])] (.string x72) w73))
  fun (x74 : ByteArray) =>
 rd Tryd.prog (Instr.loadAt 23 (.pointer (some x1))) (.agg [(.int .i64), (.int .i64)]) w13 fun (x75 : (Int × Int × Unit)) =>
 flend bel w13 (fun w77 => F14 40 [(.agg #[(.int .i64 x69.1), (.int .i64 x69.2.1)])] (.string x74) w77 ∧ F14 35 [(.agg #[(.int .i64 x62.1), (.int .i64 x62.2.1)])] (.string x67) w77 ∧ F14 33 [(.agg #[(.int .i64 x56.1), (.int .i64 x56.2.1)])] (.string x61) w77 ∧ F14 28 [(.agg #[(.int .i64 x50.1), (.int .i64 x50.2.1)])] (.int .i64 x55) w77 ∧ F14 26 [(.agg #[(.int .i64 x44.1), (.int .i64 x44.2.1)])] (.int .i64 x49) w77 ∧ F14 21 [(.agg #[(.int .i64 x38.1), (.int .i64 x38.2.1)])] (.int .i64 x43) w77 ∧ F14 19 [(.agg #[(.int .i64 x32.1), (.int .i64 x32.2.1)])] (.int .i64 x37) w77 ∧ F14 14 [(.agg #[(.int .i64 x25.1), (.int .i64 x25.2.1)]), (.agg #[(.int .i64 x26.1), (.int .i64 x26.2.1)])] (.int .i64 x31) w77 ∧ F14 11 [(.agg #[(.int .i64 x18.1), (.int .i64 x18.2.1)]), (.agg #[(.int .i64 x19.1), (.int .i64 x19.2.1)])] (.int .i64 x24) w77 ∧ True) fun w76 =>
 call Tryd.prog 11 [(.agg #[(.int .i64 x75.1), (.int .i64 x75.2.1)])] (.one (.one .str)) w76 fun (x78 : ByteArray) (w79 : World) =>
 rd Tryd.prog (cmpS .eql 9 (.tmp 63) (.tmp 65) (.string x74) (.string x78)) (.one .bool) w79 fun (x80 : Bool) =>
 R (.bool x80) w79)
 (flend bel w13 (fun w82 => F14 35 [(.agg #[(.int .i64 x62.1), (.int .i64 x62.2.1)])] (.string x67) w82 ∧ F14 33 [(.agg #[(.int .i64 x56.1), (.int .i64 x56.2.1)])] (.string x61) w82 ∧ F14 28 [(.agg #[(.int .i64 x50.1), (.int .i64 x50.2.1)])] (.int .i64 x55) w82 ∧ F14 26 [(.agg #[(.int .i64 x44.1), (.int .i64 x44.2.1)])] (.int .i64 x49) w82 ∧ F14 21 [(.agg #[(.int .i64 x38.1), (.int .i64 x38.2.1)])] (.int .i64 x43) w82 ∧ F14 19 [(.agg #[(.int .i64 x32.1), (.int .i64 x32.2.1)])] (.int .i64 x37) w82 ∧ F14 14 [(.agg #[(.int .i64 x25.1), (.int .i64 x25.2.1)]), (.agg #[(.int .i64 x26.1), (.int .i64 x26.2.1)])] (.int .i64 x31) w82 ∧ F14 11 [(.agg #[(.int .i64 x18.1), (.int .i64 x18.2.1)]), (.agg #[(.int .i64 x19.1), (.int .i64 x19.2.1)])] (.int .i64 x24) w82 ∧ True) fun w81 =>
 R (.bool false) w81))
 (flend bel w13 (fun w84 => F14 28 [(.agg #[(.int .i64 x50.1), (.int .i64 x50.2.1)])] (.int .i64 x55) w84 ∧ F14 26 [(.agg #[(.int .i64 x44.1), (.int .i64 x44.2.1)])] (.int .i64 x49) w84 ∧ F14 21 [(.agg #[(.int .i64 x38.1), (.int .i64 x38.2.1)])] (.int .i64 x43) w84 ∧ F14 19 [(.agg #[(.int .i64 x32.1), (.int .i64 x32.2.1)])] (.int .i64 x37) w84 ∧ F14 14 [(.agg #[(.int .i64 x25.1), (.int .i64 x25.2.1)]), (.agg #[(.int .i64 x26.1), (.int .i64 x26.2.1)])] (.int .i64 x31) w84 ∧ F14 11 [(.agg #[(.int .i64 x18.1), (.int .i64 x18.2.1)]), (.agg #[(.int .i64 x19.1), (.int .i64 x19.2.1)])] (.int .i64 x24) w84 ∧ True) fun w83 =>
 R (.bool false) w83))
 (flend bel w13 (fun w86 => F14 21 [(.agg #[(.int .i64 x38.1), (.int .i64 x38.2.1)])] (.int .i64 x43) w86 ∧ F14 19 [(.agg #[(.int .i64 x32.1), (.int .i64 x32.2.1)])] (.int .i64 x37) w86 ∧ F14 14 [(.agg #[(.int .i64 x25.1), (.int .i64 x25.2.1)]), (.agg #[(.int .i64 x26.1), (.int .i64 x26.2.1)])] (.int .i64 x31) w86 ∧ F14 11 [(.agg #[(.int .i64 x18.1), (.int .i64 x18.2.1)]), (.agg #[(.int .i64 x19.1), (.int .i64 x19.2.1)])] (.int .i64 x24) w86 ∧ True) fun w85 =>
 R (.bool false) w85))
 (flend bel w13 (fun w88 => F14 14 [(.agg #[(.int .i64 x25.1), (.int .i64 x25.2.1)]), (.agg #[(.int .i64 x26.1), (.int .i64 x26.2.1)])] (.int .i64 x31) w88 ∧ F14 11 [(.agg #[(.int .i64 x18.1), (.int .i64 x18.2.1)]), (.agg #[(.int .i64 x19.1), (.int .i64 x19.2.1)])] (.int .i64 x24) w88 ∧ True) fun w87 =>
 R (.bool false) w87))
 (R (.bool false) w13))
 (R (.bool false) w13)
def H3 : Hints := ⟨[], [(3, 42)], [], []⟩
set_option maxRecDepth 100000 in
theorem S3_eq (n_ : Int) (d_ : Int) (b_0 : Int) (b_1 : Int) (w0 : World) (R : Value → World → Prop) : vcFn Tryd.prog H3 Tryd.f3 [(.int .i64 n_), (.int .i64 d_), (.agg #[(.int .i64 b_0), (.int .i64 b_1)])] w0 R = S3 n_ d_ b_0 b_1 w0 R := by kernel_rfl
set_option maxRecDepth 100000 in
theorem S3_calls (n_ : Int) (d_ : Int) (b_0 : Int) (b_1 : Int) (w0 : World) (R : Value → World → Prop) (h : S3 n_ d_ b_0 b_1 w0 R) : Calls Tryd.prog 3 #[(.int .i64 n_), (.int .i64 d_), (.agg #[(.int .i64 b_0), (.int .i64 b_1)])] w0 (ret R) := by
  rw [← S3_eq] at h; exact vcFn_sound follows_ Tryd.func3 h

end Go.Proofs

/- Text and Floor of both packages, the reference's Of, and the walk of FractionOf. -/





namespace Go.Proofs.YtajpdnphamomjaaDoor
open Go.RowKit Go.Q Go.Q.Num Go.V

/-- the library's table of powers -/
def Tab (w : World) : Prop := Lib.TabIs Tryd.prog w "internal/strconv.uint64pow10" .u64 Lib.pow10Tab
theorem Tab.up {w w' : World} (h : Tab w) (hb : bel w w') : Tab w' := Lib.tabBelow_of_tabIs h w' hb
def txt (n : Int) : ByteArray := ⟨(Lib.itoa n).toArray⟩
theorem txt_size (n : Int) (h : I64 n) : (txt n).size ≤ 21 := by
  have := Lib.itoa_length_le n h.1 h.2
  simpa [txt, ByteArray.size] using this
theorem fmtC (n : Int) (w : World) (hn : I64 n) (ht : Tab w) : call Tryd.prog 27 [.int .i64 n, .int .i64 10] (.one (.one .str)) w (fun x w' => x = txt n ∧ bel w w') :=
  Calls.mono (Any.strconv_FormatInt_10 fmtL n hn.1 hn.2 w ht) fun _ _ ⟨he, k, os, hw⟩ => ⟨txt n, he, rfl, by rw [hw]; exact Lib.below_grow _ w (Nat.le_refl _) k os⟩
theorem rdp_cat {t : TypeId} {x y : Operand} {a b : ByteArray} {K : ByteArray → Prop} (h : a.size + b.size ≤ 1000) (hk : K (a ++ b)) : rdp Tryd.prog (cmpS .add t x y (.string a) (.string b)) (.one .str) K := by
  refine ⟨a ++ b, fun w' => ?_, hk⟩
  have : ¬ ((a.size + b.size : Nat) : Int) > IntKind.i64.max := by
    show ¬ ((a.size + b.size : Nat) : Int) > 9223372036854775807
    omega
  simp only [cmpS, eqGuard, Go.binOp, Op.stringOp, if_neg this]
  rfl
theorem rd_eqs {t : TypeId} {x y : Operand} {a b : ByteArray} {w : World} {K : Bool → Prop} (hk : K (a.toList == b.toList)) : rd Tryd.prog (cmpS .eql t x y (.string a) (.string b)) (.one .bool) w K := ⟨_, fun _ _ => rfl, hk⟩

def textv (n d : Int) : ByteArray := if IsFrac n d then (if d = 1 then txt n else txt n ++ (⟨#[47]⟩ ++ txt d)) else ⟨#[63]⟩

/-- both texts -/
theorem textF (n d : Int) (w : World) (a : I64 n ∧ I64 d) (ht : Tab w) : call Tryd.prog 10 [fracv n d] (.one (.one .str)) w (fun x w' => x = textv n d ∧ bel w w') := by
  refine call_of (S10_calls n d w _ ?_)
  unfold S10
  refine wr_box fun x1 w1 X h _ _ => ?_
  refine rd_boxN X (by kernel_rfl) rfl ?_
  refine call_mono (callB (valid10f n d _ a.1 a.2)) ?_
  rintro x w2 ⟨rfl, h'⟩
  replace h := h.trans h'; replace X := X.up h'; clear h'
  refine br_not (fun e1 => ⟨_, rfl, by unfold textv; rw [if_neg (by simpa using e1)], h⟩) (fun e1 => ?_)
  refine rd_box0 (by kernel_rfl) X rfl rfl ?_
  refine call_mono (fmtC n w2 a.1 (ht.up h)) ?_
  rintro x w3 ⟨rfl, h'⟩
  replace h := h.trans h'; replace X := X.up h'; clear h'
  refine rd_box (by kernel_rfl) X rfl rfl ?_
  refine br_ne (fun e2 => ?_) (fun e2 => ⟨_, rfl, by unfold textv; rw [if_pos (by simpa using e1), if_pos e2], h⟩)
  refine rd_box (by kernel_rfl) X rfl rfl ?_
  refine call_mono (fmtC d w3 a.2 (ht.up h)) ?_
  rintro x w4 ⟨rfl, h'⟩
  replace h := h.trans h'; replace X := X.up h'; clear h'
  have s1 := txt_size n a.1
  have s2 := txt_size d a.2
  have s3 : ((⟨#[47]⟩ : ByteArray) ++ txt d).size = 1 + (txt d).size := by rw [ByteArray.size_append]; rfl
  refine rdp_cat (by show 1 + (txt d).size ≤ 1000; omega) ?_
  refine rdp_cat (by rw [s3]; omega) ?_
  exact ⟨_, rfl, by unfold textv; rw [if_pos (by simpa using e1), if_neg e2], h⟩
theorem text10 (n d : Int) (w : World) (a : I64 n ∧ I64 d) (ht : Tab w) : call Tryd.prog 11 [fracv n d] (.one (.one .str)) w (fun x w' => x = textv n d ∧ bel w w') := by
  refine call_of (S11_calls n d w _ ?_)
  unfold S11
  refine wr_box fun x1 w1 X h _ _ => ?_
  refine rd_boxN X (by kernel_rfl) rfl ?_
  refine call_mono (callB (valid10 n d _ a.1.1 a.1.2 a.2.1 a.2.2)) ?_
  rintro x w2 ⟨rfl, h'⟩
  replace h := h.trans h'; replace X := X.up h'; clear h'
  refine br_not (fun e1 => ⟨_, rfl, by unfold textv; rw [if_neg (by simpa using e1)], h⟩) (fun e1 => ?_)
  refine rd_box0 (by kernel_rfl) X rfl rfl ?_
  refine call_mono (fmtC n w2 a.1 (ht.up h)) ?_
  rintro x w3 ⟨rfl, h'⟩
  replace h := h.trans h'; replace X := X.up h'; clear h'
  refine rd_box (by kernel_rfl) X rfl rfl ?_
  refine br_ne (fun e2 => ?_) (fun e2 => ⟨_, rfl, by unfold textv; rw [if_pos (by simpa using e1), if_pos e2], h⟩)
  refine rd_box (by kernel_rfl) X rfl rfl ?_
  refine call_mono (fmtC d w3 a.2 (ht.up h)) ?_
  rintro x w4 ⟨rfl, h'⟩
  replace h := h.trans h'; replace X := X.up h'; clear h'
  have s1 := txt_size n a.1
  have s2 := txt_size d a.2
  have s3 : ((⟨#[47]⟩ : ByteArray) ++ txt d).size = 1 + (txt d).size := by rw [ByteArray.size_append]; rfl
  refine rdp_cat (by show 1 + (txt d).size ≤ 1000; omega) ?_
  refine rdp_cat (by rw [s3]; omega) ?_
  exact ⟨_, rfl, by unfold textv; rw [if_pos (by simpa using e1), if_neg e2], h⟩

set_option maxHeartbeats 800000 in
theorem floor10K (n d : Int) (w : World) (hn1 : -9223372036854775808 ≤ n) (hn2 : n ≤ 9223372036854775807) (hd1 : -9223372036854775808 ≤ d) (hd2 : d ≤ 9223372036854775807) :
    Calls Tryd.prog 9 #[fracv n d] w (QIntB (floorq n d) w) := by
  unfold fracv
  by_cases hv : IsFrac n d
  · have HV : Hid (decide (IsFrac n d) = true) := by show _ = _; simpa using hv
    have HF : Hid (floorq n d = n / d) := by show _ = _; unfold floorq; rw [if_pos hv]
    obtain ⟨k1, k2, k3, k4, _⟩ := hv
    obtain ⟨t1, t2⟩ : -100000000000000000 ≤ n.tdiv d ∧ n.tdiv d ≤ 100000000000000000 := by
      have := Int.natAbs_tdiv_le_natAbs n d
      omega
    rcases (by omega : n.tmod d < 0 ∨ 0 ≤ n.tmod d) with ht | ht
    · replace HF := Lib.hid (HF.out.trans (tdiv_floor (by omega) ht).1)
      have hd0 : (d == 0) = false := by simp; omega
      go_enter Tryd.func9, Tryd.ntmps9
      go_wp2_with fail
      refine (valid10 n d _ hn1 hn2 hd1 hd2).mono ?_
      rintro e w1 ⟨rfl, hb1⟩
      rw [HV.out]
      obtain ⟨hc1, hf1⟩ := bcell hb1
      have c0 : w1.cell? ⟨w.heap.size, 0, none⟩ = some (.int .i64 n) := by rw [hc1 _ _ (by simp)]; go_keep
      have c1 : w1.cell? ⟨w.heap.size, 1, none⟩ = some (.int .i64 d) := by rw [hc1 _ _ (by simp)]; go_keep
      clear hc1 hf1
      go_wp2
      go_ret
      exact ⟨by rw [HF.out]; rfl, Below.next (Below.al (Below.refl _ _) _) hb1⟩
    · replace HF := Lib.hid (HF.out.trans (tdiv_floor' (by omega) ht))
      have hd0 : (d == 0) = false := by simp; omega
      go_enter Tryd.func9, Tryd.ntmps9
      go_wp2_with fail
      refine (valid10 n d _ hn1 hn2 hd1 hd2).mono ?_
      rintro e w1 ⟨rfl, hb1⟩
      rw [HV.out]
      obtain ⟨hc1, hf1⟩ := bcell hb1
      have c0 : w1.cell? ⟨w.heap.size, 0, none⟩ = some (.int .i64 n) := by rw [hc1 _ _ (by simp)]; go_keep
      have c1 : w1.cell? ⟨w.heap.size, 1, none⟩ = some (.int .i64 d) := by rw [hc1 _ _ (by simp)]; go_keep
      clear hc1 hf1
      go_wp2
      go_ret
      exact ⟨by rw [HF.out]; rfl, Below.next (Below.al (Below.refl _ _) _) hb1⟩
  · have HV : Hid (decide (IsFrac n d) = false) := by show _ = _; simpa using hv
    have HF : Hid (floorq n d = 0) := by show _ = _; unfold floorq; rw [if_neg hv]
    clear hv
    go_enter Tryd.func9, Tryd.ntmps9
    go_wp2_with fail
    refine (valid10 n d _ hn1 hn2 hd1 hd2).mono ?_
    rintro e w1 ⟨rfl, hb1⟩
    rw [HV.out]
    go_wp2
    go_ret
    exact ⟨by rw [HF.out]; rfl, Below.next (Below.al (Below.refl _ _) _) hb1⟩

theorem floor10 (n d : Int) (w : World) (a : I64 n ∧ I64 d) : call Tryd.prog 9 [fracv n d] (.one (.one (.int .i64))) w (fun x w' => x = floorq n d ∧ bel w w') := callI (floor10K n d w a.1.1 a.1.2 a.2.1 a.2.2)
theorem floorFc (n d : Int) (w : World) (a : I64 n ∧ I64 d) : call Tryd.prog 8 [fracv n d] (.one (.one (.int .i64))) w (fun x w' => x = floorq n d ∧ bel w w') := callI (floorF n d w a.1.1 a.1.2 a.2.1 a.2.2)
theorem of10f (n d : Int) (w : World) (hn : I64 n) (hd : I64 d) : call Tryd.prog 5 [.int .i64 n, .int .i64 d] rFE w (fun x w' => x = ofT n d ∧ bel w w') := by
  refine call_of (S5_calls n d w _ ?_)
  unfold S5
  refine wr_alloc (z := fracv 0 0) (by kernel_rfl) fun x1 w1 Y h hy _ => ?_
  have hne : w.heap.size ≤ x1.block := by omega
  refine br_eq (fun e0 => ?_) (fun e0 => ?_)
  · refine wu_box Y (by kernel_rfl) (Nat.le_refl 2) rfl fun w5 Y h' _ => ?_
    exact rd_boxV Y (by kernel_rfl) rfl ⟨(invT : FE), rfl, by unfold ofT; rw [if_pos e0], h.grownAt h' hne⟩
  refine call_mono (ofC n w1 hn) ?_
  rintro x5 w2 ⟨⟨a1, n1, c1, q1, q2, q3⟩, h'⟩
  replace h := h.trans h'; replace Y := Y.up h'; clear h'
  refine call_mono (ofC d w2 hd) ?_
  rintro x7 w3 ⟨⟨a2, n2, c2, p1, p2, p3⟩, h'⟩
  replace q2 := q2.kept h'
  replace h := h.trans h'; replace Y := Y.up h'; clear h'
  rw [q1, p1]
  obtain ⟨hq, hn'⟩ := of_norm (n := n) e0
  have L := lowestR (decide (n < 0) != decide (d < 0)) a1 a2 n1 n2 c1 c2 _ _ 3 w3 _ q2 p2 q3 p3 (by omega) (by omega) (Lib.hid ⟨hq, hn'.symm⟩)
  refine call_mono (callBig L) ?_
  rintro s w9 ⟨B3, h'⟩
  replace h := h.trans h'; replace Y := Y.up h'; clear h'
  refine call_mono (fit10 _ _ 3 _ B3) ?_
  rintro (t : FE) w10 ⟨ht, h'⟩
  replace h := h.trans h'; replace Y := Y.up h'; clear h'
  refine wu_box Y (by kernel_rfl) (Nat.le_refl 2) rfl fun w5 Y h' _ => ?_
  refine rd_boxV Y (by kernel_rfl) rfl ⟨t, rfl, ?_, h.grownAt h' hne⟩
  rw [ht]; unfold ofT; rw [if_neg e0]

/-- what the calls of the law return, by their places -/
def Gives (n d b0 b1 : Int) (i : Nat) : Value :=
  if i = 11 ∨ i = 14 then .int .i64 (compv n d b0 b1) else if i = 19 ∨ i = 21 then .int .i64 (floorq n d) else if i = 26 ∨ i = 28 then .int .i64 (floorq b0 b1)
  else if i = 33 ∨ i = 35 then .string (textv n d) else .string (textv b0 b1)
theorem fitT_in (r : Rat) : I64 (fitT r).1.1 ∧ I64 (fitT r).1.2.1 := by
  unfold fitT
  split
  · rename_i h
    obtain ⟨h1, h2, h3⟩ := h
    refine ⟨⟨?_, ?_⟩, ⟨?_, ?_⟩⟩ <;> dsimp only <;> omega
  · refine ⟨⟨?_, ?_⟩, ⟨?_, ?_⟩⟩ <;> dsimp only <;> omega
theorem ofT_in (n d : Int) : I64 (ofT n d).1.1 ∧ I64 (ofT n d).1.2.1 := by
  unfold ofT
  split
  · refine ⟨⟨?_, ?_⟩, ⟨?_, ?_⟩⟩ <;> dsimp only [invT] <;> omega
  · exact fitT_in _

set_option maxHeartbeats 1600000 in
theorem of' (n d b0 b1 : Int) (w : World) (a : I64 n ∧ I64 d) (b : I64 b0 ∧ I64 b1) (ht : Tab w) :
    Calls Tryd.prog 3 #[.int .i64 n, .int .i64 d, fracv b0 b1] w (fun e w' => e = .returned (.bool true) ∧ Below w.heap.size w w') := by
  refine Calls.mono (S3_calls n d b0 b1 w (fun v w' => v = .bool true ∧ bel w w') ?_) (by rintro e w' ⟨v, rfl, rfl, hb⟩; exact ⟨rfl, hb⟩)
  unfold S3
  refine wr_box fun x1 w1 X1 h _ _ => ?_
  refine call_mono (ofF n d _ a.1 a.2) ?_
  rintro (s : FE) w2 ⟨hs, h'⟩
  replace h := h.trans h'; replace X1 := X1.up h'; clear h'
  refine wr_alloc (z := fracv 0 0) (by kernel_rfl) fun x5 w3 Y h' hy _ => ?_
  have hne : w.heap.size ≤ x5.block := by rw [hy]; exact h.size
  have l1 := X1.lt
  have n1 : some x1.block ≠ some x5.block := by intro e; injection e; omega
  replace h := h.trans h'; replace X1 := X1.up h'; clear h'
  refine wu_box Y (by kernel_rfl) (Nat.le_refl 2) rfl fun w4 Y h' _ => ?_
  replace h := h.grownAt h' hne
  replace X1 := X1.grown h' n1
  clear h'
  refine call_mono (of10f n d _ a.1 a.2) ?_
  rintro (t : FE) w5 ⟨ht', h'⟩
  have e : t = s := by rw [ht', hs]
  subst e
  replace h := h.trans h'; replace X1 := X1.up h'; replace Y := Y.up h'; clear h'
  refine wr_alloc (z := fracv 0 0) (by kernel_rfl) fun x10 w6 Z h' hz _ => ?_
  have hne2 : w.heap.size ≤ x10.block := by rw [hz]; exact h.size
  have l1' := X1.lt
  have l5' := Y.lt
  have m1 : some x1.block ≠ some x10.block := by intro e; injection e; omega
  have m5 : some x5.block ≠ some x10.block := by intro e; injection e; omega
  replace h := h.trans h'; replace X1 := X1.up h'; replace Y := Y.up h'; clear h'
  refine wu_box Z (by kernel_rfl) (Nat.le_refl 2) rfl fun w7 Z h' _ => ?_
  replace h := h.grownAt h' hne2
  replace X1 := X1.grown h' m1
  replace Y := Y.grown h' m5
  clear h'
  have hi : I64 t.1.1 ∧ I64 t.1.2.1 := by rw [hs]; exact ofT_in n d
  obtain ⟨⟨p, q, _⟩, er, _⟩ := t
  dsimp only at hi
  clear hs ht' l1 l1' l5' n1 m1 m5 hy hz hne hne2
  refine drw_mk fun w9 h' _ => ?_
  replace h := h.trans h'; replace X1 := X1.up h'; replace Y := Y.up h'; replace Z := Z.up h'; clear h'
  have ht9 := ht.up h
  refine flEx_mk (fun i _ v _ => v = Gives p q b0 b1 i) (fun _ _ _ _ _ h _ => h) ?_
  refine rd_boxN Y (by kernel_rfl) rfl ?_
  refine rd_boxN Z (by kernel_rfl) rfl ?_
  refine rd_eq_same (br_t rfl (br_eq (fun _ => ?_) (fun e => absurd rfl e)))
  refine rd_boxN Y (by kernel_rfl) rfl ?_
  refine rd_boxN X1 (by kernel_rfl) rfl ?_
  refine flc_mk (fun w' _ _ => call_mono (compF' p q b0 b1 w' hi b) fun x w'' ⟨q, hb⟩ => ⟨hb, by rw [q]; rfl⟩) (fun x24 => ?_)
  refine rd_boxN Z (by kernel_rfl) rfl ?_
  refine rd_boxN X1 (by kernel_rfl) rfl ?_
  refine flc_mk (fun w' _ _ => call_mono (cmp10' p q b0 b1 w' hi b) fun x w'' ⟨q, hb⟩ => ⟨hb, by rw [q]; rfl⟩) (fun x31 => ?_)
  refine br_eq (fun _ => ?_) (fun e => flend_mk fun w' _ hp => absurd (by
      have q1 : x31 = compv p q b0 b1 := by have := hp.1; injection this
      have q2 : x24 = compv p q b0 b1 := by have := hp.2.1; injection this
      rw [q1, q2]) e)
  refine rd_boxN Y (by kernel_rfl) rfl ?_
  refine flc_mk (fun w' _ _ => call_mono (floorFc p q w' hi) fun x w'' ⟨q, hb⟩ => ⟨hb, by rw [q]; rfl⟩) (fun x37 => ?_)
  refine rd_boxN Z (by kernel_rfl) rfl ?_
  refine flc_mk (fun w' _ _ => call_mono (floor10 p q w' hi) fun x w'' ⟨q, hb⟩ => ⟨hb, by rw [q]; rfl⟩) (fun x43 => ?_)
  refine br_eq (fun _ => ?_) (fun e => flend_mk fun w' _ hp => absurd (by
      have q1 : x43 = floorq p q := by have := hp.1; injection this
      have q2 : x37 = floorq p q := by have := hp.2.1; injection this
      rw [q1, q2]) e)
  refine rd_boxN X1 (by kernel_rfl) rfl ?_
  refine flc_mk (fun w' _ _ => call_mono (floorFc b0 b1 w' b) fun x w'' ⟨q, hb⟩ => ⟨hb, by rw [q]; rfl⟩) (fun x49 => ?_)
  refine rd_boxN X1 (by kernel_rfl) rfl ?_
  refine flc_mk (fun w' _ _ => call_mono (floor10 b0 b1 w' b) fun x w'' ⟨q, hb⟩ => ⟨hb, by rw [q]; rfl⟩) (fun x55 => ?_)
  refine br_eq (fun _ => ?_) (fun e => flend_mk fun w' _ hp => absurd (by
      have q1 : x55 = floorq b0 b1 := by have := hp.1; injection this
      have q2 : x49 = floorq b0 b1 := by have := hp.2.1; injection this
      rw [q1, q2]) e)
  refine rd_boxN Y (by kernel_rfl) rfl ?_
  refine flc_mk (fun w' hb' _ => call_mono (textF p q w' hi (ht9.up hb')) fun x w'' ⟨q, hb⟩ => ⟨hb, by rw [q]; rfl⟩) (fun x61 => ?_)
  refine rd_boxN Z (by kernel_rfl) rfl ?_
  refine flc_mk (fun w' hb' _ => call_mono (text10 p q w' hi (ht9.up hb')) fun x w'' ⟨q, hb⟩ => ⟨hb, by rw [q]; rfl⟩) (fun x67 => ?_)
  refine rd_eqs ?_
  refine br_mk (fun _ => ?_) (fun e => flend_mk fun w' _ hp => absurd (by
      have q1 : x67 = textv p q := by have := hp.1; injection this
      have q2 : x61 = textv p q := by have := hp.2.1; injection this
      rw [q1, q2, beq_self_eq_true]) (show ¬ (x61.toList == x67.toList) = true by rw [e]; exact Bool.false_ne_true))
  refine rd_boxN X1 (by kernel_rfl) rfl ?_
  refine flc_mk (fun w' hb' _ => call_mono (textF b0 b1 w' b (ht9.up hb')) fun x w'' ⟨q, hb⟩ => ⟨hb, by rw [q]; rfl⟩) (fun x74 => ?_)
  refine rd_boxN X1 (by kernel_rfl) rfl ?_
  refine flend_mk fun w10 h' hp => ?_
  have q1 : x74 = textv b0 b1 := by have := hp.1; injection this
  replace h := h.trans h'; replace X1 := X1.up h'; clear h'
  refine call_mono (text10 b0 b1 w10 b (ht.up h)) ?_
  rintro x w11 ⟨hx, h'⟩
  refine rd_eqs ?_
  refine ⟨?_, h.trans h'⟩
  rw [q1, hx, beq_self_eq_true]
end Go.Proofs.YtajpdnphamomjaaDoor
