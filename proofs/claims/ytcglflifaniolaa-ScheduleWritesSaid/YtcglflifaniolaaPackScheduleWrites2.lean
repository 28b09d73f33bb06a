import Derived.Great.BuildSlice
import Derived.Test.YtcglflifaniolaaOpen
import Derived.DataReads
import Derived.Laws.CopyRow
import Derived.Test.YtcglflifaniolaaPF
import Derived.Test.YtcglflifaniolaaPG
import Derived.KernelRfl
import Derived.Lib.Overlaps
import Derived.Test.YtcglflifaniolaaPackScheduleWrites1

/- The calculus, tenth part: slices, quotients, shifts. -/


namespace Go.V
open Go Go.RowKit Go.Q

structure TyS (P : Program) (t e : TypeId) (z : Value) (sz bytes : Nat) : Prop where
  ht : P.underlying t = some (.slice e)
  hi : (P.info? e).map (fun i => (i.zero, i.size, i.bytes)) = some (some z, sz, bytes)
theorem TyS.size {P : Program} {t e : TypeId} {z : Value} {sz bytes : Nat} (T : TyS P t e z sz bytes) {w : World} : (sizeOf e).run P w = .ok sz w := by
  obtain ⟨i, h1, _, h2, _⟩ := info_parts T.hi
  subst h2
  refine run_sizeOf ?_
  unfold sizeIs; rw [h1]; simp

theorem least_nat {P : Nat → Prop} (h : ∃ n, P n) : ∃ n, P n ∧ ∀ m, P m → n ≤ m := by
  obtain ⟨n, hn⟩ := h
  induction n using Nat.strongRecOn with
  | ind n ih =>
    by_cases hm : ∃ m, m < n ∧ P m
    · obtain ⟨m, h1, h2⟩ := hm
      exact ih m h1 h2
    · exact ⟨n, hn, fun m hp => by
        rcases Nat.lt_or_ge m n with q | q
        · exact absurd ⟨m, q, hp⟩ hm
        · exact q⟩
theorem loop_gh {G T : Type} {x0 : T} {w0 : World} {body : (T → World → Prop) → T → World → Prop} (I : G → T → World → Prop) (μ : G → Nat) (g0 : G) (h0 : I g0 x0 w0)
    (h : ∀ g x w, I g x w → ∀ again, (∀ g' x' w', I g' x' w' → μ g' < μ g → again x' w') → body again x w) : loop x0 w0 body := by
  classical
  let P : T → World → Nat → Prop := fun x w n => ∃ g, I g x w ∧ μ g = n
  let m : T → World → Nat := fun x w => if hx : ∃ n, P x w n then Classical.choose (least_nat hx) else 0
  have spec : ∀ x w, (∃ g, I g x w) → ∃ g, I g x w ∧ μ g = m x w := by
    intro x w ⟨g, hg⟩
    have hx : ∃ n, P x w n := ⟨μ g, g, hg, rfl⟩
    have := (Classical.choose_spec (least_nat hx)).1
    simp only [m, hx, dif_pos]; exact this
  have least : ∀ x w g, I g x w → m x w ≤ μ g := by
    intro x w g hg
    have hx : ∃ n, P x w n := ⟨μ g, g, hg, rfl⟩
    simp only [m, hx, dif_pos]
    exact (Classical.choose_spec (least_nat hx)).2 _ ⟨g, hg, rfl⟩
  refine ⟨fun x w => ∃ g, I g x w, m, ⟨g0, h0⟩, fun x w hI => ?_⟩
  obtain ⟨g, hg, hm⟩ := spec x w hI
  exact h g x w hg _ fun g' x' w' hg' hl => ⟨⟨g', hg'⟩, by have := least x' w' g' hg'; omega⟩

/-! ### elements -/
theorem idx_mk {P : Program} {t e : TypeId} {z : Value} {sz bytes : Nat} (T : TyS P t e z sz bytes) {a : Option Addr} {ad : Addr} {n c j : Nat} {k : IntKind} {i : Int} {K : Addr → Prop} (hj : i = (j : Int)) (h : j < n) (ha : a = some ad) (hk : K (ad.add (j * sz))) :
    rdp P (Instr.indexAt t (.slice a n c) (.int k i)) (.one .addr) K := by
  subst hj ha
  refine ⟨ad.add (j * sz), fun w => ?_, hk⟩
  unfold Instr.indexAt asIntOf
  simp only [Sem.run_bind, Sem.run_pure, Result.andThen_ok, run_underlying T.ht]
  rw [if_pos ⟨by omega, by omega⟩]
  simp only [Sem.run_bind, T.size, Result.andThen_ok, Int.toNat_natCast]
  rfl
theorem at_mk {P : Program} {t e : TypeId} {z : Value} {bytes : Nat} (T : TyS P t e z 1 bytes) (he : scal P e = true) {w : World} {a : Option Addr} {n c j : Nat} {xs : List Value} (H : Sl w a n c 1 xs) {k : IntKind} {i : Int} {s : Sh} {v : Value} {x : s.T} {K : s.T → Prop}
    (hj : i = (j : Int)) (hv : xs[j]? = some v) (hx : s.get v = some x) (hk : K x) :
    rdp P (Instr.indexAt t (.slice a n c) (.int k i)) (.one .addr) fun ad => rd P (Instr.loadAt e (.pointer (some ad))) (.one s) w K := by
  obtain ⟨ad, h1, h2, _⟩ := H.at' j v hv
  have hn : j < n := by have := (List.getElem?_eq_some_iff.1 hv).1; have := H.len; omega
  refine idx_mk T hj hn h1 ?_
  rw [Nat.mul_one]
  exact rd_cell he h2 hx hk
theorem at_nat {P : Program} {t e : TypeId} {z : Value} {bytes : Nat} (T : TyS P t e z 1 bytes) (he : scal P e = true) {w : World} {a : Option Addr} {n c j : Nat} {kk : IntKind} {xs : List Nat} (H : Sl w a n c 1 (nats kk xs)) {k : IntKind} {i : Int} {K : Int → Prop}
    (hj : i = (j : Int)) (hn : j < n) (hk : ∀ x : Nat, xs[j]? = some x → K (x : Int)) :
    rdp P (Instr.indexAt t (.slice a n c) (.int k i)) (.one .addr) fun ad => rd P (Instr.loadAt e (.pointer (some ad))) (.one (.int kk)) w K := by
  have hl := H.nat
  obtain ⟨x, hx⟩ : ∃ x, xs[j]? = some x := ⟨_, List.getElem?_eq_getElem (by omega)⟩
  exact at_mk T he H (s := .int kk) (v := .int kk (x : Int)) hj (by simp [nats, hx]) (by simp [Sh.get]) (hk x hx)
theorem at_int {P : Program} {t e : TypeId} {z : Value} {bytes : Nat} (T : TyS P t e z 1 bytes) (he : scal P e = true) {w : World} {a : Option Addr} {n c j : Nat} {kk : IntKind} {xs : List Int} (H : Sl w a n c 1 (ints kk xs)) {k : IntKind} {i : Int} {K : Int → Prop}
    (hj : i = (j : Int)) (hn : j < n) (hk : ∀ x : Int, xs[j]? = some x → K x) :
    rdp P (Instr.indexAt t (.slice a n c) (.int k i)) (.one .addr) fun ad => rd P (Instr.loadAt e (.pointer (some ad))) (.one (.int kk)) w K := by
  have hl := H.int
  obtain ⟨x, hx⟩ : ∃ x, xs[j]? = some x := ⟨_, List.getElem?_eq_getElem (by omega)⟩
  exact at_mk T he H (s := .int kk) (v := .int kk x) hj (by simp [ints, hx]) (by simp [Sh.get]) (hk x hx)
theorem at_bool {P : Program} {t e : TypeId} {z : Value} {bytes : Nat} (T : TyS P t e z 1 bytes) (he : scal P e = true) {w : World} {a : Option Addr} {n c j : Nat} {xs : List Bool} (H : Sl w a n c 1 (bools xs)) {k : IntKind} {i : Int} {K : Bool → Prop}
    (hj : i = (j : Int)) (hn : j < n) (hk : ∀ x : Bool, xs[j]? = some x → K x) :
    rdp P (Instr.indexAt t (.slice a n c) (.int k i)) (.one .addr) fun ad => rd P (Instr.loadAt e (.pointer (some ad))) (.one .bool) w K := by
  have hl := H.bool
  obtain ⟨x, hx⟩ : ∃ x, xs[j]? = some x := ⟨_, List.getElem?_eq_getElem (by omega)⟩
  exact at_mk T he H (s := .bool) (v := .bool x) hj (by simp [bools, hx]) rfl (hk x hx)
theorem at_hdr {P : Program} {t e : TypeId} {z : Value} {bytes : Nat} (T : TyS P t e z 1 bytes) (he : scal P e = true) {w : World} {a : Option Addr} {n c j : Nat} {hs : List Hdr} (H : Sl w a n c 1 (hs.map hv)) {k : IntKind} {i : Int} {K : (Option Addr × Nat × Nat) → Prop}
    (hj : i = (j : Int)) (hn : j < n) (hk : ∀ x : Hdr, hs[j]? = some x → K x) :
    rdp P (Instr.indexAt t (.slice a n c) (.int k i)) (.one .addr) fun ad => rd P (Instr.loadAt e (.pointer (some ad))) (.one .slice) w K := by
  have hl : hs.length = n := by have := H.len; simpa using this
  obtain ⟨x, hx⟩ : ∃ x, hs[j]? = some x := ⟨_, List.getElem?_eq_getElem (by omega)⟩
  exact at_mk T he H (s := .slice) (v := hv x) hj (by simp [hx]) rfl (hk x hx)

/-! ### elements of several cells -/
theorem add_add (a : Addr) (m o : Nat) : (a.add m).add o = a.add (m + o) := by
  rcases Nat.eq_zero_or_pos m with h | h
  · subst h; rw [Go.Q.add_zero, Nat.zero_add]
  · rcases Nat.eq_zero_or_pos o with h' | h'
    · subst h'; rw [Go.Q.add_zero, Nat.add_zero]
    · obtain ⟨m, rfl⟩ : ∃ k, m = k + 1 := ⟨m - 1, by omega⟩
      obtain ⟨o, rfl⟩ : ∃ k, o = k + 1 := ⟨o - 1, by omega⟩
      rw [addr_succ, addr_succ, show m + 1 + (o + 1) = (m + 1 + o) + 1 by omega, addr_succ]
      show (⟨a.block, a.off + (m + 1) + (o + 1), none⟩ : Addr) = ⟨a.block, a.off + (m + 1 + o + 1), none⟩
      congr 1; omega
theorem flat_get {α : Type} {enc : α → List Value} {sz : Nat} (he : ∀ a, (enc a).length = sz) : ∀ {L : List α} {j : Nat} {p : α} (_ : L[j]? = some p) {o : Nat} (_ : o < sz), (L.flatMap enc)[j * sz + o]? = (enc p)[o]?
  | [], j, p, hp, o, ho => by simp at hp
  | x :: L, 0, p, hp, o, ho => by
    simp at hp; subst hp
    rw [Nat.zero_mul, Nat.zero_add, List.flatMap_cons, List.getElem?_append_left (by rw [he]; exact ho)]
  | x :: L, j + 1, p, hp, o, ho => by
    simp at hp
    have e : (j + 1) * sz + o = sz + (j * sz + o) := by rw [Nat.add_mul, Nat.one_mul]; omega
    rw [e, List.flatMap_cons, List.getElem?_append_right (by rw [he]; omega), he, Nat.add_sub_cancel_left]
    exact flat_get he hp ho
theorem flat_len {α : Type} {enc : α → List Value} {sz : Nat} (he : ∀ a, (enc a).length = sz) : ∀ (L : List α), (L.flatMap enc).length = L.length * sz
  | [] => by simp
  | x :: L => by rw [List.flatMap_cons, List.length_append, he, flat_len he L, List.length_cons, Nat.add_mul, Nat.one_mul, Nat.add_comm]
theorem idx_agg {P : Program} {t e : TypeId} {z : Value} {sz bytes : Nat} (T : TyS P t e z sz bytes) {α : Type} {enc : α → List Value} (he : ∀ a, (enc a).length = sz) (h0 : 0 < sz) {w : World} {a : Option Addr} {n c j : Nat} {L : List α} (H : Sl w a n c sz (L.flatMap enc)) {k : IntKind} {i : Int} {p : α} {K : Addr → Prop}
    (hj : i = (j : Int)) (hp : L[j]? = some p) (hk : ∀ ad, (∀ o v, (enc p)[o]? = some v → w.cell? (ad.add o) = some v) → K ad) : rdp P (Instr.indexAt t (.slice a n c) (.int k i)) (.one .addr) K := by
  have hlen := H.len
  rw [flat_len he] at hlen
  have hL : L.length = n := Nat.eq_of_mul_eq_mul_right h0 hlen
  have hjl := (List.getElem?_eq_some_iff.1 hp).1
  obtain ⟨u, hu⟩ : ∃ u, (enc p)[0]? = some u := ⟨_, List.getElem?_eq_getElem (by rw [he]; exact h0)⟩
  have hu' := flat_get he hp h0
  rw [hu] at hu'
  obtain ⟨ad, h1, _, _⟩ := H.at' _ _ hu'
  refine idx_mk T hj (by omega) h1 (hk _ fun o v hv => ?_)
  have ho : o < sz := by have := (List.getElem?_eq_some_iff.1 hv).1; rw [he] at this; exact this
  have hg := flat_get he hp ho
  rw [hv] at hg
  obtain ⟨ad', h2, h3, _⟩ := H.at' _ _ hg
  rw [h1] at h2; cases h2
  rw [add_add]; exact h3
theorem at_agg {P : Program} {t e : TypeId} {z : Value} {sz bytes : Nat} (T : TyS P t e z sz bytes) (ht : aggOf P e sz = true) {α : Type} {enc : α → List Value} (he : ∀ a, (enc a).length = sz) (h0 : 0 < sz) {w : World} {a : Option Addr} {n c j : Nat} {L : List α} (H : Sl w a n c sz (L.flatMap enc)) {k : IntKind} {i : Int} {p : α} {l : List Sh} {x : LT l} {K : LT l → Prop}
    (hj : i = (j : Int)) (hp : L[j]? = some p) (hx : Lget l (enc p) = some x) (hk : K x) : rdp P (Instr.indexAt t (.slice a n c) (.int k i)) (.one .addr) fun ad => rd P (Instr.loadAt e (.pointer (some ad))) (.agg l) w K :=
  idx_agg T he h0 H hj hp fun ad h => rd_cells (by rw [he]; exact ht) h hx hk

theorem wu_own {P : Program} {e : TypeId} (hs : sizeIs P e 1 = true) {w : World} {B : Nat} {e' : TypeId} {ad : Addr} {n c j : Nat} {xs : List Value} (O : Own w B e' 1 (some ad) n c xs) {v : Value} {K : World → Prop} (hn : j < n) (hp : v.oneCell' = true)
    (hk : ∀ w', Own w' B e' 1 (some ad) n c (xs.set j v) → w.grownBy w' (blk (some ad)) → w'.heap.size = w.heap.size → K w') :
    wu P (Instr.storeAt e (.pointer (some (ad.add j))) v) w K := by
  have hvc : v.cells = #[v] := by cases v <;> first | rfl | (simp [Value.oneCell'] at hp)
  have hl : xs.length = n := by have := O.1; omega
  obtain ⟨u, hu⟩ : ∃ u, xs[j]? = some u := ⟨_, List.getElem?_eq_getElem (by omega)⟩
  obtain ⟨ad', h1, hc, hfz, _⟩ := O.cell (j := j) hu
  cases h1
  have hg := setCell_grown w (ad.add j) v
  rw [add_block] at hg
  refine ⟨_, ?_, hk _ (O.set j v) hg (setCell_size _ _ _)⟩
  unfold Instr.storeAt Instr.sureAddr storeVar
  simp only [Sem.run_bind, Sem.run_pure, Result.andThen_ok, run_sizeOf hs, hvc, List.size_toArray, List.length_cons, List.length_nil, Nat.zero_add, ne_eq, not_true_eq_false, if_false]
  simp only [storeCells, Sem.run_bind]
  rw [add_zero, run_store P w (ad.add j) v .plain hp, hc]
  simp only [hfz, Bool.false_eq_true, if_false, Result.andThen_ok, Sem.run_pure]
theorem set_mk {P : Program} {t e : TypeId} {z : Value} {bytes : Nat} (T : TyS P t e z 1 bytes) {w : World} {B : Nat} {a : Option Addr} {n c j : Nat} {xs : List Value} (O : Own w B e 1 a n c xs) {k : IntKind} {i : Int} {v : Value} {K : World → Prop}
    (hj : i = (j : Int)) (hn : j < n) (hp : v.oneCell' = true)
    (hk : ∀ w', Own w' B e 1 a n c (xs.set j v) → w.grownBy w' (blk a) → w'.heap.size = w.heap.size → K w') :
    rdp P (Instr.indexAt t (.slice a n c) (.int k i)) (.one .addr) fun ad => wu P (Instr.storeAt e (.pointer (some ad)) v) w K := by
  have hl : xs.length = n := by have := O.1; omega
  obtain ⟨u, hu⟩ : ∃ u, xs[j]? = some u := ⟨_, List.getElem?_eq_getElem (by omega)⟩
  obtain ⟨ad, h1, _⟩ := O.cell (j := j) hu
  subst h1
  refine idx_mk T hj hn rfl ?_
  rw [Nat.mul_one]
  refine wu_own ?_ O hn hp hk
  obtain ⟨i, h1, _, h2, _⟩ := info_parts T.hi
  unfold sizeIs; rw [h1]; simp [h2]

/-! ### literals, make, append -/
theorem wr_lit {P : Program} {t e : TypeId} {z : Value} {sz bytes : Nat} (T : TyS P t e z sz bytes) {w : World} {n : Nat} {parts : Array (Nat × Value)} {k : (Option Addr × Nat × Nat) → World → Prop} (cells : Array Value)
    (hf : Instr.fill (fun i => some (i * sz, sz)) ((Array.range (n * sz)).map (z.cells[· % z.cells.size]!)) parts.toList = some cells) (h0 : n * sz ≠ 0) (hl : n * sz ≤ 16777216) (hc : cells.size = n * sz) (hm : n ≤ maxLen)
    (hk : ∀ ad w', (∀ B, B ≤ w.heap.size → Own w' B e sz (some ad) n n cells.toList) → bel w w' → ad.block = w.heap.size → w'.heap.size = w.heap.size + 1 → k (some ad, n, n) w') :
    wr P (Instr.buildSlice t n parts) (.one .slice) w k := by
  refine ⟨(some ⟨w.heap.size, 0, none⟩, n, n), w.alloc (.cells cells e), ?_, hk _ _ (fun B hB => Own.lit w B e sz n cells hB hc hm) (bel_alloc _ _) rfl (by simp)⟩
  obtain ⟨i, hi0, hz0, hz1, hz2⟩ := info_parts T.hi
  subst hz1
  unfold Instr.buildSlice
  simp only [Sem.run_bind, run_underlying T.ht, Result.andThen_ok, T.size]
  rw [if_neg (by omega), if_neg h0]
  simp only [Sem.run_bind, Sem.run_pure, Result.andThen_ok]
  have hzv : (zeroValue e).run P w = .ok z w := by
    unfold zeroValue typeInfo
    simp only [Sem.run_bind, run_program, Result.andThen_ok, hi0, Sem.run_pure, hz0]
  simp only [hzv, Result.andThen_ok, hf]
  rfl
theorem fill_one (sz : Nat) (v : Value) (zs : Array Value) (h1 : v.cells.size = sz) (h2 : zs.size = sz) : Instr.fill (fun i => some (i * sz, sz)) zs [(0, v)] = some v.cells := by
  unfold Instr.fill
  simp only [Nat.zero_mul, Nat.zero_add, h1, h2, ne_eq, not_true_eq_false, decide_false, Nat.lt_irrefl, gt_iff_lt, Bool.or_self, Bool.false_eq_true, if_false]
  unfold Instr.fill
  congr 1
  have key : ∀ (l : List Value) (m : Nat) (cs : Array Value), m + l.length = cs.size → (l.zipIdx m).foldl (fun (cs : Array Value) (p : Value × Nat) => cs.setIfInBounds p.2 p.1) cs = (cs.toList.take m ++ l).toArray := by
    intro l
    induction l with
    | nil => intro m cs h; simp at h; simp [h, List.take_of_length_le]
    | cons x l ih =>
      intro m cs h
      simp only [List.length_cons] at h
      simp only [List.zipIdx_cons, List.foldl_cons]
      rw [ih (m + 1) _ (by simp; omega)]
      congr 1
      rw [Array.toList_setIfInBounds]
      have hm : m < cs.toList.length := by simp; omega
      rw [List.take_set, List.take_add_one]
      have h3 : (List.take m cs.toList).length = m := by rw [List.length_take]; omega
      rw [List.getElem?_eq_getElem hm, List.set_append, if_neg (by omega), h3]
      simp
  have := key v.cells.toList 0 zs (by simp; omega)
  simp only [List.take_zero, List.nil_append] at this
  rw [← Array.foldl_toList, Array.toList_zipIdx, this]
theorem wr_app1 {P : Program} {t e : TypeId} {z : Value} {sz bytes : Nat} (T : TyS P t e z sz bytes) {w : World} {B : Nat} {sa : Option Addr} {n c : Nat} {xs : List Value} (O : Own w B e sz sa n c xs) {ty : TypeId} {v : Value} {k : (Option Addr × Nat × Nat) → World → Prop}
    (hB : B ≤ w.heap.size) (hz : z.cells.size = sz) (hs : 0 < sz) (hsl : sz ≤ 16777216) (hv : v.cells.size = sz) (hp : plainV v.cells.toList = true) (hb : (n + 1) * bytes ≤ 140737488355328) (hn : n + 1 ≤ maxLen)
    (hk : ∀ a' c' w', Own w' B e sz a' (n + 1) c' (xs ++ v.cells.toList) → w.grownBy w' (blk sa) → (blk a' = blk sa ∨ (∀ b, blk a' = some b → w.heap.size ≤ b)) → w.heap.size ≤ w'.heap.size → k (a', n + 1, c') w') :
    wr P (Instr.buildSlice t 1 #[(0, v)]) (.one .slice) w fun x w1 => wr P (Builtin.append_ #[t, t] ty #[.slice sa n c, .slice x.1 x.2.1 x.2.2]) (.one .slice) w1 k := by
  refine wr_lit T v.cells (fill_one sz v _ hv (by simp)) (by omega) (by omega) (by omega) (by unfold maxLen; omega) fun ad w1 L h1 h2 h3 => ?_
  have O1 : Own w1 B e sz sa n c xs := O.kept h1
  have L1 := L B hB
  have hl : v.cells.toList.length = 1 * sz := by simpa using hv
  obtain ⟨a', c', w2, hr, hA⟩ := run_app (P := P) w1 t ty B e z sz bytes T.ht T.hi hz hs sa n c xs O1 ad 1 1 v.cells.toList hl (fun j u hj => by
      obtain ⟨ad', q1, q2, _⟩ := L1.cell (j := j) hj
      cases q1; exact q2) (fun u hu => by
      unfold plainV at hp; rw [List.all_eq_true] at hp; exact hp u hu) hb hn (by omega)
  refine ⟨(a', n + 1, c'), w2, hr, hk a' c' w2 hA.own ((grown_of_bel h1 _).trans hA.grown) ?_ (by have := hA.size; omega)⟩
  rcases hA.at' with q | q | q
  · exact .inl q
  · exact .inr fun b hb => by rw [q] at hb; cases hb; omega
  · exact .inr fun b hb => by rw [q] at hb; cases hb
theorem wr_make {P : Program} {t e : TypeId} {z : Value} {sz bytes : Nat} (T : TyS P t e z sz bytes) {w : World} {kl kc : IntKind} {L C : Int} {k : (Option Addr × Nat × Nat) → World → Prop} (n : Nat) (hL : L = (n : Int)) (hC : C = (n : Int)) (hb : bytes * n ≤ 281474976710656) (hn : n ≤ maxLen)
    (hk : ∀ ad w', (∀ B, B ≤ w.heap.size → Own w' B e sz (some ad) n n (madeCells z.cells (n * sz)).toList) → bel w w' → ad.block = w.heap.size → w'.heap.size = w.heap.size + 1 → k (some ad, n, n) w') :
    wr P (Instr.makeSlice t (.int kl L) (.int kc C)) (.one .slice) w k := by
  obtain ⟨i, hi0, hz0, hz1, hz2⟩ := info_parts T.hi
  subst hL hC hz1 hz2
  have h63' : (n : Int) ≤ 9223372036854775807 := by unfold maxLen at hn; omega
  have hb' : (i.bytes : Int) * (n : Int) ≤ 281474976710656 := by
    have h : ((i.bytes * n : Nat) : Int) ≤ 281474976710656 := by omega
    rwa [Int.natCast_mul] at h
  have hr := run_make (P := P) w t e i z T.ht hi0 hz0 kl kc n n (by omega) (Int.le_refl _) hb' h63'
  simp only [Int.toNat_natCast] at hr
  exact ⟨(some ⟨w.heap.size, 0, none⟩, n, n), _, hr, hk _ _ (fun B hB => World.ownsRow_lit w _ n hB hn (size_madeCells _ _)) (bel_alloc _ _) rfl (by simp)⟩
theorem wr_lit0 {P : Program} {t e : TypeId} {z : Value} {sz bytes : Nat} (T : TyS P t e z sz bytes) {w : World} {k : (Option Addr × Nat × Nat) → World → Prop}
    (hk : ∀ ad w', (∀ B, B ≤ w.heap.size → Own w' B e sz (some ad) 0 0 []) → bel w w' → ad.block = w.heap.size → w'.heap.size = w.heap.size + 1 → k (some ad, 0, 0) w') :
    wr P (Instr.buildSlice t 0 #[]) (.one .slice) w k := by
  refine ⟨(some ⟨w.heap.size, 0, none⟩, 0, 0), w.alloc (.cells #[] e), ?_, hk _ _ (fun B hB => Own.lit w B e sz 0 #[] hB (by simp) (by unfold maxLen; omega)) (bel_alloc _ _) rfl (by simp)⟩
  unfold Instr.buildSlice
  simp only [Sem.run_bind, run_underlying T.ht, Result.andThen_ok, T.size]
  simp [Instr.fill, newRow, Array.range_zero']
  rfl
theorem wr_app {P : Program} {t e : TypeId} {z : Value} {sz bytes : Nat} (T : TyS P t e z sz bytes) {w : World} {B : Nat} {sa : Option Addr} {n c : Nat} {xs : List Value} (O : Own w B e sz sa n c xs) {ty : TypeId} {ad : Addr} {m mc : Nat} {ys : List Value} (H : Sl w (some ad) m mc sz ys) {k : (Option Addr × Nat × Nat) → World → Prop}
    (hB : B ≤ w.heap.size) (hz : z.cells.size = sz) (hs : 0 < sz) (hp : plainV ys = true) (hb : (n + m) * bytes ≤ 140737488355328) (hn : n + m ≤ maxLen)
    (hk : ∀ a' c' w', Own w' B e sz a' (n + m) c' (xs ++ ys) → w.grownBy w' (blk sa) → (blk a' = blk sa ∨ (∀ b, blk a' = some b → w.heap.size ≤ b)) → w.heap.size ≤ w'.heap.size → k (a', n + m, c') w') :
    wr P (Builtin.append_ #[t, t] ty #[.slice sa n c, .slice (some ad) m mc]) (.one .slice) w k := by
  obtain ⟨a', c', w2, hr, hA⟩ := run_app (P := P) w t ty B e z sz bytes T.ht T.hi hz hs sa n c xs O ad m mc ys H.len (fun j u hj => by
      obtain ⟨ad', q1, q2, _⟩ := H.at' j u hj
      cases q1; exact q2) (fun u hu => by
      unfold plainV at hp; rw [List.all_eq_true] at hp; exact hp u hu) hb hn hB
  refine ⟨(a', n + m, c'), w2, hr, hk a' c' w2 hA.own hA.grown ?_ hA.size⟩
  rcases hA.at' with q | q | q
  · exact .inl q
  · exact .inr fun b hb => by rw [q] at hb; cases hb; omega
  · exact .inr fun b hb => by rw [q] at hb; cases hb
theorem equal_nil {P : Program} {t e : TypeId} {a : Option Addr} {n c : Nat} {w : World} (ht : P.underlying t = some (.slice e)) : (Op.equal t (.slice a n c) (.slice none 0 0)).run P w = .ok a.isNone w := by
  have key : ∀ d : Nat, (Op.equalIn (d + 1) t (.slice a n c) (.slice none 0 0)).run P w = .ok a.isNone w := by
    intro d
    cases a <;> simp [Op.equalIn, run_underlying ht]
  exact key 9999
theorem rd_nil {P : Program} {t e : TypeId} {z : Value} {sz bytes : Nat} (T : TyS P t e z sz bytes) {x y : Operand} {a : Option Addr} {n c : Nat} {w : World} {k : Bool → Prop} (hk : k a.isNone) : rd P (cmpS .eql t x y (.slice a n c) (.slice none 0 0)) (.one .bool) w k := by
  refine ⟨a.isNone, fun w' _ => ?_, hk⟩
  unfold cmpS eqGuard Go.binOp
  simp only [Bool.not_true, Bool.false_eq_true, if_false, Sem.run_bind, Sem.run_pure, Result.andThen_ok, equal_nil T.ht]
  rfl
theorem bel.own {a w w' : World} {B : Nat} {e : TypeId} {sz : Nat} {sa : Option Addr} {n c : Nat} {xs : List Value} (h : bel a w) (O : Own w B e sz sa n c xs) (hg : w.grownBy w' (blk sa)) (hB : a.heap.size ≤ B) : bel a w' :=
  h.grown hg fun k hk => Nat.le_trans hB (O.lt k hk).1

/-! ### quotients and shifts -/
theorem rdp_bin {P : Program} {op : BinOp} {t : TypeId} {x y : Operand} {a b : Value} {k : IntKind} {v : Int} {K : Int → Prop} (hop : (op matches .eql | .neq) = false) (h : ∀ w, (Go.binOp op t a b).run P w = .ok (.int k v) w) (hk : K v) :
    rdp P (cmpS op t x y a b) (.one (.int k)) K := by
  refine ⟨v, fun w => ?_, hk⟩
  unfold cmpS eqGuard
  cases op <;> first | (cases hop; done) | (simp only [Bool.not_false, if_true, Sem.run_bind, Sem.run_pure, Result.andThen_ok]; exact h w)
theorem rdp_rem {P : Program} {t : TypeId} {x y : Operand} {k : IntKind} {a b : Int} {K : Int → Prop} (hb : b ≠ 0) (hk : K (a.tmod b)) : rdp P (cmpS .rem t x y (.int k a) (.int k b)) (.one (.int k)) K := by
  refine rdp_bin rfl (fun w => ?_) hk
  unfold Go.binOp Op.intDiv
  simp [hb]
/-! ### parts of slices -/
theorem TyS.elem {P : Program} {t e : TypeId} {z : Value} {sz bytes : Nat} (T : TyS P t e z sz bytes) : P.elem t = e := by
  unfold Program.elem; rw [T.ht]
theorem sl_to {P : Program} {t e : TypeId} {z : Value} {sz bytes : Nat} (T : TyS P t e z sz bytes) {a : Option Addr} {n c m : Nat} {k : IntKind} {i : Int} {K : (Option Addr × Nat × Nat) → Prop} (hi : i = (m : Int)) (hm : m ≤ c) (hk : K (a, m, c)) :
    rdp P (Instr.sliceAt t (.slice a n c) none (some (.int k i)) none) (.one .slice) K := by
  subst hi
  refine ⟨(a, m, c), fun w => ?_, hk⟩
  have ht : P.underlying t = some (.slice (P.elem t)) := by rw [T.elem]; exact T.ht
  rw [run_sliceAt_slice _ _ _ _ _ _ ht, run_slice_h _ _ _ _ _ ht _ _ (by omega) (by omega), T.elem, T.size]
  simp only [Result.andThen_ok, sliced, Int.toNat_natCast, Nat.sub_zero, Nat.zero_mul]
  cases a with
  | none => simp [VS.val, Sh.val]
  | some ad => simp [VS.val, Sh.val, add_zero]
end Go.V

/- The calculus, eleventh part: arrays, cells inside a block. -/

namespace Go.V
open Go Go.RowKit Go.Q

theorem storeCells_add {P : Program} {a : Addr} (m : Nat) : ∀ (vs : List Value) (i : Nat) (w : World), (storeCells (a.add m) vs i).run P w = (storeCells a vs (m + i)).run P w
  | [], _, _ => rfl
  | v :: vs, i, w => by
    simp only [storeCells, Sem.run_bind, add_add]
    congr 1
    funext u w'
    exact storeCells_add m vs (i + 1) w'
end Go.V

/- Arguments that came in: slices of any elements as lists; tables. -/



namespace Go.V
open Go Go.RowKit Go.Q

section
variable {P : Program} {w : World} {t e : TypeId}
theorem Read.elems {α : Type} {enc : α → List Value} {R : α → Prop} {sz : Nat} {cs : List Value} (he : ∀ x, (enc x).length = sz) (h0 : 0 < sz) (hE : ∀ ch, Go.Q.Read P w e ch → ∃ x, ch = enc x ∧ R x)
    (ht : P.underlying t = some (.slice e)) (hs : P.cellsOf e = sz) (h : Go.Q.Read P w t cs) : ∃ a n c, ∃ L : List α, cs = [.slice a n c] ∧ L.length = n ∧ Sl w a n c sz (L.flatMap enc) ∧ ∀ x ∈ L, R x := by
  obtain ⟨a, n, c, rfl, h1, h2, h3, h4⟩ := Go.Q.Read.slice ht h
  have ex : ∀ i : Fin n, ∃ x : α, ∃ ad, a = some ad ∧ w.cells? 0 (ad.add (i * sz)) sz = some (enc x) ∧ R x := fun i => by
    obtain ⟨ad, ch, e1, e2, e3⟩ := h4 i i.2
    obtain ⟨x, rfl, hx⟩ := hE ch e3
    rw [hs] at e2
    exact ⟨x, ad, e1, e2, hx⟩
  refine ⟨a, n, c, List.ofFn fun i => Classical.choose (ex i), rfl, by simp, ?_, ?_⟩
  · refine ⟨by rw [flat_len he]; simp, h1, h2, h3, fun j u hj => ?_⟩
    have hj' : j < n * sz := by
      have := (List.getElem?_eq_some_iff.1 hj).1
      rw [flat_len he] at this
      simpa using this
    have hi : j / sz < n := Nat.div_lt_of_lt_mul (by rwa [Nat.mul_comm])
    have ho : j % sz < sz := Nat.mod_lt _ h0
    obtain ⟨ad, e1, e2, _⟩ := Classical.choose_spec (ex ⟨j / sz, hi⟩)
    have hg := flat_get he (L := List.ofFn fun i => Classical.choose (ex i)) (j := j / sz) (p := Classical.choose (ex ⟨j / sz, hi⟩)) (by simp [hi]) ho
    rw [Nat.div_add_mod' j sz, hj] at hg
    obtain ⟨_, e4, e5⟩ := World.cells?_some e2
    have h6 := e5 (j % sz) ho
    rw [add_add] at h6
    simp only at h6
    rw [Nat.div_add_mod', ← hg] at h6
    refine ⟨ad, e1, h6, ?_⟩
    have := cell_lt h6
    rwa [add_block] at this
  · intro x hx
    rw [List.mem_ofFn] at hx
    obtain ⟨i, rfl⟩ := hx
    obtain ⟨ad, e1, e2, e3⟩ := Classical.choose_spec (ex i)
    exact e3
theorem Read.ones {α : Type} {g : α → Value} {R : α → Prop} {cs : List Value} (hE : ∀ ch, Go.Q.Read P w e ch → ∃ x, ch = [g x] ∧ R x)
    (ht : P.underlying t = some (.slice e)) (hs : P.cellsOf e = 1) (h : Go.Q.Read P w t cs) : ∃ a n c, ∃ L : List α, cs = [.slice a n c] ∧ L.length = n ∧ Sl w a n c 1 (L.map g) ∧ ∀ x ∈ L, R x := by
  obtain ⟨a, n, c, L, h1, h2, h3, h4⟩ := Read.elems (enc := fun x => [g x]) (R := R) (fun _ => rfl) Nat.one_pos hE ht hs h
  rw [← List.map_eq_flatMap] at h3
  exact ⟨a, n, c, L, h1, h2, h3, h4⟩
theorem Read.ints {k : IntKind} {cs : List Value} (ht : P.underlying t = some (.slice e)) (he : P.underlying e = some (.int k)) (hs : P.cellsOf e = 1) (h : Go.Q.Read P w t cs) :
    ∃ a n c, ∃ L : List Int, cs = [.slice a n c] ∧ L.length = n ∧ Sl w a n c 1 (ints k L) ∧ ∀ x ∈ L, (Lit.int k x).wf = true :=
  Read.ones (g := Value.int k) (fun _ h => Go.Q.Read.int he h) ht hs h
theorem Arg.slice {v : Value} (ht : P.underlying t = some (.slice e)) (h : Arg P w t v) : ∃ a n c, v = .slice a n c ∧ Go.Q.Read P w t [v] := by
  obtain ⟨⟨r, b, ho⟩, hr⟩ := h
  unfold Value.okWide Cell.okWide Cell.ok at ho
  simp only [ht] at ho
  cases v with
  | slice a n c => exact ⟨a, n, c, rfl, hr⟩
  | _ => simp at ho
end
end Go.V

/- Loops in the calculus: counting loops, the search of slices.IndexFunc. -/

namespace Go.V
open Go Go.RowKit Go.Q

theorem _root_.Go.Q.Sl.up {w w' : World} {a : Option Addr} {n c sz : Nat} {xs : List Value} (h : Sl w a n c sz xs) (hb : bel w w') : Sl w' a n c sz xs := h.kept hb
theorem loop_up {w0 : World} {body : ((Int × Unit) → World → Prop) → (Int × Unit) → World → Prop} (n : Nat) (I : Nat → World → Prop) (h0 : I 0 w0)
    (h : ∀ i w, i ≤ n → I i w → ∀ again : (Int × Unit) → World → Prop, (∀ w', i < n → I (i + 1) w' → again ((i : Int) + 1, ()) w') → body again ((i : Int), ()) w) : loop (0, ()) w0 body := by
  refine loop_gh (G := Nat) (fun i s w' => s = ((i : Int), ()) ∧ i ≤ n ∧ I i w') (fun i => n - i) 0 ⟨rfl, Nat.zero_le _, h0⟩ ?_
  rintro i s w ⟨rfl, hi, hI⟩ again hag
  exact h i w hi hI again fun w' hlt hI' => hag (i + 1) _ _ ⟨rfl, hlt, hI'⟩ (by omega)
theorem loop_upA {A : Type} {a0 : A} {w0 : World} {body : ((A × Int × Unit) → World → Prop) → (A × Int × Unit) → World → Prop} (n : Nat) (I : Nat → A → World → Prop) (h0 : I 0 a0 w0)
    (h : ∀ i a w, i ≤ n → I i a w → ∀ again : (A × Int × Unit) → World → Prop, (∀ a' w', i < n → I (i + 1) a' w' → again (a', (i : Int) + 1, ()) w') → body again (a, (i : Int), ()) w) : loop (a0, 0, ()) w0 body := by
  refine loop_gh (G := Nat) (fun i s w' => s.2 = ((i : Int), ()) ∧ i ≤ n ∧ I i s.1 w') (fun i => n - i) 0 ⟨rfl, Nat.zero_le _, h0⟩ ?_
  rintro i ⟨a, s⟩ w ⟨rfl, hi, hI⟩ again hag
  exact h i a w hi hI again fun a' w' hlt hI' => hag (i + 1) _ _ ⟨rfl, hlt, hI'⟩ (by omega)
theorem var_mk {P : Program} {e : TypeId} {z v : Value} {w : World} {k : Addr → World → Prop} (hz : zeroOf P e = some z) (hs : sizeIs P e v.cells.size = true) (hl : v.cells.size = z.cells.size) (hp : plainV v.cells.toList = true)
    (hk : ∀ a w', Box w' a v.cells.toList → bel w w' → a.block = w.heap.size → k a w') :
    wr P (Instr.alloc e true (.tuple #[])) (.one .addr) w fun x w1 => wu P (Instr.storeAt e (.pointer (some x)) v) w1 fun w2 => k x w2 := by
  refine wr_alloc hz fun a w1 Z h ha _ => ?_
  refine wu_box Z hs (by rw [hl]; simp) hp fun w2 Z hg _ => ?_
  have e2 : putAt z.cells.toList 0 v.cells.toList = v.cells.toList := by
    have key : ∀ (vs pre cs : List Value), cs.length = vs.length → putAt (pre ++ cs) pre.length vs = pre ++ vs := by
      intro vs
      induction vs with
      | nil => intro pre cs h; rw [List.eq_nil_of_length_eq_zero h]; rfl
      | cons x vs ih =>
        intro pre cs h
        cases cs with
        | nil => simp at h
        | cons c cs =>
          simp only [putAt]
          have h1 : (pre ++ c :: cs).set pre.length x = (pre ++ [x]) ++ cs := by simp
          rw [h1]
          have := ih (pre ++ [x]) cs (by simpa using h)
          simp only [List.length_append, List.length_cons, List.length_nil, Nat.zero_add] at this
          rw [this]; simp
    have := key v.cells.toList [] z.cells.toList (by simp [hl])
    simpa using this
  rw [e2] at Z
  exact hk _ _ Z (h.grownAt hg (by omega)) ha

def idxI {β : Type} (q : β → Bool) (ys : List β) : Int :=
  match ys.findIdx? q with
  | some i => (i : Int) | none => -1
theorem idxI_any {β : Type} (q : β → Bool) (ys : List β) : decide (idxI q ys ≥ 0) = ys.any q := by
  unfold idxI
  rw [← List.findIdx?_isSome]
  cases ys.findIdx? q with
  | none => rfl
  | some i => simp
theorem idx_loop {P : Program} {t e : TypeId} {vs : VS} {f : FuncId} {fargs : vs.T → List Value} {a : Option Addr} {n c : Nat} {R : Value → World → Prop} {w0 : World} {β : Type} (xs : List vs.T) (ys : List β) (q : β → Bool) (hn : xs.length = n) (hy : ys.length = n) (hm : n ≤ 9223372036854775807)
    (RD : ∀ (j : Nat) (x : vs.T), xs[j]? = some x → ∀ w', bel w0 w' → ∀ K : vs.T → Prop, K x → rdp P (Instr.indexAt t (.slice a n c) (.int .i64 (j : Int))) (.one .addr) fun ad => rd P (Instr.loadAt e (.pointer (some ad))) vs w' K)
    (CALL : ∀ (j : Nat) (x : vs.T) (y : β), xs[j]? = some x → ys[j]? = some y → ∀ w', bel w0 w' → call P f (fargs x) (.one (.one .bool)) w' fun b w'' => b = q y ∧ bel w' w'')
    (hk : ∀ w', bel w0 w' → R (.int .i64 (idxI q ys)) w') :
    loop (T := (Int × Unit)) (0, ()) w0 fun (again1 : (Int × Unit) → World → Prop) (s2 : (Int × Unit)) w3 => ∀ _ : Nat → Value,
      br (decide (s2.1 < ((n : Nat) : Int))) (rdp P (Instr.indexAt t (.slice a n c) (.int .i64 s2.1)) (.one .addr) fun (x4 : Addr) =>
      rd P (Instr.loadAt e (.pointer (some x4))) vs w3 fun x5 =>
      call P f (fargs x5) (.one (.one .bool)) w3 fun (x6 : Bool) (w7 : World) =>
      br x6 (R (.int .i64 s2.1) w7)
      (z (IntKind.wrap .i64 (s2.1 + 1)) fun (z8 : Int) =>
      again1 (z8, ()) w7))
      (R (.int .i64 (-1)) w3) := by
  refine loop_up n (fun i w' => bel w0 w' ∧ ∀ j, j < i → ∀ y, ys[j]? = some y → q y = false) ⟨bel.refl _, fun j h => by omega⟩ ?_
  rintro i w hi ⟨hb, hq⟩ again hag _
  refine br_dec (fun e => ?_) (fun e => ?_)
  · dsimp only at e
    have hi' : i < n := by omega
    have hx : xs[i]? = some (xs[i]'(by omega)) := List.getElem?_eq_getElem (by omega)
    have hy' : ys[i]? = some (ys[i]'(by omega)) := List.getElem?_eq_getElem (by omega)
    refine RD i _ hx w hb _ ?_
    refine call_mono (CALL i _ _ hx hy' w hb) ?_
    rintro b w2 ⟨rfl, hb2⟩
    refine br_mk (fun hq' => ?_) (fun hq' => ?_)
    · have : idxI q ys = (i : Int) := by
        unfold idxI
        rw [List.findIdx?_eq_some_iff_getElem.2 ⟨by omega, hq', fun j hj => by
          have := hq j hj _ (List.getElem?_eq_getElem (by omega))
          simp [this]⟩]
      rw [← this]
      exact hk _ (hb.trans hb2)
    · refine z_i64 (by dsimp only; omega) ?_
      refine hag _ hi' ⟨hb.trans hb2, fun j hj y hy2 => ?_⟩
      rcases Nat.lt_or_ge j i with h | h
      · exact hq j h y hy2
      · have : j = i := by omega
        subst this
        rw [hy'] at hy2; cases hy2; exact hq'
  · dsimp only at e
    have hi' : i = n := by omega
    have : idxI q ys = -1 := by
      unfold idxI
      rw [List.findIdx?_eq_none_iff.2 fun y hy' => by
        obtain ⟨j, hj, rfl⟩ := List.mem_iff_getElem.1 hy'
        exact hq j (by omega) _ (List.getElem?_eq_getElem hj)]
    rw [← this]
    exact hk _ hb
theorem idx_ints {P : Program} {t e : TypeId} {z0 : Value} {bytes : Nat} (TS : TyS P t e z0 1 bytes) (he : scal P e = true) {kk : IntKind} {f : FuncId} {fargs : Int → List Value} {a : Option Addr} {n c : Nat} {w0 : World} {xs : List Int} (H : Sl w0 a n c 1 (ints kk xs)) (q : Int → Bool)
    (CALL : ∀ (j : Nat) (x : Int), xs[j]? = some x → ∀ w', bel w0 w' → call P f (fargs x) (.one (.one .bool)) w' fun b w'' => b = q x ∧ bel w' w'') :
    loop (T := (Int × Unit)) (0, ()) w0 fun (again1 : (Int × Unit) → World → Prop) (s2 : (Int × Unit)) w3 => ∀ _ : Nat → Value,
      br (decide (s2.1 < ((n : Nat) : Int))) (rdp P (Instr.indexAt t (.slice a n c) (.int .i64 s2.1)) (.one .addr) fun (x4 : Addr) =>
      rd P (Instr.loadAt e (.pointer (some x4))) (.one (.int kk)) w3 fun (x5 : Int) =>
      call P f (fargs x5) (.one (.one .bool)) w3 fun (x6 : Bool) (w7 : World) =>
      br x6 ((fun (v : Value) (w' : World) => ∃ x : Int, v = (RS.one (.one (.int .i64))).val x ∧ x = idxI q xs ∧ bel w0 w') (.int .i64 s2.1) w7)
      (z (IntKind.wrap .i64 (s2.1 + 1)) fun (z8 : Int) =>
      again1 (z8, ()) w7))
      ((fun (v : Value) (w' : World) => ∃ x : Int, v = (RS.one (.one (.int .i64))).val x ∧ x = idxI q xs ∧ bel w0 w') (.int .i64 (-1)) w3) := by
  have hl := H.int
  refine idx_loop (R := (fun (v : Value) (w' : World) => ∃ x : Int, v = (RS.one (.one (.int .i64))).val x ∧ x = idxI q xs ∧ bel w0 w')) (vs := .one (.int kk)) (fargs := fargs) xs xs q hl hl H.le (fun j x hx w' hb K hk => ?_) (fun j x y hx hy w' hb => ?_) (fun w' hb => ⟨_, rfl, rfl, hb⟩)
  · have hx' : (xs : List Int)[j]? = some (x : Int) := hx
    exact at_int TS he (H.kept hb) rfl (by have := (List.getElem?_eq_some_iff.1 hx').1; omega) (fun y hy => by rw [hx'] at hy; cases hy; exact hk)
  · have hx' : (xs : List Int)[j]? = some (x : Int) := hx
    rw [hx'] at hy; cases hy
    exact CALL j x hx' w' hb
theorem idx_aggs {P : Program} {t e : TypeId} {z0 : Value} {sz bytes : Nat} (TS : TyS P t e z0 sz bytes) (ht : aggOf P e sz = true) {α : Type} {enc : α → List Value} (he : ∀ a, (enc a).length = sz) (h0 : 0 < sz) {l : List Sh} {dec : α → LT l} (hd : ∀ a, Lget l (enc a) = some (dec a)) {f : FuncId} {fargs : LT l → List Value} {a : Option Addr} {n c : Nat} {w0 : World} {L : List α} (H : Sl w0 a n c sz (L.flatMap enc)) (q : α → Bool)
    (CALL : ∀ (j : Nat) (x : α), L[j]? = some x → ∀ w', bel w0 w' → call P f (fargs (dec x)) (.one (.one .bool)) w' fun b w'' => b = q x ∧ bel w' w'') :
    loop (T := (Int × Unit)) (0, ()) w0 fun (again1 : (Int × Unit) → World → Prop) (s2 : (Int × Unit)) w3 => ∀ _ : Nat → Value,
      br (decide (s2.1 < ((n : Nat) : Int))) (rdp P (Instr.indexAt t (.slice a n c) (.int .i64 s2.1)) (.one .addr) fun (x4 : Addr) =>
      rd P (Instr.loadAt e (.pointer (some x4))) (.agg l) w3 fun (x5 : LT l) =>
      call P f (fargs x5) (.one (.one .bool)) w3 fun (x6 : Bool) (w7 : World) =>
      br x6 ((fun (v : Value) (w' : World) => ∃ x : Int, v = (RS.one (.one (.int .i64))).val x ∧ x = idxI q L ∧ bel w0 w') (.int .i64 s2.1) w7)
      (z (IntKind.wrap .i64 (s2.1 + 1)) fun (z8 : Int) =>
      again1 (z8, ()) w7))
      ((fun (v : Value) (w' : World) => ∃ x : Int, v = (RS.one (.one (.int .i64))).val x ∧ x = idxI q L ∧ bel w0 w') (.int .i64 (-1)) w3) := by
  have hl : L.length = n := by
    have := H.len
    rw [flat_len he] at this
    exact Nat.eq_of_mul_eq_mul_right h0 this
  refine idx_loop (R := (fun (v : Value) (w' : World) => ∃ x : Int, v = (RS.one (.one (.int .i64))).val x ∧ x = idxI q L ∧ bel w0 w')) (vs := .agg l) (fargs := fargs) (L.map dec) L q ((List.length_map ..).trans hl) hl H.le (fun j x hx w' hb K hk => ?_) (fun j x y hx hy w' hb => ?_) (fun w' hb => ⟨_, rfl, rfl, hb⟩)
  · have hx' : (L.map dec)[j]? = some x := hx
    rw [List.getElem?_map] at hx'
    cases hp : L[j]? with
    | none => rw [hp] at hx'; cases hx'
    | some p =>
      rw [hp] at hx'
      cases hx'
      exact at_agg TS ht he h0 (H.kept hb) rfl hp (hd p) hk
  · have hx' : (L.map dec)[j]? = some x := hx
    rw [List.getElem?_map, hy] at hx'
    cases hx'
    exact CALL j y hy w' hb
end Go.V

/- A block of one's own that others may write: relations for regions that tell their states. -/

namespace Go.V
open Go Go.RowKit Go.Q

abbrev Xg (b : Nat) : Rel := fun w w' => w.grownBy w' (some b)
theorem _root_.Go.Q.Sl.xg {w w' : World} {a : Option Addr} {n c sz : Nat} {xs : List Value} {b : Nat} (S : Sl w a n c sz xs) (h : Xg b w w') (hne : ∀ ad, a = some ad → xs ≠ [] → ad.block ≠ b) : Sl w' a n c sz xs :=
  S.grown h fun ad ha hx e => hne ad ha hx (by injection e)
theorem Own.xg {w w' : World} {B : Nat} {e : TypeId} {sz : Nat} {a : Option Addr} {n c : Nat} {xs : List Value} {b : Nat} (O : Own w B e sz a n c xs) (h : Xg b w w') (hb : b < B) : Own w' B e sz a n c xs := by
  refine O.keptBy h ?_
  cases hk : blk a with
  | none => exact .inl rfl
  | some k => exact .inr fun q => by have := (O.lt k hk).1; injection q; omega
theorem rdE_box {P : Program} {E : Rel} {t : TypeId} {s : Sh} {w : World} {a : Addr} {cs : List Value} {i : Nat} {v : Value} {x : s.T} {k : s.T → Prop} (ht : scal P t = true) (h : ∀ w', E w w' → Box w' a cs) (hi : cs[i]? = some v) (hx : s.get v = some x) (hk : k x) :
    rdE P E (Instr.loadAt t (.pointer (some (a.add i)))) (.one s) w k := ⟨x, fun w' hw => by rw [run_loadAt, run_loadVar1 ht ((h w' hw).cell hi), Sh.get_spec hx]; rfl, hk⟩
theorem flExC_mk {w0 : World} {B : Rel → (Nat → Rel) → ((Nat → Bool) → World → Prop) → Facts → Prop} (E : Rel) (G : Nat → Rel) (St : (Nat → Bool) → World → Prop) (Φ : Facts) (h1 : ∀ w, E w w) (h2 : ∀ a b c, E a b → E b c → E a c)
    (h3 : ∀ i j ags v w w', i ≠ j → Φ i ags v w → E w w' → G j w w' → Φ i ags v w') (h4 : St (fun _ => false) w0) (h5 : B E G St Φ) : flExC w0 B := ⟨E, G, St, Φ, h1, h2, h3, h4, h5⟩
theorem flcC_mk {St : (Nat → Bool) → World → Prop} {j : Nat} {E : Rel} {w0 : World} {pre : World → Prop} {ob : (Nat → Bool) → World → Prop} {T : Type} {nxt : T → Prop} (h1 : ∀ D w, D j = false → E w0 w → St D w → pre w → ob D w) (h2 : ∀ x, nxt x) : flcC St j E w0 pre ob nxt := ⟨h1, h2⟩
theorem flendC_mk {St : (Nat → Bool) → World → Prop} {L : List Nat} {E : Rel} {w0 : World} {pre k : World → Prop} (h : ∀ w, E w0 w → St (fun i => L.contains i) w → pre w → k w) : flendC St L E w0 pre k := h
theorem setD_self (D : Nat → Bool) (j : Nat) : setD D j j = true := by simp [setD]
theorem setD_ne {D : Nat → Bool} {i j : Nat} (h : i ≠ j) : setD D j i = D i := by simp [setD, h]
structure Xb (S : Nat → Prop) (w w' : World) : Prop where
  os : w'.os = w.os
  tape : w'.tape = w.tape
  output : w'.output = w.output
  size : w.heap.size ≤ w'.heap.size
  block : ∀ k, k < w.heap.size → ¬ S k → w'.heap[k]? = w.heap[k]?
theorem Own.apart {w : World} {B B' : Nat} {e e' : TypeId} {sz sz' : Nat} {a a' : Option Addr} {n c n' c' : Nat} {xs ys : List Value} (h : Own w B e sz a n c xs) (h' : Own w B' e' sz' a' n' c' ys) (hne : e ≠ e') : ∀ k, blk a = some k → blk a' = some k → False := by
  intro k hk hk'
  obtain ⟨_, h2⟩ := h
  obtain ⟨_, h2'⟩ := h'
  rcases h2 with ⟨hv, _⟩ | ⟨g, cap, cur, hv, _, hh, _⟩
  · injection hv with ha; rw [ha] at hk; cases hk
  · rcases h2' with ⟨hv', _⟩ | ⟨g', cap', cur', hv', _, hh', _⟩
    · injection hv' with ha'; rw [ha'] at hk'; cases hk'
    · injection hv with ha
      injection hv' with ha'
      subst ha ha'
      have q1 : g = k := by simpa [blk] using hk
      have q2 : g' = k := by simpa [blk] using hk'
      subst q1
      subst q2
      rw [hh] at hh'
      injection hh' with hh'
      injection hh' with _ he _
      exact hne he
theorem xg_put {w w' w'' : World} {t : Nat} {o : Option Nat} (h : w.grownBy w' (some t)) (hg : w'.grownBy w'' o) (ho : ∀ k, o = some k → w.heap.size ≤ k ∨ k = t) : w.grownBy w'' (some t) :=
  ⟨hg.os.trans h.os, hg.tape.trans h.tape, hg.output.trans h.output, Nat.le_trans h.size hg.size, fun k hk hne => by
    rw [hg.block k (by have := h.size; omega) (fun e => by
      rcases ho k e.symm with q | q
      · omega
      · exact hne (by rw [q])), h.block k hk hne]⟩
end Go.V

/- copy, and regions with a relation. -/


namespace Go.V
open Go Go.RowKit Go.Q

theorem putAt_at : ∀ (vs pre cs : List Value), vs.length ≤ cs.length → putAt (pre ++ cs) pre.length vs = pre ++ vs ++ cs.drop vs.length
  | [], pre, cs, _ => by simp [putAt]
  | v :: vs, pre, [], h => by simp at h
  | v :: vs, pre, c :: cs, h => by
    simp only [putAt]
    have h1 : (pre ++ c :: cs).set pre.length v = (pre ++ [v]) ++ cs := by simp
    rw [h1]
    have := putAt_at vs (pre ++ [v]) cs (by simpa using h)
    simp only [List.length_append, List.length_cons, List.length_nil, Nat.zero_add] at this
    rw [this]; simp
end Go.V

/- Elements of several cells are stored in rows of one's own. -/

namespace Go.V
open Go Go.RowKit Go.Q

theorem run_storeOwnA {P : Program} {B sz : Nat} {e : TypeId} {ad : Addr} {n c : Nat} : ∀ (vs : List Value) (i : Nat) (w : World) (xs : List Value), Own w B e sz (some ad) n c xs → i + vs.length ≤ xs.length → plainV vs = true →
    ∃ w', (storeCells ad vs i).run P w = .ok () w' ∧ Own w' B e sz (some ad) n c (putAt xs i vs) ∧ w.grownBy w' (some ad.block) ∧ w'.heap.size = w.heap.size
  | [], i, w, xs, hb, _, _ => ⟨w, rfl, hb, grown_refl _ _, rfl⟩
  | v :: vs, i, w, xs, hb, hl, hp => by
    simp only [plainV, List.all_cons, Bool.and_eq_true] at hp
    simp only [List.length_cons] at hl
    obtain ⟨u, hu⟩ : ∃ u, xs[i]? = some u := ⟨_, List.getElem?_eq_getElem (by omega)⟩
    obtain ⟨ad', h1, hc, hfz, _⟩ := hb.cell (j := i) hu
    cases h1
    obtain ⟨w', h1, h2, h3, h4⟩ := run_storeOwnA (P := P) vs (i + 1) (w.setCell (ad.add i) v) (xs.set i v) (hb.set i v) (by simp; omega) hp.2
    refine ⟨w', ?_, h2, ?_, by rw [h4, setCell_size]⟩
    · simp only [storeCells, Sem.run_bind]
      rw [run_store P w (ad.add i) v .plain hp.1, hc]
      simp only [hfz, Bool.false_eq_true, if_false, Result.andThen_ok, h1]
    · refine World.grownBy.trans ?_ h3
      have := setCell_grown w (ad.add i) v
      rwa [add_block] at this
theorem flat_set {α : Type} {enc : α → List Value} {sz : Nat} (he : ∀ a, (enc a).length = sz) (p : α) : ∀ (L : List α) (j : Nat), j < L.length → putAt (L.flatMap enc) (j * sz) (enc p) = (L.set j p).flatMap enc := by
  intro L j hj
  have h1 : L.flatMap enc = (L.take j).flatMap enc ++ (enc L[j] ++ (L.drop (j + 1)).flatMap enc) := by
    conv => lhs; rw [← List.take_append_drop j L, List.drop_eq_getElem_cons hj]
    rw [List.flatMap_append, List.flatMap_cons]
  have h2 : (L.set j p).flatMap enc = (L.take j).flatMap enc ++ (enc p ++ (L.drop (j + 1)).flatMap enc) := by
    rw [List.set_eq_take_append_cons_drop, if_pos hj, List.flatMap_append, List.flatMap_cons]
  have h3 : ((L.take j).flatMap enc).length = j * sz := by rw [flat_len he, List.length_take, Nat.min_eq_left (by omega)]
  rw [h1, h2, ← h3, putAt_at _ _ _ (by rw [List.length_append, he, he]; omega), List.drop_append_of_le_length (by rw [he, he]; omega), List.drop_of_length_le (by rw [he, he]; omega), List.nil_append, List.append_assoc]
theorem set_agg {P : Program} {t e : TypeId} {z : Value} {sz bytes : Nat} (T : TyS P t e z sz bytes) {α : Type} {enc : α → List Value} (he : ∀ a, (enc a).length = sz) {w : World} {B : Nat} {a : Option Addr} {n c j : Nat} {L : List α} (O : Own w B e sz a n c (L.flatMap enc)) {k : IntKind} {i : Int} {v : Value} {p : α} {K : World → Prop}
    (hj : i = (j : Int)) (hn : j < L.length) (hv : v.cells.toList = enc p) (h0 : 0 < sz) (hp : plainV (enc p) = true)
    (hk : ∀ w', Own w' B e sz a n c ((L.set j p).flatMap enc) → w.grownBy w' (blk a) → w'.heap.size = w.heap.size → K w') :
    rdp P (Instr.indexAt t (.slice a n c) (.int k i)) (.one .addr) fun ad => wu P (Instr.storeAt e (.pointer (some ad)) v) w K := by
  have hlen := O.1
  rw [flat_len he] at hlen
  have hL : L.length = n := Nat.eq_of_mul_eq_mul_right h0 hlen
  have hjs : j * sz + sz ≤ (L.flatMap enc).length := by
    rw [flat_len he]
    have : (j + 1) * sz ≤ L.length * sz := Nat.mul_le_mul_right _ hn
    rw [Nat.add_mul, Nat.one_mul] at this; exact this
  obtain ⟨u, hu⟩ : ∃ u, (L.flatMap enc)[j * sz]? = some u := ⟨_, List.getElem?_eq_getElem (by omega)⟩
  obtain ⟨ad, h1, _⟩ := O.cell (j := j * sz) hu
  subst h1
  refine idx_mk T hj (by omega) rfl ?_
  have hvs : v.cells.size = sz := by rw [← Array.length_toList, hv, he]
  have ht : sizeIs P e v.cells.size = true := by
    obtain ⟨i, h1, _, h2, _⟩ := info_parts T.hi
    unfold sizeIs; rw [h1, hvs]; simp [h2]
  obtain ⟨w', h1, h2, h3, h4⟩ := run_storeOwnA (P := P) v.cells.toList (j * sz) w _ O (by rw [hv, he]; exact hjs) (by rw [hv]; exact hp)
  rw [hv, flat_set he p L j hn] at h2
  refine ⟨w', ?_, hk w' h2 h3 h4⟩
  unfold Instr.storeAt Instr.sureAddr storeVar
  simp only [Sem.run_bind, Sem.run_pure, Result.andThen_ok, run_sizeOf ht]
  simp only [ne_eq, not_true_eq_false, if_false]
  rw [storeCells_add]; exact h1
end Go.V

/- Queues: the tail of a block of one's own; two stores in one region. -/

namespace Go.V
open Go Go.RowKit Go.Q

structure QAt (w : World) (B : Nat) (e : TypeId) (q : Option Addr × Nat × Nat) (xs : List Value) : Prop where
  len : xs.length = q.2.1
  cap : q.2.1 ≤ q.2.2
  most : q.2.2 ≤ maxLen
  nil' : q.1 = none → q.2.1 = 0 ∧ q.2.2 = 0
  mem : 0 < q.2.2 → ∃ g p cur, q.1 = some ⟨g, p, none⟩ ∧ B ≤ g ∧ w.heap[g]? = some (.cells cur e (0, 0)) ∧ p + q.2.2 = cur.size ∧ (cur.toList.drop p).take q.2.1 = xs
theorem QAt.xg {w w' : World} {B : Nat} {e : TypeId} {q : Option Addr × Nat × Nat} {xs : List Value} {b : Nat} (h : QAt w B e q xs) (hg : w.grownBy w' (some b)) (hb : b < B) : QAt w' B e q xs :=
  ⟨h.len, h.cap, h.most, h.nil', fun hc => by
    obtain ⟨g, p, cur, h1, h2, h3, h4, h5⟩ := h.mem hc
    exact ⟨g, p, cur, h1, h2, (hg.block g (Array.getElem?_eq_some_iff.1 h3).1 (by intro e; injection e; omega)).trans h3, h4, h5⟩⟩
theorem QAt.up {w w' : World} {B : Nat} {e : TypeId} {q : Option Addr × Nat × Nat} {xs : List Value} (h : QAt w B e q xs) (hg : bel w w') : QAt w' B e q xs :=
  ⟨h.len, h.cap, h.most, h.nil', fun hc => by
    obtain ⟨g, p, cur, h1, h2, h3, h4, h5⟩ := h.mem hc
    exact ⟨g, p, cur, h1, h2, (Below.block hg g (Array.getElem?_eq_some_iff.1 h3).1).trans h3, h4, h5⟩⟩
theorem QAt.sl {w : World} {B : Nat} {e : TypeId} {q : Option Addr × Nat × Nat} {xs : List Value} (h : QAt w B e q xs) : Sl w q.1 q.2.1 q.2.2 1 xs := by
  have := h.most
  refine ⟨by rw [h.len, Nat.mul_one], h.cap, by unfold maxLen at this; omega, h.nil', fun j u hu => ?_⟩
  have hj : j < xs.length := (List.getElem?_eq_some_iff.1 hu).1
  obtain ⟨g, p, cur, h1, h2, h3, h4, h5⟩ := h.mem (by have := h.len; have := h.cap; omega)
  refine ⟨⟨g, p, none⟩, h1, ?_, (Array.getElem?_eq_some_iff.1 h3).1⟩
  rw [Addr.add_lit]
  unfold World.cell?
  simp only [h3, Option.isSome_none, Bool.false_eq_true, if_false]
  rw [← h5, List.getElem?_take] at hu
  split at hu
  · rw [List.getElem?_drop] at hu
    simpa using hu
  · cases hu
theorem QAt.tail {w : World} {B : Nat} {e : TypeId} {q : Option Addr × Nat × Nat} {x : Value} {xs : List Value} (h : QAt w B e q (x :: xs)) : ∃ q' : Option Addr × Nat × Nat, (sliced q.1 1 q.2.1 q.2.2 1 = .slice q'.1 q'.2.1 q'.2.2) ∧ QAt w B e q' xs := by
  have hl := h.len
  have hc := h.cap
  have hm := h.most
  simp only [List.length_cons] at hl
  obtain ⟨g, p, cur, h1, h2, h3, h4, h5⟩ := h.mem (by omega)
  refine ⟨((if q.2.2 = 1 then q.1 else q.1.map (·.add (1 * 1))), q.2.1 - 1, q.2.2 - 1), rfl, by dsimp only; omega, by dsimp only; omega, by dsimp only; omega, fun e => ?_, fun hc' => ?_⟩
  · dsimp only at e
    rw [h1] at e
    split at e <;> cases e
  · dsimp only at hc' ⊢
    refine ⟨g, p + 1, cur, ?_, h2, h3, by omega, ?_⟩
    · rw [if_neg (by omega), h1]; simp [Addr.add_lit]
    · have e1 : q.2.1 = (q.2.1 - 1) + 1 := by omega
      rw [e1] at h5
      have hp : p < cur.toList.length := by rw [Array.length_toList]; omega
      rw [List.drop_eq_getElem_cons hp, List.take_succ_cons] at h5
      injection h5
theorem wr_appQx {P : Program} {t e : TypeId} {z : Value} {bytes : Nat} (T : TyS P t e z 1 bytes) {w : World} {B : Nat} {q : Option Addr × Nat × Nat} {xs : List Value} (O : QAt w B e q xs) {ty : TypeId} {v : Value} {k : (Option Addr × Nat × Nat) → World → Prop}
    (hB : B ≤ w.heap.size) (hz : z.cells.size = 1) (hv : v.cells.size = 1) (hp : plainV v.cells.toList = true) (hb : (q.2.1 + 1) * bytes ≤ 140737488355328) (hn : q.2.1 + 1 ≤ maxLen)
    (hk : ∀ q' w', QAt w' B e q' (xs ++ v.cells.toList) → w.grownBy w' (blk q.1) → (blk q'.1 = blk q.1 ∨ ∀ b, blk q'.1 = some b → w.heap.size ≤ b) → k q' w') :
    wr P (Instr.buildSlice t 1 #[(0, v)]) (.one .slice) w fun x w1 => wr P (Builtin.append_ #[t, t] ty #[.slice q.1 q.2.1 q.2.2, .slice x.1 x.2.1 x.2.2]) (.one .slice) w1 k := by
  refine wr_lit T v.cells (fill_one 1 v _ hv (by simp)) (by omega) (by omega) (by omega) (by unfold maxLen; omega) fun ad w1 L h1 h2 h3 => ?_
  have L1 := L B hB
  replace O := O.up h1
  have hl : v.cells.toList.length = 1 := by simpa using hv
  have hne : ∀ j u, v.cells.toList[j]? = some u → w1.cell? (ad.add j) = some u := fun j u hj => by
    obtain ⟨ad', q1, q2, _⟩ := L1.cell (j := j) hj
    cases q1; exact q2
  have h1c : ∀ u ∈ v.cells.toList, u.oneCell' = true := fun u hu => by unfold plainV at hp; rw [List.all_eq_true] at hp; exact hp u hu
  obtain ⟨i, hi0, hz0, hz1, hz2⟩ := info_parts T.hi
  have hx := O.len
  have hcm := O.most
  have s1 := h1.size
  by_cases hroom : q.2.1 + 1 ≤ q.2.2
  · obtain ⟨g, p, cur, g1, g2, g3, g4, g5⟩ := O.mem (by omega)
    have hst := run_storeCells_at P g (p + q.2.1) e v.cells.toList 0 cur w1 g3 (by rw [hl]; omega) h1c
    simp only [Nat.add_zero] at hst
    have hf := run_firstCells_some (P := P) w1 1 1 ad 1 1 v.cells.toList (by rw [hl]) hne
    refine ⟨((q.1, q.2.1 + 1, q.2.2) : Option Addr × Nat × Nat), w1.setRow g (cur.toList.take (p + q.2.1) ++ v.cells.toList ++ cur.toList.drop (p + q.2.1 + v.cells.toList.length)).toArray, ?_, hk _ _ ?_ ?_ (.inl rfl)⟩
    · rw [g1]
      simp [Builtin.append_, run_underlying T.ht, sizeOf, typeInfo, hi0, hz1, Builtin.lenOf, hroom, hf, Addr.add_lit, hst]
      rfl
    · have hcs : cur.toList.length = cur.size := Array.length_toList
      refine ⟨by simp [hx, hv], by dsimp only; omega, hcm, (fun e => by rw [g1] at e; cases e), fun _ => ⟨g, p, _, g1, g2, setRow_heap w1 g cur _ e _ g3, ?_, ?_⟩⟩
      · simp only [List.size_toArray, List.length_append, List.length_take, List.length_drop, hl]
        omega
      · dsimp only
        rw [hl]
        have e1 : List.drop p (List.take (p + q.2.1) cur.toList) = xs := by
          rw [← g5, List.drop_take, show p + q.2.1 - p = q.2.1 by omega]
        rw [List.append_assoc, List.drop_append_of_le_length (by rw [List.length_take]; omega), e1, ← List.append_assoc]
        have e2 : q.2.1 + 1 = (xs ++ v.cells.toList).length := by rw [List.length_append, hx, hl]
        rw [e2]; exact List.take_left
    · exact ⟨h1.os, h1.tape, h1.output, by simpa using h1.size, fun k hk hne' => (setRow_other w1 g k _ (by rw [g1] at hne'; intro e'; exact hne' (by rw [e']; rfl))).trans (h1.block k hk)⟩
  · have hcm' : grownCap w1 (q.2.1 + 1) q.2.2 e ≤ maxLen := grownCap_le_maxLen w1 _ _ e hn
    have hge := grownCap_ge w1 (q.2.1 + 1) q.2.2 e
    have hA : ∀ cs, w.grownBy (w1.drew.alloc (.cells cs e)) (blk q.1) := fun cs => ⟨h1.os, h1.tape, h1.output, by simp; omega, fun k hk _ => (Go.RowKit.Below.heap_alloc w1.drew _ k (by show k < w1.heap.size; omega)).trans (h1.block k hk)⟩
    have hN : blk (some (⟨w1.heap.size, 0, none⟩ : Addr)) = blk q.1 ∨ ∀ b, blk (some (⟨w1.heap.size, 0, none⟩ : Addr)) = some b → w.heap.size ≤ b := .inr fun b hb => by cases hb; exact s1
    have hQ : ∀ olds : List Value, olds = xs → QAt (w1.drew.alloc (.cells (olds.toArray ++ v.cells.toList.toArray ++ Builtin.zeroCells z.cells (grownCap w1 (q.2.1 + 1) q.2.2 e - (q.2.1 + 1))) e)) B e (some ⟨w1.heap.size, 0, none⟩, q.2.1 + 1, grownCap w1 (q.2.1 + 1) q.2.2 e) (xs ++ v.cells.toList) := by
      intro olds ho
      subst ho
      refine ⟨by rw [List.length_append, hl, hx], hge, hcm', (fun e => by cases e), fun _ => ⟨w1.heap.size, 0, _, rfl, by omega, heap_alloc_new w1.drew _, ?_, ?_⟩⟩
      · simp only [Array.size_append, List.size_toArray, size_zeroCells, hz, hl, hx]
        omega
      · simp only [Array.toList_append, List.append_assoc, List.drop_zero]
        have e2 : q.2.1 + 1 = (olds ++ v.cells.toList).length := by rw [List.length_append, hx, hl]
        rw [← List.append_assoc, e2]; exact List.take_left
    cases hq : q.1 with
    | none =>
      obtain ⟨n1, n2⟩ := O.nil' hq
      have hx0 : xs = [] := List.eq_nil_of_length_eq_zero (by omega)
      have hr := run_append_nil (P := P) w1 t ty e i z T.ht hi0 hz0 ad 1 1 v.cells.toList (by rw [hl, hz1]) hne (by omega) (by omega) (by rw [hz2]; rw [n1] at hb; omega)
      have hQ' := hQ [] hx0.symm
      rw [n1, n2] at hQ' ⊢
      simp only [Array.empty_append, Nat.zero_add] at hQ'
      exact ⟨(some ⟨w1.heap.size, 0, none⟩, 1, grownCap w1 1 0 e), _, hr, hk _ _ hQ' (hA _) hN⟩
    | some b =>
      have holds : ∀ j u, xs[j]? = some u → w1.cell? (b.add j) = some u := fun j u hu => by
        obtain ⟨ad', q1, q2, _⟩ := O.sl.at' j u hu
        rw [hq] at q1; cases q1; exact q2
      have hr := run_append_grow (P := P) w1 t ty e i z T.ht hi0 hz0 b q.2.1 q.2.2 xs (by rw [hx, hz1, Nat.mul_one]) holds ad 1 1 v.cells.toList (by rw [hl, hz1]) hne (by omega) (by unfold maxLen at hn; omega) (growslice_fits (by omega) (by rw [hz2]; exact hb))
      exact ⟨(some ⟨w1.heap.size, 0, none⟩, q.2.1 + 1, grownCap w1 (q.2.1 + 1) q.2.2 e), _, hr, hk _ _ (hQ xs rfl) (hA _) hN⟩
theorem q_tailx {P : Program} {t e : TypeId} {z : Value} {bytes : Nat} (T : TyS P t e z 1 bytes) {w : World} {B : Nat} {q : Option Addr × Nat × Nat} {x : Value} {xs : List Value} {K : (Option Addr × Nat × Nat) → Prop} (h : QAt w B e q (x :: xs)) (hk : ∀ q', QAt w B e q' xs → blk q'.1 = blk q.1 → K q') :
    rdp P (Instr.sliceAt t (.slice q.1 q.2.1 q.2.2) (some (.int .i64 1)) none none) (.one .slice) K := by
  have hs : ∀ q' : Option Addr × Nat × Nat, sliced q.1 1 q.2.1 q.2.2 1 = .slice q'.1 q'.2.1 q'.2.2 → blk q'.1 = blk q.1 := fun q' e => by
    unfold sliced at e
    simp only [Value.slice.injEq] at e
    rw [← e.1]
    unfold blk
    split
    · rfl
    · cases q.1 with
      | none => rfl
      | some a => simp [add_block]
  obtain ⟨q', h1, h2⟩ := h.tail
  refine ⟨q', fun w => ?_, hk q' h2 (hs q' h1)⟩
  have hl := h.len
  simp only [List.length_cons] at hl
  have ht : P.underlying t = some (.slice (P.elem t)) := by rw [T.elem]; exact T.ht
  rw [run_sliceAt_slice _ _ _ _ _ _ ht, run_slice_l _ _ _ _ _ ht _ _ (by omega) (by omega), T.elem, T.size]
  simp only [Result.andThen_ok]
  rw [show (1 : Int).toNat = 1 from rfl, h1]; rfl
theorem ownQ {w : World} {B : Nat} {e : TypeId} {ad : Addr} {n c : Nat} {xs : List Value} (O : Own w B e 1 (some ad) n c xs) : QAt w B e (some ad, n, c) xs := by
  rcases O.2 with ⟨h1, _⟩ | ⟨g, cap, cur, h1, h2, h3, h4, h5, h6, h7⟩
  · cases h1
  · cases h1
    exact ⟨by have := O.1; rw [Nat.mul_one] at this; exact this, h4, h5, fun q => (by cases q), fun _ => ⟨g, 0, cur, rfl, h2, h3, by show 0 + c = cur.size; rw [h6]; omega, by
      show (cur.toList.drop 0).take n = xs
      rw [List.drop_zero, ← h7, Nat.mul_one]⟩⟩
theorem own_le {w : World} {B B' : Nat} {e : TypeId} {sz : Nat} {a : Option Addr} {n c : Nat} {xs : List Value} (O : Own w B e sz a n c xs) (h : B' ≤ B) : Own w B' e sz a n c xs := by
  refine ⟨O.1, ?_⟩
  rcases O.2 with h2 | ⟨g, cap, cur, h1, h2, h3⟩
  · exact .inl h2
  · exact .inr ⟨g, cap, cur, h1, by omega, h3⟩
theorem equal_ptr {P : Program} {t e : TypeId} {a : Option Addr} {w : World} (ht : P.underlying t = some (.pointer e)) : (Op.equal t (.pointer a) (.pointer none)).run P w = .ok a.isNone w := by
  have key : ∀ d : Nat, (Op.equalIn (d + 1) t (.pointer a) (.pointer none)).run P w = .ok a.isNone w := by
    intro d
    cases a <;> simp [Op.equalIn, run_underlying ht]
  exact key 9999
theorem rd_ptr_nil {P : Program} {t e : TypeId} {x y : Operand} {a : Option Addr} {w : World} {k : Bool → Prop} (ht : P.underlying t = some (.pointer e)) (hk : k a.isNone) : rd P (cmpS .eql t x y (.pointer a) (.pointer none)) (.one .bool) w k := by
  refine ⟨a.isNone, fun w' _ => ?_, hk⟩
  unfold cmpS eqGuard Go.binOp
  simp only [Bool.not_true, Bool.false_eq_true, if_false, Sem.run_bind, Sem.run_pure, Result.andThen_ok, equal_ptr ht]
  rfl
end Go.V

/- A run of transactions in memory. -/






namespace Go.Proofs.Ytcglflifaniolaa
open Go.RowKit Go.Q Go.V Go.Proofs.Sc

theorem tyI : TyS Try.prog 22 3 (.int .i64 0) 1 8 := ⟨by kernel_rfl, by kernel_rfl⟩
theorem tyB : TyS Try.prog 66 4 (.bool false) 1 1 := ⟨by kernel_rfl, by kernel_rfl⟩
theorem tyT : TyS Try.prog 61 64 (.pointer none) 1 8 := ⟨by kernel_rfl, by kernel_rfl⟩
theorem tyV : TyS Try.prog 60 87 (.slice none 0 0) 1 24 := ⟨by kernel_rfl, by kernel_rfl⟩
theorem tyW : TyS Try.prog 87 89 (.agg #[.int .i64 0, .int .i64 0, .int .i64 0]) 3 24 := ⟨by kernel_rfl, by kernel_rfl⟩
theorem tyS : TyS Try.prog 54 57 (.agg #[.int .i64 0, .int .i64 0, .int .i64 0]) 3 24 := ⟨by kernel_rfl, by kernel_rfl⟩
theorem tyE : TyS Try.prog 28 36 (.agg #[.int .i64 0, .int .i64 0, .int .i64 0, .int .i64 0, .int .i64 0]) 5 40 := ⟨by kernel_rfl, by kernel_rfl⟩

abbrev encW (x : Wr) : List Value := [.int .i64 x.v, .int .i64 ((x.t : Nat) : Int), .int .i64 ((x.c : Nat) : Int)]
abbrev encS (x : Sp) : List Value := [.int .i64 ((x.kind : Nat) : Int), .int .i64 ((x.key : Nat) : Int), .int .i64 x.val]
abbrev encE (x : Ev) : List Value := [.int .i64 ((x.kind : Nat) : Int), .int .i64 ((x.t : Nat) : Int), .int .i64 ((x.key : Nat) : Int), .int .i64 x.val, .int .i64 x.fr]
theorem encW_len (x : Wr) : (encW x).length = 3 := rfl
theorem encS_len (x : Sp) : (encS x).length = 3 := rfl
theorem encE_len (x : Ev) : (encE x).length = 5 := rfl

/-! ### parts: each block of the run has a number of its own; 0: not the run's -/
abbrev Rho := Nat → Nat
structure PartO (w : World) (ρ : Rho) (c : Nat) (e : TypeId) (sz : Nat) (h : Hdr) (xs : List Value) : Prop where
  own : Own w 0 e sz h.1 h.2.1 h.2.2 xs
  tag : ∀ b, blk h.1 = some b → ρ b = c
structure PartB (w : World) (ρ : Rho) (c : Nat) (p : Addr) (cs : List Value) : Prop where
  box : Box w p cs
  tag : ρ p.block = c
structure Fix (w : World) (ρ : Rho) (sz : Nat) (h : Hdr) (xs : List Value) : Prop where
  sl : Sl w h.1 h.2.1 h.2.2 sz xs
  tag : ∀ ad, h.1 = some ad → xs ≠ [] → ρ ad.block = 0
def WP (w : World) (ρ : Rho) (l : Option Lk) (p : Option Addr) : Prop :=
  match l with
  | none => p = none
  | some l => ∃ a, p = some a ∧ Box w a [.int .i64 ((l.k : Nat) : Int), .bool l.x] ∧ ρ a.block = 0
structure Kp (w : World) (ρ : Rho) (w' : World) (ρ' : Rho) : Prop where
  os : w'.os = w.os
  tape : w'.tape = w.tape
  output : w'.output = w.output
  size : w.heap.size ≤ w'.heap.size
  keep : ∀ k, k < w.heap.size → ρ k = 0 → w'.heap[k]? = w.heap[k]? ∧ ρ' k = 0
theorem Kp.refl (w : World) (ρ : Rho) : Kp w ρ w ρ := ⟨rfl, rfl, rfl, Nat.le_refl _, fun _ _ h => ⟨rfl, h⟩⟩
theorem Kp.trans {a b c : World} {ρ ρ' ρ'' : Rho} (h : Kp a ρ b ρ') (h' : Kp b ρ' c ρ'') : Kp a ρ c ρ'' :=
  ⟨h'.os.trans h.os, h'.tape.trans h.tape, h'.output.trans h.output, Nat.le_trans h.size h'.size, fun k hk h0 => by
    obtain ⟨h1, h2⟩ := h.keep k hk h0
    obtain ⟨h3, h4⟩ := h'.keep k (Nat.lt_of_lt_of_le hk h.size) h2
    exact ⟨h3.trans h1, h4⟩⟩
theorem Kp.bel {w w' : World} {ρ : Rho} (h : bel w w') : Kp w ρ w' ρ := ⟨h.os, h.tape, h.output, h.size, fun k hk h0 => ⟨h.block k hk, h0⟩⟩
theorem Kp.put {w w' : World} {ρ ρ' : Rho} {o : Option Nat} (h : w.grownBy w' o) (ho : ∀ b, o = some b → ρ b ≠ 0) (hρ : ∀ k, k < w.heap.size → ρ' k = ρ k) : Kp w ρ w' ρ' :=
  ⟨h.os, h.tape, h.output, h.size, fun k hk h0 => ⟨h.block k hk fun e => ho k e.symm h0, by rw [hρ k hk]; exact h0⟩⟩
theorem Kp.box {w w' : World} {ρ ρ' : Rho} {a : Addr} {cs : List Value} (h : Kp w ρ w' ρ') (X : Box w a cs) (h0 : ρ a.block = 0) : Box w' a cs ∧ ρ' a.block = 0 := by
  obtain ⟨h1, h2⟩ := h.keep a.block X.lt h0
  exact ⟨⟨X.off, X.spot, by obtain ⟨T, hT⟩ := X.blk; exact ⟨T, by rw [h1]; exact hT⟩⟩, h2⟩
theorem Kp.to_bel {w w' : World} {ρ ρ' : Rho} (h : Kp w ρ w' ρ') (h0 : ∀ k, k < w.heap.size → ρ k = 0) : Go.V.bel w w' :=
  ⟨h.os, h.tape, h.output, h.size, fun k hk => (h.keep k hk (h0 k hk)).1⟩
section
variable {w w' : World} {ρ ρ' : Rho} {c : Nat}
theorem PartO.keep {e : TypeId} {sz : Nat} {h : Hdr} {xs : List Value} {o : Option Nat} (P : PartO w ρ c e sz h xs) (hg : w.grownBy w' o) (ho : ∀ b, o = some b → ρ b ≠ c) (hρ : ∀ k, k < w.heap.size → ρ' k = ρ k) : PartO w' ρ' c e sz h xs := by
  refine ⟨P.own.keptBy hg ?_, fun b hb => by rw [hρ b (P.own.lt b hb).2]; exact P.tag b hb⟩
  cases hb : blk h.1 with
  | none => exact .inl rfl
  | some b => exact .inr fun e => ho b e.symm (P.tag b hb)
theorem PartB.keep {p : Addr} {cs : List Value} {o : Option Nat} (P : PartB w ρ c p cs) (hg : w.grownBy w' o) (ho : ∀ b, o = some b → ρ b ≠ c) (hρ : ∀ k, k < w.heap.size → ρ' k = ρ k) : PartB w' ρ' c p cs :=
  ⟨P.box.grown hg fun e => ho _ e.symm P.tag, by rw [hρ _ P.box.lt]; exact P.tag⟩
theorem Fix.keep {sz : Nat} {h : Hdr} {xs : List Value} {o : Option Nat} (P : Fix w ρ sz h xs) (hg : w.grownBy w' o) (ho : ∀ b, o = some b → ρ b ≠ 0) (hρ : ∀ k, k < w.heap.size → ρ' k = ρ k) : Fix w' ρ' sz h xs :=
  ⟨P.sl.grown hg fun ad ha hx e => ho _ e.symm (P.tag ad ha hx), fun ad ha hx => by rw [hρ _ (P.sl.lt ad ha hx)]; exact P.tag ad ha hx⟩
theorem WP.keep {l : Option Lk} {p : Option Addr} {o : Option Nat} (P : WP w ρ l p) (hg : w.grownBy w' o) (ho : ∀ b, o = some b → ρ b ≠ 0) (hρ : ∀ k, k < w.heap.size → ρ' k = ρ k) : WP w' ρ' l p := by
  cases l with
  | none => exact P
  | some l =>
    obtain ⟨a, h1, h2, h3⟩ := P
    exact ⟨a, h1, h2.grown hg fun e => ho _ e.symm h3, by rw [hρ _ h2.lt]; exact h3⟩
end

/-! ### the run -/
structure TH where
  st : Hdr
  sh : Hdr
  ex : Hdr
  wp : Option Addr
structure RHd where
  tx : Hdr
  ver : Hdr
  ev : Hdr
  ps : List Addr
  th : Nat → TH
  vh : List Hdr
abbrev ptrs (l : List Addr) : List Value := l.map fun p => .pointer (some p)
abbrev txc (x : Tx) (h : TH) : List Value := [hv h.st, .int .i64 ((x.at_ : Nat) : Int), .bool x.begun, .bool x.ended, .int .i64 ((x.snap : Nat) : Int), .pointer h.wp, hv h.sh, hv h.ex]
abbrev fbools (K : Nat) (f : Nat → Bool) : List Value := Go.Q.bools ((List.range K).map f)
abbrev rnc (lev : Nat) (hs : Hdr) (H : RHd) : List Value := [.int .i64 ((lev : Nat) : Int), hv hs, hv H.tx, hv H.ver, hv H.ev]
structure RunAt (lev n K : Nat) (hs : Hdr) (start : List Int) (r : Addr) (w : World) (ρ : Rho) (H : RHd) (s : St) : Prop where
  tag : ∀ b, ρ b ≠ 0 → b < w.heap.size
  box : PartB w ρ 1 r (rnc lev hs H)
  st : Fix w ρ 1 hs (ints .i64 start)
  sl : start.length = K
  txs : PartO w ρ 2 64 1 H.tx (ptrs H.ps)
  pl : H.ps.length = n
  txb : ∀ i p, H.ps[i]? = some p → PartB w ρ (5 + 4 * i) p (txc (s.tx i) (H.th i))
  stp : ∀ i, i < n → Fix w ρ 3 (H.th i).st ((s.tx i).steps.flatMap encS)
  wp : ∀ i, i < n → WP w ρ (s.tx i).wants (H.th i).wp
  sh : ∀ i, i < n → PartO w ρ (6 + 4 * i) 4 1 (H.th i).sh (fbools K (s.tx i).sh)
  ex : ∀ i, i < n → PartO w ρ (7 + 4 * i) 4 1 (H.th i).ex (fbools K (s.tx i).ex)
  vers : PartO w ρ 3 87 1 H.ver (H.vh.map hv)
  vl : H.vh.length = K
  row : ∀ k x, H.vh[k]? = some x → PartO w ρ (8 + 4 * k) 89 3 x ((s.ver k).flatMap encW)
  ev : PartO w ρ 4 36 5 H.ev (s.ev.flatMap encE)
section
variable {lev n K : Nat} {hs : Hdr} {start : List Int} {r : Addr} {w w' : World} {ρ ρ' : Rho} {H : RHd} {s : St}
theorem RunAt.up (A : RunAt lev n K hs start r w ρ H s) (hb : bel w w') : RunAt lev n K hs start r w' ρ H s := by
  have g := grown_of_bel hb none
  have o : ∀ {c : Nat}, ∀ b, (none : Option Nat) = some b → ρ b ≠ c := fun b h => by cases h
  have e : ∀ k, k < w.heap.size → ρ k = ρ k := fun _ _ => rfl
  exact ⟨fun b h => Nat.lt_of_lt_of_le (A.tag b h) hb.size, A.box.keep g o e, A.st.keep g o e, A.sl, A.txs.keep g o e, A.pl, fun i p h => (A.txb i p h).keep g o e, fun i h => (A.stp i h).keep g o e, fun i h => (A.wp i h).keep g o e, fun i h => (A.sh i h).keep g o e, fun i h => (A.ex i h).keep g o e, A.vers.keep g o e, A.vl, fun k x h => (A.row k x h).keep g o e, A.ev.keep g o e⟩
theorem RunAt.ps_get (A : RunAt lev n K hs start r w ρ H s) {t : Nat} (ht : t < n) : ∃ p, H.ps[t]? = some p := ⟨_, List.getElem?_eq_getElem (by rw [A.pl]; exact ht)⟩
theorem RunAt.vh_get (A : RunAt lev n K hs start r w ρ H s) {k : Nat} (hk : k < K) : ∃ x, H.vh[k]? = some x := ⟨_, List.getElem?_eq_getElem (by rw [A.vl]; exact hk)⟩
theorem RunAt.putTx (A : RunAt lev n K hs start r w ρ H s) {t : Nat} {p : Addr} {x' : Tx} {h' : TH} (hp : H.ps[t]? = some p) (hg : w.grownBy w' (some p.block)) (X : Box w' p (txc x' h')) (e1 : h'.st = (H.th t).st) (e2 : h'.sh = (H.th t).sh) (e3 : h'.ex = (H.th t).ex)
    (f1 : x'.steps = (s.tx t).steps) (f2 : x'.sh = (s.tx t).sh) (f3 : x'.ex = (s.tx t).ex) (hw : WP w' ρ x'.wants h'.wp) : RunAt lev n K hs start r w' ρ { H with th := upd H.th t h' } (setT s t x') ∧ Kp w ρ w' ρ := by
  have hρ := (A.txb t p hp).tag
  have o : ∀ {c : Nat}, c ≠ 5 + 4 * t → ∀ b, some p.block = some b → ρ b ≠ c := fun hc b h e => by injection h with h; subst h; exact hc (e.symm.trans hρ)
  have e : ∀ k, k < w.heap.size → ρ k = ρ k := fun _ _ => rfl
  have th : ∀ i, i ≠ t → upd H.th t h' i = H.th i ∧ upd s.tx t x' i = s.tx i := fun i h => ⟨upd_ne _ _ h, upd_ne _ _ h⟩
  refine ⟨⟨fun b h => Nat.lt_of_lt_of_le (A.tag b h) hg.size, A.box.keep hg (o (by omega)) e, A.st.keep hg (o (by omega)) e, A.sl, A.txs.keep hg (o (by omega)) e, A.pl, fun i q h => ?_, fun i h => ?_, fun i h => ?_, fun i h => ?_, fun i h => ?_, A.vers.keep hg (o (by omega)) e, A.vl, fun k x h => (A.row k x h).keep hg (o (by omega)) e, A.ev.keep hg (o (by omega)) e⟩, Kp.put hg (o (by omega)) e⟩
  · show PartB w' ρ (5 + 4 * i) q (txc (upd s.tx t x' i) (upd H.th t h' i))
    by_cases hi : i = t
    · subst hi
      rw [upd_same, upd_same]
      rw [hp] at h; cases h
      exact ⟨X, hρ⟩
    · rw [(th i hi).1, (th i hi).2]
      exact (A.txb i q h).keep hg (o (by omega)) e
  · show Fix w' ρ 3 (upd H.th t h' i).st ((upd s.tx t x' i).steps.flatMap encS)
    by_cases hi : i = t
    · subst hi; rw [upd_same, upd_same, e1, f1]; exact (A.stp i h).keep hg (o (by omega)) e
    · rw [(th i hi).1, (th i hi).2]; exact (A.stp i h).keep hg (o (by omega)) e
  · show WP w' ρ (upd s.tx t x' i).wants (upd H.th t h' i).wp
    by_cases hi : i = t
    · subst hi; rw [upd_same, upd_same]; exact hw
    · rw [(th i hi).1, (th i hi).2]; exact (A.wp i h).keep hg (o (by omega)) e
  · show PartO w' ρ (6 + 4 * i) 4 1 (upd H.th t h' i).sh (fbools K (upd s.tx t x' i).sh)
    by_cases hi : i = t
    · subst hi; rw [upd_same, upd_same, e2, f2]; exact (A.sh i h).keep hg (o (by omega)) e
    · rw [(th i hi).1, (th i hi).2]; exact (A.sh i h).keep hg (o (by omega)) e
  · show PartO w' ρ (7 + 4 * i) 4 1 (upd H.th t h' i).ex (fbools K (upd s.tx t x' i).ex)
    by_cases hi : i = t
    · subst hi; rw [upd_same, upd_same, e3, f3]; exact (A.ex i h).keep hg (o (by omega)) e
    · rw [(th i hi).1, (th i hi).2]; exact (A.ex i h).keep hg (o (by omega)) e
theorem fbools_set {K k : Nat} (f : Nat → Bool) (hk : k < K) (b : Bool) : (fbools K f).set k (.bool b) = fbools K (upd f k b) := by
  unfold fbools Go.Q.bools
  refine List.ext_getElem? fun i => ?_
  by_cases h : k = i
  · subst h
    rw [List.getElem?_set_self (by simpa using hk), List.getElem?_map, List.getElem?_map, List.getElem?_range hk]
    simp [upd_same]
  · rw [List.getElem?_set_ne h, List.getElem?_map, List.getElem?_map, List.getElem?_map, List.getElem?_map]
    cases hr : (List.range K)[i]? with
    | none => rfl
    | some x =>
      have hx : x = i := by
        have h1 := (List.getElem?_eq_some_iff.1 hr).1
        rw [List.length_range] at h1
        rw [List.getElem?_range h1] at hr; cases hr; rfl
      subst hx
      simp [upd_ne f b (fun e : x = k => h e.symm)]
theorem RunAt.putSh (A : RunAt lev n K hs start r w ρ H s) {t k : Nat} (ht : t < n) (hk : k < K) (hg : w.grownBy w' (blk (H.th t).sh.1)) (O : Own w' 0 4 1 (H.th t).sh.1 (H.th t).sh.2.1 (H.th t).sh.2.2 ((fbools K (s.tx t).sh).set k (.bool true))) : RunAt lev n K hs start r w' ρ H (setT s t { s.tx t with sh := upd (s.tx t).sh k true }) ∧ Kp w ρ w' ρ := by
  have hρ := (A.sh t ht).tag
  have o : ∀ {c : Nat}, c ≠ 6 + 4 * t → ∀ b, blk (H.th t).sh.1 = some b → ρ b ≠ c := fun hc b h e => hc (e.symm.trans (hρ b h))
  have e : ∀ k, k < w.heap.size → ρ k = ρ k := fun _ _ => rfl
  have tx : ∀ i, (upd s.tx t { s.tx t with sh := upd (s.tx t).sh k true } i).steps = (s.tx i).steps ∧ (upd s.tx t { s.tx t with sh := upd (s.tx t).sh k true } i).wants = (s.tx i).wants ∧ (upd s.tx t { s.tx t with sh := upd (s.tx t).sh k true } i).ex = (s.tx i).ex ∧ txc (upd s.tx t { s.tx t with sh := upd (s.tx t).sh k true } i) (H.th i) = txc (s.tx i) (H.th i) := fun i => by
    by_cases hi : i = t
    · subst hi; rw [upd_same]; exact ⟨rfl, rfl, rfl, rfl⟩
    · rw [upd_ne _ _ hi]; exact ⟨rfl, rfl, rfl, rfl⟩
  refine ⟨⟨fun b h => Nat.lt_of_lt_of_le (A.tag b h) hg.size, A.box.keep hg (o (by omega)) e, A.st.keep hg (o (by omega)) e, A.sl, A.txs.keep hg (o (by omega)) e, A.pl, fun i q h => ?_, fun i h => ?_, fun i h => ?_, fun i h => ?_, fun i h => ?_, A.vers.keep hg (o (by omega)) e, A.vl, fun k x h => (A.row k x h).keep hg (o (by omega)) e, A.ev.keep hg (o (by omega)) e⟩, Kp.put hg (o (by omega)) e⟩
  · show PartB w' ρ (5 + 4 * i) q (txc (upd s.tx t _ i) (H.th i))
    rw [(tx i).2.2.2]; exact (A.txb i q h).keep hg (o (by omega)) e
  · show Fix w' ρ 3 (H.th i).st ((upd s.tx t _ i).steps.flatMap encS)
    rw [(tx i).1]; exact (A.stp i h).keep hg (o (by omega)) e
  · show WP w' ρ (upd s.tx t _ i).wants (H.th i).wp
    rw [(tx i).2.1]; exact (A.wp i h).keep hg (o (by omega)) e
  · show PartO w' ρ (6 + 4 * i) 4 1 (H.th i).sh (fbools K (upd s.tx t _ i).sh)
    by_cases hi : i = t
    · subst hi
      rw [upd_same, ← fbools_set _ hk]
      exact ⟨O, hρ⟩
    · rw [upd_ne _ _ hi]; exact (A.sh i h).keep hg (o (by omega)) e
  · show PartO w' ρ (7 + 4 * i) 4 1 (H.th i).ex (fbools K (upd s.tx t _ i).ex)
    rw [(tx i).2.2.1]; exact (A.ex i h).keep hg (o (by omega)) e
theorem RunAt.putEx (A : RunAt lev n K hs start r w ρ H s) {t k : Nat} (ht : t < n) (hk : k < K) (hg : w.grownBy w' (blk (H.th t).ex.1)) (O : Own w' 0 4 1 (H.th t).ex.1 (H.th t).ex.2.1 (H.th t).ex.2.2 ((fbools K (s.tx t).ex).set k (.bool true))) : RunAt lev n K hs start r w' ρ H (setT s t { s.tx t with ex := upd (s.tx t).ex k true }) ∧ Kp w ρ w' ρ := by
  have hρ := (A.ex t ht).tag
  have o : ∀ {c : Nat}, c ≠ 7 + 4 * t → ∀ b, blk (H.th t).ex.1 = some b → ρ b ≠ c := fun hc b h e => hc (e.symm.trans (hρ b h))
  have e : ∀ k, k < w.heap.size → ρ k = ρ k := fun _ _ => rfl
  have tx : ∀ i, (upd s.tx t { s.tx t with ex := upd (s.tx t).ex k true } i).steps = (s.tx i).steps ∧ (upd s.tx t { s.tx t with ex := upd (s.tx t).ex k true } i).wants = (s.tx i).wants ∧ (upd s.tx t { s.tx t with ex := upd (s.tx t).ex k true } i).sh = (s.tx i).sh ∧ txc (upd s.tx t { s.tx t with ex := upd (s.tx t).ex k true } i) (H.th i) = txc (s.tx i) (H.th i) := fun i => by
    by_cases hi : i = t
    · subst hi; rw [upd_same]; exact ⟨rfl, rfl, rfl, rfl⟩
    · rw [upd_ne _ _ hi]; exact ⟨rfl, rfl, rfl, rfl⟩
  refine ⟨⟨fun b h => Nat.lt_of_lt_of_le (A.tag b h) hg.size, A.box.keep hg (o (by omega)) e, A.st.keep hg (o (by omega)) e, A.sl, A.txs.keep hg (o (by omega)) e, A.pl, fun i q h => ?_, fun i h => ?_, fun i h => ?_, fun i h => ?_, fun i h => ?_, A.vers.keep hg (o (by omega)) e, A.vl, fun k x h => (A.row k x h).keep hg (o (by omega)) e, A.ev.keep hg (o (by omega)) e⟩, Kp.put hg (o (by omega)) e⟩
  · show PartB w' ρ (5 + 4 * i) q (txc (upd s.tx t _ i) (H.th i))
    rw [(tx i).2.2.2]; exact (A.txb i q h).keep hg (o (by omega)) e
  · show Fix w' ρ 3 (H.th i).st ((upd s.tx t _ i).steps.flatMap encS)
    rw [(tx i).1]; exact (A.stp i h).keep hg (o (by omega)) e
  · show WP w' ρ (upd s.tx t _ i).wants (H.th i).wp
    rw [(tx i).2.1]; exact (A.wp i h).keep hg (o (by omega)) e
  · show PartO w' ρ (6 + 4 * i) 4 1 (H.th i).sh (fbools K (upd s.tx t _ i).sh)
    rw [(tx i).2.2.1]; exact (A.sh i h).keep hg (o (by omega)) e
  · show PartO w' ρ (7 + 4 * i) 4 1 (H.th i).ex (fbools K (upd s.tx t _ i).ex)
    by_cases hi : i = t
    · subst hi
      rw [upd_same, ← fbools_set _ hk]
      exact ⟨O, hρ⟩
    · rw [upd_ne _ _ hi]; exact (A.ex i h).keep hg (o (by omega)) e
def rtag (ρ : Rho) (a : Option Addr) (c : Nat) : Rho := fun b => if blk a = some b then c else ρ b
theorem rtag_old {w : World} {ρ : Rho} {h : Hdr} {a' : Option Addr} {c : Nat} (tg : ∀ b, blk h.1 = some b → ρ b = c) (hn : blk a' = blk h.1 ∨ ∀ b, blk a' = some b → w.heap.size ≤ b) : ∀ k, k < w.heap.size → rtag ρ a' c k = ρ k := by
  intro k hk
  unfold rtag
  split
  · rename_i e
    rcases hn with q | q
    · exact (tg k (by rw [← q]; exact e)).symm
    · have := q k e; omega
  · rfl
theorem rtag_self (ρ : Rho) (a : Option Addr) (c : Nat) : ∀ b, blk a = some b → rtag ρ a c b = c := fun b h => by unfold rtag; rw [if_pos h]
theorem own_some' {w : World} {e : TypeId} {sz : Nat} {a : Option Addr} {n c : Nat} {xs : List Value} (O : Own w 0 e sz a n c xs) : ∀ b, blk a = some b → b < w.heap.size := fun b hb => (O.lt b hb).2
theorem RunAt.putEv (A : RunAt lev n K hs start r w ρ H s) {w1 w2 : World} {a' : Option Addr} {m c' : Nat} {e : Ev} (O : Own w1 0 36 5 a' m c' ((s.ev ++ [e]).flatMap encE)) (hg1 : w.grownBy w1 (blk H.ev.1)) (hn : blk a' = blk H.ev.1 ∨ ∀ b, blk a' = some b → w.heap.size ≤ b)
    (hg2 : w1.grownBy w2 (some r.block)) (X : Box w2 r (rnc lev hs { H with ev := (a', m, c') })) : RunAt lev n K hs start r w2 (rtag ρ a' 4) { H with ev := (a', m, c') } (noteE s e) ∧ Kp w ρ w2 (rtag ρ a' 4) := by
  have hρ := A.ev.tag
  have old := rtag_old (w := w) (h := H.ev) (a' := a') hρ hn
  have o1 : ∀ {c : Nat}, c ≠ 4 → ∀ b, blk H.ev.1 = some b → ρ b ≠ c := fun hc b h e => hc (e.symm.trans (hρ b h))
  have hr := A.box.tag
  have hrl := A.box.box.lt
  have o2 : ∀ {c : Nat}, c ≠ 1 → ∀ b, some r.block = some b → rtag ρ a' 4 b ≠ c := fun hc b h e => by
    injection h with h; subst h
    rw [old _ hrl, hr] at e
    exact hc e.symm
  have i : ∀ k, k < w1.heap.size → rtag ρ a' 4 k = rtag ρ a' 4 k := fun _ _ => rfl
  refine ⟨⟨fun b h => ?_, ⟨X, by rw [old _ hrl]; exact hr⟩, (A.st.keep hg1 (o1 (by omega)) old).keep hg2 (o2 (by omega)) i, A.sl, (A.txs.keep hg1 (o1 (by omega)) old).keep hg2 (o2 (by omega)) i, A.pl, fun j q h => ((A.txb j q h).keep hg1 (o1 (by omega)) old).keep hg2 (o2 (by omega)) i, fun j h => ((A.stp j h).keep hg1 (o1 (by omega)) old).keep hg2 (o2 (by omega)) i,
    fun j h => ((A.wp j h).keep hg1 (o1 (by omega)) old).keep hg2 (o2 (by omega)) i, fun j h => ((A.sh j h).keep hg1 (o1 (by omega)) old).keep hg2 (o2 (by omega)) i, fun j h => ((A.ex j h).keep hg1 (o1 (by omega)) old).keep hg2 (o2 (by omega)) i, (A.vers.keep hg1 (o1 (by omega)) old).keep hg2 (o2 (by omega)) i, A.vl,
    fun k x h => ((A.row k x h).keep hg1 (o1 (by omega)) old).keep hg2 (o2 (by omega)) i, PartO.keep (h := (a', m, c')) ⟨O, rtag_self ρ a' 4⟩ hg2 (o2 (by omega)) i⟩, (Kp.put hg1 (o1 (by omega)) old).trans (Kp.put hg2 (o2 (by omega)) i)⟩
  have h1 := hg1.size
  have h2 := hg2.size
  by_cases hb : blk a' = some b
  · have := own_some' O b hb; omega
  · unfold rtag at h
    rw [if_neg hb] at h
    have := A.tag b h; omega
theorem RunAt.putRow (A : RunAt lev n K hs start r w ρ H s) {w1 w2 : World} {k : Nat} {x : Hdr} {a' : Option Addr} {m c' : Nat} {l' : List Wr} (hx : H.vh[k]? = some x) (O : Own w1 0 89 3 a' m c' (l'.flatMap encW)) (hg1 : w.grownBy w1 (blk x.1)) (hn : blk a' = blk x.1 ∨ ∀ b, blk a' = some b → w.heap.size ≤ b)
    (hg2 : w1.grownBy w2 (blk H.ver.1)) (O2 : Own w2 0 87 1 H.ver.1 H.ver.2.1 H.ver.2.2 ((H.vh.map hv).set k (hv (a', m, c')))) : RunAt lev n K hs start r w2 (rtag ρ a' (8 + 4 * k)) { H with vh := H.vh.set k (a', m, c') } { s with ver := upd s.ver k l' } ∧ Kp w ρ w2 (rtag ρ a' (8 + 4 * k)) := by
  have hρ := (A.row k x hx).tag
  have hkl := (List.getElem?_eq_some_iff.1 hx).1
  have old := rtag_old (w := w) (h := x) (a' := a') hρ hn
  have o1 : ∀ {c : Nat}, c ≠ 8 + 4 * k → ∀ b, blk x.1 = some b → ρ b ≠ c := fun hc b h e => hc (e.symm.trans (hρ b h))
  have hr := A.vers.tag
  have hrl : ∀ b, blk H.ver.1 = some b → b < w.heap.size := fun b h => own_some' A.vers.own b h
  have o2 : ∀ {c : Nat}, c ≠ 3 → ∀ b, blk H.ver.1 = some b → rtag ρ a' (8 + 4 * k) b ≠ c := fun hc b h e => by
    rw [old _ (hrl b h), hr b h] at e
    exact hc e.symm
  have i : ∀ j, j < w1.heap.size → rtag ρ a' (8 + 4 * k) j = rtag ρ a' (8 + 4 * k) j := fun _ _ => rfl
  refine ⟨⟨fun b h => ?_, (A.box.keep hg1 (o1 (by omega)) old).keep hg2 (o2 (by omega)) i, (A.st.keep hg1 (o1 (by omega)) old).keep hg2 (o2 (by omega)) i, A.sl, (A.txs.keep hg1 (o1 (by omega)) old).keep hg2 (o2 (by omega)) i, A.pl, fun j q h => ((A.txb j q h).keep hg1 (o1 (by omega)) old).keep hg2 (o2 (by omega)) i, fun j h => ((A.stp j h).keep hg1 (o1 (by omega)) old).keep hg2 (o2 (by omega)) i,
    fun j h => ((A.wp j h).keep hg1 (o1 (by omega)) old).keep hg2 (o2 (by omega)) i, fun j h => ((A.sh j h).keep hg1 (o1 (by omega)) old).keep hg2 (o2 (by omega)) i, fun j h => ((A.ex j h).keep hg1 (o1 (by omega)) old).keep hg2 (o2 (by omega)) i, ⟨?_, fun b h => by rw [old _ (hrl b h)]; exact hr b h⟩, by show (H.vh.set k _).length = K; rw [List.length_set]; exact A.vl,
    fun j y h => ?_, (A.ev.keep hg1 (o1 (by omega)) old).keep hg2 (o2 (by omega)) i⟩, (Kp.put hg1 (o1 (by omega)) old).trans (Kp.put hg2 (o2 (by omega)) i)⟩
  · have h1 := hg1.size
    have h2 := hg2.size
    by_cases hb : blk a' = some b
    · have := own_some' O b hb; omega
    · unfold rtag at h
      rw [if_neg hb] at h
      have := A.tag b h; omega
  · show Own w2 0 _ 1 H.ver.1 H.ver.2.1 H.ver.2.2 ((H.vh.set k (a', m, c')).map hv)
    rw [List.map_set]; exact O2
  · change (H.vh.set k (a', m, c'))[j]? = some y at h
    show PartO w2 _ (8 + 4 * j) _ 3 y ((upd s.ver k l' j).flatMap encW)
    by_cases hj : k = j
    · subst hj
      rw [List.getElem?_set_self hkl] at h
      cases h
      rw [upd_same]
      exact PartO.keep (h := (a', m, c')) ⟨O, rtag_self ρ a' _⟩ hg2 (o2 (by omega)) i
    · rw [List.getElem?_set_ne hj] at h
      rw [upd_ne _ _ (fun e => hj e.symm)]
      exact ((A.row j y h).keep hg1 (o1 (by omega)) old).keep hg2 (o2 (by omega)) i
end
def RHd.k (H : RHd) : List Addr × Hdr := (H.ps, H.tx)
theorem k_ps {H H' : RHd} (h : H.k = H'.k) : H.ps = H'.ps := congrArg Prod.fst h
theorem k_tx {H H' : RHd} (h : H.k = H'.k) : H.tx = H'.tx := congrArg Prod.snd h
def RA (lev n K : Nat) (hs : Hdr) (start : List Int) (r : Addr) (k : List Addr × Hdr) (w : World) (ρ : Rho) (s : St) : Prop := ∃ H : RHd, H.k = k ∧ RunAt lev n K hs start r w ρ H s
end Go.Proofs.Ytcglflifaniolaa

/- A run of transactions: events; who is in the way; who waits for himself. -/

namespace Go.Proofs.Ytcglflifaniolaa
open Go.RowKit Go.Q Go.V Go.Proofs.Sc
section
variable {lev n K : Nat} {hs : Hdr} {start : List Int} {r : Addr} {w w' : World} {ρ ρ' : Rho} {H : RHd} {s : St}

theorem noteF (A : RunAt lev n K hs start r w ρ H s) (e : Ev) (hb : s.ev.length ≤ 1000000) :
    call Try.prog 40 [.pointer (some r), .int .i64 ((e.kind : Nat) : Int), .int .i64 ((e.t : Nat) : Int), .int .i64 ((e.key : Nat) : Int), .int .i64 e.val, .int .i64 e.fr] (.many []) w
      (fun _ w' => ∃ ρ', RA lev n K hs start r H.k w' ρ' (noteE s e) ∧ Kp w ρ w' ρ') := by
  refine call_of (S40_calls (some r) _ _ _ _ _ w _ ?_)
  unfold S40
  have hl := A.ev.own.1
  rw [flat_len encE_len] at hl
  refine nn_mk rfl ?_
  refine rd_box (by kernel_rfl) A.box.box (i := 4) rfl rfl ?_
  refine wr_app1 tyE A.ev.own (Nat.zero_le _) rfl (by omega) (by omega) rfl rfl (by omega) (by unfold maxLen; omega) fun a' c' w6 O hg hn _ => ?_
  refine nn_mk rfl ?_
  have hne : some r.block ≠ blk H.ev.1 := fun q => by have := A.ev.tag _ q.symm; rw [A.box.tag] at this; omega
  refine wu_boxi (A.box.box.grown hg hne) (by kernel_rfl) (by show 4 < 5; omega) rfl fun w8 X hg8 _ => ?_
  refine ⟨(), rfl, ?_⟩
  obtain ⟨h1, h2⟩ := A.putEv (a' := a') (m := H.ev.2.1 + 1) (c' := c') (e := e) (by rw [List.flatMap_append]; exact O) hg hn hg8 X
  exact ⟨_, ⟨_, by rfl, h1⟩, h2⟩

/-! ### who is in the way -/
theorem fb_get {K k : Nat} (f : Nat → Bool) (hk : k < K) : ((List.range K).map f)[k]? = some (f k) := by rw [List.getElem?_map, List.getElem?_range hk]; rfl
theorem ptrs_get {l : List Addr} {i : Nat} {p : Addr} (h : l[i]? = some p) : (ptrs l)[i]? = some (.pointer (some p)) := by unfold ptrs; rw [List.getElem?_map, h]; rfl
def othP (s : St) (t : Nat) (l : Lk) (i : Nat) : List Nat := (List.range i).filter fun j => j != t && blocks (s.tx j) l
theorem filter_one {α : Type} (p : α → Bool) (a : α) : [a].filter p = if p a = true then [a] else [] := by cases h : p a <;> simp [List.filter, h]
theorem othP_succ (s : St) (t : Nat) (l : Lk) (i : Nat) : othP s t l (i + 1) = othP s t l i ++ (if (i != t && blocks (s.tx i) l) = true then [i] else []) := by
  unfold othP
  rw [List.range_succ, List.filter_append]
  rw [filter_one]
theorem othP_len (s : St) (t : Nat) (l : Lk) (i : Nat) : (othP s t l i).length ≤ i := by
  have := List.length_filter_le (fun j => j != t && blocks (s.tx j) l) (List.range i)
  rw [List.length_range] at this
  exact this
set_option maxHeartbeats 800000 in
theorem othersF (A : RunAt lev n K hs start r w ρ H s) (t : Nat) (l : Lk) (hk : l.k < K) (hn : n ≤ 1000) :
    call Try.prog 50 [.pointer (some r), .int .i64 (t : Int), .agg #[.int .i64 ((l.k : Nat) : Int), .bool l.x]] (.one (.one .slice)) w (fun (x : Hdr) w' => Own w' w.heap.size 3 1 x.1 x.2.1 x.2.2 (nats .i64 (others n s t l)) ∧ bel w w') := by
  refine call_of (S50_calls (some r) t l.k l.x w _ ?_)
  unfold S50
  refine wr_box fun x1 w2 X1 h2 _ _ => ?_
  replace X1 : Box w2 x1 [.int .i64 ((l.k : Nat) : Int), .bool l.x] := X1
  have A2 := A.up h2
  refine nn_mk rfl ?_
  refine rd_box (by kernel_rfl) A2.box.box (i := 2) rfl rfl ?_
  have hpl := A.txs.own.1
  rw [List.length_map, A.pl, Nat.mul_one] at hpl
  refine loop_gh (G := Nat) (fun i s' w' => ∃ o : Hdr, s' = ((o.1, o.2.1, o.2.2), (i : Int), ()) ∧ i ≤ n ∧ bel w2 w' ∧ Own w' w2.heap.size 3 1 o.1 o.2.1 o.2.2 (nats .i64 (othP s t l i))) (fun i => n - i) 0
    ⟨(none, 0, 0), rfl, Nat.zero_le _, bel.refl _, Own.nil _ _ _ _⟩ ?_
  rintro i _ w7 ⟨o, rfl, hi, hb, O⟩ again hag _
  have A7 := A2.up hb
  have ol := O.sl.nat
  have o2 := othP_len s t l i
  refine br_dec (fun e => ?_) (fun e => ?_)
  · dsimp only at e
    have hin : i < n := by omega
    obtain ⟨p, hp⟩ := A.ps_get hin
    refine join_mk (fun (x : Hdr × Unit) w' => bel w2 w' ∧ Own w' w2.heap.size 3 1 x.1.1 x.1.2.1 x.1.2.2 (nats .i64 (othP s t l (i + 1)))) (fun K8 hK => ?_) (fun x w' q => ?_)
    case refine_2 =>
      obtain ⟨h1, h2⟩ := q
      intro _
      refine z_i64 (by dsimp only; omega) ?_
      exact hag (i + 1) _ _ ⟨x.1, rfl, by omega, h1, h2⟩ (by omega)
    refine at_mk tyT (by kernel_rfl) A7.txs.own.sl (j := i) (s := .ptr) rfl (ptrs_get hp) rfl ?_
    refine drw_mk fun w14 h14 _ => ?_
    have A14 := A7.up h14
    have X14 := (X1.up hb).up h14
    have O14 := O.kept h14
    have b14 := hb.trans h14
    have hs14 := b14.size
    have P := (A14.txb i p hp).box
    have none_ : (i != t && blocks (s.tx i) l) = false → ∀ K8 : (Hdr × Unit) → World → Prop, (∀ x w, bel w2 w ∧ Own w w2.heap.size 3 1 x.1.1 x.1.2.1 x.1.2.2 (nats .i64 (othP s t l (i + 1))) → K8 x w) → K8 ((o.1, o.2.1, o.2.2), ()) w14 := fun h K8 hK => by
      refine hK _ _ ⟨b14, ?_⟩
      rw [othP_succ, if_neg (by rw [h]; simp), List.append_nil]; exact O14
    have one_ : (i != t && blocks (s.tx i) l) = true → ∀ K8 : (Hdr × Unit) → World → Prop, (∀ x w, bel w2 w ∧ Own w w2.heap.size 3 1 x.1.1 x.1.2.1 x.1.2.2 (nats .i64 (othP s t l (i + 1))) → K8 x w) →
        wr Try.prog (Instr.buildSlice 22 1 #[(0, .int .i64 (i : Int))]) (.one .slice) w14 fun (x22 : Hdr) w23 => wr Try.prog (Builtin.append_ #[22, 22] 22 #[.slice o.1 o.2.1 o.2.2, .slice x22.1 x22.2.1 x22.2.2]) (.one .slice) w23 fun (x24 : Hdr) w25 => K8 ((x24.1, x24.2.1, x24.2.2), ()) w25 := fun h K8 hK => by
      refine wr_app1 tyI O14 hs14 rfl (by omega) (by omega) rfl rfl (by omega) (by unfold maxLen; omega) fun a' c' w' O' hg _ _ => ?_
      refine hK _ _ ⟨b14.own O14 hg (Nat.le_refl _), ?_⟩
      rw [othP_succ, if_pos h, nats_app]; exact O'
    refine br_ne (fun hit => ?_) (fun hit => none_ ?_ K8 hK)
    · have hit' : i ≠ t := by dsimp only at hit; omega
      refine nn_mk rfl ?_
      refine rd_box (by kernel_rfl) P (i := 3) rfl rfl ?_
      refine br_not (fun he => ?_) (fun he => none_ (by unfold blocks; rw [he]; simp) K8 hK)
      refine nn_mk rfl ?_
      refine rd_box (by kernel_rfl) P (i := 7) rfl rfl ?_
      refine rd_box0 (by kernel_rfl) X14 rfl rfl ?_
      have Sex := (A14.ex i hin).own.sl
      have exl := Sex.bool
      rw [List.length_map, List.length_range] at exl
      refine at_bool tyB (by kernel_rfl) Sex (j := l.k) rfl (by omega) fun x hx => ?_
      obtain rfl : (s.tx i).ex l.k = x := by rw [fb_get _ hk] at hx; injection hx
      refine br_mk (fun hx1 => one_ ?_ K8 hK) (fun hx1 => ?_)
      · unfold blocks; rw [he, hx1]; simpa using hit'
      · refine rd_box (by kernel_rfl) X14 (i := 1) rfl rfl ?_
        refine br_mk (fun hlx => ?_) (fun hlx => none_ (by unfold blocks; rw [hx1, hlx]; simp) K8 hK)
        refine nn_mk rfl ?_
        refine rd_box (by kernel_rfl) P (i := 6) rfl rfl ?_
        refine rd_box0 (by kernel_rfl) X14 rfl rfl ?_
        have Ssh := (A14.sh i hin).own.sl
        have shl := Ssh.bool
        rw [List.length_map, List.length_range] at shl
        refine at_bool tyB (by kernel_rfl) Ssh (j := l.k) rfl (by omega) fun x hx => ?_
        obtain rfl : (s.tx i).sh l.k = x := by rw [fb_get _ hk] at hx; injection hx
        refine br_mk (fun hx2 => one_ ?_ K8 hK) (fun hx2 => none_ (by unfold blocks; rw [hx1, hx2]; simp) K8 hK)
        unfold blocks; rw [he, hx1, hlx, hx2]; simpa using hit'
    · have hit' : i = t := by dsimp only at hit; omega
      simp [hit']
  · dsimp only at e
    have hin : i = n := by omega
    subst hin
    exact ⟨o, rfl, own_le O h2.size, h2.trans hb⟩
end
end Go.Proofs.Ytcglflifaniolaa

/- A run of transactions: who waits for himself. -/

namespace Go.Proofs.Ytcglflifaniolaa
open Go.RowKit Go.Q Go.V Go.Proofs.Sc
section
variable {lev n K : Nat} {hs : Hdr} {start : List Int} {r : Addr} {w w' : World} {ρ ρ' : Rho} {H : RHd} {s : St}
theorem oth_nodup (s : St) (t : Nat) (l : Lk) : (others n s t l).Pairwise (fun a b => a ≠ b) := by
  unfold others
  exact List.Pairwise.filter _ (List.nodup_range (n := n))
theorem take_not {l : List Nat} (h : l.Pairwise fun a b => a ≠ b) {j x : Nat} (hx : l[j]? = some x) : x ∉ l.take j := by
  intro hm
  obtain ⟨i, hi⟩ := List.getElem?_of_mem hm
  rw [List.getElem?_take] at hi
  split at hi
  · rename_i hij
    have h1 := (List.getElem?_eq_some_iff.1 hx)
    have h2 := (List.getElem?_eq_some_iff.1 hi)
    obtain ⟨l1, e1⟩ := h1
    obtain ⟨l2, e2⟩ := h2
    have := List.pairwise_iff_getElem.1 h i j l2 l1 hij
    rw [e1, e2] at this
    exact this rfl
  · cases hi
def unseen (n : Nat) (seen : Nat → Bool) : Nat := ((List.range n).filter (fun j => !seen j)).length
theorem unseen_step (s : St) (i : Nat) (l : Lk) (seen : Nat → Bool) (q : List Nat) : (q ++ (others n s i l).filter (fun j => !seen j)).length + unseen n (fun j => seen j || (others n s i l).contains j) = q.length + unseen n seen := by
  unfold unseen
  have e1 := filter_split (fun j => !seen j) (fun j => (others n s i l).contains j) (List.range n)
  have e2 : ((others n s i l).filter (fun j => !seen j)).length = ((List.range n).filter (fun x => !seen x && (others n s i l).contains x)).length := by
    conv => lhs; unfold others
    rw [List.filter_filter]
    refine filter_ext fun x hx => ?_
    congr 1
    rw [Bool.eq_iff_iff, List.contains_iff_mem]
    unfold others
    rw [List.mem_filter]
    exact ⟨fun h => ⟨hx, h⟩, fun h => h.2⟩
  have e3 : ((List.range n).filter (fun j => !(seen j || (others n s i l).contains j))).length = ((List.range n).filter (fun x => !seen x && !(others n s i l).contains x)).length := filter_ext fun x _ => by simp
  rw [List.length_append, e2, e3]
  omega
theorem nats_cons (x : Nat) (l : List Nat) : nats .i64 (x :: l) = .int .i64 (x : Int) :: nats .i64 l := rfl

set_option maxHeartbeats 1600000 in
theorem waitsF (A : RunAt lev n K hs start r w ρ H s) (t : Nat) (ht : t < n) (hn : n ≤ 1000) (hw : ∀ i l, i < n → (s.tx i).wants = some l → l.k < K) :
    call Try.prog 43 [.pointer (some r), .int .i64 (t : Int)] (.one (.one .bool)) w (fun (x : Bool) w' => x = waits n s t ∧ bel w w') := by
  refine call_of (S43_calls (some r) t w _ ?_)
  unfold S43
  have hpl := A.txs.own.1
  rw [List.length_map, A.pl, Nat.mul_one] at hpl
  refine nn_mk rfl ?_
  refine rd_box (by kernel_rfl) A.box.box (i := 2) rfl rfl ?_
  refine wr_make tyB n (by dsimp only; omega) (by dsimp only; omega) (by omega) (by unfold maxLen; omega) fun sd w4 OS h4 hsd hs4 => ?_
  have O4 : Own w4 w.heap.size 4 1 (some sd) n n (fbools n fun _ => false) := by
    have := OS w.heap.size (Nat.le_refl _)
    have e : (madeCells (Value.bool false).cells (n * 1)).toList = fbools n fun _ => false := by
      rw [Nat.mul_one]
      unfold madeCells fbools Go.Q.bools
      refine List.ext_getElem? fun i => ?_
      by_cases h : i < n
      · simp [h, Value.cells, Nat.mod_one]
      · simp [h]
    rw [e] at this; exact this
  clear OS
  refine wr_lit tyI #[.int .i64 (t : Int)] (fill_one 1 (.int .i64 (t : Int)) _ rfl (by first | rfl | simp)) (by omega) (by omega) rfl (by unfold maxLen; omega) fun qd w6 OQ h6 hqd _ => ?_
  have Q6 : QAt w6 w4.heap.size 3 (some qd, 1, 1) (nats .i64 [t]) := ownQ (OQ w4.heap.size (Nat.le_refl _))
  clear OQ
  have hsdl : sd.block < w4.heap.size := (O4.lt sd.block rfl).2
  have b6 := h4.trans h6
  refine loop_gh (G := Nat) (fun f s' w' => ∃ (o : Hdr) (q : List Nat) (seen : Nat → Bool), s' = ((o.1, o.2.1, o.2.2), ()) ∧ q.length + unseen n seen = f ∧ f ≤ n + 1 ∧ bfs n s t f seen q = waits n s t ∧ (∀ j ∈ q, j < n) ∧ bel w w' ∧ QAt w' w4.heap.size 3 o (nats .i64 q) ∧ Own w' w.heap.size 4 1 (some sd) n n (fbools n seen) ∧ w4.heap.size ≤ w'.heap.size ∧ (∀ b, blk o.1 = some b → w4.heap.size ≤ b ∧ b < w'.heap.size)) (fun f => f) (n + 1)
    ⟨(some qd, 1, 1), [t], fun _ => false, rfl, ?_, Nat.le_refl _, rfl, fun j hj => by simp at hj; omega, b6, Q6, O4.kept h6, h6.size, fun b hb => by (have e : qd.block = b := by injection hb); omega⟩ ?_
  · unfold unseen
    rw [show (List.range n).filter (fun j => !(fun _ => false : Nat → Bool) j) = List.range n from List.filter_eq_self.2 (fun _ _ => rfl), List.length_range, List.length_singleton]; omega
  rintro f _ w9 ⟨o, q, seen, rfl, hf, hfn, hbfs, hq, hb, Q, O, hs9, hqb⟩ again hag _
  have ql := Q.len
  unfold nats at ql
  rw [List.length_map] at ql
  refine br_dec (fun e => ?_) (fun e => ?_)
  case refine_2 =>
    dsimp only at e
    have : q = [] := List.eq_nil_of_length_eq_zero (by omega)
    subst this
    refine ⟨false, rfl, ?_, hb⟩
    rw [← hbfs]
    cases f <;> rfl
  dsimp only at e
  obtain ⟨i, q', rfl⟩ : ∃ i q', q = i :: q' := by
    cases q with
    | nil => simp at ql; omega
    | cons i q' => exact ⟨i, q', rfl⟩
  rw [List.length_cons] at hf ql
  obtain ⟨f', rfl⟩ : ∃ f', f = f' + 1 := ⟨f - 1, by omega⟩
  have hin : i < n := hq i (by simp)
  have hq' : ∀ j ∈ q', j < n := fun j hj => hq j (by simp [hj])
  obtain ⟨p, hp⟩ := A.ps_get hin
  refine drw_mk fun w10 h10 _ => ?_
  replace Q := Q.up h10; replace O := O.kept h10; replace hb := hb.trans h10
  have hs10 := h10.size
  have A10 := A.up hb
  refine nn_mk rfl ?_
  refine rd_box (by kernel_rfl) A10.box.box (i := 2) rfl rfl ?_
  refine at_nat tyI (by kernel_rfl) Q.sl (j := 0) rfl (by omega) fun x hx => ?_
  obtain rfl : i = x := by simpa using hx
  refine at_mk tyT (by kernel_rfl) A10.txs.own.sl (j := i) (s := .ptr) rfl (ptrs_get hp) rfl ?_
  refine at_nat tyI (by kernel_rfl) Q.sl (j := 0) rfl (by omega) fun x hx => ?_
  obtain rfl : i = x := by simpa using hx
  rw [nats_cons] at Q
  refine q_tailx tyI Q fun o' Q' hqb' => ?_
  have P := (A10.txb i p hp).box
  have skip : ((s.tx i).ended = true ∨ (s.tx i).wants = none) → again ((o'.1, o'.2.1, o'.2.2), ()) w10 := fun h => by
    refine hag f' _ _ ⟨o', q', seen, rfl, by omega, by omega, ?_, hq', hb, Q', O, by omega, fun b hb => by rw [hqb'] at hb; have := hqb b hb; omega⟩ (by omega)
    rw [← hbfs, bfs]
    cases he : (s.tx i).ended with
    | true => rfl
    | false =>
      rcases h with h | h
      · rw [he] at h; cases h
      · rw [h]
  refine nn_mk rfl ?_
  refine rd_box (by kernel_rfl) P (i := 3) rfl rfl ?_
  refine br_mk (fun he => skip (.inl he)) (fun he => ?_)
  refine nn_mk rfl ?_
  refine rd_box (by kernel_rfl) P (i := 5) rfl rfl ?_
  have hwp := A10.wp i hin
  cases hwants : (s.tx i).wants with
  | none =>
    rw [hwants] at hwp
    have hwp' : (H.th i).wp = none := hwp
    refine rd_ptr_nil (e := 82) (by kernel_rfl) ?_
    exact br_t (by rw [hwp']; rfl) (skip (.inr hwants))
  | some l =>
    rw [hwants] at hwp
    obtain ⟨la, hla, XL, _⟩ := hwp
    refine rd_ptr_nil (e := 82) (by kernel_rfl) ?_
    refine br_f (by rw [hla]; rfl) ?_
    refine nn_mk rfl ?_
    refine rd_box (by kernel_rfl) P (i := 5) rfl rfl ?_
    refine nn_mk hla ?_
    refine rd_boxN XL (by kernel_rfl) rfl ?_
    refine call_mono (othersF A10 i l (hw i l hin hwants) hn) ?_
    rintro (x29 : Hdr) w30 ⟨O29, h30⟩
    have S29 := O29.sl
    have l29 : ∀ b, blk x29.1 = some b → w10.heap.size ≤ b ∧ b < w30.heap.size := fun b hb => O29.lt b hb
    have hb30 := hb.trans h30
    have ol := S29.nat
    have hstep : bfs n s t (f' + 1) seen (i :: q') = if (others n s i l).contains t = true then true else bfs n s t f' (fun j => seen j || (others n s i l).contains j) (q' ++ (others n s i l).filter (fun j => !seen j)) := by
      rw [bfs, he, hwants]
    have hnd := oth_nodup (n := n) s i l
    have olt : ∀ {j x : Nat}, (others n s i l)[j]? = some x → x < n := fun {j x} h => (others_lt (List.mem_of_getElem? h)).1
    generalize hO : others n s i l = O' at *
    refine loop_gh (G := Nat) (fun j s' w' => ∃ (o : Hdr), s' = ((o.1, o.2.1, o.2.2), (j : Int), ()) ∧ j ≤ O'.length ∧ (O'.take j).contains t = false ∧ bel w w' ∧ (w30.heap.size ≤ w'.heap.size ∧ ∀ b, blk o.1 = some b → w4.heap.size ≤ b ∧ b < w'.heap.size ∧ (b < w10.heap.size ∨ w30.heap.size ≤ b)) ∧ Sl w' x29.1 x29.2.1 x29.2.2 1 (nats .i64 O') ∧ QAt w' w4.heap.size 3 o (nats .i64 (q' ++ (O'.take j).filter (fun x => !seen x))) ∧ Own w' w.heap.size 4 1 (some sd) n n (fbools n (fun x => seen x || (O'.take j).contains x)) ∧ w4.heap.size ≤ w'.heap.size) (fun j => O'.length - j) 0
      ⟨o', rfl, Nat.zero_le _, by simp, hb30, ⟨Nat.le_refl _, fun b hb => by rw [hqb'] at hb; have := hqb b hb; have := h30.size; omega⟩, S29, by simpa using Q'.up h30, by simpa using O.kept h30, by have := h30.size; omega⟩ ?_
    clear Q Q' O S29
    rintro j _ w33 ⟨o2, rfl, hj, hnt, hb33, ⟨hs30, hob⟩, S29, Q, O, hs33⟩ again2 hag2 _
    have q2 := Q.len
    have hfl := List.length_filter_le (fun x => !seen x) (O'.take j)
    rw [List.length_take] at hfl
    unfold nats at q2
    rw [List.length_map, List.length_append] at q2
    have hq'n : q'.length ≤ n + 1 := by
      omega
    have hOn : O'.length ≤ n := by
      rw [← hO]
      have := List.length_filter_le (fun x => x != i && blocks (s.tx x) l) (List.range n)
      rw [List.length_range] at this
      exact this
    refine br_dec (fun e2 => ?_) (fun e2 => ?_)
    · dsimp only at e2
      have hjl : j < O'.length := by omega
      obtain ⟨x, hx⟩ : ∃ x, O'[j]? = some x := ⟨_, List.getElem?_eq_getElem hjl⟩
      have hxn := olt hx
      have htk : O'.take (j + 1) = O'.take j ++ [x] := by rw [List.take_add_one, hx]; rfl
      have hxnot : (O'.take j).contains x = false := by
        rw [Bool.eq_false_iff, ne_eq, List.contains_iff_mem]
        exact take_not hnd hx
      refine join_mk (fun (y : Hdr × Unit) w' => (O'.take (j + 1)).contains t = false ∧ bel w w' ∧ (w30.heap.size ≤ w'.heap.size ∧ ∀ b, blk y.1.1 = some b → w4.heap.size ≤ b ∧ b < w'.heap.size ∧ (b < w10.heap.size ∨ w30.heap.size ≤ b)) ∧ Sl w' x29.1 x29.2.1 x29.2.2 1 (nats .i64 O') ∧ QAt w' w4.heap.size 3 y.1 (nats .i64 (q' ++ (O'.take (j + 1)).filter (fun x => !seen x))) ∧ Own w' w.heap.size 4 1 (some sd) n n (fbools n (fun x => seen x || (O'.take (j + 1)).contains x)) ∧ w4.heap.size ≤ w'.heap.size) (fun K34 hK => ?_) (fun y w' q => ?_)
      case refine_2 =>
        obtain ⟨c1, c2, c7, c3, c4, c5, c6⟩ := q
        intro _
        refine z_i64 (by dsimp only; omega) ?_
        exact hag2 (j + 1) _ _ ⟨y.1, rfl, by omega, c1, c2, c7, c3, c4, c5, c6⟩ (by omega)
      refine at_nat tyI (by kernel_rfl) S29 (j := j) rfl (by omega) fun x' hx' => ?_
      obtain rfl : x = x' := by rw [hx] at hx'; injection hx'
      refine br_eq (fun hxt => ?_) (fun hxt => ?_)
      · have hxt' : x = t := by omega
        subst hxt'
        refine ⟨true, rfl, ?_, hb33⟩
        rw [← hbfs, hstep, if_pos]
        rw [List.contains_iff_mem]; exact List.mem_of_getElem? hx
      · have hxt' : x ≠ t := by omega
        have hct : (O'.take (j + 1)).contains t = false := by
          rw [htk, Bool.eq_false_iff, ne_eq, List.contains_iff_mem, List.mem_append, List.mem_singleton]
          rintro (h | h)
          · rw [← List.contains_iff_mem, hnt] at h; cases h
          · exact hxt' h.symm
        have Ob := O.sl
        refine at_bool tyB (by kernel_rfl) Ob (j := x) rfl (by omega) fun b hb' => ?_
        obtain rfl : (seen x || (O'.take j).contains x) = b := by rw [fb_get _ hxn] at hb'; injection hb'
        rw [hxnot, Bool.or_false]
        refine br_not (fun hsx => ?_) (fun hsx => hK _ _ ⟨hct, hb33, ⟨hs30, hob⟩, S29, ?_, ?_, hs33⟩)
        · refine set_mk tyB O (j := x) rfl hxn rfl fun w43 O43 hg43 hz43 => ?_
          rw [fbools_set _ hxn] at O43
          have hg43' : w33.grownBy w43 (some sd.block) := hg43
          have hs10' : w4.heap.size ≤ w10.heap.size := by omega
          have Q43 := Q.xg hg43' hsdl
          have S43 := S29.grown hg43' (fun ad ha _ e => by have := l29 ad.block (by rw [ha]; rfl); injection e; omega)
          have hb43 : bel w w43 := hb33.grownAt hg43' (by omega)
          have q43 := Q43.len
          refine wr_appQx tyI Q43 (by omega) rfl rfl rfl (by omega) (by unfold maxLen; omega) fun o3 w47 Q47 hg47 hn47 => ?_
          have hs47 := hg47.size
          refine hK _ _ ⟨hct, ?_, ⟨by omega, fun b hb => ?_⟩, ?_, ?_, ?_, by omega⟩
          · exact ⟨hg47.os.trans hb43.os, hg47.tape.trans hb43.tape, hg47.output.trans hb43.output, by have := hb43.size; omega, fun k hk => by
              rw [hg47.block k (by have := hb43.size; omega) (fun e => by have := hob k e.symm; have := h4.size; omega), hb43.block k hk]⟩
          · have hlt := Q47.sl
            rcases hn47 with q | q
            · rw [q] at hb
              have := hob b hb
              omega
            · have h1 := q b hb
              refine ⟨by omega, ?_, .inr (by omega)⟩
              obtain ⟨g, p, cur, g1, _, g3, _⟩ := Q47.mem (by
                have z1 := Q47.len
                have z2 := Q47.cap
                rw [List.length_append] at z1
                have z3 : (Value.int .i64 (x : Int)).cells.toList.length = 1 := rfl
                omega)
              rw [g1] at hb
              cases hb
              exact (Array.getElem?_eq_some_iff.1 g3).1
          · refine S43.grown hg47 (fun ad ha _ e => ?_)
            have h1 := l29 ad.block (by rw [ha]; rfl)
            have h2 := hob ad.block e.symm
            omega
          · have e : nats .i64 (q' ++ (O'.take (j + 1)).filter (fun x => !seen x)) = nats .i64 (q' ++ (O'.take j).filter (fun x => !seen x)) ++ [.int .i64 (x : Int)] := by
              rw [htk, List.filter_append, filter_one, if_pos (by rw [hsx]; rfl), ← List.append_assoc, nats_app]; rfl
            rw [e]; exact Q47
          · have e : (fun y => seen y || (O'.take (j + 1)).contains y) = Sc.upd (fun y => seen y || (O'.take j).contains y) x true := by
              funext y
              rw [htk]
              unfold Sc.upd
              by_cases hy : y = x
              · rw [if_pos hy, hy]; simp
              · rw [if_neg hy]; simp [hy]
            rw [e]
            exact O43.keptBy hg47 (.inr fun e => by have := hob sd.block e.symm; omega)
        · have e : (O'.take (j + 1)).filter (fun x => !seen x) = (O'.take j).filter (fun x => !seen x) := by
            rw [htk, List.filter_append, filter_one, if_neg (by rw [hsx]; simp), List.append_nil]
          rw [e]; exact Q
        · have e : (fun y => seen y || (O'.take (j + 1)).contains y) = fun y => seen y || (O'.take j).contains y := by
            funext y
            rw [htk]
            by_cases hy : y = x
            · rw [hy, hsx]; rfl
            · simp [hy]
          rw [e]; exact O
    · dsimp only at e2
      have hjl : j = O'.length := by omega
      subst hjl
      rw [List.take_length] at hnt Q O
      refine hag f' _ _ ⟨o2, _, _, rfl, ?_, by omega, ?_, fun j hj => ?_, hb33, Q, O, hs33, fun b hb => by have := hob b hb; omega⟩ (by omega)
      · have := unseen_step (n := n) s i l seen q'
        rw [hO] at this
        rw [this]; omega
      · rw [← hbfs, hstep, if_neg (by rw [hnt]; simp)]
      · rcases List.mem_append.1 hj with h | h
        · exact hq' j h
        · obtain ⟨m, hm⟩ := List.getElem?_of_mem (List.mem_filter.1 h).1
          exact olt hm
end
end Go.Proofs.Ytcglflifaniolaa

/- A run of transactions: which lock a step needs; taking it; reading. -/

namespace Go.Proofs.Ytcglflifaniolaa
open Go.RowKit Go.Q Go.V Go.Proofs.Sc
section
variable {lev n K : Nat} {hs : Hdr} {start : List Int} {r : Addr} {w w' : World} {ρ ρ' : Rho} {H : RHd} {s : St}

theorem neededF (lev : Nat) (p : Sp) (w : World) :
    call Try.prog 41 [.int .i64 ((lev : Nat) : Int), .agg #[.int .i64 ((p.kind : Nat) : Int), .int .i64 ((p.key : Nat) : Int), .int .i64 p.val]] (.many [.agg [.int .i64, .bool], .one .bool]) w
      (fun (x : (Int × Bool × Unit) × Bool × Unit) w' => (x.2.1 = true ↔ ∃ l, need lev p = some l) ∧ (∀ l, need lev p = some l → x.1 = (((l.k : Nat) : Int), l.x, ())) ∧ bel w w') := by
  refine call_of (S41_calls lev p.kind p.key p.val w _ ?_)
  unfold S41
  refine wr_box fun x1 w2 X1 h2 hx1 _ => ?_
  replace X1 : Box w2 x1 (encS p) := X1
  refine wr_alloc (z := .agg #[.int .i64 0, .bool false]) (by kernel_rfl) fun x3 w4 X3 h4 hx3 _ => ?_
  replace X1 := X1.up h4
  have b4 := h2.trans h4
  have hw3 : w.heap.size ≤ x3.block := by have := h2.size; omega
  -- what is returned
  have out : ∀ (k : Int) (x b : Bool), (b = true ↔ ∃ l, need lev p = some l) → (∀ l, need lev p = some l → (k, x, ()) = (((l.k : Nat) : Int), l.x, ())) →
      wu Try.prog (Instr.storeAt 82 (.pointer (some x3)) (.agg #[.int .i64 k, .bool x])) w4 fun w7 => rd Try.prog (loadVar 82 x3) (.agg [.int .i64, .bool]) w7 fun (y : Int × Bool × Unit) =>
        ∃ v : (Int × Bool × Unit) × Bool × Unit, Value.tuple #[.agg #[.int .i64 y.1, .bool y.2.1], .bool b] = (RS.many [.agg [.int .i64, .bool], .one .bool]).val v ∧ (v.2.1 = true ↔ ∃ l, need lev p = some l) ∧ (∀ l, need lev p = some l → v.1 = (((l.k : Nat) : Int), l.x, ())) ∧ bel w w7 := by
    intro k x b h1 h2
    refine wu_box X3 (by kernel_rfl) (Nat.le_refl 2) rfl fun w7 X hg _ => ?_
    refine rd_boxV (show Box w7 x3 [.int .i64 k, .bool x] from X) (by kernel_rfl) rfl ?_
    exact ⟨((k, x, ()), b, ()), rfl, h1, h2, b4.grownAt hg hw3⟩
  refine join_in ?_
  refine rd_box0 (by kernel_rfl) X1 rfl rfl ?_
  refine br_eq (fun e1 => ?_) (fun e1 => ?_)
  · have k1 : p.kind = 1 := by omega
    refine rd_box (by kernel_rfl) X1 (i := 1) rfl rfl ?_
    refine out _ _ _ ?_ ?_
    · unfold need
      rw [if_pos k1]
      by_cases h3 : lev = 3
      · rw [if_pos h3]; simp [h3]
      · rw [if_neg h3]; simp; omega
    · intro l hl
      unfold need at hl
      rw [if_pos k1] at hl
      split at hl
      · cases hl; rfl
      · cases hl
  · have k1 : p.kind ≠ 1 := by omega
    have yes : (p.kind = 2 ∨ p.kind = 3) → wu Try.prog (Instr.storeAt 82 (.pointer (some x3)) (.agg #[.int .i64 ((p.key : Nat) : Int), .bool true])) w4 fun w7 => rd Try.prog (loadVar 82 x3) (.agg [.int .i64, .bool]) w7 fun (y : Int × Bool × Unit) =>
        ∃ v : (Int × Bool × Unit) × Bool × Unit, Value.tuple #[.agg #[.int .i64 y.1, .bool y.2.1], .bool (((lev : Nat) : Int) != 2)] = (RS.many [.agg [.int .i64, .bool], .one .bool]).val v ∧ (v.2.1 = true ↔ ∃ l, need lev p = some l) ∧ (∀ l, need lev p = some l → v.1 = (((l.k : Nat) : Int), l.x, ())) ∧ bel w w7 := fun h => by
      refine out _ _ _ ?_ ?_
      · unfold need
        rw [if_neg k1, if_pos h]
        by_cases h3 : lev = 2
        · rw [if_pos h3]; simp [h3]
        · rw [if_neg h3]; simp; omega
      · intro l hl
        unfold need at hl
        rw [if_neg k1, if_pos h] at hl
        split at hl
        · cases hl
        · cases hl; rfl
    have no : ¬ (p.kind = 2 ∨ p.kind = 3) → ∀ l, need lev p ≠ some l := fun h l hl => by
      unfold need at hl
      rw [if_neg k1, if_neg h] at hl
      cases hl
    refine join_in ?_
    refine br_eq (fun e2 => ?_) (fun e2 => ?_)
    · intro _
      refine br_t rfl ?_
      refine rd_box (by kernel_rfl) X1 (i := 1) rfl rfl ?_
      exact yes (.inl (by omega))
    · intro _
      refine br_eq (fun e3 => ?_) (fun e3 => ?_)
      · refine rd_box (by kernel_rfl) X1 (i := 1) rfl rfl ?_
        exact yes (.inr (by omega))
      · intro _
        have hno := no (by omega)
        exact out _ _ _ ⟨fun h => (by cases h), fun ⟨l, hl⟩ => absurd hl (hno l)⟩ fun l hl => absurd hl (hno l)

theorem setT_setT (s : St) (t : Nat) (a b : Tx) : setT (setT s t a) t b = setT s t b := by
  unfold setT
  congr 1
  funext i
  unfold Sc.upd
  split
  · rfl
  · rename_i h
    show (if i = t then a else s.tx i) = s.tx i
    rw [if_neg h]
theorem setT_at (s : St) (t : Nat) (a : Tx) : (setT s t a).tx t = a := upd_same _ _ _
theorem grantedF (A : RunAt lev n K hs start r w ρ H s) (t : Nat) (ht : t < n) (l : Lk) (hk : l.k < K) (hn : n ≤ 1000) :
    call Try.prog 42 [.pointer (some r), .int .i64 (t : Int), .agg #[.int .i64 ((l.k : Nat) : Int), .bool l.x]] (.one (.one .bool)) w
      (fun (b : Bool) w' => (b = true ↔ others n s t l = []) ∧ ∃ ρ', RA lev n K hs start r H.k w' ρ' (if others n s t l = [] then takeL s t l else wantL s t l) ∧ Kp w ρ w' ρ') := by
  refine call_of (S42_calls (some r) t l.k l.x w _ ?_)
  unfold S42
  refine wr_box fun x1 w2 X1 h2 hx1 _ => ?_
  replace X1 : Box w2 x1 [.int .i64 ((l.k : Nat) : Int), .bool l.x] := X1
  have hx0 : ρ x1.block = 0 := Classical.byContradiction fun h => by have := A.tag _ h; omega
  have A2 := A.up h2
  obtain ⟨p, hp⟩ := A.ps_get ht
  refine nn_mk rfl ?_
  refine rd_box (by kernel_rfl) A2.box.box (i := 2) rfl rfl ?_
  refine at_mk tyT (by kernel_rfl) A2.txs.own.sl (j := t) (s := .ptr) rfl (ptrs_get hp) rfl ?_
  refine rd_boxN X1 (by kernel_rfl) rfl ?_
  refine call_mono (othersF A2 t l hk hn) ?_
  rintro (x8 : Hdr) w9 ⟨O8, h9⟩
  have ol := O8.sl.nat
  have A9 := A2.up h9
  replace X1 := X1.up h9
  have K9 : Kp w ρ w9 ρ := Kp.bel (h2.trans h9)
  have PB := A9.txb t p hp
  refine br_dec (fun e => ?_) (fun e => ?_)
  · have hne : ¬ others n s t l = [] := fun h => by rw [h] at ol; simp at ol; omega
    refine nn_mk rfl ?_
    refine wu_boxi PB.box (by kernel_rfl) (by show 5 < 8; omega) rfl fun w11 X hg _ => ?_
    refine ⟨false, rfl, ⟨fun h => (by cases h), fun h => absurd h hne⟩, ρ, ?_, ?_⟩ <;>
    obtain ⟨h3, h4⟩ := A9.putTx (x' := { s.tx t with wants := some l }) (h' := { H.th t with wp := some x1 }) hp hg X rfl rfl rfl rfl rfl rfl ⟨x1, rfl, X1.grown hg (fun e => by injection e with e; have := PB.tag; rw [← e, hx0] at this; omega), hx0⟩
    · rw [if_neg hne]; exact ⟨_, by rfl, h3⟩
    · exact K9.trans h4
  · have hnil : others n s t l = [] := List.eq_nil_of_length_eq_zero (by omega)
    refine nn_mk rfl ?_
    refine wu_boxi PB.box (by kernel_rfl) (by show 5 < 8; omega) rfl fun w11 X hg _ => ?_
    obtain ⟨A11, K11⟩ := A9.putTx (x' := { s.tx t with wants := none }) (h' := { H.th t with wp := none }) hp hg X rfl rfl rfl rfl rfl rfl rfl
    have X1' := X1.grown hg (fun e => by injection e with e; have := PB.tag; rw [← e, hx0] at this; omega)
    refine rd_box (by kernel_rfl) X1' (i := 1) rfl rfl ?_
    refine br_mk (fun hx => ?_) (fun hx => ?_)
    · refine drw_mk fun w15 h15 _ => ?_
      have A15 := A11.up h15
      refine nn_mk rfl ?_
      refine rd_box (by kernel_rfl) (A15.txb t p hp).box (i := 7) rfl rfl ?_
      refine rd_box0 (by kernel_rfl) (X1'.up h15) rfl rfl ?_
      refine set_mk tyB (A15.ex t ht).own (j := l.k) rfl (by
        have := (A15.ex t ht).own.sl.bool
        rw [List.length_map, List.length_range] at this; omega) rfl fun w20 O hg20 _ => ?_
      obtain ⟨A20, K20⟩ := A15.putEx ht hk hg20 O
      refine ⟨true, rfl, ⟨fun _ => hnil, fun _ => rfl⟩, ρ, ?_, ((K9.trans K11).trans (Kp.bel h15)).trans K20⟩
      rw [if_pos hnil]
      have e : takeL s t l = setT (setT s t { s.tx t with wants := none }) t { (setT s t { s.tx t with wants := none }).tx t with ex := Sc.upd ((setT s t { s.tx t with wants := none }).tx t).ex l.k true } := by
        rw [setT_setT, setT_at]
        unfold takeL takeX
        rw [hx]; rfl
      rw [e]; exact ⟨_, by rfl, A20⟩
    · refine drw_mk fun w15 h15 _ => ?_
      have A15 := A11.up h15
      refine nn_mk rfl ?_
      refine rd_box (by kernel_rfl) (A15.txb t p hp).box (i := 6) rfl rfl ?_
      refine rd_box0 (by kernel_rfl) (X1'.up h15) rfl rfl ?_
      refine set_mk tyB (A15.sh t ht).own (j := l.k) rfl (by
        have := (A15.sh t ht).own.sl.bool
        rw [List.length_map, List.length_range] at this; omega) rfl fun w20 O hg20 _ => ?_
      obtain ⟨A20, K20⟩ := A15.putSh ht hk hg20 O
      refine ⟨true, rfl, ⟨fun _ => hnil, fun _ => rfl⟩, ρ, ?_, ((K9.trans K11).trans (Kp.bel h15)).trans K20⟩
      rw [if_pos hnil]
      have e : takeL s t l = setT (setT s t { s.tx t with wants := none }) t { (setT s t { s.tx t with wants := none }).tx t with sh := Sc.upd ((setT s t { s.tx t with wants := none }).tx t).sh l.k true } := by
        rw [setT_setT, setT_at]
        unfold takeL takeX
        rw [hx]; rfl
      rw [e]; exact ⟨_, by rfl, A20⟩

/-! ### reading -/
theorem startv (A : RunAt lev n K hs start r w ρ H s) {k : Nat} (hk : k < K) : ∃ x, start[k]? = some x ∧ start.getD k 0 = x := by
  have := A.sl
  refine ⟨_, List.getElem?_eq_getElem (by omega), ?_⟩
  rw [List.getD_eq_getElem?_getD, List.getElem?_eq_getElem (by omega)]; rfl
set_option maxHeartbeats 1600000 in
theorem readF (A : RunAt lev n K hs start r w ρ H s) (t k : Nat) (ht : t < n) (hk : k < K) (hrl : (s.ver k).length ≤ 1000000) :
    call Try.prog 44 [.pointer (some r), .int .i64 (t : Int), .int .i64 (k : Int)] (.many [.one (.int .i64), .one (.int .i64)]) w
      (fun (x : Int × Int × Unit) w' => x = ((readV lev (fun k => start.getD k 0) s t k).1, (readV lev (fun k => start.getD k 0) s t k).2, ()) ∧ bel w w') := by
  refine call_of (S44_calls (some r) t k w _ ?_)
  unfold S44
  obtain ⟨sv, hsv, hsd⟩ := startv A hk
  obtain ⟨x, hx⟩ := A.vh_get hk
  obtain ⟨p, hp⟩ := A.ps_get ht
  refine nn_mk rfl ?_
  refine rd_box (by kernel_rfl) A.box.box (i := 1) rfl rfl ?_
  refine at_int tyI (by kernel_rfl) A.st.sl (j := k) rfl (by have := A.st.sl.int; have := A.sl; omega) fun y hy => ?_
  obtain rfl : sv = y := by rw [hsv] at hy; injection hy
  refine wr_alloc (z := .agg #[.int .i64 0, .int .i64 0, .int .i64 0]) (by kernel_rfl) fun x5 w6 X5 h6 hx5 _ => ?_
  have hw5 : w.heap.size ≤ x5.block := by omega
  refine wu_box X5 (by kernel_rfl) (Nat.le_refl 3) rfl fun w7 X5 hg7 _ => ?_
  replace X5 : Box w7 x5 [.int .i64 sv, .int .i64 (-1), .int .i64 0] := X5
  have b7 : bel w w7 := h6.grownAt hg7 hw5
  have A7 := A.up b7
  have x5l := X5.lt
  refine nn_mk rfl ?_
  refine rd_box (by kernel_rfl) A7.box.box (i := 3) rfl rfl ?_
  refine at_hdr tyV (by kernel_rfl) A7.vers.own.sl (j := k) rfl (by have := A7.vers.own.1; rw [List.length_map, A.vl] at this; omega) fun y hy => ?_
  obtain rfl : x = y := by rw [hx] at hy; injection hy
  have R7 := (A7.row k x hx).own
  have rl := R7.1
  rw [flat_len encW_len] at rl
  -- the best so far
  let J : Nat → World → Prop := fun i w' => bel w w' ∧ ∃ c : Int, Box w' x5 [.int .i64 (((s.ver k).take i).foldl (pickR lev t (s.tx t).snap) (sv, -1)).1, .int .i64 (((s.ver k).take i).foldl (pickR lev t (s.tx t).snap) (sv, -1)).2, .int .i64 c]
  refine loop_up x.2.1 (fun i w' => J i w' ∧ w7.heap.size ≤ w'.heap.size) ⟨⟨b7, 0, X5⟩, Nat.le_refl _⟩ ?_
  clear X5
  rintro i w14 hi ⟨⟨hb, cc, X5⟩, hs14⟩ again hag _
  generalize hbest : ((s.ver k).take i).foldl (pickR lev t (s.tx t).snap) (sv, -1) = b at X5
  have A14 := A.up hb
  refine br_dec (fun e => ?_) (fun e => ?_)
  case refine_2 =>
    dsimp only at e
    refine drw_mk fun w48 h48 _ => ?_
    refine rd_box0 (by kernel_rfl) (X5.up h48) rfl rfl ?_
    refine rd_box (by kernel_rfl) (X5.up h48) (i := 1) rfl rfl ?_
    have hiL : i = (s.ver k).length := by omega
    subst hiL
    rw [List.take_length] at hbest
    have e0 : readV lev (fun k => start.getD k 0) s t k = b := by
      unfold readV
      show List.foldl _ (start.getD k 0, -1) _ = b
      rw [hsd, hbest]
    exact ⟨(b.1, b.2, ()), rfl, by rw [e0]; rfl, hb.trans h48⟩
  dsimp only at e
  obtain ⟨y, hy⟩ : ∃ y, (s.ver k)[i]? = some y := ⟨_, List.getElem?_eq_getElem (by omega)⟩
  have hstep : ((s.ver k).take (i + 1)).foldl (pickR lev t (s.tx t).snap) (sv, -1) = pickR lev t (s.tx t).snap b y := by
    rw [List.take_add_one, hy, ← hbest]
    show ((s.ver k).take i ++ [y]).foldl _ _ = _
    rw [List.foldl_append]; rfl
  refine join_mk (fun _ w' => J (i + 1) w' ∧ w7.heap.size ≤ w'.heap.size) (fun K15 hK => ?_) (fun _ w2 q => ?_)
  case refine_2 =>
    intro _
    refine z_i64 (by dsimp only; omega) ?_
    exact hag w2 (by omega) q
  refine at_agg tyW (by kernel_rfl) encW_len (by omega) (A14.row k x hx).own.sl (j := i) rfl hy rfl ?_
  refine wr_alloc (z := .agg #[.int .i64 0, .int .i64 0, .int .i64 0]) (by kernel_rfl) fun x21 w22 X21 h22 hx21 _ => ?_
  refine wu_box X21 (by kernel_rfl) (Nat.le_refl 3) rfl fun w23 X21 hg23 _ => ?_
  replace X21 : Box w23 x21 (encW y) := X21
  have n21 : x5.block < x21.block := by omega
  have s14 := hb.size
  have hb23 : bel w w23 := (hb.trans h22).grownAt hg23 (by omega)
  have X5' : Box w23 x5 _ := (X5.up h22).grown hg23 (by intro e; injection e; omega)
  have hs23 : w7.heap.size ≤ w23.heap.size := by have := h22.size; have := hg23.size; omega
  -- taken, or not
  have yes : ∀ (w1 : World) (K15 : Unit → World → Prop), (∀ x w', (J (i + 1) w' ∧ w7.heap.size ≤ w'.heap.size) → K15 x w') → pickR lev t (s.tx t).snap b y = (y.v, ((y.t : Nat) : Int)) → bel w23 w1 →
      rd Try.prog (Instr.loadAt 89 (.pointer (some x21))) (.agg [.int .i64, .int .i64, .int .i64]) w1 fun (z : Int × Int × Int × Unit) =>
        wu Try.prog (Instr.storeAt 89 (.pointer (some x5)) (.agg #[.int .i64 z.1, .int .i64 z.2.1, .int .i64 z.2.2.1])) w1 fun w2 => K15 () w2 := by
    intro w1 K15 hK hpk h1
    refine rd_boxN (X21.up h1) (by kernel_rfl) rfl ?_
    refine wu_box (X5'.up h1) (by kernel_rfl) (Nat.le_refl 3) rfl fun w2 X hg _ => ?_
    refine hK _ _ ⟨⟨(hb23.trans h1).grownAt hg hw5, ((y.c : Nat) : Int), ?_⟩, by have := h1.size; have := hg.size; omega⟩
    rw [hstep, hpk]; exact X
  have no : ∀ (w1 : World) (K15 : Unit → World → Prop), (∀ x w', (J (i + 1) w' ∧ w7.heap.size ≤ w'.heap.size) → K15 x w') → pickR lev t (s.tx t).snap b y = b → bel w23 w1 → K15 () w1 := by
    intro w1 K15 hK hpk h1
    refine hK _ _ ⟨⟨hb23.trans h1, cc, ?_⟩, by have := h1.size; omega⟩
    rw [hstep, hpk]; exact X5'.up h1
  refine join_mk (fun (z : Bool × Unit) w' => (z.1 = true ↔ (y.t = t ∨ lev = 3)) ∧ w' = w23) (fun K24 hK24 => ?_) (fun z w2 q => ?_)
  · refine rd_box (by kernel_rfl) X21 (i := 1) rfl rfl ?_
    refine br_eq (fun e1 => hK24 _ _ ⟨⟨fun _ => .inl (by omega), fun _ => rfl⟩, rfl⟩) (fun e1 => ?_)
    refine nn_mk rfl ?_
    refine rd_box0 (by kernel_rfl) (A.up hb23).box.box rfl rfl ?_
    refine hK24 _ _ ⟨⟨fun h => .inr ?_, fun h => ?_⟩, rfl⟩
    · have : ((lev : Nat) : Int) = 3 := by simpa using h
      omega
    · rcases h with h | h
      · omega
      · simp [h]
  · obtain ⟨zb, _⟩ := z
    obtain ⟨hz, rfl⟩ := q
    dsimp only at hz
    intro _
    refine br_mk (fun e1 => ?_) (fun e1 => ?_)
    · exact yes w2 K15 hK (by unfold pickR; rw [if_pos (hz.1 e1)]) (bel.refl _)
    · have hnz : ¬ (y.t = t ∨ lev = 3) := fun h => by rw [hz.2 h] at e1; cases e1
      refine rd_box (by kernel_rfl) X5' (i := 1) rfl rfl ?_
      refine br_eq (fun e2 => no w2 K15 hK (by unfold pickR; rw [if_neg hnz, if_pos e2]) (bel.refl _)) (fun e2 => ?_)
      refine drw_mk fun w30 h30 _ => ?_
      have A30 := A.up (hb23.trans h30)
      refine rd_box (by kernel_rfl) (X21.up h30) (i := 2) rfl rfl ?_
      refine br_dec (fun e3 => ?_) (fun e3 => no w30 K15 hK (by unfold pickR; rw [if_neg hnz, if_neg e2, if_neg (fun h => e3 (by omega))]) h30)
      refine nn_mk rfl ?_
      refine rd_box0 (by kernel_rfl) A30.box.box rfl rfl ?_
      refine br_eq (fun e4 => yes w30 K15 hK (by unfold pickR; rw [if_neg hnz, if_neg e2, if_pos ⟨by omega, .inl (by omega)⟩]) h30) (fun e4 => ?_)
      refine rd_box (by kernel_rfl) (X21.up h30) (i := 2) rfl rfl ?_
      refine nn_mk rfl ?_
      refine rd_box (by kernel_rfl) A30.box.box (i := 2) rfl rfl ?_
      refine at_mk tyT (by kernel_rfl) A30.txs.own.sl (j := t) (s := .ptr) rfl (ptrs_get hp) rfl ?_
      refine nn_mk rfl ?_
      refine rd_box (by kernel_rfl) (A30.txb t p hp).box (i := 4) rfl rfl ?_
      refine br_dec (fun e5 => yes w30 K15 hK (by unfold pickR; rw [if_neg hnz, if_neg e2, if_pos ⟨by omega, .inr (by omega)⟩]) h30) (fun e5 => no w30 K15 hK (by unfold pickR; rw [if_neg hnz, if_neg e2, if_neg (fun h => by rcases h.2 with q | q; exact e4 (by omega); exact e5 (by omega))]) h30)
end
end Go.Proofs.Ytcglflifaniolaa

/- The conditions of functions, printed by our tool; each is checked against the code by the kernel. -/



namespace Go.Proofs
open Go Go.V Go.RowKit
def S48 (w_0 : Int) (w_1 : Int) (w_2 : Int) (cap0 : Addr) (w0 : World) (R : Value → World → Prop) : Prop :=
 wr Try.prog (Instr.box 89 (.agg #[(.int .i64 w_0), (.int .i64 w_1), (.int .i64 w_2)])) (.one .addr) w0 fun (x1 : Addr) w2 =>
 rd Try.prog (Instr.loadAt 3 (.pointer (some (Addr.add x1 1)))) (.one (.int .i64)) w2 fun (x3 : Int) =>
 rd Try.prog (Instr.loadAt 3 (.pointer (some cap0))) (.one (.int .i64)) w2 fun (x4 : Int) =>
 R (.bool (x3 == x4)) w2
def H48 : Hints := ⟨[], [], [], []⟩
set_option maxRecDepth 100000 in
theorem S48_eq (w_0 : Int) (w_1 : Int) (w_2 : Int) (cap0 : Addr) (w0 : World) (R : Value → World → Prop) : vcFn Try.prog H48 Try.f48 [(.agg #[(.int .i64 w_0), (.int .i64 w_1), (.int .i64 w_2)]), (.pointer (some cap0))] w0 R = S48 w_0 w_1 w_2 cap0 w0 R := by kernel_rfl
set_option maxRecDepth 100000 in
theorem S48_calls (w_0 : Int) (w_1 : Int) (w_2 : Int) (cap0 : Addr) (w0 : World) (R : Value → World → Prop) (h : S48 w_0 w_1 w_2 cap0 w0 R) : Calls Try.prog 48 #[(.agg #[(.int .i64 w_0), (.int .i64 w_1), (.int .i64 w_2)]), (.pointer (some cap0))] w0 (ret R) := by
  rw [← S48_eq] at h; exact vcFn_sound follows_ Try.func48 h

def S56a (s_a : Option Addr) (s_n : Nat) (s_c : Nat) (cap1_0 : Addr) (w0 : World) (R : Value → World → Prop) : Prop :=
 loop (T := (Int × Unit)) (0, ()) w0 fun (again1 : (Int × Unit) → World → Prop) (s2 : (Int × Unit)) w3 => ∀ _ : Nat → Value,
 br (decide (s2.1 < ((s_n : Nat) : Int))) (rdp Try.prog (Instr.indexAt 87 (.slice s_a s_n s_c) (.int .i64 s2.1)) (.one .addr) fun (x4 : Addr) =>
 rd Try.prog (Instr.loadAt 89 (.pointer (some x4))) (.agg [(.int .i64), (.int .i64), (.int .i64)]) w3 fun (x5 : (Int × Int × Int × Unit)) =>
 call Try.prog 48 [(.agg #[(.int .i64 x5.1), (.int .i64 x5.2.1), (.int .i64 x5.2.2.1)]), (.pointer (some cap1_0))] (.one (.one .bool)) w3 fun (x6 : Bool) w7 =>
 br x6 (R (.int .i64 s2.1) w7)
 (z (IntKind.wrap .i64 (s2.1 + 1)) fun (z8 : Int) =>
 again1 (z8, ()) w7))
 (R (.int .i64 (-1)) w3)
def H56a : Hints := ⟨[(2, 0, [(8, (.one (.int .i64)))])], [], [], []⟩
set_option maxRecDepth 100000 in
theorem S56a_eq (s_a : Option Addr) (s_n : Nat) (s_c : Nat) (cap1_0 : Addr) (w0 : World) (R : Value → World → Prop) : vcFn Try.prog H56a Try.f56 [(.slice s_a s_n s_c), (.func (.func 48) #[] #[(.pointer (some cap1_0))])] w0 R = S56a s_a s_n s_c cap1_0 w0 R := by kernel_rfl
set_option maxRecDepth 100000 in
theorem S56a_calls (s_a : Option Addr) (s_n : Nat) (s_c : Nat) (cap1_0 : Addr) (w0 : World) (R : Value → World → Prop) (h : S56a s_a s_n s_c cap1_0 w0 R) : Calls Try.prog 56 #[(.slice s_a s_n s_c), (.func (.func 48) #[] #[(.pointer (some cap1_0))])] w0 (ret R) := by
  rw [← S56a_eq] at h; exact vcFn_sound follows_ Try.func56 h

def S47a (s_a : Option Addr) (s_n : Nat) (s_c : Nat) (cap1_0 : Addr) (w0 : World) (R : Value → World → Prop) : Prop :=
 call Try.prog 56 [(.slice s_a s_n s_c), (.func (.func 48) #[] #[(.pointer (some cap1_0))])] (.one (.one (.int .i64))) w0 fun (x1 : Int) w2 =>
 br (x1 == (-1)) (R (.slice s_a s_n s_c) w2)
 (z (IntKind.wrap .i64 (x1 + 1)) fun (z3 : Int) =>
 loop (T := (Int × Int × Unit)) (x1, z3, ()) w2 fun (again4 : (Int × Int × Unit) → World → Prop) (s5 : (Int × Int × Unit)) w6 => ∀ _ : Nat → Value,
 br (decide (s5.2.1 < ((s_n : Nat) : Int))) (join (T := (Int × Unit)) (fun (s8 : (Int × Unit)) w9 => ∀ _ : Nat → Value,
 z (IntKind.wrap .i64 (s5.2.1 + 1)) fun (z10 : Int) =>
 again4 (s8.1, z10, ()) w9)
  fun (K7 : (Int × Unit) → World → Prop) =>
 rdp Try.prog (Instr.indexAt 87 (.slice s_a s_n s_c) (.int .i64 s5.2.1)) (.one .addr) fun (x11 : Addr) =>
 rd Try.prog (Instr.loadAt 89 (.pointer (some x11))) (.agg [(.int .i64), (.int .i64), (.int .i64)]) w6 fun (x12 : (Int × Int × Int × Unit)) =>
 wr Try.prog (Instr.alloc 89 true (.tuple #[])) (.one .addr) w6 fun (x13 : Addr) w14 =>
 wu Try.prog (Instr.storeAt 89 (.pointer (some x13)) (.agg #[(.int .i64 x12.1), (.int .i64 x12.2.1), (.int .i64 x12.2.2.1)])) w14 fun w15 =>
 rd Try.prog (Instr.loadAt 89 (.pointer (some x13))) (.agg [(.int .i64), (.int .i64), (.int .i64)]) w15 fun (x16 : (Int × Int × Int × Unit)) =>
 call Try.prog 48 [(.agg #[(.int .i64 x16.1), (.int .i64 x16.2.1), (.int .i64 x16.2.2.1)]), (.pointer (some cap1_0))] (.one (.one .bool)) w15 fun (x17 : Bool) w18 =>
 br (!x17) (rd Try.prog (Instr.loadAt 89 (.pointer (some x13))) (.agg [(.int .i64), (.int .i64), (.int .i64)]) w18 fun (x19 : (Int × Int × Int × Unit)) =>
 rdp Try.prog (Instr.indexAt 87 (.slice s_a s_n s_c) (.int .i64 s5.1)) (.one .addr) fun (x20 : Addr) =>
 wu Try.prog (Instr.storeAt 89 (.pointer (some x20)) (.agg #[(.int .i64 x19.1), (.int .i64 x19.2.1), (.int .i64 x19.2.2.1)])) w18 fun w21 =>
 z (IntKind.wrap .i64 (s5.1 + 1)) fun (z22 : Int) =>
 K7 (z22, ()) w21)
 (K7 (s5.1, ()) w18))
 (rdp Try.prog (Instr.sliceAt 87 (.slice s_a s_n s_c) (some (.int .i64 s5.1)) none none) (.one .slice) fun (x23 : Hd3) =>
 wr Try.prog (Builtin.clear_ #[87] 0 #[(.slice x23.1 x23.2.1 x23.2.2)]) (.one .any) w6 fun (_x24 : Value) w25 =>
 rdp Try.prog (Instr.sliceAt 87 (.slice s_a s_n s_c) none (some (.int .i64 s5.1)) none) (.one .slice) fun (x26 : Hd3) =>
 R (.slice x26.1 x26.2.1 x26.2.2) w25))
def H47a : Hints := ⟨[(2, 0, [(5, (.one (.int .i64))), (6, (.one (.int .i64)))]), (1, 1, [(5, (.one (.int .i64)))])], [], [], []⟩
set_option maxRecDepth 100000 in
theorem S47a_eq (s_a : Option Addr) (s_n : Nat) (s_c : Nat) (cap1_0 : Addr) (w0 : World) (R : Value → World → Prop) : vcFn Try.prog H47a Try.f47 [(.slice s_a s_n s_c), (.func (.func 48) #[] #[(.pointer (some cap1_0))])] w0 R = S47a s_a s_n s_c cap1_0 w0 R := by kernel_rfl
set_option maxRecDepth 100000 in
theorem S47a_calls (s_a : Option Addr) (s_n : Nat) (s_c : Nat) (cap1_0 : Addr) (w0 : World) (R : Value → World → Prop) (h : S47a s_a s_n s_c cap1_0 w0 R) : Calls Try.prog 47 #[(.slice s_a s_n s_c), (.func (.func 48) #[] #[(.pointer (some cap1_0))])] w0 (ret R) := by
  rw [← S47a_eq] at h; exact vcFn_sound follows_ Try.func47 h

def S28 (r_ : (Option Addr)) (t_ : Int) (w0 : World) (R : Value → World → Prop) : Prop :=
 wr Try.prog (Instr.box 3 (.int .i64 t_)) (.one .addr) w0 fun (x1 : Addr) w2 =>
 nn r_ fun (a3 : Addr) =>
 rd Try.prog (Instr.loadAt 60 (.pointer (some (Addr.add a3 3)))) (.one .slice) w2 fun (x4 : Hd3) =>
 loop (T := (Int × Unit)) (0, ()) w2 fun (again5 : (Int × Unit) → World → Prop) (s6 : (Int × Unit)) w7 => ∀ _ : Nat → Value,
 br (decide (s6.1 < ((x4.2.1 : Nat) : Int))) (rdp Try.prog (Instr.indexAt 60 (.slice x4.1 x4.2.1 x4.2.2) (.int .i64 s6.1)) (.one .addr) fun (x8 : Addr) =>
 rd Try.prog (Instr.loadAt 87 (.pointer (some x8))) (.one .slice) w7 fun (x9 : Hd3) =>
 drw w7 fun w10 => flExC w10 fun E13 G12 Y11 F14 =>
 nn r_ fun (a15 : Addr) =>
 rdE Try.prog (ER Y11 [9] E13) (Instr.loadAt 60 (.pointer (some (Addr.add a15 3)))) (.one .slice) w10 fun (x16 : Hd3) =>
 flcC Y11 7 E13 w10 (fun _w18 => True) (fun (D19 : Nat → Bool) w17 =>
   call Try.prog 47 [(.slice x9.1 x9.2.1 x9.2.2), (.func (.func 48) #[] #[(.pointer (some x1))])] (.one (.one .slice)) w17 fun (x20 : Hd3) w21 =>
 (E13 w17 w21 ∧ G12 7 w17 w21 ∧ Y11 (setD D19 7) w21 ∧ F14 7 [(.slice x9.1 x9.2.1 x9.2.2), (.func (.func 48) #[] #[(.pointer (some x1))])] (.slice x20.1 x20.2.1 x20.2.2) w21))
  fun (x22 : Hd3) =>
 flendC Y11 [7] E13 w10 (fun w24 => F14 7 [(.slice x9.1 x9.2.1 x9.2.2), (.func (.func 48) #[] #[(.pointer (some x1))])] (.slice x22.1 x22.2.1 x22.2.2) w24 ∧ True) fun w23 =>
 rdp Try.prog (Instr.indexAt 60 (.slice x16.1 x16.2.1 x16.2.2) (.int .i64 s6.1)) (.one .addr) fun (x25 : Addr) =>
 wu Try.prog (Instr.storeAt 87 (.pointer (some x25)) (.slice x22.1 x22.2.1 x22.2.2)) w23 fun w26 =>
 z (IntKind.wrap .i64 (s6.1 + 1)) fun (z27 : Int) =>
 again5 (z27, ()) w26)
 (drw w7 fun w28 =>
 nn r_ fun (a29 : Addr) =>
 rd Try.prog (Instr.loadAt 61 (.pointer (some (Addr.add a29 2)))) (.one .slice) w28 fun (x30 : Hd3) =>
 rd Try.prog (Instr.loadAt 3 (.pointer (some x1))) (.one (.int .i64)) w28 fun (x31 : Int) =>
 rdp Try.prog (Instr.indexAt 61 (.slice x30.1 x30.2.1 x30.2.2) (.int .i64 x31)) (.one .addr) fun (x32 : Addr) =>
 rd Try.prog (Instr.loadAt 64 (.pointer (some x32))) (.one .ptr) w28 fun (x33 : (Option Addr)) =>
 nn x33 fun (a34 : Addr) =>
 wu Try.prog (Instr.storeAt 4 (.pointer (some (Addr.add a34 3))) (.bool true)) w28 fun w35 =>
 rd Try.prog (Instr.loadAt 3 (.pointer (some x1))) (.one (.int .i64)) w35 fun (x36 : Int) =>
 call Try.prog 40 [(.pointer r_), (.int .i64 4), (.int .i64 x36), (.int .i64 0), (.int .i64 0), (.int .i64 0)] (.many []) w35 fun (_x37 : (Unit)) w38 =>
 R (.tuple #[]) w38)
def H28 : Hints := ⟨[(2, 0, [(11, (.one (.int .i64)))])], [(4, 8), (6, 5)], [], [1000004]⟩
set_option maxRecDepth 100000 in
theorem S28_eq (r_ : (Option Addr)) (t_ : Int) (w0 : World) (R : Value → World → Prop) : vcFn Try.prog H28 Try.f28 [(.pointer r_), (.int .i64 t_)] w0 R = S28 r_ t_ w0 R := by kernel_rfl
set_option maxRecDepth 100000 in
theorem S28_calls (r_ : (Option Addr)) (t_ : Int) (w0 : World) (R : Value → World → Prop) (h : S28 r_ t_ w0 R) : Calls Try.prog 28 #[(.pointer r_), (.int .i64 t_)] w0 (ret R) := by
  rw [← S28_eq] at h; exact vcFn_sound follows_ Try.func28 h

def S54 (w_0 : Int) (w_1 : Int) (w_2 : Int) (cap0 : Addr) (w0 : World) (R : Value → World → Prop) : Prop :=
 wr Try.prog (Instr.box 89 (.agg #[(.int .i64 w_0), (.int .i64 w_1), (.int .i64 w_2)])) (.one .addr) w0 fun (x1 : Addr) w2 =>
 rd Try.prog (Instr.loadAt 3 (.pointer (some (Addr.add x1 1)))) (.one (.int .i64)) w2 fun (x3 : Int) =>
 rd Try.prog (Instr.loadAt 3 (.pointer (some cap0))) (.one (.int .i64)) w2 fun (x4 : Int) =>
 R (.bool (x3 == x4)) w2
def H54 : Hints := ⟨[], [], [], []⟩
set_option maxRecDepth 100000 in
theorem S54_eq (w_0 : Int) (w_1 : Int) (w_2 : Int) (cap0 : Addr) (w0 : World) (R : Value → World → Prop) : vcFn Try.prog H54 Try.f54 [(.agg #[(.int .i64 w_0), (.int .i64 w_1), (.int .i64 w_2)]), (.pointer (some cap0))] w0 R = S54 w_0 w_1 w_2 cap0 w0 R := by kernel_rfl
set_option maxRecDepth 100000 in
theorem S54_calls (w_0 : Int) (w_1 : Int) (w_2 : Int) (cap0 : Addr) (w0 : World) (R : Value → World → Prop) (h : S54 w_0 w_1 w_2 cap0 w0 R) : Calls Try.prog 54 #[(.agg #[(.int .i64 w_0), (.int .i64 w_1), (.int .i64 w_2)]), (.pointer (some cap0))] w0 (ret R) := by
  rw [← S54_eq] at h; exact vcFn_sound follows_ Try.func54 h

def S56c (s_a : Option Addr) (s_n : Nat) (s_c : Nat) (cap1_0 : Addr) (w0 : World) (R : Value → World → Prop) : Prop :=
 loop (T := (Int × Unit)) (0, ()) w0 fun (again1 : (Int × Unit) → World → Prop) (s2 : (Int × Unit)) w3 => ∀ _ : Nat → Value,
 br (decide (s2.1 < ((s_n : Nat) : Int))) (rdp Try.prog (Instr.indexAt 87 (.slice s_a s_n s_c) (.int .i64 s2.1)) (.one .addr) fun (x4 : Addr) =>
 rd Try.prog (Instr.loadAt 89 (.pointer (some x4))) (.agg [(.int .i64), (.int .i64), (.int .i64)]) w3 fun (x5 : (Int × Int × Int × Unit)) =>
 call Try.prog 54 [(.agg #[(.int .i64 x5.1), (.int .i64 x5.2.1), (.int .i64 x5.2.2.1)]), (.pointer (some cap1_0))] (.one (.one .bool)) w3 fun (x6 : Bool) w7 =>
 br x6 (R (.int .i64 s2.1) w7)
 (z (IntKind.wrap .i64 (s2.1 + 1)) fun (z8 : Int) =>
 again1 (z8, ()) w7))
 (R (.int .i64 (-1)) w3)
def H56c : Hints := ⟨[(2, 0, [(8, (.one (.int .i64)))])], [], [], []⟩
set_option maxRecDepth 100000 in
theorem S56c_eq (s_a : Option Addr) (s_n : Nat) (s_c : Nat) (cap1_0 : Addr) (w0 : World) (R : Value → World → Prop) : vcFn Try.prog H56c Try.f56 [(.slice s_a s_n s_c), (.func (.func 54) #[] #[(.pointer (some cap1_0))])] w0 R = S56c s_a s_n s_c cap1_0 w0 R := by kernel_rfl
set_option maxRecDepth 100000 in
theorem S56c_calls (s_a : Option Addr) (s_n : Nat) (s_c : Nat) (cap1_0 : Addr) (w0 : World) (R : Value → World → Prop) (h : S56c s_a s_n s_c cap1_0 w0 R) : Calls Try.prog 56 #[(.slice s_a s_n s_c), (.func (.func 54) #[] #[(.pointer (some cap1_0))])] w0 (ret R) := by
  rw [← S56c_eq] at h; exact vcFn_sound follows_ Try.func56 h

def S47c (s_a : Option Addr) (s_n : Nat) (s_c : Nat) (cap1_0 : Addr) (w0 : World) (R : Value → World → Prop) : Prop :=
 call Try.prog 56 [(.slice s_a s_n s_c), (.func (.func 54) #[] #[(.pointer (some cap1_0))])] (.one (.one (.int .i64))) w0 fun (x1 : Int) w2 =>
 br (x1 == (-1)) (R (.slice s_a s_n s_c) w2)
 (z (IntKind.wrap .i64 (x1 + 1)) fun (z3 : Int) =>
 loop (T := (Int × Int × Unit)) (x1, z3, ()) w2 fun (again4 : (Int × Int × Unit) → World → Prop) (s5 : (Int × Int × Unit)) w6 => ∀ _ : Nat → Value,
 br (decide (s5.2.1 < ((s_n : Nat) : Int))) (join (T := (Int × Unit)) (fun (s8 : (Int × Unit)) w9 => ∀ _ : Nat → Value,
 z (IntKind.wrap .i64 (s5.2.1 + 1)) fun (z10 : Int) =>
 again4 (s8.1, z10, ()) w9)
  fun (K7 : (Int × Unit) → World → Prop) =>
 rdp Try.prog (Instr.indexAt 87 (.slice s_a s_n s_c) (.int .i64 s5.2.1)) (.one .addr) fun (x11 : Addr) =>
 rd Try.prog (Instr.loadAt 89 (.pointer (some x11))) (.agg [(.int .i64), (.int .i64), (.int .i64)]) w6 fun (x12 : (Int × Int × Int × Unit)) =>
 wr Try.prog (Instr.alloc 89 true (.tuple #[])) (.one .addr) w6 fun (x13 : Addr) w14 =>
 wu Try.prog (Instr.storeAt 89 (.pointer (some x13)) (.agg #[(.int .i64 x12.1), (.int .i64 x12.2.1), (.int .i64 x12.2.2.1)])) w14 fun w15 =>
 rd Try.prog (Instr.loadAt 89 (.pointer (some x13))) (.agg [(.int .i64), (.int .i64), (.int .i64)]) w15 fun (x16 : (Int × Int × Int × Unit)) =>
 call Try.prog 54 [(.agg #[(.int .i64 x16.1), (.int .i64 x16.2.1), (.int .i64 x16.2.2.1)]), (.pointer (some cap1_0))] (.one (.one .bool)) w15 fun (x17 : Bool) w18 =>
 br (!x17) (rd Try.prog (Instr.loadAt 89 (.pointer (some x13))) (.agg [(.int .i64), (.int .i64), (.int .i64)]) w18 fun (x19 : (Int × Int × Int × Unit)) =>
 rdp Try.prog (Instr.indexAt 87 (.slice s_a s_n s_c) (.int .i64 s5.1)) (.one .addr) fun (x20 : Addr) =>
 wu Try.prog (Instr.storeAt 89 (.pointer (some x20)) (.agg #[(.int .i64 x19.1), (.int .i64 x19.2.1), (.int .i64 x19.2.2.1)])) w18 fun w21 =>
 z (IntKind.wrap .i64 (s5.1 + 1)) fun (z22 : Int) =>
 K7 (z22, ()) w21)
 (K7 (s5.1, ()) w18))
 (rdp Try.prog (Instr.sliceAt 87 (.slice s_a s_n s_c) (some (.int .i64 s5.1)) none none) (.one .slice) fun (x23 : Hd3) =>
 wr Try.prog (Builtin.clear_ #[87] 0 #[(.slice x23.1 x23.2.1 x23.2.2)]) (.one .any) w6 fun (_x24 : Value) w25 =>
 rdp Try.prog (Instr.sliceAt 87 (.slice s_a s_n s_c) none (some (.int .i64 s5.1)) none) (.one .slice) fun (x26 : Hd3) =>
 R (.slice x26.1 x26.2.1 x26.2.2) w25))
def H47c : Hints := ⟨[(2, 0, [(5, (.one (.int .i64))), (6, (.one (.int .i64)))]), (1, 1, [(5, (.one (.int .i64)))])], [], [], []⟩
set_option maxRecDepth 100000 in
theorem S47c_eq (s_a : Option Addr) (s_n : Nat) (s_c : Nat) (cap1_0 : Addr) (w0 : World) (R : Value → World → Prop) : vcFn Try.prog H47c Try.f47 [(.slice s_a s_n s_c), (.func (.func 54) #[] #[(.pointer (some cap1_0))])] w0 R = S47c s_a s_n s_c cap1_0 w0 R := by kernel_rfl
set_option maxRecDepth 100000 in
theorem S47c_calls (s_a : Option Addr) (s_n : Nat) (s_c : Nat) (cap1_0 : Addr) (w0 : World) (R : Value → World → Prop) (h : S47c s_a s_n s_c cap1_0 w0 R) : Calls Try.prog 47 #[(.slice s_a s_n s_c), (.func (.func 54) #[] #[(.pointer (some cap1_0))])] w0 (ret R) := by
  rw [← S47c_eq] at h; exact vcFn_sound follows_ Try.func47 h

def S55 (s_a : Option Addr) (s_n : Nat) (s_c : Nat) (i_ : Int) (v_a : Option Addr) (v_n : Nat) (v_c : Nat) (w0 : World) (R : Value → World → Prop) : Prop :=
 rdp Try.prog (Instr.sliceAt 87 (.slice s_a s_n s_c) (some (.int .i64 i_)) none none) (.one .slice) fun (_x1 : Hd3) =>
 br (((v_n : Nat) : Int) == 0) (R (.slice s_a s_n s_c) w0)
 (br (i_ == ((s_n : Nat) : Int)) (wr Try.prog (Builtin.append_ #[87, 87] 87 #[(.slice s_a s_n s_c), (.slice v_a v_n v_c)]) (.one .slice) w0 fun (x2 : Hd3) w3 =>
 R (.slice x2.1 x2.2.1 x2.2.2) w3)
 (z (IntKind.wrap .i64 (((s_n : Nat) : Int) + ((v_n : Nat) : Int))) fun (z4 : Int) =>
 br (decide (z4 > ((s_c : Nat) : Int))) (rdp Try.prog (Instr.sliceAt 87 (.slice s_a s_n s_c) none (some (.int .i64 i_)) none) (.one .slice) fun (x5 : Hd3) =>
 z (IntKind.wrap .i64 (((s_n : Nat) : Int) + ((v_n : Nat) : Int))) fun (z6 : Int) =>
 z (IntKind.wrap .i64 (z6 - i_)) fun (z7 : Int) =>
 wr Try.prog (Builtin.append_ #[87, 3] 87 #[(.slice x5.1 x5.2.1 x5.2.2), (.int .i64 z7)]) (.one .slice) w0 fun (x8 : Hd3) w9 =>
 rdp Try.prog (Instr.sliceAt 87 (.slice x8.1 x8.2.1 x8.2.2) (some (.int .i64 i_)) none none) (.one .slice) fun (x10 : Hd3) =>
 wr Try.prog (Builtin.copy_ #[87, 87] 3 #[(.slice x10.1 x10.2.1 x10.2.2), (.slice v_a v_n v_c)]) (.one (.int .i64)) w9 fun (_x11 : Int) w12 =>
 drw w12 fun w13 =>
 z (IntKind.wrap .i64 (i_ + ((v_n : Nat) : Int))) fun (z14 : Int) =>
 rdp Try.prog (Instr.sliceAt 87 (.slice x8.1 x8.2.1 x8.2.2) (some (.int .i64 z14)) none none) (.one .slice) fun (x15 : Hd3) =>
 rdp Try.prog (Instr.sliceAt 87 (.slice s_a s_n s_c) (some (.int .i64 i_)) none none) (.one .slice) fun (x16 : Hd3) =>
 wr Try.prog (Builtin.copy_ #[87, 87] 3 #[(.slice x15.1 x15.2.1 x15.2.2), (.slice x16.1 x16.2.1 x16.2.2)]) (.one (.int .i64)) w13 fun (_x17 : Int) w18 =>
 R (.slice x8.1 x8.2.1 x8.2.2) w18)
 (z (IntKind.wrap .i64 (((s_n : Nat) : Int) + ((v_n : Nat) : Int))) fun (z19 : Int) =>
 rdp Try.prog (Instr.sliceAt 87 (.slice s_a s_n s_c) none (some (.int .i64 z19)) none) (.one .slice) fun (x20 : Hd3) =>
 z (IntKind.wrap .i64 (i_ + ((v_n : Nat) : Int))) fun (z21 : Int) =>
 rdp Try.prog (Instr.sliceAt 87 (.slice x20.1 x20.2.1 x20.2.2) (some (.int .i64 z21)) none none) (.one .slice) fun (x22 : Hd3) =>
 extX Try.prog 57 [(.slice v_a v_n v_c), (.slice x22.1 x22.2.1 x22.2.2)] (.one (.one .bool)) w0 fun (x23 : Bool) w24 =>
 br (!x23) (drw w24 fun w25 =>
 z (IntKind.wrap .i64 (i_ + ((v_n : Nat) : Int))) fun (z26 : Int) =>
 rdp Try.prog (Instr.sliceAt 87 (.slice x20.1 x20.2.1 x20.2.2) (some (.int .i64 z26)) none none) (.one .slice) fun (x27 : Hd3) =>
 rdp Try.prog (Instr.sliceAt 87 (.slice x20.1 x20.2.1 x20.2.2) (some (.int .i64 i_)) none none) (.one .slice) fun (x28 : Hd3) =>
 wr Try.prog (Builtin.copy_ #[87, 87] 3 #[(.slice x27.1 x27.2.1 x27.2.2), (.slice x28.1 x28.2.1 x28.2.2)]) (.one (.int .i64)) w25 fun (_x29 : Int) w30 =>
 rdp Try.prog (Instr.sliceAt 87 (.slice x20.1 x20.2.1 x20.2.2) (some (.int .i64 i_)) none none) (.one .slice) fun (x31 : Hd3) =>
 wr Try.prog (Builtin.copy_ #[87, 87] 3 #[(.slice x31.1 x31.2.1 x31.2.2), (.slice v_a v_n v_c)]) (.one (.int .i64)) w30 fun (_x32 : Int) w33 =>
 R (.slice x20.1 x20.2.1 x20.2.2) w33)
 (rdp Try.prog (Instr.sliceAt 87 (.slice x20.1 x20.2.1 x20.2.2) (some (.int .i64 ((s_n : Nat) : Int))) none none) (.one .slice) fun (x34 : Hd3) =>
 wr Try.prog (Builtin.copy_ #[87, 87] 3 #[(.slice x34.1 x34.2.1 x34.2.2), (.slice v_a v_n v_c)]) (.one (.int .i64)) w24 fun (_x35 : Int) w36 =>
 rdp Try.prog (Instr.sliceAt 87 (.slice x20.1 x20.2.1 x20.2.2) (some (.int .i64 i_)) none none) (.one .slice) fun (x37 : Hd3) =>
 call Try.prog 58 [(.slice x37.1 x37.2.1 x37.2.2), (.int .i64 ((v_n : Nat) : Int))] (.many []) w36 fun (_x38 : (Unit)) w39 =>
 R (.slice x20.1 x20.2.1 x20.2.2) w39))))
def H55 : Hints := ⟨[], [(11, 0), (15, 0)], [], []⟩
set_option maxRecDepth 100000 in
theorem S55_eq (s_a : Option Addr) (s_n : Nat) (s_c : Nat) (i_ : Int) (v_a : Option Addr) (v_n : Nat) (v_c : Nat) (w0 : World) (R : Value → World → Prop) : vcFn Try.prog H55 Try.f55 [(.slice s_a s_n s_c), (.int .i64 i_), (.slice v_a v_n v_c)] w0 R = S55 s_a s_n s_c i_ v_a v_n v_c w0 R := by kernel_rfl
set_option maxRecDepth 100000 in
theorem S55_calls (s_a : Option Addr) (s_n : Nat) (s_c : Nat) (i_ : Int) (v_a : Option Addr) (v_n : Nat) (v_c : Nat) (w0 : World) (R : Value → World → Prop) (h : S55 s_a s_n s_c i_ v_a v_n v_c w0 R) : Calls Try.prog 55 #[(.slice s_a s_n s_c), (.int .i64 i_), (.slice v_a v_n v_c)] w0 (ret R) := by
  rw [← S55_eq] at h; exact vcFn_sound follows_ Try.func55 h

def S46 (r_ : (Option Addr)) (t_ : Int) (w0 : World) (R : Value → World → Prop) : Prop :=
 wr Try.prog (Instr.box 3 (.int .i64 t_)) (.one .addr) w0 fun (x1 : Addr) w2 =>
 rd Try.prog (Instr.loadAt 3 (.pointer (some x1))) (.one (.int .i64)) w2 fun (x3 : Int) =>
 call Try.prog 40 [(.pointer r_), (.int .i64 3), (.int .i64 x3), (.int .i64 0), (.int .i64 0), (.int .i64 0)] (.many []) w2 fun (_x4 : (Unit)) w5 =>
 drw w5 fun w6 =>
 nn r_ fun (a7 : Addr) =>
 rd Try.prog (Instr.loadAt 61 (.pointer (some (Addr.add a7 2)))) (.one .slice) w6 fun (x8 : Hd3) =>
 rd Try.prog (Instr.loadAt 3 (.pointer (some x1))) (.one (.int .i64)) w6 fun (x9 : Int) =>
 rdp Try.prog (Instr.indexAt 61 (.slice x8.1 x8.2.1 x8.2.2) (.int .i64 x9)) (.one .addr) fun (x10 : Addr) =>
 rd Try.prog (Instr.loadAt 64 (.pointer (some x10))) (.one .ptr) w6 fun (x11 : (Option Addr)) =>
 nn x11 fun (a12 : Addr) =>
 wu Try.prog (Instr.storeAt 4 (.pointer (some (Addr.add a12 3))) (.bool true)) w6 fun w13 =>
 nn r_ fun (a14 : Addr) =>
 rd Try.prog (Instr.loadAt 60 (.pointer (some (Addr.add a14 3)))) (.one .slice) w13 fun (x15 : Hd3) =>
 loop (T := (Int × Unit)) (0, ()) w13 fun (again16 : (Int × Unit) → World → Prop) (s17 : (Int × Unit)) w18 => ∀ _ : Nat → Value,
 br (decide (s17.1 < ((x15.2.1 : Nat) : Int))) (join (T := (Unit)) (fun (_s20 : (Unit)) w21 => ∀ _ : Nat → Value,
 z (IntKind.wrap .i64 (s17.1 + 1)) fun (z22 : Int) =>
 again16 (z22, ()) w21)
  fun (K19 : (Unit) → World → Prop) =>
 rdp Try.prog (Instr.indexAt 60 (.slice x15.1 x15.2.1 x15.2.2) (.int .i64 s17.1)) (.one .addr) fun (x23 : Addr) =>
 rd Try.prog (Instr.loadAt 87 (.pointer (some x23))) (.one .slice) w18 fun (x24 : Hd3) =>
 loop (T := (Hd3 × Int × Unit)) ((none, 0, 0), 0, ()) w18 fun (again25 : (Hd3 × Int × Unit) → World → Prop) (s26 : (Hd3 × Int × Unit)) w27 => ∀ _ : Nat → Value,
 br (decide (s26.2.1 < ((x24.2.1 : Nat) : Int))) (join (T := (Hd3 × Unit)) (fun (s29 : (Hd3 × Unit)) w30 => ∀ _ : Nat → Value,
 z (IntKind.wrap .i64 (s26.2.1 + 1)) fun (z31 : Int) =>
 again25 ((s29.1.1, s29.1.2.1, s29.1.2.2), z31, ()) w30)
  fun (K28 : (Hd3 × Unit) → World → Prop) =>
 rdp Try.prog (Instr.indexAt 87 (.slice x24.1 x24.2.1 x24.2.2) (.int .i64 s26.2.1)) (.one .addr) fun (x32 : Addr) =>
 rd Try.prog (Instr.loadAt 89 (.pointer (some x32))) (.agg [(.int .i64), (.int .i64), (.int .i64)]) w27 fun (x33 : (Int × Int × Int × Unit)) =>
 wr Try.prog (Instr.alloc 89 true (.tuple #[])) (.one .addr) w27 fun (x34 : Addr) w35 =>
 wu Try.prog (Instr.storeAt 89 (.pointer (some x34)) (.agg #[(.int .i64 x33.1), (.int .i64 x33.2.1), (.int .i64 x33.2.2.1)])) w35 fun w36 =>
 rd Try.prog (Instr.loadAt 3 (.pointer (some (Addr.add x34 1)))) (.one (.int .i64)) w36 fun (x37 : Int) =>
 rd Try.prog (Instr.loadAt 3 (.pointer (some x1))) (.one (.int .i64)) w36 fun (x38 : Int) =>
 br (x37 == x38) (nn r_ fun (a39 : Addr) =>
 rd Try.prog (Instr.loadAt 28 (.pointer (some (Addr.add a39 4)))) (.one .slice) w36 fun (x40 : Hd3) =>
 wu Try.prog (Instr.storeAt 3 (.pointer (some (Addr.add x34 2))) (.int .i64 ((x40.2.1 : Nat) : Int))) w36 fun w41 =>
 rd Try.prog (Instr.loadAt 89 (.pointer (some x34))) (.agg [(.int .i64), (.int .i64), (.int .i64)]) w41 fun (x42 : (Int × Int × Int × Unit)) =>
 wr Try.prog (Instr.buildSlice 87 1 #[(0, (.agg #[(.int .i64 x42.1), (.int .i64 x42.2.1), (.int .i64 x42.2.2.1)]))]) (.one .slice) w41 fun (x43 : Hd3) w44 =>
 wr Try.prog (Builtin.append_ #[87, 87] 87 #[(.slice s26.1.1 s26.1.2.1 s26.1.2.2), (.slice x43.1 x43.2.1 x43.2.2)]) (.one .slice) w44 fun (x45 : Hd3) w46 =>
 K28 ((x45.1, x45.2.1, x45.2.2), ()) w46)
 (K28 ((s26.1.1, s26.1.2.1, s26.1.2.2), ()) w36))
 (call Try.prog 47 [(.slice x24.1 x24.2.1 x24.2.2), (.func (.func 54) #[] #[(.pointer (some x1))])] (.one (.one .slice)) w27 fun (x47 : Hd3) w48 =>
 join (T := (Int × Unit)) (fun (s50 : (Int × Unit)) w51 => ∀ _ : Nat → Value,
 drw w51 fun w52 => flExC w52 fun E55 G54 Y53 F56 =>
 nn r_ fun (a57 : Addr) =>
 rdE Try.prog (ER Y53 [10] E55) (Instr.loadAt 60 (.pointer (some (Addr.add a57 3)))) (.one .slice) w52 fun (x58 : Hd3) =>
 flcC Y53 8 E55 w52 (fun _w60 => True) (fun (D61 : Nat → Bool) w59 =>
   call Try.prog 55 [(.slice x47.1 x47.2.1 x47.2.2), (.int .i64 s50.1), (.slice s26.1.1 s26.1.2.1 s26.1.2.2)] (.one (.one .slice)) w59 fun (x62 : Hd3) w63 =>
 (E55 w59 w63 ∧ G54 8 w59 w63 ∧ Y53 (setD D61 8) w63 ∧ F56 8 [(.slice x47.1 x47.2.1 x47.2.2), (.int .i64 s50.1), (.slice s26.1.1 s26.1.2.1 s26.1.2.2)] (.slice x62.1 x62.2.1 x62.2.2) w63))
  fun (x64 : Hd3) =>
 flendC Y53 [8] E55 w52 (fun w66 => F56 8 [(.slice x47.1 x47.2.1 x47.2.2), (.int .i64 s50.1), (.slice s26.1.1 s26.1.2.1 s26.1.2.2)] (.slice x64.1 x64.2.1 x64.2.2) w66 ∧ True) fun w65 =>
 rdp Try.prog (Instr.indexAt 60 (.slice x58.1 x58.2.1 x58.2.2) (.int .i64 s17.1)) (.one .addr) fun (x67 : Addr) =>
 wu Try.prog (Instr.storeAt 87 (.pointer (some x67)) (.slice x64.1 x64.2.1 x64.2.2)) w65 fun w68 =>
 K19 (()) w68)
  fun (K49 : (Int × Unit) → World → Prop) =>
 loop (T := (Int × Unit)) (((x47.2.1 : Nat) : Int), ()) w48 fun (again69 : (Int × Unit) → World → Prop) (s70 : (Int × Unit)) w71 => ∀ _ : Nat → Value,
 br (decide (s70.1 > 0)) (z (IntKind.wrap .i64 (s70.1 - 1)) fun (z72 : Int) =>
 rdp Try.prog (Instr.indexAt 87 (.slice x47.1 x47.2.1 x47.2.2) (.int .i64 z72)) (.one .addr) fun (x73 : Addr) =>
 rd Try.prog (Instr.loadAt 3 (.pointer (some (Addr.add x73 2)))) (.one (.int .i64)) w71 fun (x74 : Int) =>
 br (x74 == 0) (z (IntKind.wrap .i64 (s70.1 - 1)) fun (z75 : Int) =>
 again69 (z75, ()) w71)
 (K49 (s70.1, ()) w71))
 (K49 (s70.1, ()) w71)))
 (R (.tuple #[]) w18)
def H46 : Hints := ⟨[(2, 0, [(28, (.one (.int .i64)))]), (2, 2, [(6, (.one .slice)), (35, (.one (.int .i64)))]), (1, 3, [(6, (.one .slice))]), (2, 4, [(10, (.one (.int .i64)))]), (1, 4, [(10, (.one (.int .i64)))]), (1, 1, [])], [(2, 5), (18, 9)], [], [1000018]⟩
set_option maxRecDepth 100000 in
theorem S46_eq (r_ : (Option Addr)) (t_ : Int) (w0 : World) (R : Value → World → Prop) : vcFn Try.prog H46 Try.f46 [(.pointer r_), (.int .i64 t_)] w0 R = S46 r_ t_ w0 R := by kernel_rfl
set_option maxRecDepth 100000 in
theorem S46_calls (r_ : (Option Addr)) (t_ : Int) (w0 : World) (R : Value → World → Prop) (h : S46 r_ t_ w0 R) : Calls Try.prog 46 #[(.pointer r_), (.int .i64 t_)] w0 (ret R) := by
  rw [← S46_eq] at h; exact vcFn_sound follows_ Try.func46 h

def S52 (w_0 : Int) (w_1 : Int) (w_2 : Int) (cap0 : Addr) (w0 : World) (R : Value → World → Prop) : Prop :=
 wr Try.prog (Instr.box 89 (.agg #[(.int .i64 w_0), (.int .i64 w_1), (.int .i64 w_2)])) (.one .addr) w0 fun (x1 : Addr) w2 =>
 rd Try.prog (Instr.loadAt 3 (.pointer (some (Addr.add x1 1)))) (.one (.int .i64)) w2 fun (x3 : Int) =>
 rd Try.prog (Instr.loadAt 3 (.pointer (some cap0))) (.one (.int .i64)) w2 fun (x4 : Int) =>
 R (.bool (x3 == x4)) w2
def H52 : Hints := ⟨[], [], [], []⟩
set_option maxRecDepth 100000 in
theorem S52_eq (w_0 : Int) (w_1 : Int) (w_2 : Int) (cap0 : Addr) (w0 : World) (R : Value → World → Prop) : vcFn Try.prog H52 Try.f52 [(.agg #[(.int .i64 w_0), (.int .i64 w_1), (.int .i64 w_2)]), (.pointer (some cap0))] w0 R = S52 w_0 w_1 w_2 cap0 w0 R := by kernel_rfl
set_option maxRecDepth 100000 in
theorem S52_calls (w_0 : Int) (w_1 : Int) (w_2 : Int) (cap0 : Addr) (w0 : World) (R : Value → World → Prop) (h : S52 w_0 w_1 w_2 cap0 w0 R) : Calls Try.prog 52 #[(.agg #[(.int .i64 w_0), (.int .i64 w_1), (.int .i64 w_2)]), (.pointer (some cap0))] w0 (ret R) := by
  rw [← S52_eq] at h; exact vcFn_sound follows_ Try.func52 h

def S53 (w_0 : Int) (w_1 : Int) (w_2 : Int) (cap0 : Addr) (cap1 : Addr) (w0 : World) (R : Value → World → Prop) : Prop :=
 wr Try.prog (Instr.box 89 (.agg #[(.int .i64 w_0), (.int .i64 w_1), (.int .i64 w_2)])) (.one .addr) w0 fun (x1 : Addr) w2 =>
 drw w2 fun w3 =>
 rd Try.prog (Instr.loadAt 3 (.pointer (some (Addr.add x1 1)))) (.one (.int .i64)) w3 fun (x4 : Int) =>
 rd Try.prog (Instr.loadAt 3 (.pointer (some cap0))) (.one (.int .i64)) w3 fun (x5 : Int) =>
 br (x4 != x5) (rd Try.prog (Instr.loadAt 3 (.pointer (some (Addr.add x1 2)))) (.one (.int .i64)) w3 fun (x6 : Int) =>
 rd Try.prog (Instr.loadAt 59 (.pointer (some cap1))) (.one .ptr) w3 fun (x7 : (Option Addr)) =>
 nn x7 fun (a8 : Addr) =>
 rd Try.prog (Instr.loadAt 61 (.pointer (some (Addr.add a8 2)))) (.one .slice) w3 fun (x9 : Hd3) =>
 rd Try.prog (Instr.loadAt 3 (.pointer (some cap0))) (.one (.int .i64)) w3 fun (x10 : Int) =>
 rdp Try.prog (Instr.indexAt 61 (.slice x9.1 x9.2.1 x9.2.2) (.int .i64 x10)) (.one .addr) fun (x11 : Addr) =>
 rd Try.prog (Instr.loadAt 64 (.pointer (some x11))) (.one .ptr) w3 fun (x12 : (Option Addr)) =>
 nn x12 fun (a13 : Addr) =>
 rd Try.prog (Instr.loadAt 3 (.pointer (some (Addr.add a13 4)))) (.one (.int .i64)) w3 fun (x14 : Int) =>
 R (.bool (decide (x6 > x14))) w3)
 (R (.bool false) w3)
def H53 : Hints := ⟨[], [(1, 17)], [], []⟩
set_option maxRecDepth 100000 in
theorem S53_eq (w_0 : Int) (w_1 : Int) (w_2 : Int) (cap0 : Addr) (cap1 : Addr) (w0 : World) (R : Value → World → Prop) : vcFn Try.prog H53 Try.f53 [(.agg #[(.int .i64 w_0), (.int .i64 w_1), (.int .i64 w_2)]), (.pointer (some cap0)), (.pointer (some cap1))] w0 R = S53 w_0 w_1 w_2 cap0 cap1 w0 R := by kernel_rfl
set_option maxRecDepth 100000 in
theorem S53_calls (w_0 : Int) (w_1 : Int) (w_2 : Int) (cap0 : Addr) (cap1 : Addr) (w0 : World) (R : Value → World → Prop) (h : S53 w_0 w_1 w_2 cap0 cap1 w0 R) : Calls Try.prog 53 #[(.agg #[(.int .i64 w_0), (.int .i64 w_1), (.int .i64 w_2)]), (.pointer (some cap0)), (.pointer (some cap1))] w0 (ret R) := by
  rw [← S53_eq] at h; exact vcFn_sound follows_ Try.func53 h

def S56d (s_a : Option Addr) (s_n : Nat) (s_c : Nat) (cap1_0 : Addr) (w0 : World) (R : Value → World → Prop) : Prop :=
 loop (T := (Int × Unit)) (0, ()) w0 fun (again1 : (Int × Unit) → World → Prop) (s2 : (Int × Unit)) w3 => ∀ _ : Nat → Value,
 br (decide (s2.1 < ((s_n : Nat) : Int))) (rdp Try.prog (Instr.indexAt 87 (.slice s_a s_n s_c) (.int .i64 s2.1)) (.one .addr) fun (x4 : Addr) =>
 rd Try.prog (Instr.loadAt 89 (.pointer (some x4))) (.agg [(.int .i64), (.int .i64), (.int .i64)]) w3 fun (x5 : (Int × Int × Int × Unit)) =>
 call Try.prog 52 [(.agg #[(.int .i64 x5.1), (.int .i64 x5.2.1), (.int .i64 x5.2.2.1)]), (.pointer (some cap1_0))] (.one (.one .bool)) w3 fun (x6 : Bool) w7 =>
 br x6 (R (.int .i64 s2.1) w7)
 (z (IntKind.wrap .i64 (s2.1 + 1)) fun (z8 : Int) =>
 again1 (z8, ()) w7))
 (R (.int .i64 (-1)) w3)
def H56d : Hints := ⟨[(2, 0, [(8, (.one (.int .i64)))])], [], [], []⟩
set_option maxRecDepth 100000 in
theorem S56d_eq (s_a : Option Addr) (s_n : Nat) (s_c : Nat) (cap1_0 : Addr) (w0 : World) (R : Value → World → Prop) : vcFn Try.prog H56d Try.f56 [(.slice s_a s_n s_c), (.func (.func 52) #[] #[(.pointer (some cap1_0))])] w0 R = S56d s_a s_n s_c cap1_0 w0 R := by kernel_rfl
set_option maxRecDepth 100000 in
theorem S56d_calls (s_a : Option Addr) (s_n : Nat) (s_c : Nat) (cap1_0 : Addr) (w0 : World) (R : Value → World → Prop) (h : S56d s_a s_n s_c cap1_0 w0 R) : Calls Try.prog 56 #[(.slice s_a s_n s_c), (.func (.func 52) #[] #[(.pointer (some cap1_0))])] w0 (ret R) := by
  rw [← S56d_eq] at h; exact vcFn_sound follows_ Try.func56 h

def S56e (s_a : Option Addr) (s_n : Nat) (s_c : Nat) (cap1_0 : Addr) (cap1_1 : Addr) (w0 : World) (R : Value → World → Prop) : Prop :=
 loop (T := (Int × Unit)) (0, ()) w0 fun (again1 : (Int × Unit) → World → Prop) (s2 : (Int × Unit)) w3 => ∀ _ : Nat → Value,
 br (decide (s2.1 < ((s_n : Nat) : Int))) (rdp Try.prog (Instr.indexAt 87 (.slice s_a s_n s_c) (.int .i64 s2.1)) (.one .addr) fun (x4 : Addr) =>
 rd Try.prog (Instr.loadAt 89 (.pointer (some x4))) (.agg [(.int .i64), (.int .i64), (.int .i64)]) w3 fun (x5 : (Int × Int × Int × Unit)) =>
 call Try.prog 53 [(.agg #[(.int .i64 x5.1), (.int .i64 x5.2.1), (.int .i64 x5.2.2.1)]), (.pointer (some cap1_0)), (.pointer (some cap1_1))] (.one (.one .bool)) w3 fun (x6 : Bool) w7 =>
 br x6 (R (.int .i64 s2.1) w7)
 (z (IntKind.wrap .i64 (s2.1 + 1)) fun (z8 : Int) =>
 again1 (z8, ()) w7))
 (R (.int .i64 (-1)) w3)
def H56e : Hints := ⟨[(2, 0, [(8, (.one (.int .i64)))])], [], [], []⟩
set_option maxRecDepth 100000 in
theorem S56e_eq (s_a : Option Addr) (s_n : Nat) (s_c : Nat) (cap1_0 : Addr) (cap1_1 : Addr) (w0 : World) (R : Value → World → Prop) : vcFn Try.prog H56e Try.f56 [(.slice s_a s_n s_c), (.func (.func 53) #[] #[(.pointer (some cap1_0)), (.pointer (some cap1_1))])] w0 R = S56e s_a s_n s_c cap1_0 cap1_1 w0 R := by kernel_rfl
set_option maxRecDepth 100000 in
theorem S56e_calls (s_a : Option Addr) (s_n : Nat) (s_c : Nat) (cap1_0 : Addr) (cap1_1 : Addr) (w0 : World) (R : Value → World → Prop) (h : S56e s_a s_n s_c cap1_0 cap1_1 w0 R) : Calls Try.prog 56 #[(.slice s_a s_n s_c), (.func (.func 53) #[] #[(.pointer (some cap1_0)), (.pointer (some cap1_1))])] w0 (ret R) := by
  rw [← S56e_eq] at h; exact vcFn_sound follows_ Try.func56 h

def S51d (s_a : Option Addr) (s_n : Nat) (s_c : Nat) (cap1_0 : Addr) (w0 : World) (R : Value → World → Prop) : Prop :=
 call Try.prog 56 [(.slice s_a s_n s_c), (.func (.func 52) #[] #[(.pointer (some cap1_0))])] (.one (.one (.int .i64))) w0 fun (x1 : Int) w2 =>
 R (.bool (decide (x1 ≥ 0))) w2
def H51d : Hints := ⟨[], [], [], []⟩
set_option maxRecDepth 100000 in
theorem S51d_eq (s_a : Option Addr) (s_n : Nat) (s_c : Nat) (cap1_0 : Addr) (w0 : World) (R : Value → World → Prop) : vcFn Try.prog H51d Try.f51 [(.slice s_a s_n s_c), (.func (.func 52) #[] #[(.pointer (some cap1_0))])] w0 R = S51d s_a s_n s_c cap1_0 w0 R := by kernel_rfl
set_option maxRecDepth 100000 in
theorem S51d_calls (s_a : Option Addr) (s_n : Nat) (s_c : Nat) (cap1_0 : Addr) (w0 : World) (R : Value → World → Prop) (h : S51d s_a s_n s_c cap1_0 w0 R) : Calls Try.prog 51 #[(.slice s_a s_n s_c), (.func (.func 52) #[] #[(.pointer (some cap1_0))])] w0 (ret R) := by
  rw [← S51d_eq] at h; exact vcFn_sound follows_ Try.func51 h

def S51e (s_a : Option Addr) (s_n : Nat) (s_c : Nat) (cap1_0 : Addr) (cap1_1 : Addr) (w0 : World) (R : Value → World → Prop) : Prop :=
 call Try.prog 56 [(.slice s_a s_n s_c), (.func (.func 53) #[] #[(.pointer (some cap1_0)), (.pointer (some cap1_1))])] (.one (.one (.int .i64))) w0 fun (x1 : Int) w2 =>
 R (.bool (decide (x1 ≥ 0))) w2
def H51e : Hints := ⟨[], [], [], []⟩
set_option maxRecDepth 100000 in
theorem S51e_eq (s_a : Option Addr) (s_n : Nat) (s_c : Nat) (cap1_0 : Addr) (cap1_1 : Addr) (w0 : World) (R : Value → World → Prop) : vcFn Try.prog H51e Try.f51 [(.slice s_a s_n s_c), (.func (.func 53) #[] #[(.pointer (some cap1_0)), (.pointer (some cap1_1))])] w0 R = S51e s_a s_n s_c cap1_0 cap1_1 w0 R := by kernel_rfl
set_option maxRecDepth 100000 in
theorem S51e_calls (s_a : Option Addr) (s_n : Nat) (s_c : Nat) (cap1_0 : Addr) (cap1_1 : Addr) (w0 : World) (R : Value → World → Prop) (h : S51e s_a s_n s_c cap1_0 cap1_1 w0 R) : Calls Try.prog 51 #[(.slice s_a s_n s_c), (.func (.func 53) #[] #[(.pointer (some cap1_0)), (.pointer (some cap1_1))])] w0 (ret R) := by
  rw [← S51e_eq] at h; exact vcFn_sound follows_ Try.func51 h

def S45 (r_ : (Option Addr)) (t_ : Int) (w0 : World) (R : Value → World → Prop) : Prop :=
 wr Try.prog (Instr.box 59 (.pointer r_)) (.one .addr) w0 fun (x1 : Addr) w2 =>
 wr Try.prog (Instr.box 3 (.int .i64 t_)) (.one .addr) w2 fun (x3 : Addr) w4 =>
 rd Try.prog (Instr.loadAt 59 (.pointer (some x1))) (.one .ptr) w4 fun (x5 : (Option Addr)) =>
 nn x5 fun (a6 : Addr) =>
 rd Try.prog (Instr.loadAt 60 (.pointer (some (Addr.add a6 3)))) (.one .slice) w4 fun (x7 : Hd3) =>
 loop (T := (Int × Unit)) (0, ()) w4 fun (again8 : (Int × Unit) → World → Prop) (s9 : (Int × Unit)) w10 => ∀ _ : Nat → Value,
 br (decide (s9.1 < ((x7.2.1 : Nat) : Int))) (join (T := (Unit)) (fun (_s12 : (Unit)) w13 => ∀ _ : Nat → Value,
 z (IntKind.wrap .i64 (s9.1 + 1)) fun (z14 : Int) =>
 again8 (z14, ()) w13)
  fun (K11 : (Unit) → World → Prop) =>
 rdp Try.prog (Instr.indexAt 60 (.slice x7.1 x7.2.1 x7.2.2) (.int .i64 s9.1)) (.one .addr) fun (x15 : Addr) =>
 rd Try.prog (Instr.loadAt 87 (.pointer (some x15))) (.one .slice) w10 fun (x16 : Hd3) =>
 call Try.prog 51 [(.slice x16.1 x16.2.1 x16.2.2), (.func (.func 52) #[] #[(.pointer (some x3))])] (.one (.one .bool)) w10 fun (x17 : Bool) w18 =>
 br x17 (call Try.prog 51 [(.slice x16.1 x16.2.1 x16.2.2), (.func (.func 53) #[] #[(.pointer (some x3)), (.pointer (some x1))])] (.one (.one .bool)) w18 fun (x19 : Bool) w20 =>
 br x19 (R (.bool true) w20)
 (K11 (()) w20))
 (K11 (()) w18))
 (R (.bool false) w10)
def H45 : Hints := ⟨[(2, 0, [(12, (.one (.int .i64)))]), (1, 1, [])], [], [], []⟩
set_option maxRecDepth 100000 in
theorem S45_eq (r_ : (Option Addr)) (t_ : Int) (w0 : World) (R : Value → World → Prop) : vcFn Try.prog H45 Try.f45 [(.pointer r_), (.int .i64 t_)] w0 R = S45 r_ t_ w0 R := by kernel_rfl
set_option maxRecDepth 100000 in
theorem S45_calls (r_ : (Option Addr)) (t_ : Int) (w0 : World) (R : Value → World → Prop) (h : S45 r_ t_ w0 R) : Calls Try.prog 45 #[(.pointer r_), (.int .i64 t_)] w0 (ret R) := by
  rw [← S45_eq] at h; exact vcFn_sound follows_ Try.func45 h

def S32 (n_ : Int) (w0 : World) (R : Value → World → Prop) : Prop :=
 z (if (-1000000000) > n_ then (-1000000000) else n_) fun (z1 : Int) =>
 z (if 1000000000 < z1 then 1000000000 else z1) fun (z2 : Int) =>
 R (.int .i64 z2) w0
def H32 : Hints := ⟨[], [], [], []⟩
set_option maxRecDepth 100000 in
theorem S32_eq (n_ : Int) (w0 : World) (R : Value → World → Prop) : vcFn Try.prog H32 Try.f32 [(.int .i64 n_)] w0 R = S32 n_ w0 R := by kernel_rfl
set_option maxRecDepth 100000 in
theorem S32_calls (n_ : Int) (w0 : World) (R : Value → World → Prop) (h : S32 n_ w0 R) : Calls Try.prog 32 #[(.int .i64 n_)] w0 (ret R) := by
  rw [← S32_eq] at h; exact vcFn_sound follows_ Try.func32 h

def S27 (r_ : (Option Addr)) (t_ : Int) (w0 : World) (R : Value → World → Prop) : Prop :=
 nn r_ fun (a1 : Addr) =>
 rd Try.prog (Instr.loadAt 61 (.pointer (some (Addr.add a1 2)))) (.one .slice) w0 fun (x2 : Hd3) =>
 rdp Try.prog (Instr.indexAt 61 (.slice x2.1 x2.2.1 x2.2.2) (.int .i64 t_)) (.one .addr) fun (x3 : Addr) =>
 rd Try.prog (Instr.loadAt 64 (.pointer (some x3))) (.one .ptr) w0 fun (x4 : (Option Addr)) =>
 join (T := (Unit)) (fun (_s6 : (Unit)) w7 => ∀ _ : Nat → Value,
 drw w7 fun w8 => flEx fun F9 =>
 nn x4 fun (a10 : Addr) =>
 rd Try.prog (Instr.loadAt 54 (.pointer (some a10))) (.one .slice) w8 fun (x11 : Hd3) =>
 nn x4 fun (a12 : Addr) =>
 rd Try.prog (Instr.loadAt 3 (.pointer (some (Addr.add a12 1)))) (.one (.int .i64)) w8 fun (x13 : Int) =>
 rdp Try.prog (Instr.indexAt 54 (.slice x11.1 x11.2.1 x11.2.2) (.int .i64 x13)) (.one .addr) fun (x14 : Addr) =>
 rd Try.prog (Instr.loadAt 57 (.pointer (some x14))) (.agg [(.int .i64), (.int .i64), (.int .i64)]) w8 fun (x15 : (Int × Int × Int × Unit)) =>
 flc bel w8 (fun _w17 => True) (fun w16 =>
   wr Try.prog (Instr.alloc 57 true (.tuple #[])) (.one .addr) w16 fun (x18 : Addr) w19 =>
 (bel w16 w19 ∧ F9 10 [] (.pointer (some x18)) w19))
  fun (x20 : Addr) =>
 flend bel w8 (fun w22 => F9 10 [] (.pointer (some x20)) w22 ∧ True) fun w21 =>
 wu Try.prog (Instr.storeAt 57 (.pointer (some x20)) (.agg #[(.int .i64 x15.1), (.int .i64 x15.2.1), (.int .i64 x15.2.2.1)])) w21 fun w23 =>
 join (T := (Unit)) (fun (_s25 : (Unit)) w26 => ∀ _ : Nat → Value,
 nn x4 fun (a27 : Addr) =>
 rd Try.prog (Instr.loadAt 3 (.pointer (some (Addr.add a27 1)))) (.one (.int .i64)) w26 fun (x28 : Int) =>
 z (IntKind.wrap .i64 (x28 + 1)) fun (z29 : Int) =>
 nn x4 fun (a30 : Addr) =>
 wu Try.prog (Instr.storeAt 3 (.pointer (some (Addr.add a30 1))) (.int .i64 z29)) w26 fun w31 =>
 rd Try.prog (Instr.loadAt 3 (.pointer (some (Addr.add x20 2)))) (.one (.int .i64)) w31 fun (x32 : Int) =>
 join (T := (Int × Unit)) (fun (s34 : (Int × Unit)) w35 => ∀ _ : Nat → Value,
 rd Try.prog (Instr.loadAt 3 (.pointer (some x20))) (.one (.int .i64)) w35 fun (x36 : Int) =>
 join (T := (Bool × Unit)) (fun (s38 : (Bool × Unit)) w39 => ∀ _ : Nat → Value,
 br s38.1 (drw w39 fun w40 => flExC w40 fun E43 G42 Y41 F44 =>
 nn r_ fun (a45 : Addr) =>
 rdE Try.prog (ER Y41 [20] E43) (Instr.loadAt 60 (.pointer (some (Addr.add a45 3)))) (.one .slice) w40 fun (x46 : Hd3) =>
 rdE Try.prog (ER Y41 [20] E43) (Instr.loadAt 3 (.pointer (some (Addr.add x20 1)))) (.one (.int .i64)) w40 fun (x47 : Int) =>
 nn r_ fun (a48 : Addr) =>
 rdE Try.prog (ER Y41 [18, 20] E43) (Instr.loadAt 60 (.pointer (some (Addr.add a48 3)))) (.one .slice) w40 fun (x49 : Hd3) =>
 rdE Try.prog (ER Y41 [18, 20] E43) (Instr.loadAt 3 (.pointer (some (Addr.add x20 1)))) (.one (.int .i64)) w40 fun (x50 : Int) =>
 rdp Try.prog (Instr.indexAt 60 (.slice x49.1 x49.2.1 x49.2.2) (.int .i64 x50)) (.one .addr) fun (x51 : Addr) =>
 rdE Try.prog (ER Y41 [18, 20] E43) (Instr.loadAt 87 (.pointer (some x51))) (.one .slice) w40 fun (x52 : Hd3) =>
 flcC Y41 17 E43 w40 (fun _w54 => True) (fun (D55 : Nat → Bool) w53 =>
   wr Try.prog (Instr.buildSlice 87 1 #[(0, (.agg #[(.int .i64 s34.1), (.int .i64 t_), (.int .i64 0)]))]) (.one .slice) w53 fun (x56 : Hd3) w57 =>
 (E43 w53 w57 ∧ G42 17 w53 w57 ∧ Y41 (setD D55 17) w57 ∧ F44 17 [(.agg #[(.int .i64 s34.1), (.int .i64 t_), (.int .i64 0)])] (.slice x56.1 x56.2.1 x56.2.2) w57))
  fun (x58 : Hd3) =>
 flcC Y41 18 E43 w40 (fun w60 => F44 17 [(.agg #[(.int .i64 s34.1), (.int .i64 t_), (.int .i64 0)])] (.slice x58.1 x58.2.1 x58.2.2) w60 ∧ True) (fun (D61 : Nat → Bool) w59 =>
   wr Try.prog (Builtin.append_ #[87, 87] 87 #[(.slice x52.1 x52.2.1 x52.2.2), (.slice x58.1 x58.2.1 x58.2.2)]) (.one .slice) w59 fun (x62 : Hd3) w63 =>
 (E43 w59 w63 ∧ G42 18 w59 w63 ∧ Y41 (setD D61 18) w63 ∧ F44 18 [(.slice x52.1 x52.2.1 x52.2.2), (.slice x58.1 x58.2.1 x58.2.2)] (.slice x62.1 x62.2.1 x62.2.2) w63))
  fun (x64 : Hd3) =>
 flendC Y41 [18, 17] E43 w40 (fun w66 => F44 18 [(.slice x52.1 x52.2.1 x52.2.2), (.slice x58.1 x58.2.1 x58.2.2)] (.slice x64.1 x64.2.1 x64.2.2) w66 ∧ F44 17 [(.agg #[(.int .i64 s34.1), (.int .i64 t_), (.int .i64 0)])] (.slice x58.1 x58.2.1 x58.2.2) w66 ∧ True) fun w65 =>
 rdp Try.prog (Instr.indexAt 60 (.slice x46.1 x46.2.1 x46.2.2) (.int .i64 x47)) (.one .addr) fun (x67 : Addr) =>
 wu Try.prog (Instr.storeAt 87 (.pointer (some x67)) (.slice x64.1 x64.2.1 x64.2.2)) w65 fun w68 =>
 rd Try.prog (Instr.loadAt 3 (.pointer (some (Addr.add x20 1)))) (.one (.int .i64)) w68 fun (x69 : Int) =>
 call Try.prog 40 [(.pointer r_), (.int .i64 2), (.int .i64 t_), (.int .i64 x69), (.int .i64 s34.1), (.int .i64 0)] (.many []) w68 fun (_x70 : (Unit)) w71 =>
 R (.tuple #[]) w71)
 (br (x36 == 4) (call Try.prog 28 [(.pointer r_), (.int .i64 t_)] (.many []) w39 fun (_x72 : (Unit)) w73 =>
 R (.tuple #[]) w73)
 (br (x36 == 5) (nn r_ fun (a74 : Addr) =>
 rd Try.prog (Instr.loadAt 3 (.pointer (some a74))) (.one (.int .i64)) w39 fun (x75 : Int) =>
 br (x75 == 2) (call Try.prog 45 [(.pointer r_), (.int .i64 t_)] (.one (.one .bool)) w39 fun (x76 : Bool) w77 =>
 br x76 (call Try.prog 28 [(.pointer r_), (.int .i64 t_)] (.many []) w77 fun (_x78 : (Unit)) w79 =>
 R (.tuple #[]) w79)
 (call Try.prog 46 [(.pointer r_), (.int .i64 t_)] (.many []) w77 fun (_x80 : (Unit)) w81 =>
 R (.tuple #[]) w81))
 (call Try.prog 46 [(.pointer r_), (.int .i64 t_)] (.many []) w39 fun (_x82 : (Unit)) w83 =>
 R (.tuple #[]) w83))
 (R (.tuple #[]) w39))))
  fun (K37 : (Bool × Unit) → World → Prop) =>
 br (x36 == 2) (K37 (true, ()) w35)
 (K37 ((x36 == 3), ()) w35))
  fun (K33 : (Int × Unit) → World → Prop) =>
 join (T := (Bool × Unit)) (fun (s85 : (Bool × Unit)) w86 => ∀ _ : Nat → Value,
 br s85.1 (rd Try.prog (Instr.loadAt 3 (.pointer (some (Addr.add x20 1)))) (.one (.int .i64)) w86 fun (x87 : Int) =>
 call Try.prog 44 [(.pointer r_), (.int .i64 t_), (.int .i64 x87)] (.many [(.one (.int .i64)), (.one (.int .i64))]) w86 fun (x88 : (Int × Int × Unit)) w89 =>
 rd Try.prog (Instr.loadAt 3 (.pointer (some (Addr.add x20 1)))) (.one (.int .i64)) w89 fun (x90 : Int) =>
 call Try.prog 40 [(.pointer r_), (.int .i64 1), (.int .i64 t_), (.int .i64 x90), (.int .i64 x88.1), (.int .i64 x88.2.1)] (.many []) w89 fun (_x91 : (Unit)) w92 =>
 rd Try.prog (Instr.loadAt 3 (.pointer (some (Addr.add x20 2)))) (.one (.int .i64)) w92 fun (x93 : Int) =>
 z (IntKind.wrap .i64 (x88.1 + x93)) fun (z94 : Int) =>
 call Try.prog 32 [(.int .i64 z94)] (.one (.one (.int .i64))) w92 fun (x95 : Int) w96 =>
 K33 (x95, ()) w96)
 (K33 (x32, ()) w86))
  fun (K84 : (Bool × Unit) → World → Prop) =>
 rd Try.prog (Instr.loadAt 3 (.pointer (some x20))) (.one (.int .i64)) w31 fun (x97 : Int) =>
 br (x97 == 1) (K84 (true, ()) w31)
 (rd Try.prog (Instr.loadAt 3 (.pointer (some x20))) (.one (.int .i64)) w31 fun (x98 : Int) =>
 K84 ((x98 == 3), ()) w31))
  fun (K24 : (Unit) → World → Prop) =>
 drw w23 fun w99 => flEx fun F100 =>
 nn r_ fun (a101 : Addr) =>
 rd Try.prog (Instr.loadAt 3 (.pointer (some a101))) (.one (.int .i64)) w99 fun (x102 : Int) =>
 rd Try.prog (Instr.loadAt 57 (.pointer (some x20))) (.agg [(.int .i64), (.int .i64), (.int .i64)]) w99 fun (x103 : (Int × Int × Int × Unit)) =>
 flc bel w99 (fun _w105 => True) (fun w104 =>
   call Try.prog 41 [(.int .i64 x102), (.agg #[(.int .i64 x103.1), (.int .i64 x103.2.1), (.int .i64 x103.2.2.1)])] (.many [(.agg [(.int .i64), .bool]), (.one .bool)]) w104 fun (x106 : ((Int × Bool × Unit) × Bool × Unit)) w107 =>
 (bel w104 w107 ∧ F100 5 [(.int .i64 x102), (.agg #[(.int .i64 x103.1), (.int .i64 x103.2.1), (.int .i64 x103.2.2.1)])] (.tuple #[(.agg #[(.int .i64 x106.1.1), (.bool x106.1.2.1)]), (.bool x106.2.1)]) w107))
  fun (x108 : ((Int × Bool × Unit) × Bool × Unit)) =>
 flc bel w99 (fun _w110 => True) (fun w109 =>
   wr Try.prog (Instr.alloc 82 true (.tuple #[])) (.one .addr) w109 fun (x111 : Addr) w112 =>
 (bel w109 w112 ∧ F100 9 [] (.pointer (some x111)) w112))
  fun (x113 : Addr) =>
 flend bel w99 (fun w115 => F100 9 [] (.pointer (some x113)) w115 ∧ F100 5 [(.int .i64 x102), (.agg #[(.int .i64 x103.1), (.int .i64 x103.2.1), (.int .i64 x103.2.2.1)])] (.tuple #[(.agg #[(.int .i64 x108.1.1), (.bool x108.1.2.1)]), (.bool x108.2.1)]) w115 ∧ True) fun w114 =>
 wu Try.prog (Instr.storeAt 82 (.pointer (some x113)) (.agg #[(.int .i64 x108.1.1), (.bool x108.1.2.1)])) w114 fun w116 =>
 br x108.2.1 (rd Try.prog (Instr.loadAt 82 (.pointer (some x113))) (.agg [(.int .i64), .bool]) w116 fun (x117 : (Int × Bool × Unit)) =>
 call Try.prog 42 [(.pointer r_), (.int .i64 t_), (.agg #[(.int .i64 x117.1), (.bool x117.2.1)])] (.one (.one .bool)) w116 fun (x118 : Bool) w119 =>
 br (!x118) (call Try.prog 43 [(.pointer r_), (.int .i64 t_)] (.one (.one .bool)) w119 fun (x120 : Bool) w121 =>
 br x120 (call Try.prog 28 [(.pointer r_), (.int .i64 t_)] (.many []) w121 fun (_x122 : (Unit)) w123 =>
 R (.tuple #[]) w123)
 (R (.tuple #[]) w121))
 (K24 (()) w119))
 (K24 (()) w116))
  fun (K5 : (Unit) → World → Prop) =>
 nn x4 fun (a124 : Addr) =>
 rd Try.prog (Instr.loadAt 4 (.pointer (some (Addr.add a124 2)))) (.one .bool) w0 fun (x125 : Bool) =>
 br (!x125) (nn x4 fun (a126 : Addr) =>
 wu Try.prog (Instr.storeAt 4 (.pointer (some (Addr.add a126 2))) (.bool true)) w0 fun w127 =>
 call Try.prog 40 [(.pointer r_), (.int .i64 5), (.int .i64 t_), (.int .i64 0), (.int .i64 0), (.int .i64 0)] (.many []) w127 fun (_x128 : (Unit)) w129 =>
 nn r_ fun (a130 : Addr) =>
 rd Try.prog (Instr.loadAt 28 (.pointer (some (Addr.add a130 4)))) (.one .slice) w129 fun (x131 : Hd3) =>
 nn x4 fun (a132 : Addr) =>
 wu Try.prog (Instr.storeAt 3 (.pointer (some (Addr.add a132 4))) (.int .i64 ((x131.2.1 : Nat) : Int))) w129 fun w133 =>
 K5 (()) w133)
 (K5 (()) w0)
def H27 : Hints := ⟨[(0, 22, []), (0, 63, []), (3, 12, [(86, (.one .bool))]), (0, 86, [(8, (.one (.int .i64)))]), (0, 109, [(109, (.one .bool))])], [(5, 11), (6, 10), (19, 19)], [], [1000019]⟩
set_option maxRecDepth 100000 in
theorem S27_eq (r_ : (Option Addr)) (t_ : Int) (w0 : World) (R : Value → World → Prop) : vcFn Try.prog H27 Try.f27 [(.pointer r_), (.int .i64 t_)] w0 R = S27 r_ t_ w0 R := by kernel_rfl
set_option maxRecDepth 100000 in
theorem S27_calls (r_ : (Option Addr)) (t_ : Int) (w0 : World) (R : Value → World → Prop) (h : S27 r_ t_ w0 R) : Calls Try.prog 27 #[(.pointer r_), (.int .i64 t_)] w0 (ret R) := by
  rw [← S27_eq] at h; exact vcFn_sound follows_ Try.func27 h

def S26 (p_a : Option Addr) (p_n : Nat) (p_c : Nat) (w0 : World) (R : Value → World → Prop) : Prop :=
 join (T := (Unit)) (fun (_s2 : (Unit)) w3 => ∀ _ : Nat → Value,
 call Try.prog 39 [(.slice p_a p_n p_c)] (.one (.one .slice)) w3 fun (x4 : Hd3) w5 =>
 wr Try.prog (Instr.buildSlice 54 1 #[(0, (.agg #[(.int .i64 5), (.int .i64 0), (.int .i64 0)]))]) (.one .slice) w5 fun (x6 : Hd3) w7 =>
 wr Try.prog (Builtin.append_ #[54, 54] 54 #[(.slice x4.1 x4.2.1 x4.2.2), (.slice x6.1 x6.2.1 x6.2.2)]) (.one .slice) w7 fun (x8 : Hd3) w9 =>
 R (.slice x8.1 x8.2.1 x8.2.2) w9)
  fun (K1 : (Unit) → World → Prop) =>
 br (decide (((p_n : Nat) : Int) > 0)) (z (IntKind.wrap .i64 (((p_n : Nat) : Int) - 1)) fun (z10 : Int) =>
 rdp Try.prog (Instr.indexAt 54 (.slice p_a p_n p_c) (.int .i64 z10)) (.one .addr) fun (x11 : Addr) =>
 rd Try.prog (Instr.loadAt 3 (.pointer (some x11))) (.one (.int .i64)) w0 fun (x12 : Int) =>
 br (x12 == 4) (R (.slice p_a p_n p_c) w0)
 (z (IntKind.wrap .i64 (((p_n : Nat) : Int) - 1)) fun (z13 : Int) =>
 rdp Try.prog (Instr.indexAt 54 (.slice p_a p_n p_c) (.int .i64 z13)) (.one .addr) fun (x14 : Addr) =>
 rd Try.prog (Instr.loadAt 3 (.pointer (some x14))) (.one (.int .i64)) w0 fun (x15 : Int) =>
 br (x15 == 5) (R (.slice p_a p_n p_c) w0)
 (K1 (()) w0)))
 (K1 (()) w0)
def H26 : Hints := ⟨[(0, 25, [])], [], [], []⟩
set_option maxRecDepth 100000 in
theorem S26_eq (p_a : Option Addr) (p_n : Nat) (p_c : Nat) (w0 : World) (R : Value → World → Prop) : vcFn Try.prog H26 Try.f26 [(.slice p_a p_n p_c)] w0 R = S26 p_a p_n p_c w0 R := by kernel_rfl
set_option maxRecDepth 100000 in
theorem S26_calls (p_a : Option Addr) (p_n : Nat) (p_c : Nat) (w0 : World) (R : Value → World → Prop) (h : S26 p_a p_n p_c w0 R) : Calls Try.prog 26 #[(.slice p_a p_n p_c)] w0 (ret R) := by
  rw [← S26_eq] at h; exact vcFn_sound follows_ Try.func26 h

def S37 (n_ : Int) (w0 : World) (R : Value → World → Prop) : Prop :=
 br (decide (n_ ≥ (-1000000000))) (R (.bool (decide (n_ ≤ 1000000000))) w0)
 (R (.bool false) w0)
def H37 : Hints := ⟨[], [], [], []⟩
set_option maxRecDepth 100000 in
theorem S37_eq (n_ : Int) (w0 : World) (R : Value → World → Prop) : vcFn Try.prog H37 Try.f37 [(.int .i64 n_)] w0 R = S37 n_ w0 R := by kernel_rfl
set_option maxRecDepth 100000 in
theorem S37_calls (n_ : Int) (w0 : World) (R : Value → World → Prop) (h : S37 n_ w0 R) : Calls Try.prog 37 #[(.int .i64 n_)] w0 (ret R) := by
  rw [← S37_eq] at h; exact vcFn_sound follows_ Try.func37 h

def S38 (x_0 : Int) (x_1 : Int) (x_2 : Int) (keys_ : Int) (last_ : Bool) (w0 : World) (R : Value → World → Prop) : Prop :=
 wr Try.prog (Instr.box 57 (.agg #[(.int .i64 x_0), (.int .i64 x_1), (.int .i64 x_2)])) (.one .addr) w0 fun (x1 : Addr) w2 =>
 rd Try.prog (Instr.loadAt 3 (.pointer (some x1))) (.one (.int .i64)) w2 fun (x3 : Int) =>
 br (x3 == 1) (rd Try.prog (Instr.loadAt 3 (.pointer (some (Addr.add x1 1)))) (.one (.int .i64)) w2 fun (x4 : Int) =>
 br (decide (x4 ≥ 0)) (rd Try.prog (Instr.loadAt 3 (.pointer (some (Addr.add x1 1)))) (.one (.int .i64)) w2 fun (x5 : Int) =>
 br (decide (x5 < keys_)) (rd Try.prog (Instr.loadAt 3 (.pointer (some (Addr.add x1 2)))) (.one (.int .i64)) w2 fun (x6 : Int) =>
 R (.bool (x6 == 0)) w2)
 (R (.bool false) w2))
 (R (.bool false) w2))
 (join (T := (Bool × Unit)) (fun (s8 : (Bool × Unit)) w9 => ∀ _ : Nat → Value,
 br s8.1 (rd Try.prog (Instr.loadAt 3 (.pointer (some (Addr.add x1 1)))) (.one (.int .i64)) w9 fun (x10 : Int) =>
 br (decide (x10 ≥ 0)) (rd Try.prog (Instr.loadAt 3 (.pointer (some (Addr.add x1 1)))) (.one (.int .i64)) w9 fun (x11 : Int) =>
 br (decide (x11 < keys_)) (rd Try.prog (Instr.loadAt 3 (.pointer (some (Addr.add x1 2)))) (.one (.int .i64)) w9 fun (x12 : Int) =>
 call Try.prog 37 [(.int .i64 x12)] (.one (.one .bool)) w9 fun (x13 : Bool) w14 =>
 R (.bool x13) w14)
 (R (.bool false) w9))
 (R (.bool false) w9))
 (join (T := (Bool × Unit)) (fun (s16 : (Bool × Unit)) w17 => ∀ _ : Nat → Value,
 br s16.1 (br last_ (rd Try.prog (Instr.loadAt 3 (.pointer (some (Addr.add x1 1)))) (.one (.int .i64)) w17 fun (x18 : Int) =>
 br (x18 == 0) (rd Try.prog (Instr.loadAt 3 (.pointer (some (Addr.add x1 2)))) (.one (.int .i64)) w17 fun (x19 : Int) =>
 R (.bool (x19 == 0)) w17)
 (R (.bool false) w17))
 (R (.bool false) w17))
 (R (.bool false) w17))
  fun (K15 : (Bool × Unit) → World → Prop) =>
 br (x3 == 4) (K15 (true, ()) w9)
 (K15 ((x3 == 5), ()) w9)))
  fun (K7 : (Bool × Unit) → World → Prop) =>
 br (x3 == 2) (K7 (true, ()) w2)
 (K7 ((x3 == 3), ()) w2))
def H38 : Hints := ⟨[(0, 25, [(25, (.one .bool))]), (0, 42, [(42, (.one .bool))])], [], [], []⟩
set_option maxRecDepth 100000 in
theorem S38_eq (x_0 : Int) (x_1 : Int) (x_2 : Int) (keys_ : Int) (last_ : Bool) (w0 : World) (R : Value → World → Prop) : vcFn Try.prog H38 Try.f38 [(.agg #[(.int .i64 x_0), (.int .i64 x_1), (.int .i64 x_2)]), (.int .i64 keys_), (.bool last_)] w0 R = S38 x_0 x_1 x_2 keys_ last_ w0 R := by kernel_rfl
set_option maxRecDepth 100000 in
theorem S38_calls (x_0 : Int) (x_1 : Int) (x_2 : Int) (keys_ : Int) (last_ : Bool) (w0 : World) (R : Value → World → Prop) (h : S38 x_0 x_1 x_2 keys_ last_ w0 R) : Calls Try.prog 38 #[(.agg #[(.int .i64 x_0), (.int .i64 x_1), (.int .i64 x_2)]), (.int .i64 keys_), (.bool last_)] w0 (ret R) := by
  rw [← S38_eq] at h; exact vcFn_sound follows_ Try.func38 h

def S36 (n_ : Int) (w0 : World) (R : Value → World → Prop) : Prop :=
 call Try.prog 37 [(.int .i64 n_)] (.one (.one .bool)) w0 fun (x1 : Bool) w2 =>
 R (.bool (!x1)) w2
def H36 : Hints := ⟨[], [], [], []⟩
set_option maxRecDepth 100000 in
theorem S36_eq (n_ : Int) (w0 : World) (R : Value → World → Prop) : vcFn Try.prog H36 Try.f36 [(.int .i64 n_)] w0 R = S36 n_ w0 R := by kernel_rfl
set_option maxRecDepth 100000 in
theorem S36_calls (n_ : Int) (w0 : World) (R : Value → World → Prop) (h : S36 n_ w0 R) : Calls Try.prog 36 #[(.int .i64 n_)] w0 (ret R) := by
  rw [← S36_eq] at h; exact vcFn_sound follows_ Try.func36 h

def S49 (s_a : Option Addr) (s_n : Nat) (s_c : Nat) (w0 : World) (R : Value → World → Prop) : Prop :=
 loop (T := (Int × Unit)) (0, ()) w0 fun (again1 : (Int × Unit) → World → Prop) (s2 : (Int × Unit)) w3 => ∀ _ : Nat → Value,
 br (decide (s2.1 < ((s_n : Nat) : Int))) (rdp Try.prog (Instr.indexAt 22 (.slice s_a s_n s_c) (.int .i64 s2.1)) (.one .addr) fun (x4 : Addr) =>
 rd Try.prog (Instr.loadAt 3 (.pointer (some x4))) (.one (.int .i64)) w3 fun (x5 : Int) =>
 call Try.prog 36 [(.int .i64 x5)] (.one (.one .bool)) w3 fun (x6 : Bool) w7 =>
 br x6 (R (.int .i64 s2.1) w7)
 (z (IntKind.wrap .i64 (s2.1 + 1)) fun (z8 : Int) =>
 again1 (z8, ()) w7))
 (R (.int .i64 (-1)) w3)
def H49 : Hints := ⟨[(2, 0, [(8, (.one (.int .i64)))])], [], [], []⟩
set_option maxRecDepth 100000 in
theorem S49_eq (s_a : Option Addr) (s_n : Nat) (s_c : Nat) (w0 : World) (R : Value → World → Prop) : vcFn Try.prog H49 Try.f49 [(.slice s_a s_n s_c), (.func (.func 36) #[] #[])] w0 R = S49 s_a s_n s_c w0 R := by kernel_rfl
set_option maxRecDepth 100000 in
theorem S49_calls (s_a : Option Addr) (s_n : Nat) (s_c : Nat) (w0 : World) (R : Value → World → Prop) (h : S49 s_a s_n s_c w0 R) : Calls Try.prog 49 #[(.slice s_a s_n s_c), (.func (.func 36) #[] #[])] w0 (ret R) := by
  rw [← S49_eq] at h; exact vcFn_sound follows_ Try.func49 h

def S35 (s_a : Option Addr) (s_n : Nat) (s_c : Nat) (w0 : World) (R : Value → World → Prop) : Prop :=
 call Try.prog 49 [(.slice s_a s_n s_c), (.func (.func 36) #[] #[])] (.one (.one (.int .i64))) w0 fun (x1 : Int) w2 =>
 R (.bool (decide (x1 ≥ 0))) w2
def H35 : Hints := ⟨[], [], [], []⟩
set_option maxRecDepth 100000 in
theorem S35_eq (s_a : Option Addr) (s_n : Nat) (s_c : Nat) (w0 : World) (R : Value → World → Prop) : vcFn Try.prog H35 Try.f35 [(.slice s_a s_n s_c), (.func (.func 36) #[] #[])] w0 R = S35 s_a s_n s_c w0 R := by kernel_rfl
set_option maxRecDepth 100000 in
theorem S35_calls (s_a : Option Addr) (s_n : Nat) (s_c : Nat) (w0 : World) (R : Value → World → Prop) (h : S35 s_a s_n s_c w0 R) : Calls Try.prog 35 #[(.slice s_a s_n s_c), (.func (.func 36) #[] #[])] w0 (ret R) := by
  rw [← S35_eq] at h; exact vcFn_sound follows_ Try.func35 h

def S25 (start_a : Option Addr) (start_n : Nat) (start_c : Nat) (programs_a : Option Addr) (programs_n : Nat) (programs_c : Nat) (w0 : World) (R : Value → World → Prop) : Prop :=
 br (decide (((programs_n : Nat) : Int) > 5)) (R (.bool false) w0)
 (br (decide (((start_n : Nat) : Int) > 6)) (R (.bool false) w0)
 (call Try.prog 35 [(.slice start_a start_n start_c), (.func (.func 36) #[] #[])] (.one (.one .bool)) w0 fun (x1 : Bool) w2 =>
 br x1 (R (.bool false) w2)
 (loop (T := (Int × Unit)) (0, ()) w2 fun (again3 : (Int × Unit) → World → Prop) (s4 : (Int × Unit)) w5 => ∀ _ : Nat → Value,
 br (decide (s4.1 < ((programs_n : Nat) : Int))) (rdp Try.prog (Instr.indexAt 26 (.slice programs_a programs_n programs_c) (.int .i64 s4.1)) (.one .addr) fun (x6 : Addr) =>
 rd Try.prog (Instr.loadAt 54 (.pointer (some x6))) (.one .slice) w5 fun (x7 : Hd3) =>
 br (decide (((x7.2.1 : Nat) : Int) > 8)) (R (.bool false) w5)
 (loop (T := (Int × Unit)) (0, ()) w5 fun (again8 : (Int × Unit) → World → Prop) (s9 : (Int × Unit)) w10 => ∀ _ : Nat → Value,
 br (decide (s9.1 < ((x7.2.1 : Nat) : Int))) (rdp Try.prog (Instr.indexAt 54 (.slice x7.1 x7.2.1 x7.2.2) (.int .i64 s9.1)) (.one .addr) fun (x11 : Addr) =>
 rd Try.prog (Instr.loadAt 57 (.pointer (some x11))) (.agg [(.int .i64), (.int .i64), (.int .i64)]) w10 fun (x12 : (Int × Int × Int × Unit)) =>
 wr Try.prog (Instr.alloc 57 true (.tuple #[])) (.one .addr) w10 fun (x13 : Addr) w14 =>
 wu Try.prog (Instr.storeAt 57 (.pointer (some x13)) (.agg #[(.int .i64 x12.1), (.int .i64 x12.2.1), (.int .i64 x12.2.2.1)])) w14 fun w15 =>
 rd Try.prog (Instr.loadAt 57 (.pointer (some x13))) (.agg [(.int .i64), (.int .i64), (.int .i64)]) w15 fun (x16 : (Int × Int × Int × Unit)) =>
 z (IntKind.wrap .i64 (((x7.2.1 : Nat) : Int) - 1)) fun (z17 : Int) =>
 call Try.prog 38 [(.agg #[(.int .i64 x16.1), (.int .i64 x16.2.1), (.int .i64 x16.2.2.1)]), (.int .i64 ((start_n : Nat) : Int)), (.bool (s9.1 == z17))] (.one (.one .bool)) w15 fun (x18 : Bool) w19 =>
 br (!x18) (R (.bool false) w19)
 (z (IntKind.wrap .i64 (s9.1 + 1)) fun (z20 : Int) =>
 again8 (z20, ()) w19))
 (z (IntKind.wrap .i64 (s4.1 + 1)) fun (z21 : Int) =>
 again3 (z21, ()) w10)))
 (R (.bool true) w5))))
def H25 : Hints := ⟨[(2, 0, [(21, (.one (.int .i64)))]), (2, 2, [(30, (.one (.int .i64)))])], [], [], []⟩
set_option maxRecDepth 100000 in
theorem S25_eq (start_a : Option Addr) (start_n : Nat) (start_c : Nat) (programs_a : Option Addr) (programs_n : Nat) (programs_c : Nat) (w0 : World) (R : Value → World → Prop) : vcFn Try.prog H25 Try.f25 [(.slice start_a start_n start_c), (.slice programs_a programs_n programs_c)] w0 R = S25 start_a start_n start_c programs_a programs_n programs_c w0 R := by kernel_rfl
set_option maxRecDepth 100000 in
theorem S25_calls (start_a : Option Addr) (start_n : Nat) (start_c : Nat) (programs_a : Option Addr) (programs_n : Nat) (programs_c : Nat) (w0 : World) (R : Value → World → Prop) (h : S25 start_a start_n start_c programs_a programs_n programs_c w0 R) : Calls Try.prog 25 #[(.slice start_a start_n start_c), (.slice programs_a programs_n programs_c)] w0 (ret R) := by
  rw [← S25_eq] at h; exact vcFn_sound follows_ Try.func25 h

def S29 (s_a : Option Addr) (s_n : Nat) (s_c : Nat) (w0 : World) (R : Value → World → Prop) : Prop :=
 rd Try.prog (cmpS .eql 22 (.tmp 3) (.const (.slice none 0 0)) (.slice s_a s_n s_c) (.slice none 0 0)) (.one .bool) w0 fun (x1 : Bool) =>
 br x1 (R (.slice none 0 0) w0)
 (wr Try.prog (Instr.buildSlice 22 0 #[]) (.one .slice) w0 fun (x2 : Hd3) w3 =>
 wr Try.prog (Builtin.append_ #[22, 22] 22 #[(.slice x2.1 x2.2.1 x2.2.2), (.slice s_a s_n s_c)]) (.one .slice) w3 fun (x4 : Hd3) w5 =>
 R (.slice x4.1 x4.2.1 x4.2.2) w5)
def H29 : Hints := ⟨[], [], [], []⟩
set_option maxRecDepth 100000 in
theorem S29_eq (s_a : Option Addr) (s_n : Nat) (s_c : Nat) (w0 : World) (R : Value → World → Prop) : vcFn Try.prog H29 Try.f29 [(.slice s_a s_n s_c)] w0 R = S29 s_a s_n s_c w0 R := by kernel_rfl
set_option maxRecDepth 100000 in
theorem S29_calls (s_a : Option Addr) (s_n : Nat) (s_c : Nat) (w0 : World) (R : Value → World → Prop) (h : S29 s_a s_n s_c w0 R) : Calls Try.prog 29 #[(.slice s_a s_n s_c)] w0 (ret R) := by
  rw [← S29_eq] at h; exact vcFn_sound follows_ Try.func29 h

def S39 (s_a : Option Addr) (s_n : Nat) (s_c : Nat) (w0 : World) (R : Value → World → Prop) : Prop :=
 rd Try.prog (cmpS .eql 54 (.tmp 3) (.const (.slice none 0 0)) (.slice s_a s_n s_c) (.slice none 0 0)) (.one .bool) w0 fun (x1 : Bool) =>
 br x1 (R (.slice none 0 0) w0)
 (wr Try.prog (Instr.buildSlice 54 0 #[]) (.one .slice) w0 fun (x2 : Hd3) w3 =>
 wr Try.prog (Builtin.append_ #[54, 54] 54 #[(.slice x2.1 x2.2.1 x2.2.2), (.slice s_a s_n s_c)]) (.one .slice) w3 fun (x4 : Hd3) w5 =>
 R (.slice x4.1 x4.2.1 x4.2.2) w5)
def H39 : Hints := ⟨[], [], [], []⟩
set_option maxRecDepth 100000 in
theorem S39_eq (s_a : Option Addr) (s_n : Nat) (s_c : Nat) (w0 : World) (R : Value → World → Prop) : vcFn Try.prog H39 Try.f39 [(.slice s_a s_n s_c)] w0 R = S39 s_a s_n s_c w0 R := by kernel_rfl
set_option maxRecDepth 100000 in
theorem S39_calls (s_a : Option Addr) (s_n : Nat) (s_c : Nat) (w0 : World) (R : Value → World → Prop) (h : S39 s_a s_n s_c w0 R) : Calls Try.prog 39 #[(.slice s_a s_n s_c)] w0 (ret R) := by
  rw [← S39_eq] at h; exact vcFn_sound follows_ Try.func39 h

def S10 (level_ : Int) (start_a : Option Addr) (start_n : Nat) (start_c : Nat) (programs_a : Option Addr) (programs_n : Nat) (programs_c : Nat) (order_a : Option Addr) (order_n : Nat) (order_c : Nat) (w0 : World) (R : Value → World → Prop) : Prop :=
 wr Try.prog (Instr.alloc 30 true (.tuple #[])) (.one .addr) w0 fun (x1 : Addr) w2 =>
 call Try.prog 25 [(.slice start_a start_n start_c), (.slice programs_a programs_n programs_c)] (.one (.one .bool)) w2 fun (x3 : Bool) w4 =>
 br (!x3) (wu Try.prog (Instr.storeAt 30 (.pointer (some x1)) (.agg #[(.slice none 0 0), (.slice none 0 0)])) w4 fun w5 =>
 rd Try.prog (loadVar 30 x1) (.agg [.slice, .slice]) w5 fun (x6 : (Hd3 × Hd3 × Unit)) =>
 R (.tuple #[(.agg #[(.slice x6.1.1 x6.1.2.1 x6.1.2.2), (.slice x6.2.1.1 x6.2.1.2.1 x6.2.1.2.2)]), (.int .i64 1)]) w5)
 (br (decide (level_ < 1)) (wu Try.prog (Instr.storeAt 30 (.pointer (some x1)) (.agg #[(.slice none 0 0), (.slice none 0 0)])) w4 fun w7 =>
 rd Try.prog (loadVar 30 x1) (.agg [.slice, .slice]) w7 fun (x8 : (Hd3 × Hd3 × Unit)) =>
 R (.tuple #[(.agg #[(.slice x8.1.1 x8.1.2.1 x8.1.2.2), (.slice x8.2.1.1 x8.2.1.2.1 x8.2.1.2.2)]), (.int .i64 1)]) w7)
 (br (decide (level_ > 3)) (wu Try.prog (Instr.storeAt 30 (.pointer (some x1)) (.agg #[(.slice none 0 0), (.slice none 0 0)])) w4 fun w9 =>
 rd Try.prog (loadVar 30 x1) (.agg [.slice, .slice]) w9 fun (x10 : (Hd3 × Hd3 × Unit)) =>
 R (.tuple #[(.agg #[(.slice x10.1.1 x10.1.2.1 x10.1.2.2), (.slice x10.2.1.1 x10.2.1.2.1 x10.2.1.2.2)]), (.int .i64 1)]) w9)
 (br (decide (((order_n : Nat) : Int) > 120)) (wu Try.prog (Instr.storeAt 30 (.pointer (some x1)) (.agg #[(.slice none 0 0), (.slice none 0 0)])) w4 fun w11 =>
 rd Try.prog (loadVar 30 x1) (.agg [.slice, .slice]) w11 fun (x12 : (Hd3 × Hd3 × Unit)) =>
 R (.tuple #[(.agg #[(.slice x12.1.1 x12.1.2.1 x12.1.2.2), (.slice x12.2.1.1 x12.2.1.2.1 x12.2.1.2.2)]), (.int .i64 8)]) w11)
 (wr Try.prog (Instr.makeSlice 60 (.int .i64 ((start_n : Nat) : Int)) (.int .i64 ((start_n : Nat) : Int))) (.one .slice) w4 fun (x13 : Hd3) w14 =>
 wr Try.prog (Instr.box 63 (.agg #[(.int .i64 level_), (.slice start_a start_n start_c), (.slice none 0 0), (.slice x13.1 x13.2.1 x13.2.2), (.slice none 0 0)])) (.one .addr) w14 fun (x15 : Addr) w16 =>
 loop (T := (Int × Unit)) (0, ()) w16 fun (again17 : (Int × Unit) → World → Prop) (s18 : (Int × Unit)) w19 => ∀ _ : Nat → Value,
 br (decide (s18.1 < ((programs_n : Nat) : Int))) (rdp Try.prog (Instr.indexAt 26 (.slice programs_a programs_n programs_c) (.int .i64 s18.1)) (.one .addr) fun (x20 : Addr) =>
 rd Try.prog (Instr.loadAt 54 (.pointer (some x20))) (.one .slice) w19 fun (x21 : Hd3) =>
 drw w19 fun w22 => flEx fun F23 =>
 nn (some x15) fun (a24 : Addr) =>
 rd Try.prog (Instr.loadAt 61 (.pointer (some (Addr.add a24 2)))) (.one .slice) w22 fun (x25 : Hd3) =>
 flc bel w22 (fun _w27 => True) (fun w26 =>
   call Try.prog 26 [(.slice x21.1 x21.2.1 x21.2.2)] (.one (.one .slice)) w26 fun (x28 : Hd3) w29 =>
 (bel w26 w29 ∧ F23 6 [(.slice x21.1 x21.2.1 x21.2.2)] (.slice x28.1 x28.2.1 x28.2.2) w29))
  fun (x30 : Hd3) =>
 flc bel w22 (fun _w32 => True) (fun w31 =>
   wr Try.prog (Instr.makeSlice 66 (.int .i64 ((start_n : Nat) : Int)) (.int .i64 ((start_n : Nat) : Int))) (.one .slice) w31 fun (x33 : Hd3) w34 =>
 (bel w31 w34 ∧ F23 9 [] (.slice x33.1 x33.2.1 x33.2.2) w34))
  fun (x35 : Hd3) =>
 flc bel w22 (fun _w37 => True) (fun w36 =>
   wr Try.prog (Instr.makeSlice 66 (.int .i64 ((start_n : Nat) : Int)) (.int .i64 ((start_n : Nat) : Int))) (.one .slice) w36 fun (x38 : Hd3) w39 =>
 (bel w36 w39 ∧ F23 12 [] (.slice x38.1 x38.2.1 x38.2.2) w39))
  fun (x40 : Hd3) =>
 flc bel w22 (fun w42 => F23 12 [] (.slice x40.1 x40.2.1 x40.2.2) w42 ∧ F23 9 [] (.slice x35.1 x35.2.1 x35.2.2) w42 ∧ F23 6 [(.slice x21.1 x21.2.1 x21.2.2)] (.slice x30.1 x30.2.1 x30.2.2) w42 ∧ True) (fun w41 =>
   wr Try.prog (Instr.box 69 (.agg #[(.slice x30.1 x30.2.1 x30.2.2), (.int .i64 0), (.bool false), (.bool false), (.int .i64 0), (.pointer none), (.slice x35.1 x35.2.1 x35.2.2), (.slice x40.1 x40.2.1 x40.2.2)])) (.one .addr) w41 fun (x43 : Addr) w44 =>
 (bel w41 w44 ∧ F23 14 [(.agg #[(.slice x30.1 x30.2.1 x30.2.2), (.int .i64 0), (.bool false), (.bool false), (.int .i64 0), (.pointer none), (.slice x35.1 x35.2.1 x35.2.2), (.slice x40.1 x40.2.1 x40.2.2)])] (.pointer (some x43)) w44))
  fun (x45 : Addr) =>
 flc bel w22 (fun w47 => F23 14 [(.agg #[(.slice x30.1 x30.2.1 x30.2.2), (.int .i64 0), (.bool false), (.bool false), (.int .i64 0), (.pointer none), (.slice x35.1 x35.2.1 x35.2.2), (.slice x40.1 x40.2.1 x40.2.2)])] (.pointer (some x45)) w47 ∧ F23 12 [] (.slice x40.1 x40.2.1 x40.2.2) w47 ∧ F23 9 [] (.slice x35.1 x35.2.1 x35.2.2) w47 ∧ F23 6 [(.slice x21.1 x21.2.1 x21.2.2)] (.slice x30.1 x30.2.1 x30.2.2) w47 ∧ True) (fun w46 =>
   wr Try.prog (Instr.buildSlice 61 1 #[(0, (.pointer (some x45)))]) (.one .slice) w46 fun (x48 : Hd3) w49 =>
 (bel w46 w49 ∧ F23 15 [(.pointer (some x45))] (.slice x48.1 x48.2.1 x48.2.2) w49))
  fun (x50 : Hd3) =>
 flend bel w22 (fun w52 => (F23 15 [(.pointer (some x45))] (.slice x50.1 x50.2.1 x50.2.2) w52 ∧ F23 14 [(.agg #[(.slice x30.1 x30.2.1 x30.2.2), (.int .i64 0), (.bool false), (.bool false), (.int .i64 0), (.pointer none), (.slice x35.1 x35.2.1 x35.2.2), (.slice x40.1 x40.2.1 x40.2.2)])] (.pointer (some x45)) w52 ∧ F23 12 [] (.slice x40.1 x40.2.1 x40.2.2) w52 ∧ F23 9 [] (.slice x35.1 x35.2.1 x35.2.2) w52 ∧ F23 6 [(.slice x21.1 x21.2.1 x21.2.2)] (.slice x30.1 x30.2.1 x30.2.2) w52 ∧ True) ∧ List.Pairwise (fun a b => vblk a ≠ vblk b) ([(.pointer (some x45)), (.slice x40.1 x40.2.1 x40.2.2), (.slice x35.1 x35.2.1 x35.2.2)] : List Value)) fun w51 =>
 wr Try.prog (Builtin.append_ #[61, 61] 61 #[(.slice x25.1 x25.2.1 x25.2.2), (.slice x50.1 x50.2.1 x50.2.2)]) (.one .slice) w51 fun (x53 : Hd3) w54 =>
 nn (some x15) fun (a55 : Addr) =>
 wu Try.prog (Instr.storeAt 61 (.pointer (some (Addr.add a55 2))) (.slice x53.1 x53.2.1 x53.2.2)) w54 fun w56 =>
 z (IntKind.wrap .i64 (s18.1 + 1)) fun (z57 : Int) =>
 again17 (z57, ()) w56)
 (loop (T := (Int × Unit)) (0, ()) w19 fun (again58 : (Int × Unit) → World → Prop) (s59 : (Int × Unit)) w60 => ∀ _ : Nat → Value,
 br (decide (s59.1 < ((order_n : Nat) : Int))) (join (T := (Unit)) (fun (_s62 : (Unit)) w63 => ∀ _ : Nat → Value,
 z (IntKind.wrap .i64 (s59.1 + 1)) fun (z64 : Int) =>
 again58 (z64, ()) w63)
  fun (K61 : (Unit) → World → Prop) =>
 rdp Try.prog (Instr.indexAt 22 (.slice order_a order_n order_c) (.int .i64 s59.1)) (.one .addr) fun (x65 : Addr) =>
 rd Try.prog (Instr.loadAt 3 (.pointer (some x65))) (.one (.int .i64)) w60 fun (x66 : Int) =>
 br (decide (x66 ≥ 0)) (nn (some x15) fun (a67 : Addr) =>
 rd Try.prog (Instr.loadAt 61 (.pointer (some (Addr.add a67 2)))) (.one .slice) w60 fun (x68 : Hd3) =>
 br (decide (x66 < ((x68.2.1 : Nat) : Int))) (nn (some x15) fun (a69 : Addr) =>
 rd Try.prog (Instr.loadAt 61 (.pointer (some (Addr.add a69 2)))) (.one .slice) w60 fun (x70 : Hd3) =>
 rdp Try.prog (Instr.indexAt 61 (.slice x70.1 x70.2.1 x70.2.2) (.int .i64 x66)) (.one .addr) fun (x71 : Addr) =>
 rd Try.prog (Instr.loadAt 64 (.pointer (some x71))) (.one .ptr) w60 fun (x72 : (Option Addr)) =>
 nn x72 fun (a73 : Addr) =>
 rd Try.prog (Instr.loadAt 4 (.pointer (some (Addr.add a73 3)))) (.one .bool) w60 fun (x74 : Bool) =>
 br (!x74) (call Try.prog 27 [(.pointer (some x15)), (.int .i64 x66)] (.many []) w60 fun (_x75 : (Unit)) w76 =>
 K61 (()) w76)
 (K61 (()) w60))
 (K61 (()) w60))
 (K61 (()) w60))
 (nn (some x15) fun (a77 : Addr) =>
 rd Try.prog (Instr.loadAt 61 (.pointer (some (Addr.add a77 2)))) (.one .slice) w60 fun (x78 : Hd3) =>
 loop (T := (Int × Unit)) (0, ()) w60 fun (again79 : (Int × Unit) → World → Prop) (s80 : (Int × Unit)) w81 => ∀ _ : Nat → Value,
 br (decide (s80.1 < ((x78.2.1 : Nat) : Int))) (join (T := (Unit)) (fun (_s83 : (Unit)) w84 => ∀ _ : Nat → Value,
 z (IntKind.wrap .i64 (s80.1 + 1)) fun (z85 : Int) =>
 again79 (z85, ()) w84)
  fun (K82 : (Unit) → World → Prop) =>
 rdp Try.prog (Instr.indexAt 61 (.slice x78.1 x78.2.1 x78.2.2) (.int .i64 s80.1)) (.one .addr) fun (x86 : Addr) =>
 rd Try.prog (Instr.loadAt 64 (.pointer (some x86))) (.one .ptr) w81 fun (x87 : (Option Addr)) =>
 nn x87 fun (a88 : Addr) =>
 rd Try.prog (Instr.loadAt 4 (.pointer (some (Addr.add a88 2)))) (.one .bool) w81 fun (x89 : Bool) =>
 br x89 (nn x87 fun (a90 : Addr) =>
 rd Try.prog (Instr.loadAt 4 (.pointer (some (Addr.add a90 3)))) (.one .bool) w81 fun (x91 : Bool) =>
 br (!x91) (call Try.prog 28 [(.pointer (some x15)), (.int .i64 s80.1)] (.many []) w81 fun (_x92 : (Unit)) w93 =>
 K82 (()) w93)
 (K82 (()) w81))
 (K82 (()) w81))
 (drw w81 fun w94 => flEx fun F95 =>
 flc bel w94 (fun _w97 => True) (fun w96 =>
   call Try.prog 29 [(.slice start_a start_n start_c)] (.one (.one .slice)) w96 fun (x98 : Hd3) w99 =>
 (bel w96 w99 ∧ F95 1 [(.slice start_a start_n start_c)] (.slice x98.1 x98.2.1 x98.2.2) w99))
  fun (x100 : Hd3) =>
 nn (some x15) fun (a101 : Addr) =>
 rd Try.prog (Instr.loadAt 28 (.pointer (some (Addr.add a101 4)))) (.one .slice) w94 fun (x102 : Hd3) =>
 flend bel w94 (fun w104 => F95 1 [(.slice start_a start_n start_c)] (.slice x100.1 x100.2.1 x100.2.2) w104 ∧ True) fun w103 =>
 wu Try.prog (Instr.storeAt 30 (.pointer (some x1)) (.agg #[(.slice x100.1 x100.2.1 x100.2.2), (.slice x102.1 x102.2.1 x102.2.2)])) w103 fun w105 =>
 rd Try.prog (loadVar 30 x1) (.agg [.slice, .slice]) w105 fun (x106 : (Hd3 × Hd3 × Unit)) =>
 R (.tuple #[(.agg #[(.slice x106.1.1 x106.1.2.1 x106.1.2.2), (.slice x106.2.1.1 x106.2.1.2.1 x106.2.1.2.2)]), (.int .i64 0)]) w105)))))))
def H10 : Hints := ⟨[(2, 0, [(43, (.one (.int .i64)))]), (2, 2, [(69, (.one (.int .i64)))]), (1, 3, []), (2, 4, [(106, (.one (.int .i64)))]), (1, 5, [])], [(9, 16), (23, 6)], [], []⟩
set_option maxRecDepth 100000 in
theorem S10_eq (level_ : Int) (start_a : Option Addr) (start_n : Nat) (start_c : Nat) (programs_a : Option Addr) (programs_n : Nat) (programs_c : Nat) (order_a : Option Addr) (order_n : Nat) (order_c : Nat) (w0 : World) (R : Value → World → Prop) : vcFn Try.prog H10 Try.f10 [(.int .i64 level_), (.slice start_a start_n start_c), (.slice programs_a programs_n programs_c), (.slice order_a order_n order_c)] w0 R = S10 level_ start_a start_n start_c programs_a programs_n programs_c order_a order_n order_c w0 R := by kernel_rfl
set_option maxRecDepth 100000 in
theorem S10_calls (level_ : Int) (start_a : Option Addr) (start_n : Nat) (start_c : Nat) (programs_a : Option Addr) (programs_n : Nat) (programs_c : Nat) (order_a : Option Addr) (order_n : Nat) (order_c : Nat) (w0 : World) (R : Value → World → Prop) (h : S10 level_ start_a start_n start_c programs_a programs_n programs_c order_a order_n order_c w0 R) : Calls Try.prog 10 #[(.int .i64 level_), (.slice start_a start_n start_c), (.slice programs_a programs_n programs_c), (.slice order_a order_n order_c)] w0 (ret R) := by
  rw [← S10_eq] at h; exact vcFn_sound follows_ Try.func10 h

def S21 (h_0a : Option Addr) (h_0n : Nat) (h_0c : Nat) (h_1a : Option Addr) (h_1n : Nat) (h_1c : Nat) (w0 : World) (R : Value → World → Prop) : Prop :=
 wr Try.prog (Instr.box 30 (.agg #[(.slice h_0a h_0n h_0c), (.slice h_1a h_1n h_1c)])) (.one .addr) w0 fun (x1 : Addr) w2 =>
 rd Try.prog (Instr.loadAt 22 (.pointer (some x1))) (.one .slice) w2 fun (x3 : Hd3) =>
 call Try.prog 29 [(.slice x3.1 x3.2.1 x3.2.2)] (.one (.one .slice)) w2 fun (x4 : Hd3) w5 =>
 wr Try.prog (Instr.makeMap 74 none) (.one .map) w5 fun (x6 : (Option Nat)) w7 =>
 rd Try.prog (Instr.loadAt 28 (.pointer (some (Addr.add x1 1)))) (.one .slice) w7 fun (x8 : Hd3) =>
 loop (T := (Int × Unit)) (0, ()) w7 fun (again9 : (Int × Unit) → World → Prop) (s10 : (Int × Unit)) w11 => ∀ _ : Nat → Value,
 br (decide (s10.1 < ((x8.2.1 : Nat) : Int))) (join (T := (Unit)) (fun (_s13 : (Unit)) w14 => ∀ _ : Nat → Value,
 z (IntKind.wrap .i64 (s10.1 + 1)) fun (z15 : Int) =>
 again9 (z15, ()) w14)
  fun (K12 : (Unit) → World → Prop) =>
 rdp Try.prog (Instr.indexAt 28 (.slice x8.1 x8.2.1 x8.2.2) (.int .i64 s10.1)) (.one .addr) fun (x16 : Addr) =>
 rd Try.prog (Instr.loadAt 36 (.pointer (some x16))) (.agg [(.int .i64), (.int .i64), (.int .i64), (.int .i64), (.int .i64)]) w11 fun (x17 : (Int × Int × Int × Int × Int × Unit)) =>
 wr Try.prog (Instr.alloc 36 true (.tuple #[])) (.one .addr) w11 fun (x18 : Addr) w19 =>
 wu Try.prog (Instr.storeAt 36 (.pointer (some x18)) (.agg #[(.int .i64 x17.1), (.int .i64 x17.2.1), (.int .i64 x17.2.2.1), (.int .i64 x17.2.2.2.1), (.int .i64 x17.2.2.2.2.1)])) w19 fun w20 =>
 rd Try.prog (Instr.loadAt 3 (.pointer (some x18))) (.one (.int .i64)) w20 fun (x21 : Int) =>
 br (x21 == 3) (rd Try.prog (Instr.loadAt 3 (.pointer (some (Addr.add x18 1)))) (.one (.int .i64)) w20 fun (x22 : Int) =>
 wu Try.prog (Instr.mapUpdate 74 (.map x6) (.int .i64 x22) (.int .i64 s10.1)) w20 fun w23 =>
 K12 (()) w23)
 (K12 (()) w20))
 (loop (T := (Int × Unit)) (0, ()) w11 fun (again24 : (Int × Unit) → World → Prop) (s25 : (Int × Unit)) w26 => ∀ _ : Nat → Value,
 br (decide (s25.1 < ((x4.2.1 : Nat) : Int))) (rd Try.prog (Instr.loadAt 28 (.pointer (some (Addr.add x1 1)))) (.one .slice) w26 fun (x27 : Hd3) =>
 loop (T := (Int × Int × Unit)) ((-1), 0, ()) w26 fun (again28 : (Int × Int × Unit) → World → Prop) (s29 : (Int × Int × Unit)) w30 => ∀ _ : Nat → Value,
 br (decide (s29.2.1 < ((x27.2.1 : Nat) : Int))) (join (T := (Int × Unit)) (fun (s32 : (Int × Unit)) w33 => ∀ _ : Nat → Value,
 z (IntKind.wrap .i64 (s29.2.1 + 1)) fun (z34 : Int) =>
 again28 (s32.1, z34, ()) w33)
  fun (K31 : (Int × Unit) → World → Prop) =>
 rdp Try.prog (Instr.indexAt 28 (.slice x27.1 x27.2.1 x27.2.2) (.int .i64 s29.2.1)) (.one .addr) fun (x35 : Addr) =>
 rd Try.prog (Instr.loadAt 36 (.pointer (some x35))) (.agg [(.int .i64), (.int .i64), (.int .i64), (.int .i64), (.int .i64)]) w30 fun (x36 : (Int × Int × Int × Int × Int × Unit)) =>
 wr Try.prog (Instr.alloc 36 true (.tuple #[])) (.one .addr) w30 fun (x37 : Addr) w38 =>
 wu Try.prog (Instr.storeAt 36 (.pointer (some x37)) (.agg #[(.int .i64 x36.1), (.int .i64 x36.2.1), (.int .i64 x36.2.2.1), (.int .i64 x36.2.2.2.1), (.int .i64 x36.2.2.2.2.1)])) w38 fun w39 =>
 rd Try.prog (Instr.loadAt 3 (.pointer (some x37))) (.one (.int .i64)) w39 fun (x40 : Int) =>
 br (x40 != 2) (K31 (s29.1, ()) w39)
 (rd Try.prog (Instr.loadAt 3 (.pointer (some (Addr.add x37 2)))) (.one (.int .i64)) w39 fun (x41 : Int) =>
 br (x41 != s25.1) (K31 (s29.1, ()) w39)
 (rd Try.prog (Instr.loadAt 3 (.pointer (some (Addr.add x37 1)))) (.one (.int .i64)) w39 fun (x42 : Int) =>
 rdM Try.prog bel (Instr.lookup 74 (.map x6) (.int .i64 x42) true) [(.one (.int .i64)), (.one .bool)] w39 fun (x43 : (Int × Bool × Unit)) =>
 br x43.2.1 (br (decide (x43.1 ≥ s29.1)) (drw w39 fun w44 =>
 rd Try.prog (Instr.loadAt 3 (.pointer (some (Addr.add x37 3)))) (.one (.int .i64)) w44 fun (x45 : Int) =>
 rdp Try.prog (Instr.indexAt 22 (.slice x4.1 x4.2.1 x4.2.2) (.int .i64 s25.1)) (.one .addr) fun (x46 : Addr) =>
 wu Try.prog (Instr.storeAt 3 (.pointer (some x46)) (.int .i64 x45)) w44 fun w47 =>
 K31 (x43.1, ()) w47)
 (K31 (s29.1, ()) w39))
 (K31 (s29.1, ()) w39))))
 (z (IntKind.wrap .i64 (s25.1 + 1)) fun (z48 : Int) =>
 again24 (z48, ()) w30))
 (R (.slice x4.1 x4.2.1 x4.2.2) w26))
def H21 : Hints := ⟨[(2, 0, [(20, (.one (.int .i64)))]), (1, 1, []), (2, 2, [(35, (.one (.int .i64)))]), (2, 4, [(8, (.one (.int .i64))), (41, (.one (.int .i64)))]), (1, 5, [(8, (.one (.int .i64)))])], [(19, 6)], [], []⟩
set_option maxRecDepth 100000 in
theorem S21_eq (h_0a : Option Addr) (h_0n : Nat) (h_0c : Nat) (h_1a : Option Addr) (h_1n : Nat) (h_1c : Nat) (w0 : World) (R : Value → World → Prop) : vcFn Try.prog H21 Try.f21 [(.agg #[(.slice h_0a h_0n h_0c), (.slice h_1a h_1n h_1c)])] w0 R = S21 h_0a h_0n h_0c h_1a h_1n h_1c w0 R := by kernel_rfl
set_option maxRecDepth 100000 in
theorem S21_calls (h_0a : Option Addr) (h_0n : Nat) (h_0c : Nat) (h_1a : Option Addr) (h_1n : Nat) (h_1c : Nat) (w0 : World) (R : Value → World → Prop) (h : S21 h_0a h_0n h_0c h_1a h_1n h_1c w0 R) : Calls Try.prog 21 #[(.agg #[(.slice h_0a h_0n h_0c), (.slice h_1a h_1n h_1c)])] w0 (ret R) := by
  rw [← S21_eq] at h; exact vcFn_sound follows_ Try.func21 h

end Go.Proofs

/- Parts of rows: a tail is cleared, a row is shortened, lengthened, copied within. -/


namespace Go.V
open Go Go.RowKit Go.Q

theorem putAt_take : ∀ (xs vs : List Value) (i : Nat), i + vs.length ≤ xs.length → putAt xs i vs = xs.take i ++ vs ++ xs.drop (i + vs.length) := by
  intro xs vs i h
  have h1 : xs = xs.take i ++ xs.drop i := (List.take_append_drop i xs).symm
  have h2 : (xs.take i).length = i := by rw [List.length_take]; omega
  have := putAt_at vs (xs.take i) (xs.drop i) (by rw [List.length_drop]; omega)
  rw [h2, ← h1, List.drop_drop] at this
  exact this
theorem _root_.Go.Q.Own.shrink {w : World} {B : Nat} {e : TypeId} {sz : Nat} {a : Option Addr} {n c : Nat} {xs : List Value} (O : Own w B e sz a n c xs) {m : Nat} (hm : m ≤ n) : Own w B e sz a m c (xs.take (m * sz)) := by
  have hle : m * sz ≤ n * sz := Nat.mul_le_mul_right _ hm
  refine ⟨by rw [List.length_take, O.1]; omega, ?_⟩
  rcases O.2 with ⟨h1, h2⟩ | ⟨g, cap, cur, h1, h2, h3, h4, h5, h6, h7⟩
  · cases h1
    have : m = 0 := by omega
    subst this
    exact .inl ⟨rfl, rfl⟩
  · cases h1
    exact .inr ⟨g, c, cur, rfl, h2, h3, by omega, h5, h6, by rw [← h7, List.take_take, Nat.min_eq_left hle]⟩
theorem _root_.Go.Q.Own.extend {w : World} {B : Nat} {e : TypeId} {sz : Nat} {ad : Addr} {n c : Nat} {xs : List Value} (O : Own w B e sz (some ad) n c xs) {m : Nat} (hn : n ≤ m) (hm : m ≤ c) : ∃ ys : List Value, ys.length = (m - n) * sz ∧ Own w B e sz (some ad) m c (xs ++ ys) := by
  have hle : n * sz ≤ m * sz := Nat.mul_le_mul_right _ hn
  have hlc : m * sz ≤ c * sz := Nat.mul_le_mul_right _ hm
  rcases O.2 with ⟨h1, _⟩ | ⟨g, cap, cur, h1, h2, h3, h4, h5, h6, h7⟩
  · cases h1
  · cases h1
    have e1 : cur.toList.take (m * sz) = xs ++ (cur.toList.drop (n * sz)).take ((m - n) * sz) := by
      rw [← h7, Nat.sub_mul]
      conv => lhs; rw [show m * sz = n * sz + (m * sz - n * sz) by omega]
      rw [List.take_add]
    have hl : cur.toList.length = c * sz := by rw [Array.length_toList]; exact h6
    refine ⟨(cur.toList.drop (n * sz)).take ((m - n) * sz), ?_, ?_, .inr ⟨g, c, cur, rfl, h2, h3, hm, h5, h6, e1⟩⟩
    · rw [List.length_take, List.length_drop, hl, Nat.sub_mul]; omega
    · rw [← e1, List.length_take, hl]; omega
theorem _root_.Go.Q.Own.capn {w : World} {B : Nat} {e : TypeId} {sz : Nat} {a : Option Addr} {n c : Nat} {xs : List Value} (O : Own w B e sz a n c xs) : n ≤ c := by
  rcases O.2 with ⟨h1, h2⟩ | ⟨g, cap, cur, h1, h2, h3, h4, h5, h6, h7⟩
  · omega
  · cases h1; exact h4
abbrev fromH (sz : Nat) (a : Option Addr) (n c m : Nat) : Option Addr × Nat × Nat := (if c = m then a else a.map (·.add (m * sz)), n - m, c - m)
theorem sl_from {P : Program} {t e : TypeId} {z : Value} {sz bytes : Nat} (T : TyS P t e z sz bytes) {a : Option Addr} {n c m : Nat} {k : IntKind} {i : Int} {K : (Option Addr × Nat × Nat) → Prop} (hi : i = (m : Int)) (hm : m ≤ n) (hk : K (fromH sz a n c m)) :
    rdp P (Instr.sliceAt t (.slice a n c) (some (.int k i)) none none) (.one .slice) K := by
  subst hi
  refine ⟨_, fun w => ?_, hk⟩
  have ht : P.underlying t = some (.slice (P.elem t)) := by rw [T.elem]; exact T.ht
  rw [run_sliceAt_slice _ _ _ _ _ _ ht, run_slice_l _ _ _ _ _ ht _ _ (by omega) (by omega), T.elem, T.size]
  simp only [Result.andThen_ok, sliced, Int.toNat_natCast]
  rfl
theorem _root_.Go.Q.Own.dropSl {w : World} {B : Nat} {e : TypeId} {sz : Nat} {a : Option Addr} {n c : Nat} {xs : List Value} (O : Own w B e sz a n c xs) {m : Nat} (hm : m ≤ n) : Sl w (fromH sz a n c m).1 (fromH sz a n c m).2.1 (fromH sz a n c m).2.2 sz (xs.drop (m * sz)) := by
  have hc := O.capn
  have S := O.sl
  have hle : m * sz ≤ n * sz := Nat.mul_le_mul_right _ hm
  refine ⟨by rw [List.length_drop, O.1, Nat.sub_mul], by show n - m ≤ c - m; omega, by have := S.most; show c - m ≤ _; omega, fun q => ?_, fun j u hj => ?_⟩
  · have : a = none := by
      cases a with
      | none => rfl
      | some a => simp only [Option.map_some] at q; split at q <;> cases q
    have := S.nil' this
    exact ⟨by show n - m = 0; omega, by show c - m = 0; omega⟩
  · rw [List.getElem?_drop] at hj
    obtain ⟨ad, h1, h2, h3⟩ := S.at' _ _ hj
    subst h1
    have hne : c ≠ m := fun q => by
      have := (List.getElem?_eq_some_iff.1 hj).1
      have h1 := O.1
      have : n = m := by omega
      subst this
      omega
    refine ⟨ad.add (m * sz), by simp only [if_neg hne, Option.map_some], by rw [add_add]; exact h2, by rw [add_block]; exact h3⟩
theorem storeCells_from {P : Program} {sz : Nat} {ad : Addr} {c m : Nat} {vs : List Value} (w : World) (h : c = m → vs = []) : (storeCells (if c = m then ad else ad.add (m * sz)) vs 0).run P w = (storeCells ad vs (m * sz)).run P w := by
  by_cases q : c = m
  · rw [if_pos q, h q]; rfl
  · rw [if_neg q, storeCells_add]; rfl
theorem zeroC_len (z : Array Value) (n : Nat) : (Builtin.zeroCells z n).toList.length = n * z.size := by unfold Builtin.zeroCells; simp
theorem wr_clearTail {P : Program} {t e : TypeId} {z : Value} {sz bytes : Nat} (T : TyS P t e z sz bytes) {w : World} {B : Nat} {a : Option Addr} {n c m : Nat} {xs : List Value} {ty : TypeId} (O : Own w B e sz a n c xs) (hm : m ≤ n) (hz : z.cells.size = sz) (hzp : ∀ k, plainV (Builtin.zeroCells z.cells k).toList = true) {K : Value → World → Prop}
    (hk : ∀ v w', Own w' B e sz a m c (xs.take (m * sz)) → w.grownBy w' (blk a) → w'.heap.size = w.heap.size → K v w') :
    wr P (Builtin.clear_ #[t] ty #[.slice (fromH sz a n c m).1 (fromH sz a n c m).2.1 (fromH sz a n c m).2.2]) (.one .any) w K := by
  refine ⟨.tuple #[], ?_⟩
  have hc := O.capn
  by_cases hn : n = m
  · subst hn
    refine ⟨w, ?_, hk _ _ (O.shrink hm) (grown_refl _ _) rfl⟩
    show (Builtin.clear_ #[t] ty #[.slice _ (n - n) (c - n)]).run P w = _
    rw [Nat.sub_self]
    simp [Builtin.clear_, run_underlying T.ht]
    split <;> simp_all [VS.val, Sh.val]
  · cases a with
    | none =>
      have := (O.sl.nil' rfl).1
      omega
    | some ad =>
      have hne : c ≠ m := by omega
      obtain ⟨i, hi0, hz0, hz1, hz2⟩ := info_parts T.hi
      have hzv : ∀ w, (zeroValue e).run P w = .ok z w := fun w => by
        unfold zeroValue typeInfo
        simp only [Sem.run_bind, run_program, Result.andThen_ok, hi0, Sem.run_pure, hz0]
      have hl := O.1
      have hmn : m * sz + (n - m) * sz = n * sz := by rw [← Nat.add_mul]; congr 1; omega
      obtain ⟨w', h1, h2, h3, h4⟩ := run_storeOwnA (P := P) (Builtin.zeroCells z.cells (n - m)).toList (m * sz) w xs O (by rw [zeroC_len, hz]; omega) (hzp _)
      refine ⟨w', ?_, hk _ _ ?_ h3 h4⟩
      · show (Builtin.clear_ #[t] ty #[.slice (if c = m then some ad else some (ad.add (m * sz))) (n - m) (c - m)]).run P w = _
        rw [if_neg hne]
        obtain ⟨d, hd⟩ : ∃ d, n - m = d + 1 := ⟨n - m - 1, by omega⟩
        have hs := storeCells_from (P := P) (sz := sz) (ad := ad) (c := c) (m := m) (vs := (Builtin.zeroCells z.cells (n - m)).toList) w (fun q => absurd q hne)
        rw [if_neg hne, h1] at hs
        rw [hd] at hs ⊢
        simp [Builtin.clear_, run_underlying T.ht, hzv, hs]
        rfl
      · have O' := h2.shrink hm
        rw [putAt_take _ _ _ (by rw [zeroC_len, hz]; omega), List.append_assoc, List.take_append_of_le_length (by rw [List.length_take]; omega), List.take_take, Nat.min_self] at O'
        exact O'
theorem wr_copyFrom {P : Program} {t e : TypeId} {z : Value} {sz bytes : Nat} (T : TyS P t e z sz bytes) {w : World} {B : Nat} {ad : Addr} {b : Option Addr} {n c m c' d : Nat} {xs ys : List Value} {ty : TypeId} {k : Int → World → Prop}
    (O : Own w B e sz (some ad) n c xs) (hd : d ≤ n) (S : Sl w b m c' sz ys) (hpl : plainV (ys.take ((n - d) * sz)) = true)
    (hk : ∀ v w', Own w' B e sz (some ad) n c (putAt xs (d * sz) (ys.take ((n - d) * sz))) → w.grownBy w' (some ad.block) → w'.heap.size = w.heap.size → k v w') :
    wr P (Builtin.copy_ #[t, t] ty #[.slice (fromH sz (some ad) n c d).1 (fromH sz (some ad) n c d).2.1 (fromH sz (some ad) n c d).2.2, .slice b m c']) (.one (.int .i64)) w k := by
  obtain ⟨i, h1, _, h2, _⟩ := info_parts T.hi
  have hi : i.size = sz := h2
  have hxs := O.1
  have hys := S.len
  have hc := O.capn
  have hdn : d * sz + (n - d) * sz = n * sz := by rw [← Nat.add_mul]; congr 1; omega
  have hcl : (ys.take ((n - d) * sz)).length = (Nat.min m (n - d)) * sz := by
    rw [List.length_take, hys]
    show min ((n - d) * sz) (m * sz) = (min m (n - d)) * sz
    rcases Nat.le_total m (n - d) with q | q
    · rw [Nat.min_eq_left q, Nat.min_eq_right (Nat.mul_le_mul_right _ q)]
    · rw [Nat.min_eq_right q, Nat.min_eq_left (Nat.mul_le_mul_right _ q)]
  have hle : (ys.take ((n - d) * sz)).length ≤ (n - d) * sz := by rw [List.length_take]; omega
  obtain ⟨w', r1, r2, r3, r4⟩ := run_storeOwnA (P := P) (ys.take ((n - d) * sz)) (d * sz) w xs O (by omega) hpl
  have hst : (storeCells (if c = d then ad else ad.add (d * sz)) (ys.take ((n - d) * sz)) 0).run P w = .ok () w' := by
    rw [storeCells_from w (fun q => by
      have : n - d = 0 := by omega
      rw [this, Nat.zero_mul, List.take_zero])]
    exact r1
  refine ⟨((Nat.min m (n - d) : Nat) : Int), w', ?_, hk _ w' r2 r3 r4⟩
  have hif : (if c = d then some ad else Option.map (·.add (d * sz)) (some ad)) = some (if c = d then ad else ad.add (d * sz)) := by split <;> rfl
  show (Builtin.copy_ #[t, t] ty #[.slice (if c = d then some ad else Option.map (·.add (d * sz)) (some ad)) (n - d) (c - d), .slice b m c']).run P w = _
  rw [hif]
  generalize (if c = d then ad else ad.add (d * sz)) = q at hst
  cases b with
  | none =>
    have hm0 : m = 0 := (S.nil' rfl).1
    subst hm0
    have hy0 : ys = [] := List.eq_nil_of_length_eq_zero (by omega)
    subst hy0
    simp at hst
    simp [Builtin.copy_, run_underlying T.ht, Builtin.lenOf, Builtin.firstCells, sizeOf, typeInfo, h1, goInt, hst]; rfl
  | some b =>
    have hl := run_loadCells_list (P := P) w b (ys.take ((n - d) * sz)) (fun j v h => by
      have hj : ys[j]? = some v := by
        rw [List.getElem?_take] at h
        split at h
        · exact h
        · cases h
      obtain ⟨ad', q1, q2, _⟩ := S.at' j v hj
      cases q1; exact q2)
    rw [hcl] at hl
    simp [Builtin.copy_, run_underlying T.ht, Builtin.lenOf, Builtin.firstCells, sizeOf, typeInfo, h1, hi, hl, hst, goInt]; rfl
theorem _root_.Go.Q.Own.shape {w : World} {B : Nat} {e : TypeId} {sz : Nat} {ad : Addr} {n c : Nat} {xs : List Value} (O : Own w B e sz (some ad) n c xs) : w.shape? ad.block = some (e, c * sz) ∧ ∀ k, w.frozen? ⟨ad.block, k, none⟩ = false := by
  rcases O.2 with ⟨h1, h2⟩ | ⟨g, cap, cur, h1, h2, h3, h4, h5, h6, h7⟩
  · cases h1
  · cases h1
    exact ⟨by simp [World.shape?, h3, h6], fun k => by simp [World.frozen?, h3]⟩
theorem _root_.Go.Q.Own.head {w : World} {B : Nat} {e : TypeId} {sz : Nat} {ad : Addr} {n c : Nat} {xs : List Value} (O : Own w B e sz (some ad) n c xs) : ad = ⟨ad.block, 0, none⟩ := by
  rcases O.2 with ⟨h1, h2⟩ | ⟨g, cap, cur, h1, h2, h3, h4, h5, h6, h7⟩
  · cases h1
  · cases h1; rfl
theorem ext_overlaps {P : Program} {f : Nat} {fn : Func} {tS tR e : TypeId} {z : Value} {sz bytes : Nat} (T : TyS P tS e z sz bytes) (hf : P.funcs[f]? = some fn) (hname : (fn.name == "runtime.NumGoroutine") = false) (hb : fn.body.isNone = true) (hn : Extern.findNext fn = none) (he : Extern.find fn = some (Extern.SlicesOverlaps.overlaps #[tS, tS] #[tR]))
    {w : World} {B B' : Nat} {a b : Addr} {la ca n c d : Nat} {xs ys : List Value} (OA : Own w B e sz (some a) la ca xs) (OB : Own w B' e sz (some b) n c ys) (hne : a.block ≠ b.block) (hd : d < c) (hs : 0 < sz) {k : Bool → World → Prop} (hk : k false w) :
    extX P f [.slice (some a) la ca, .slice (fromH sz (some b) n c d).1 (fromH sz (some b) n c d).2.1 (fromH sz (some b) n c d).2.2] (.one (.one .bool)) w k := by
  refine ⟨false, w, ?_, hk⟩
  have h1 : (fromH sz (some b) n c d).1 = some (b.add (d * sz)) := by
    show (if c = d then _ else _) = _
    rw [if_neg (by omega)]; rfl
  rw [h1, run_callFunc_extern hf hname hb hn he]
  obtain ⟨sa, fa⟩ := OA.shape
  obtain ⟨sb, _⟩ := OB.shape
  have hsz : ∀ w, (Go.sizeOf e).run P w = .ok sz w := fun w => by
    obtain ⟨i, h1, _, h2, _⟩ := info_parts T.hi
    simp [sizeOf, typeInfo, h1, ← h2]
  have h0 : c * sz ≠ 0 := by
    have := Nat.mul_pos (show 0 < c by omega) hs
    omega
  have := Lib.run_overlaps_apart (P := P) w tS tR e T.ht sz hsz a (b.add (d * sz)) la ca (fromH sz (some b) n c d).2.1 (fromH sz (some b) n c d).2.2 (by rw [add_block]; exact hne) e e (ca * sz) (c * sz) sa (by rw [add_block]; exact sb) h0 (by rw [OA.head]; exact fa 0) (fa _)
  show ((Extern.SlicesOverlaps.overlaps #[tS, tS] #[tR] #[_, _]).run P w).andThen _ = _
  rw [this]; rfl
end Go.V

/- A run of transactions: slices.DeleteFunc on a row of writes. -/



namespace Go.Proofs.Ytcglflifaniolaa
open Go.RowKit Go.Q Go.V Go.Proofs.Sc

theorem keep_not {t : Nat} : ∀ {L : List Wr}, idxI (fun x : Wr => x.t == t) L = -1 → restR t L = L := by
  intro L h
  have := idxI_any (fun x : Wr => x.t == t) L
  rw [h] at this
  unfold restR
  refine List.filter_eq_self.2 fun x hx => ?_
  have h2 : L.any (fun x : Wr => x.t == t) = false := by rw [← this]; rfl
  rw [List.any_eq_false] at h2
  simpa using h2 x hx
theorem keep_idx {t i : Nat} {L : List Wr} (h : idxI (fun x : Wr => x.t == t) L = (i : Int)) : i < L.length ∧ restR t (L.take (i + 1)) = L.take i := by
  unfold idxI at h
  cases hf : L.findIdx? (fun x : Wr => x.t == t) with
  | none => rw [hf] at h; simp at h
  | some k =>
    rw [hf] at h
    have hk : k = i := by have : (k : Int) = (i : Int) := h; omega
    subst hk
    rw [List.findIdx?_eq_some_iff_getElem] at hf
    obtain ⟨h1, h2, h3⟩ := hf
    refine ⟨h1, ?_⟩
    rw [List.take_add_one, List.getElem?_eq_getElem h1]
    unfold restR
    show ((L.take k) ++ [L[k]]).filter _ = _
    rw [List.filter_append, List.filter_eq_self.2 (fun x hx => ?_), List.filter_cons_of_neg (by simpa using h2), List.filter_nil, List.append_nil]
    obtain ⟨j, hj, e⟩ := List.getElem_of_mem hx
    rw [List.length_take] at hj
    rw [List.getElem_take] at e
    have := h3 j (by omega)
    rw [← e]
    simpa using this
theorem restR_snoc (t : Nat) (L : List Wr) (x : Wr) : restR t (L ++ [x]) = restR t L ++ (if x.t = t then [] else [x]) := by
  unfold restR
  rw [List.filter_append, filter_one]
  congr 1
  by_cases h : x.t = t <;> simp [h]
theorem encW_plain (x : Wr) : plainV (encW x) = true := rfl
theorem zeroW_plain (k : Nat) : plainV (Builtin.zeroCells (Value.agg #[.int .i64 0, .int .i64 0, .int .i64 0]).cells k).toList = true := by
  unfold plainV
  rw [List.all_eq_true]
  intro x hx
  unfold Builtin.zeroCells at hx
  simp only [Array.toList_map, List.mem_map, Value.cells] at hx
  obtain ⟨i, _, rfl⟩ := hx
  have h3 : i % 3 < 3 := Nat.mod_lt _ (by omega)
  have h4 : i % 3 = 0 ∨ i % 3 = 1 ∨ i % 3 = 2 := by omega
  rcases h4 with h4 | h4 | h4 <;> simp [h4] <;> rfl
theorem isT_a (x : Wr) (t : Nat) (cap : Addr) (w : World) (C : Box w cap [.int .i64 ((t : Nat) : Int)]) :
    call Try.prog 48 [.agg #[.int .i64 x.v, .int .i64 ((x.t : Nat) : Int), .int .i64 ((x.c : Nat) : Int)], .pointer (some cap)] (.one (.one .bool)) w (fun (b : Bool) w' => b = (x.t == t) ∧ bel w w') := by
  refine call_of (S48_calls x.v x.t x.c cap w _ ?_)
  unfold S48
  refine wr_box fun x1 w2 X1 h2 _ _ => ?_
  replace X1 : Box w2 x1 (encW x) := X1
  refine rd_box (by kernel_rfl) X1 (i := 1) rfl rfl ?_
  refine rd_box0 (by kernel_rfl) (C.up h2) rfl rfl ?_
  refine ⟨_, rfl, ?_, h2⟩
  rw [Bool.eq_iff_iff, beq_iff_eq, beq_iff_eq]
  omega
theorem idxT_a (h : Hdr) (L : List Wr) (t : Nat) (cap : Addr) (w : World) (S : Sl w h.1 h.2.1 h.2.2 3 (L.flatMap encW)) (C : Box w cap [.int .i64 ((t : Nat) : Int)]) :
    call Try.prog 56 [.slice h.1 h.2.1 h.2.2, .func (.func 48) #[] #[.pointer (some cap)]] (.one (.one (.int .i64))) w (fun (x : Int) w' => x = idxI (fun x : Wr => x.t == t) L ∧ bel w w') := by
  refine call_of (S56a_calls h.1 h.2.1 h.2.2 cap w _ ?_)
  unfold S56a
  exact idx_aggs tyW (by kernel_rfl) encW_len (by omega) (l := [.int .i64, .int .i64, .int .i64]) (dec := fun p : Wr => (p.v, ((p.t : Nat) : Int), ((p.c : Nat) : Int), ())) (fun a => rfl) (fargs := fun x => [.agg #[.int .i64 x.1, .int .i64 x.2.1, .int .i64 x.2.2.1], .pointer (some cap)]) S (fun x : Wr => x.t == t) fun j x _ w' hb => isT_a x t cap w' (C.up hb)
set_option maxHeartbeats 1600000 in
theorem del_a (h : Hdr) (L : List Wr) (t : Nat) (cap : Addr) (w : World) {B : Nat} (O : Own w B 89 3 h.1 h.2.1 h.2.2 (L.flatMap encW)) (C : Box w cap [.int .i64 ((t : Nat) : Int)]) (hne : blk h.1 ≠ some cap.block) (hL : L.length ≤ 1000000) :
    call Try.prog 47 [.slice h.1 h.2.1 h.2.2, .func (.func 48) #[] #[.pointer (some cap)]] (.one (.one .slice)) w
      (fun (x : Hdr) w' => x = (h.1, (restR t L).length, h.2.2) ∧ Own w' B 89 3 h.1 (restR t L).length h.2.2 ((restR t L).flatMap encW) ∧ w.grownBy w' (blk h.1)) := by
  refine call_of (S47a_calls h.1 h.2.1 h.2.2 cap w _ ?_)
  unfold S47a
  have ol := O.1
  rw [flat_len encW_len] at ol
  have hn : L.length = h.2.1 := by omega
  refine call_mono (idxT_a h L t cap w O.sl C) ?_
  rintro (x1 : Int) w2 ⟨hx1, h2⟩
  have O2 : Own w2 B _ _ _ _ _ _ := O.kept h2
  have C2 := C.up h2
  by_cases hm1 : x1 = -1
  · rw [hx1] at hm1
    have hk := keep_not hm1
    rw [hk]
    refine br_eq (fun _ => ?_) (fun q => absurd (hx1.trans hm1) q)
    exact ⟨(h.1, h.2.1, h.2.2), rfl, by rw [hn], by rw [hn]; exact O2, grown_of_bel h2 _⟩
  refine br_eq (fun q => absurd q hm1) (fun _ => ?_)
  obtain ⟨i0, hi0⟩ : ∃ i0 : Nat, x1 = (i0 : Int) := by
    have := hx1
    unfold idxI at this
    cases hf : L.findIdx? (fun x : Wr => x.t == t) with
    | none => rw [hf] at this; simp at this; omega
    | some k => rw [hf] at this; exact ⟨k, by simpa using this⟩
  have hidx := keep_idx (hx1.symm.trans hi0)
  refine z_i64 (by omega) ?_
  refine loop_gh (G := Nat) (fun j s' w' => ∃ (i : Nat) (M : List Wr), s' = ((i : Int), (j : Int), ()) ∧ i < j ∧ j ≤ L.length ∧ M.length = L.length ∧ M.take i = restR t (L.take j) ∧ (∀ k, j ≤ k → M[k]? = L[k]?) ∧ Own w' B 89 3 h.1 h.2.1 h.2.2 (M.flatMap encW) ∧ Box w' cap [.int .i64 ((t : Nat) : Int)] ∧ w2.grownBy w' (blk h.1)) (fun j => L.length - j) (i0 + 1)
    ⟨i0, L, by rw [hi0]; rfl, by omega, by omega, rfl, hidx.2.symm, fun _ _ => rfl, O2, C2, grown_refl _ _⟩ ?_
  rintro j _ w6 ⟨i, M, rfl, hij, hjn, hM, hMt, hMd, O6, C6, hg6⟩ again hag _
  refine br_dec (fun e => ?_) (fun e => ?_)
  · dsimp only at e
    have hj : j < L.length := by omega
    obtain ⟨y, hy⟩ : ∃ y, L[j]? = some y := ⟨_, List.getElem?_eq_getElem hj⟩
    have hMy : M[j]? = some y := by rw [hMd j (Nat.le_refl _), hy]
    have hrest : restR t (L.take (j + 1)) = restR t (L.take j) ++ (if y.t = t then [] else [y]) := by rw [List.take_add_one, hy]; exact restR_snoc t _ y
    refine join_mk (fun (x : Int × Unit) w' => ∃ (i : Nat) (M : List Wr), x.1 = (i : Int) ∧ i < j + 1 ∧ M.length = L.length ∧ M.take i = restR t (L.take (j + 1)) ∧ (∀ k, j + 1 ≤ k → M[k]? = L[k]?) ∧ Own w' B 89 3 h.1 h.2.1 h.2.2 (M.flatMap encW) ∧ Box w' cap [.int .i64 ((t : Nat) : Int)] ∧ w2.grownBy w' (blk h.1)) (fun K8 hK => ?_) (fun x w' q => ?_)
    case refine_2 =>
      obtain ⟨i', M', q1, q2, q3, q4, q5, q6, q7, q8⟩ := q
      intro _
      refine z_i64 (by dsimp only; omega) ?_
      exact hag (j + 1) _ _ ⟨i', M', by rw [← q1]; rfl, q2, by omega, q3, q4, q5, q6, q7, q8⟩ (by omega)
    refine at_agg tyW (by kernel_rfl) encW_len (by omega) O6.sl (j := j) rfl hMy rfl ?_
    refine wr_alloc (z := .agg #[.int .i64 0, .int .i64 0, .int .i64 0]) (by kernel_rfl) fun x13 w14 X13 h14 hx13 _ => ?_
    refine wu_box X13 (by kernel_rfl) (Nat.le_refl 3) rfl fun w15 X13 hg15 _ => ?_
    replace X13 : Box w15 x13 (encW y) := X13
    have b15 : bel w6 w15 := h14.grownAt hg15 (by omega)
    refine rd_boxN X13 (by kernel_rfl) rfl ?_
    refine call_mono (isT_a y t cap w15 (C6.up b15)) ?_
    rintro (x17 : Bool) w18 ⟨hx17, h18⟩
    have b18 := b15.trans h18
    have O18 : Own w18 B _ _ _ _ _ _ := O6.kept b18
    have C18 := C6.up b18
    have g18 : w2.grownBy w18 (blk h.1) := hg6.trans (grown_of_bel b18 _)
    refine br_not (fun hb => ?_) (fun hb => ?_)
    · have hyt : y.t ≠ t := by rw [hb] at hx17; simpa using hx17.symm
      refine rd_boxN (X13.up h18) (by kernel_rfl) rfl ?_
      refine set_agg tyW encW_len O18 (j := i) (p := y) rfl (by omega) rfl (by omega) (encW_plain y) fun w21 O21 hg21 _ => ?_
      refine z_i64 (by omega) ?_
      refine hK _ _ ⟨i + 1, M.set i y, rfl, by omega, by rw [List.length_set]; exact hM, ?_, fun k hk => by rw [List.getElem?_set_ne (by omega)]; exact hMd k (by omega), O21, C18.grown hg21 (fun q => hne q.symm), g18.trans hg21⟩
      rw [hrest, if_neg hyt, ← hMt, List.take_add_one, List.getElem?_set_self (by omega), List.take_set_of_le (Nat.le_refl _)]; rfl
    · have hyt : y.t = t := by rw [hb] at hx17; simpa using hx17.symm
      refine hK _ _ ⟨i, M, rfl, by omega, hM, by rw [hrest, if_pos hyt, List.append_nil]; exact hMt, fun k hk => hMd k (by omega), O18, C18, g18⟩
  · dsimp only at e
    have hj : j = L.length := by omega
    subst hj
    rw [List.take_length] at hMt
    have hil : i = (restR t L).length := by rw [← hMt, List.length_take]; omega
    refine sl_from tyW (m := i) rfl (by omega) ?_
    refine wr_clearTail tyW O6 (by omega) rfl zeroW_plain fun v w25 O25 hg25 _ => ?_
    refine sl_to tyW (m := i) rfl (by have := O.capn; omega) ?_
    have et : (M.flatMap encW).take (i * 3) = (restR t L).flatMap encW := by
      rw [← hMt]
      conv => lhs; rw [← List.take_append_drop i M, List.flatMap_append]
      rw [List.take_append_of_le_length (by rw [flat_len encW_len, List.length_take]; omega), List.take_of_length_le (by rw [flat_len encW_len, List.length_take]; omega)]
    rw [et] at O25
    exact ⟨(h.1, i, h.2.2), rfl, by rw [← hil], by rw [← hil]; exact O25, ((grown_of_bel h2 _).trans hg6).trans hg25⟩
theorem isT_c (x : Wr) (t : Nat) (cap : Addr) (w : World) (C : Box w cap [.int .i64 ((t : Nat) : Int)]) :
    call Try.prog 54 [.agg #[.int .i64 x.v, .int .i64 ((x.t : Nat) : Int), .int .i64 ((x.c : Nat) : Int)], .pointer (some cap)] (.one (.one .bool)) w (fun (b : Bool) w' => b = (x.t == t) ∧ bel w w') := by
  refine call_of (S54_calls x.v x.t x.c cap w _ ?_)
  unfold S54
  refine wr_box fun x1 w2 X1 h2 _ _ => ?_
  replace X1 : Box w2 x1 (encW x) := X1
  refine rd_box (by kernel_rfl) X1 (i := 1) rfl rfl ?_
  refine rd_box0 (by kernel_rfl) (C.up h2) rfl rfl ?_
  refine ⟨_, rfl, ?_, h2⟩
  rw [Bool.eq_iff_iff, beq_iff_eq, beq_iff_eq]
  omega
theorem idxT_c (h : Hdr) (L : List Wr) (t : Nat) (cap : Addr) (w : World) (S : Sl w h.1 h.2.1 h.2.2 3 (L.flatMap encW)) (C : Box w cap [.int .i64 ((t : Nat) : Int)]) :
    call Try.prog 56 [.slice h.1 h.2.1 h.2.2, .func (.func 54) #[] #[.pointer (some cap)]] (.one (.one (.int .i64))) w (fun (x : Int) w' => x = idxI (fun x : Wr => x.t == t) L ∧ bel w w') := by
  refine call_of (S56c_calls h.1 h.2.1 h.2.2 cap w _ ?_)
  unfold S56c
  exact idx_aggs tyW (by kernel_rfl) encW_len (by omega) (l := [.int .i64, .int .i64, .int .i64]) (dec := fun p : Wr => (p.v, ((p.t : Nat) : Int), ((p.c : Nat) : Int), ())) (fun a => rfl) (fargs := fun x => [.agg #[.int .i64 x.1, .int .i64 x.2.1, .int .i64 x.2.2.1], .pointer (some cap)]) S (fun x : Wr => x.t == t) fun j x _ w' hb => isT_c x t cap w' (C.up hb)
set_option maxHeartbeats 1600000 in
theorem del_c (h : Hdr) (L : List Wr) (t : Nat) (cap : Addr) (w : World) {B : Nat} (O : Own w B 89 3 h.1 h.2.1 h.2.2 (L.flatMap encW)) (C : Box w cap [.int .i64 ((t : Nat) : Int)]) (hne : blk h.1 ≠ some cap.block) (hL : L.length ≤ 1000000) :
    call Try.prog 47 [.slice h.1 h.2.1 h.2.2, .func (.func 54) #[] #[.pointer (some cap)]] (.one (.one .slice)) w
      (fun (x : Hdr) w' => x = (h.1, (restR t L).length, h.2.2) ∧ Own w' B 89 3 h.1 (restR t L).length h.2.2 ((restR t L).flatMap encW) ∧ w.grownBy w' (blk h.1)) := by
  refine call_of (S47c_calls h.1 h.2.1 h.2.2 cap w _ ?_)
  unfold S47c
  have ol := O.1
  rw [flat_len encW_len] at ol
  have hn : L.length = h.2.1 := by omega
  refine call_mono (idxT_c h L t cap w O.sl C) ?_
  rintro (x1 : Int) w2 ⟨hx1, h2⟩
  have O2 : Own w2 B _ _ _ _ _ _ := O.kept h2
  have C2 := C.up h2
  by_cases hm1 : x1 = -1
  · rw [hx1] at hm1
    have hk := keep_not hm1
    rw [hk]
    refine br_eq (fun _ => ?_) (fun q => absurd (hx1.trans hm1) q)
    exact ⟨(h.1, h.2.1, h.2.2), rfl, by rw [hn], by rw [hn]; exact O2, grown_of_bel h2 _⟩
  refine br_eq (fun q => absurd q hm1) (fun _ => ?_)
  obtain ⟨i0, hi0⟩ : ∃ i0 : Nat, x1 = (i0 : Int) := by
    have := hx1
    unfold idxI at this
    cases hf : L.findIdx? (fun x : Wr => x.t == t) with
    | none => rw [hf] at this; simp at this; omega
    | some k => rw [hf] at this; exact ⟨k, by simpa using this⟩
  have hidx := keep_idx (hx1.symm.trans hi0)
  refine z_i64 (by omega) ?_
  refine loop_gh (G := Nat) (fun j s' w' => ∃ (i : Nat) (M : List Wr), s' = ((i : Int), (j : Int), ()) ∧ i < j ∧ j ≤ L.length ∧ M.length = L.length ∧ M.take i = restR t (L.take j) ∧ (∀ k, j ≤ k → M[k]? = L[k]?) ∧ Own w' B 89 3 h.1 h.2.1 h.2.2 (M.flatMap encW) ∧ Box w' cap [.int .i64 ((t : Nat) : Int)] ∧ w2.grownBy w' (blk h.1)) (fun j => L.length - j) (i0 + 1)
    ⟨i0, L, by rw [hi0]; rfl, by omega, by omega, rfl, hidx.2.symm, fun _ _ => rfl, O2, C2, grown_refl _ _⟩ ?_
  rintro j _ w6 ⟨i, M, rfl, hij, hjn, hM, hMt, hMd, O6, C6, hg6⟩ again hag _
  refine br_dec (fun e => ?_) (fun e => ?_)
  · dsimp only at e
    have hj : j < L.length := by omega
    obtain ⟨y, hy⟩ : ∃ y, L[j]? = some y := ⟨_, List.getElem?_eq_getElem hj⟩
    have hMy : M[j]? = some y := by rw [hMd j (Nat.le_refl _), hy]
    have hrest : restR t (L.take (j + 1)) = restR t (L.take j) ++ (if y.t = t then [] else [y]) := by rw [List.take_add_one, hy]; exact restR_snoc t _ y
    refine join_mk (fun (x : Int × Unit) w' => ∃ (i : Nat) (M : List Wr), x.1 = (i : Int) ∧ i < j + 1 ∧ M.length = L.length ∧ M.take i = restR t (L.take (j + 1)) ∧ (∀ k, j + 1 ≤ k → M[k]? = L[k]?) ∧ Own w' B 89 3 h.1 h.2.1 h.2.2 (M.flatMap encW) ∧ Box w' cap [.int .i64 ((t : Nat) : Int)] ∧ w2.grownBy w' (blk h.1)) (fun K8 hK => ?_) (fun x w' q => ?_)
    case refine_2 =>
      obtain ⟨i', M', q1, q2, q3, q4, q5, q6, q7, q8⟩ := q
      intro _
      refine z_i64 (by dsimp only; omega) ?_
      exact hag (j + 1) _ _ ⟨i', M', by rw [← q1]; rfl, q2, by omega, q3, q4, q5, q6, q7, q8⟩ (by omega)
    refine at_agg tyW (by kernel_rfl) encW_len (by omega) O6.sl (j := j) rfl hMy rfl ?_
    refine wr_alloc (z := .agg #[.int .i64 0, .int .i64 0, .int .i64 0]) (by kernel_rfl) fun x13 w14 X13 h14 hx13 _ => ?_
    refine wu_box X13 (by kernel_rfl) (Nat.le_refl 3) rfl fun w15 X13 hg15 _ => ?_
    replace X13 : Box w15 x13 (encW y) := X13
    have b15 : bel w6 w15 := h14.grownAt hg15 (by omega)
    refine rd_boxN X13 (by kernel_rfl) rfl ?_
    refine call_mono (isT_c y t cap w15 (C6.up b15)) ?_
    rintro (x17 : Bool) w18 ⟨hx17, h18⟩
    have b18 := b15.trans h18
    have O18 : Own w18 B _ _ _ _ _ _ := O6.kept b18
    have C18 := C6.up b18
    have g18 : w2.grownBy w18 (blk h.1) := hg6.trans (grown_of_bel b18 _)
    refine br_not (fun hb => ?_) (fun hb => ?_)
    · have hyt : y.t ≠ t := by rw [hb] at hx17; simpa using hx17.symm
      refine rd_boxN (X13.up h18) (by kernel_rfl) rfl ?_
      refine set_agg tyW encW_len O18 (j := i) (p := y) rfl (by omega) rfl (by omega) (encW_plain y) fun w21 O21 hg21 _ => ?_
      refine z_i64 (by omega) ?_
      refine hK _ _ ⟨i + 1, M.set i y, rfl, by omega, by rw [List.length_set]; exact hM, ?_, fun k hk => by rw [List.getElem?_set_ne (by omega)]; exact hMd k (by omega), O21, C18.grown hg21 (fun q => hne q.symm), g18.trans hg21⟩
      rw [hrest, if_neg hyt, ← hMt, List.take_add_one, List.getElem?_set_self (by omega), List.take_set_of_le (Nat.le_refl _)]; rfl
    · have hyt : y.t = t := by rw [hb] at hx17; simpa using hx17.symm
      refine hK _ _ ⟨i, M, rfl, by omega, hM, by rw [hrest, if_pos hyt, List.append_nil]; exact hMt, fun k hk => hMd k (by omega), O18, C18, g18⟩
  · dsimp only at e
    have hj : j = L.length := by omega
    subst hj
    rw [List.take_length] at hMt
    have hil : i = (restR t L).length := by rw [← hMt, List.length_take]; omega
    refine sl_from tyW (m := i) rfl (by omega) ?_
    refine wr_clearTail tyW O6 (by omega) rfl zeroW_plain fun v w25 O25 hg25 _ => ?_
    refine sl_to tyW (m := i) rfl (by have := O.capn; omega) ?_
    have et : (M.flatMap encW).take (i * 3) = (restR t L).flatMap encW := by
      rw [← hMt]
      conv => lhs; rw [← List.take_append_drop i M, List.flatMap_append]
      rw [List.take_append_of_le_length (by rw [flat_len encW_len, List.length_take]; omega), List.take_of_length_le (by rw [flat_len encW_len, List.length_take]; omega)]
    rw [et] at O25
    exact ⟨(h.1, i, h.2.2), rfl, by rw [← hil], by rw [← hil]; exact O25, ((grown_of_bel h2 _).trans hg6).trans hg25⟩
end Go.Proofs.Ytcglflifaniolaa
