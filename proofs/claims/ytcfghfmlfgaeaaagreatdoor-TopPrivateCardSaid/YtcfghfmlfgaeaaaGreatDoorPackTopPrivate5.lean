import Derived.KernelRfl
import Derived.Laws.BytesArg
import Derived.Test.YtcfghfmlfgaeaaaGreatDoorPackTopPrivate4

/- Tables in the making: rows of their own. -/

namespace Go.Proofs.YtcfghfmlfgaeaaaGreatDoor
open Go.RowKit Go.Q Go.V Go.Bag Go.Shelf

def hcells (n m nc : Nat) (bs : Nat → Addr) : List Value := (List.range n).map fun k => if k < m then Value.slice (some (bs k)) nc nc else .slice none 0 0
theorem hcells_get {n m nc : Nat} {bs : Nat → Addr} {k : Nat} (h : k < n) (hm : k < m) : (hcells n m nc bs)[k]? = some (.slice (some (bs k)) nc nc) := by
  unfold hcells; rw [List.getElem?_map, List.getElem?_range h]; simp [hm]
theorem hcells_set {n m nc : Nat} {bs : Nat → Addr} {a : Addr} (h : m < n) : (hcells n m nc bs).set m (.slice (some a) nc nc) = hcells n (m + 1) nc (fun k => if k = m then a else bs k) := by
  refine List.ext_getElem? fun k => ?_
  by_cases hk : k < n
  · by_cases e : k = m
    · subst e
      rw [List.getElem?_set_self (by unfold hcells; simpa using hk), hcells_get hk (by omega)]
      simp
    · rw [List.getElem?_set_ne (fun q => e q.symm)]
      unfold hcells
      rw [List.getElem?_map, List.getElem?_map, List.getElem?_range hk]
      by_cases h2 : k < m
      · simp [h2, e, show k < m + 1 by omega]
      · simp [h2, show ¬ k < m + 1 by omega]
  · rw [List.getElem?_eq_none (by unfold hcells; simpa using hk), List.getElem?_eq_none (by unfold hcells; simpa using hk)]
theorem hcells_made (n nc : Nat) (bs : Nat → Addr) : (madeCells (Value.slice none 0 0).cells (n * 1)).toList = hcells n 0 nc bs := by
  have e := made_flat (sz := 1) (enc := fun _ : Unit => [Value.slice none 0 0]) (fun _ => rfl) (by omega) () (Value.slice none 0 0).cells rfl n
  rw [e, ← List.map_eq_flatMap]
  refine List.ext_getElem? fun k => ?_
  unfold hcells
  rw [List.getElem?_map, List.getElem?_map, List.getElem?_replicate]
  by_cases hk : k < n
  · rw [if_pos hk, List.getElem?_range hk]; simp
  · rw [if_neg hk, List.getElem?_eq_none (by simpa using hk)]; rfl
structure TW (w : World) (B : Nat) (ad : Addr) (n m nc : Nat) (bs : Nat → Addr) (R : Nat → Rw) : Prop where
  own : Own w B 56 1 (some ad) n n (hcells n m nc bs)
  row : ∀ k, k < m → Own w B 55 3 (some (bs k)) nc nc ((R k).flatMap encV)
  two : ∀ k l, k < m → l < m → k ≠ l → (bs k).block ≠ (bs l).block
theorem TW.up {w w' : World} {B : Nat} {ad : Addr} {n m nc : Nat} {bs : Nat → Addr} {R : Nat → Rw} (H : TW w B ad n m nc bs R) (hb : bel w w') : TW w' B ad n m nc bs R :=
  ⟨Own.kept H.own hb, fun k hk => Own.kept (H.row k hk) hb, H.two⟩
theorem TW.len {w : World} {B : Nat} {ad : Addr} {n m nc : Nat} {bs : Nat → Addr} {R : Nat → Rw} (H : TW w B ad n m nc bs R) {k : Nat} (hk : k < m) : (R k).length = nc := by
  have := (H.row k hk).1; rw [flat_len encV_len] at this; omega
theorem TW.hd {w : World} {B : Nat} {ad : Addr} {n m nc : Nat} {bs : Nat → Addr} {R : Nat → Rw} (H : TW w B ad n m nc bs R) {i : Int} {k : Nat} (hi : i = (k : Int)) (hk : k < m) (hn : k < n) {K : Hdr → Prop} (hK : K (some (bs k), nc, nc)) :
    rdp Tryz.prog (Instr.indexAt 53 (.slice (some ad) n n) (.int .i64 i)) (.one .addr) fun a => rd Tryz.prog (Instr.loadAt 56 (.pointer (some a))) (.one .slice) w K :=
  at_mk (s := .slice) tyRows (by kernel_rfl) H.own.sl hi (hcells_get hn hk) (x := ((some (bs k), nc, nc) : Hdr)) rfl hK
theorem TW.make {w : World} {B : Nat} {ad : Addr} {n m nc : Nat} {bs : Nat → Addr} {R : Nat → Rw} (H : TW w B ad n m nc bs R) (hm : m < n) (hB : B ≤ w.heap.size) (hnc : nc ≤ 1000) {L C i : Int} (hL : L = (nc : Int)) (hC : C = (nc : Int)) (hi : i = (m : Int)) {K : World → Prop}
    (hK : ∀ a w', TW w' B ad n (m + 1) nc (fun k => if k = m then a else bs k) (fun k => if k = m then List.replicate nc zV else R k) → w.heap.size ≤ w'.heap.size → (∀ {a0 : World}, a0.heap.size ≤ B → bel a0 w → bel a0 w') → K w') :
    wr Tryz.prog (Instr.makeSlice 56 (.int .i64 L) (.int .i64 C)) (.one .slice) w fun (x29 : Hdr) w30 =>
      rdp Tryz.prog (Instr.indexAt 53 (.slice (some ad) n n) (.int .i64 i)) (.one .addr) fun (x31 : Addr) => wu Tryz.prog (Instr.storeAt 56 (.pointer (some x31)) (.slice x29.1 x29.2.1 x29.2.2)) w30 K := by
  refine wr_make tyV nc hL hC (by omega) (by unfold maxLen; omega) fun a w30 O h30 hbk hsz => ?_
  have O30 := O w.heap.size (Nat.le_refl _)
  rw [made_flat (enc := encV) encV_len (by omega) zV (Value.agg #[Value.int IntKind.i64 0, Value.int IntKind.i64 0, Value.string ByteArray.empty]).cells rfl nc] at O30
  have H30 := H.up h30
  refine set_mk tyRows H30.own (j := m) hi hm rfl fun w32 O32 g32 s32 => ?_
  rw [hcells_set hm] at O32
  have hlt : ∀ k, k < m → (bs k).block < w.heap.size := fun k hk => ((H.row k hk).lt _ rfl).2
  refine hK a w32 ⟨O32, fun k hk => ?_, fun k l hk hl hne => ?_⟩ (by omega) (fun {a0} ha hb0 => bel.own (hb0.trans h30) H30.own g32 ha)
  · by_cases e : k = m
    · subst e
      simp only [if_true]
      exact ownLe (keptO O30 H30.own (by decide) g32) hB
    · simp only [if_neg e]
      exact keptO (H30.row k (by omega)) H30.own (by decide) g32
  · by_cases e1 : k = m <;> by_cases e2 : l = m
    · omega
    · simp only [if_pos e1, if_neg e2]; have := hlt l (by omega); omega
    · simp only [if_neg e1, if_pos e2]; have := hlt k (by omega); omega
    · simp only [if_neg e1, if_neg e2]; exact H.two k l (by omega) (by omega) hne
theorem TW.set {w : World} {B : Nat} {ad : Addr} {n m nc : Nat} {bs : Nat → Addr} {R : Nat → Rw} (H : TW w B ad n m nc bs R) {k c : Nat} (hk : k < m) (hc : c < nc) {kk : IntKind} {i : Int} (hi : i = (c : Int)) (p : V3) {K : World → Prop}
    (hK : ∀ w', TW w' B ad n m nc bs (fun l => if l = k then (R k).set c p else R l) → w'.heap.size = w.heap.size → (∀ {a0 : World}, a0.heap.size ≤ B → bel a0 w → bel a0 w') → w.grownBy w' (blk (some (bs k))) → K w') :
    rdp Tryz.prog (Instr.indexAt 56 (.slice (some (bs k)) nc nc) (.int kk i)) (.one .addr) fun (x : Addr) => wu Tryz.prog (Instr.storeAt 55 (.pointer (some x)) (.agg (encV p).toArray)) w K := by
  have hl := H.len hk
  refine set_agg tyV encV_len (H.row k hk) hi (by omega) (p := p) rfl (by omega) rfl fun w' O' g' s' => ?_
  refine hK w' ⟨keptO H.own (H.row k hk) (by decide) g', fun l hl' => ?_, H.two⟩ s' (fun {a0} ha hb0 => bel.own hb0 (H.row k hk) g' ha) g'
  by_cases e : l = k
  · subst e; simp only [if_true]; exact O'
  · simp only [if_neg e]
    exact (H.row l hl').keptBy g' (.inr fun q => H.two l k hl' hk e (by injection q))
/-! ### tables that are done -/
def RowsST (w : World) (B : Nat) (h : Hdr) (R : Rows) : Prop :=
  ∃ hs : List Hdr, (ST w 56 h.1 h.2.1 h.2.2 1 (hs.map hv) ∧ ∀ ad, h.1 = some ad → B ≤ ad.block) ∧ hs.length = R.length ∧ ∀ (i : Nat) x r, hs[i]? = some x → R[i]? = some r → ST w 55 x.1 x.2.1 x.2.2 3 (r.flatMap encV) ∧ ∀ ad, x.1 = some ad → B ≤ ad.block
theorem RowsST.keep {w w' : World} {B : Nat} {h : Hdr} {R : Rows} {o : Option Nat} (H : RowsST w B h R) (hg : w.grownBy w' o) (h1 : ∀ (ad : Addr) (e : TypeId), e = 56 ∨ e = 55 → B ≤ ad.block → (∃ cur fz, w.heap[ad.block]? = some (.cells cur e fz)) → some ad.block ≠ o) : RowsST w' B h R := by
  obtain ⟨hs, ⟨q1, q1'⟩, q2, q3⟩ := H
  exact ⟨hs, ⟨q1.keep hg fun ad ha => h1 ad _ (.inl rfl) (q1' ad ha) (q1.ty ad ha), q1'⟩, q2, fun i x r a b => ⟨(q3 i x r a b).1.keep hg fun ad ha => h1 ad _ (.inr rfl) ((q3 i x r a b).2 ad ha) ((q3 i x r a b).1.ty ad ha), (q3 i x r a b).2⟩⟩
theorem RowsST.up {w w' : World} {B : Nat} {h : Hdr} {R : Rows} (H : RowsST w B h R) (hb : bel w w') : RowsST w' B h R := H.keep (grown_of_bel hb none) fun _ _ _ _ _ => by simp
theorem RowsST.at' {w : World} {B : Nat} {h : Hdr} {R : Rows} (H : RowsST w B h R) : RowsAt w h R := by
  obtain ⟨hs, ⟨q1, _⟩, q2, q3⟩ := H
  exact ⟨hs, q1.sl, q2, fun i x r a b => (q3 i x r a b).1.sl⟩
theorem RowsST.apart {w w' : World} {B B' : Nat} {h : Hdr} {R : Rows} {e' : TypeId} {sz' : Nat} {a' : Option Addr} {n' c' : Nat} {ys : List Value} (H : RowsST w B h R) (O : Own w B' e' sz' a' n' c' ys) (h1 : 56 ≠ e') (h2 : 55 ≠ e') (hg : w.grownBy w' (blk a')) : RowsST w' B h R := by
  refine H.keep hg fun ad e he _ ⟨cur, fz, hh⟩ q => ?_
  cases a' with
  | none => simp [blk] at q
  | some ad' =>
    obtain ⟨cur', fz', h'⟩ := Own.ty O ad' rfl
    have q' : ad.block = ad'.block := by simpa [blk] using q
    rw [q', h'] at hh
    injection hh with hh
    injection hh with _ hh _
    rcases he with rfl | rfl
    · exact h1 hh.symm
    · exact h2 hh.symm
theorem RowsST.keepB {w w' : World} {B b : Nat} {h : Hdr} {R : Rows} (H : RowsST w B h R) (hb : b < B) (hg : w.grownBy w' (some b)) : RowsST w' B h R :=
  H.keep hg fun ad _ _ hB _ q => by injection q; omega
theorem RowsST.le {w : World} {B B' : Nat} {h : Hdr} {R : Rows} (H : RowsST w B h R) (hB : B' ≤ B) : RowsST w B' h R := by
  obtain ⟨hs, ⟨q1, q1'⟩, q2, q3⟩ := H
  exact ⟨hs, ⟨q1, fun ad ha => Nat.le_trans hB (q1' ad ha)⟩, q2, fun i x r a b => ⟨(q3 i x r a b).1, fun ad ha => Nat.le_trans hB ((q3 i x r a b).2 ad ha)⟩⟩
theorem TW.done {w : World} {B : Nat} {ad : Addr} {n nc : Nat} {bs : Nat → Addr} {R : Nat → Rw} (H : TW w B ad n n nc bs R) : RowsST w B (some ad, n, n) ((List.range n).map R) := by
  refine ⟨(List.range n).map fun k => ((some (bs k), nc, nc) : Hdr), ⟨?_, fun a ha => by cases ha; exact (H.own.lt _ rfl).1⟩, by simp, fun i x r a b => ?_⟩
  · have e : ((List.range n).map fun k => ((some (bs k), nc, nc) : Hdr)).map hv = hcells n n nc bs := by
      unfold hcells
      rw [List.map_map]
      refine List.map_congr_left fun k hk => ?_
      simp [List.mem_range.1 hk, hv]
    rw [e]; exact Own.st H.own
  · have hi : i < n := by have := (List.getElem?_eq_some_iff.1 b).1; simpa using this
    rw [List.getElem?_map, List.getElem?_range hi] at a b
    cases a; cases b
    exact ⟨Own.st (H.row i hi), fun a ha => by cases ha; exact ((H.row i hi).lt _ rfl).1⟩
end Go.Proofs.YtcfghfmlfgaeaaaGreatDoor

/- Package privacy: Synthesise. -/

namespace Go.Proofs.YtcfghfmlfgaeaaaGreatDoor
open Go.RowKit Go.Q Go.V Go.Bag Go.Shelf

structure Row1 (Q : List (Nat × List St)) (t : TPar) (k : Nat) (f : Nat) (r : Rw) : Prop where
  len : r.length = t.nc
  id : r[0]? = some (keyV (k + 1))
  key : ∀ (g : Nat) j q, g < f → t.tos[g]? = some j → Q[j]? = some q → r[1 + t.nf + g]? = some (keyV (1 + k % q.1))
def FitCell (p : Int × Bool) (s : St) (v : V3) : Prop := v ∈ s.vals ∨ (v = zV ∧ p.2 = true)
structure Row2 (Q : List (Nat × List St)) (t : TPar) (ss : List St) (k c : Nat) (r : Rw) : Prop where
  one : Row1 Q t k t.tos.length r
  free : ∀ (j : Nat) p s v, 1 + j < c → t.free[j]? = some p → ss[1 + j]? = some s → r[1 + j]? = some v → FitCell p s v
structure MadeOk (D : List TPar) (Q : List (Nat × List St)) (I' : List Rows) : Prop where
  len : I'.length = D.length
  row : ∀ (i : Nat) t q R, D[i]? = some t → Q[i]? = some q → I'[i]? = some R → R.length = q.1 ∧ ∀ (n : Nat) r, R[n]? = some r → Row2 Q t q.2 n t.nc r
theorem rowlen_lt {t : TPar} {f : Nat} (h : f < t.tos.length) : 1 + t.nf + f < t.nc := by show 1 + t.free.length + f < 1 + t.free.length + t.tos.length; omega
theorem Row1.next {Q : List (Nat × List St)} {t : TPar} {k f : Nat} {r : Rw} (H : Row1 Q t k f r) (hf : f < t.tos.length) {to : Nat} {q : Nat × List St} (hto : t.tos[f]? = some to) (hq : Q[to]? = some q) : Row1 Q t k (f + 1) (r.set (1 + t.nf + f) (keyV (1 + k % q.1))) := by
  have hl := H.len
  have hlt := rowlen_lt hf
  refine ⟨by simpa using hl, by rw [List.getElem?_set_ne (by omega)]; exact H.id, fun g j q' hg hj hq' => ?_⟩
  by_cases e : g = f
  · subst e
    rw [hto] at hj; cases hj
    rw [hq] at hq'; cases hq'
    rw [List.getElem?_set_self (by omega)]
  · rw [List.getElem?_set_ne (by omega)]
    exact H.key g j q' (by omega) hj hq'
theorem Row2.next {Q : List (Nat × List St)} {t : TPar} {ss : List St} {k j : Nat} {r : Rw} (H : Row2 Q t ss k (1 + j) r) {p : Int × Bool} {s : St} {v : V3} (hp : t.free[j]? = some p) (hs : ss[1 + j]? = some s) (hv : FitCell p s v) : Row2 Q t ss k (1 + j + 1) (r.set (1 + j) v) := by
  have hl := H.one.len
  have hjl := (List.getElem?_eq_some_iff.1 hp).1
  have hnc : t.nc = 1 + t.free.length + t.tos.length := rfl
  have hnf : t.nf = t.free.length := rfl
  refine ⟨⟨by simpa using hl, by rw [List.getElem?_set_ne (by omega)]; exact H.one.id, fun g x q' hg hx hq' => by rw [List.getElem?_set_ne (by omega)]; exact H.one.key g x q' hg hx hq'⟩, fun j' p' s' v' hj' hp' hs' hv' => ?_⟩
  by_cases e : j' = j
  · subst e
    rw [hp] at hp'; cases hp'
    rw [hs] at hs'; cases hs'
    rw [List.getElem?_set_self (by omega)] at hv'; cases hv'
    exact hv
  · rw [List.getElem?_set_ne (by omega)] at hv'
    exact H.free j' p' s' v' (by omega) hp' hs' hv'
theorem Row2.skip {Q : List (Nat × List St)} {t : TPar} {ss : List St} {k c : Nat} {r : Rw} (H : Row2 Q t ss k c r) (hc : isFree t c = false) : Row2 Q t ss k (c + 1) r :=
  ⟨H.one, fun j p s v hj hp hs hv => by
    have hjl := (List.getElem?_eq_some_iff.1 hp).1
    unfold isFree at hc
    have := of_decide_eq_false hc
    have hnf : t.nf = t.free.length := rfl
    exact H.free j p s v (by omega) hp hs hv⟩
set_option maxRecDepth 10000 in
set_option maxHeartbeats 8000000 in
theorem synthesiseP {w : World} {h l : Hdr} {D : List TPar} {I : List Rows} {th : Int} {Q : List (Nat × List St)} (H : SchAt w h D) (hD : OkD D) (hm : ML w) (oI : OkI D I) (SA : StAt w l Q) (QO : QOk D I th Q) (seed : Int) :
    call Tryz.prog 9 [.agg #[.slice h.1 h.2.1 h.2.2], .slice l.1 l.2.1 l.2.2, .int .u64 seed] (.many [.agg [.slice], .one (.int .i64)]) w
      (fun (x : (Hdr × Unit) × Int × Unit) w' => bel w w' ∧ (x.2.1 = 12 ∨ (x.2.1 = 0 ∧ ∃ I', InsAt w' x.1.1 I' ∧ MadeOk D Q I'))) := by
  have hl := H.len
  have hd2 := hD.d2
  have hll := SA.len
  have hql := QO.len
  refine call_of (S9_calls h.1 h.2.1 h.2.2 l.1 l.2.1 l.2.2 seed w _ ?_)
  unfold S9
  refine wr_box fun x1 w2 X1 h2 _ _ => ?_
  replace X1 : Box w2 x1 [.slice h.1 h.2.1 h.2.2] := X1
  refine wr_alloc (z := .agg #[.slice none 0 0]) (by kernel_rfl) fun x3 w4 X3 h4 hx3b _ => ?_
  replace X3 : Box w4 x3 [.slice none 0 0] := X3
  replace X1 := X1.up h4
  have hb4 := h2.trans h4
  refine rd_boxN X1 (by kernel_rfl) rfl ?_
  refine call_mono (possibleP (H.up hb4) hD (hm.up hb4) oI (SA.up hb4) QO) ?_
  rintro (r : Int) w7 ⟨hr, h7⟩
  replace X1 := X1.up h7
  replace X3 := X3.up h7
  have X17 := X1
  have X17x3 := X3
  have hb7 := hb4.trans h7
  have hx3lt : x3.block < w7.heap.size := X3.lt
  have hx3 : w.heap.size ≤ x3.block := by have := h2.size; omega
  rcases hr.symm with rfl | ⟨rfl, hO⟩
  · refine br_t rfl ?_
    refine wu_box X3 (v := .agg #[.slice none 0 0]) (by kernel_rfl) (Nat.le_refl 1) rfl fun w8 X8 g8 _ => ?_
    replace X8 : Box w8 x3 [.slice none 0 0] := X8
    refine rd_boxV (l := [Sh.slice]) X8 (by kernel_rfl) (x := (((none, 0, 0) : Hdr), ())) rfl ?_
    exact ⟨((((none, 0, 0) : Hdr), ()), (12 : Int), ()), rfl, hb7.grownAt g8 hx3, .inl rfl⟩
  refine br_f rfl ?_
  refine wr_alloc (z := .agg #[.slice none 0 0]) (by kernel_rfl) fun x10 w11 X10 h11 hx10 _ => ?_
  replace X10 : Box w11 x10 [.slice none 0 0] := X10
  replace X1 := X1.up h11
  replace X3 := X3.up h11
  have hx10l := X10.lt
  have H11 := H.up (hb7.trans h11)
  have SA11 := SA.up (hb7.trans h11)
  have hb11 := hb7.trans h11
  refine rd_box0 (by kernel_rfl) X1 rfl rfl ?_
  refine loop_up D.length (fun i w' => bel w7 w' ∧ w11.heap.size ≤ w'.heap.size ∧ ∃ (out : Hdr) (LH : List Hdr) (RR : List Rows), Box w' x10 [.slice out.1 out.2.1 out.2.2] ∧ Own w' w11.heap.size 53 1 out.1 out.2.1 out.2.2 (LH.map hv) ∧ LH.length = i ∧ RR.length = i ∧
      (∀ (k : Nat) x R, LH[k]? = some x → RR[k]? = some R → RowsST w' w11.heap.size x R) ∧
      (∀ (k : Nat) t q R, D[k]? = some t → Q[k]? = some q → RR[k]? = some R → R.length = q.1 ∧ ∀ (n : Nat) r, R[n]? = some r → Row2 Q t q.2 n t.nc r))
    ⟨h11, Nat.le_refl _, (none, 0, 0), [], [], X10, Own.nil _ _ _ _, rfl, rfl, fun k x R e => by simp at e, fun k t q R _ _ e => by simp at e⟩ fun i w15 hi ⟨hb15, hz15, out, LH, RR, X10, OO, hLH, hRR, hT, hF⟩ again hag _ => ?_
  have hol : out.2.1 = i := by have := OO.1; simp at this; omega
  refine br_dec (fun e => ?_) (fun e => ?_)
  · dsimp only at e
    have hi' : i < D.length := by omega
    have hbw15 := hb7.trans hb15
    refine H.atB hbw15 rfl hi' fun x t ht T => ?_
    have ok := hD.each i t ht
    have hnc := T.nc
    have hnt := T.nt
    have hk2 := ok.k2
    have hle := nc_le ok
    have hncpos : 1 ≤ t.nc := by show 1 ≤ 1 + t.free.length + t.tos.length; omega
    obtain ⟨Rs, hRs⟩ : ∃ Rs, I[i]? = some Rs := ⟨_, List.getElem?_eq_getElem (by rw [oI.len]; exact hi')⟩
    obtain ⟨q, hq⟩ : ∃ q, Q[i]? = some q := ⟨_, List.getElem?_eq_getElem (by omega)⟩
    obtain ⟨e1, e2, hS⟩ := QO.at_ i t Rs q ht hRs hq
    have h20 := okI_few oI hRs
    refine var_mk (z := .agg zTb.toArray) (v := tbv x) (by kernel_rfl) (by kernel_rfl) rfl rfl fun x18 w20 X18 h20' _ => ?_
    replace X18 : Box w20 x18 (tbc x) := X18
    have hb20 := hbw15.trans h20'
    refine SA.rows hb20 rfl hq ?_
    refine wr_make tyRows q.1 rfl rfl (by omega) (by unfold maxLen; omega) fun ad w24 O24 h24 _ _ => ?_
    have O24' := O24 w20.heap.size (Nat.le_refl _)
    rw [hcells_made q.1 t.nc (fun _ => ad)] at O24'
    have hpos : ∀ (f to : Nat) (q2 : Nat × List St), t.tos[f]? = some to → Q[to]? = some q2 → ∀ n, n < q.1 → 0 < q2.1 := fun f to q2 hto hq2 n hn => by
      have hto2 := ok.to to (List.mem_of_getElem? hto)
      obtain ⟨t2, ht2⟩ : ∃ t2, D[to]? = some t2 := ⟨_, List.getElem?_eq_getElem (by omega)⟩
      obtain ⟨R2, hR2⟩ : ∃ Rs, I[to]? = some Rs := ⟨_, List.getElem?_eq_getElem (by rw [oI.len]; omega)⟩
      obtain ⟨f2, _, _⟩ := QO.at_ to t2 R2 q2 ht2 hR2 hq2
      obtain ⟨r0, hr0⟩ : ∃ r0, Rs[0]? = some r0 := ⟨_, List.getElem?_eq_getElem (by omega)⟩
      obtain ⟨m, R3, a1, a2, a3, a4⟩ := (oI.row i t Rs 0 r0 ht hRs hr0).key f to hto
      rw [hR2] at a3; cases a3
      omega
    -- the rows with their keys
    refine loop_up q.1 (fun n w' => bel w20 w' ∧ ∃ bs R, TW w' w20.heap.size ad q.1 n t.nc bs R ∧ ∀ k, k < n → Row1 Q t k t.tos.length (R k)) ⟨h24, fun _ => ad, fun _ => [], ⟨O24', fun k hk => by omega, fun k l hk => by omega⟩, fun k hk => by omega⟩ fun n w27 hn ⟨hb27, bs, R, TWn, hR1⟩ again2 hag2 _ => ?_
    refine br_dec (fun e => ?_) (fun e => ?_)
    · dsimp only at e
      have hn' : n < q.1 := by omega
      refine rd_box (by kernel_rfl) (X18.up hb27) (i := 1) rfl rfl ?_
      refine TWn.make hn' hb27.size (by omega) (by dsimp only; omega) (by dsimp only; omega) rfl fun a w32 TW32 hz32 hbel32 => ?_
      have hb32 := hbel32 (Nat.le_refl _) hb27
      refine drw_mk fun w33 h33 _ => ?_
      have hb33 := hb32.trans h33
      have TW33 := TW32.up h33
      refine flEx_mk (fun i ags v w' => i = 11 → ∃ z : Int, ags = [.int .i64 z] ∧ v = .agg (encV (1, z, ByteArray.empty)).toArray) (fun i ags v w1 w2 q hb => q) ?_
      refine TW33.hd (k := n) rfl (by omega) hn' ?_
      refine rd_box (by kernel_rfl) (X18.up hb33) (i := 2) rfl rfl ?_
      refine at_int tyI (by kernel_rfl) ((T.prim.up hb20).up hb33) (j := 0) rfl (by have := T.np; omega) fun y hy => ?_
      obtain rfl : 0 = y := by simpa using hy
      refine z_i64 (by dsimp only; omega) ?_
      refine flc_mk (fun w41 _ _ => ?_) (fun x45 => ?_)
      · refine call_mono (keyMk _) ?_
        rintro v w44 ⟨rfl, h44⟩
        exact ⟨h44, fun _ => ⟨_, rfl, rfl⟩⟩
      refine flend_mk fun w46 h46 f => ?_
      obtain ⟨zz, a1, a2⟩ := f.1 rfl
      have hzz : ((n : Int) + 1) = zz := by injection a1 with a1 _; injection a1
      subst hzz
      have hx45 : (Value.agg #[.int .i64 x45.1, .int .i64 x45.2.1, .string x45.2.2.1]) = .agg (encV (keyV (n + 1))).toArray := by
        rw [a2]
        show _ = Value.agg (encV (1, ((n + 1 : Nat) : Int), ByteArray.empty)).toArray
        rw [show ((n + 1 : Nat) : Int) = (n : Int) + 1 by omega]
      rw [hx45]
      have TW46 := TW33.up h46
      refine TW46.set (k := n) (c := 0) (by omega) (by omega) rfl (keyV (n + 1)) fun w49 TW49 s49 hbel49 _ => ?_
      have hb49 := hbel49 (Nat.le_refl _) (hb33.trans h46)
      have st : ∃ bs1 R1, TW w49 w20.heap.size ad q.1 (n + 1) t.nc bs1 R1 ∧ (∀ k, k < n → Row1 Q t k t.tos.length (R1 k)) ∧ Row1 Q t n 0 (R1 n) := by
        refine ⟨_, _, TW49, fun k hk => ?_, ?_⟩
        · simp only [if_neg (show ¬ k = n by omega)]
          exact hR1 k hk
        · simp only [if_true]
          exact ⟨by simp, by rw [List.getElem?_set_self (by simp; omega)], fun g j q' hg => by omega⟩
      clear TW49 TW46 TW33 TW32
      obtain ⟨bs1, R1, TW1, hA, hB⟩ := st
      refine rd_box (by kernel_rfl) (X18.up hb49) (i := 4) rfl rfl ?_
      refine loop_up t.tos.length (fun f w' => bel w20 w' ∧ ∃ R1, TW w' w20.heap.size ad q.1 (n + 1) t.nc bs1 R1 ∧ (∀ k, k < n → Row1 Q t k t.tos.length (R1 k)) ∧ Row1 Q t n f (R1 n)) ⟨hb49, R1, TW1, hA, hB⟩ fun f w53 hf ⟨hb53, R1, TW1, hA, hB⟩ again3 hag3 _ => ?_
      refine br_dec (fun e => ?_) (fun e => ?_)
      · dsimp only at e
        have hf' : f < t.tos.length := by omega
        refine (T.fors.up hb20).atB hb53 rfl hf' fun y to hto S => ?_
        have hto2 := ok.to to (List.mem_of_getElem? hto)
        obtain ⟨q2, hq2⟩ : ∃ q, Q[to]? = some q := ⟨_, List.getElem?_eq_getElem (by omega)⟩
        have hq2p := hpos f to q2 hto hq2 n hn'
        refine var_mk (z := .agg #[.slice none 0 0, .string ByteArray.empty]) (v := .agg #[.slice y.1 y.2.1 y.2.2, .string (nm 116 to)]) (by kernel_rfl) (by kernel_rfl) rfl rfl fun x56 w58 X56 h58 _ => ?_
        replace X56 : Box w58 x56 [.slice y.1 y.2.1 y.2.2, .string (nm 116 to)] := X56
        have hb58 := hb53.trans h58
        have hbw58 := hb20.trans hb58
        refine rd_boxN (X17.up ((hb15.trans h20').trans hb58)) (by kernel_rfl) rfl ?_
        refine call_mono (targetP (H.up hbw58) hD ht hto) ?_
        rintro (r : Int × Bool × Unit) w61 ⟨f1, _, h61⟩
        refine drw_mk fun w62 h62 _ => ?_
        have h5862 := h61.trans h62
        have hb62 := hb58.trans h5862
        have TW62 := TW1.up (h58.trans h5862)
        refine flEx_mk (fun i ags v w' => i = 17 → ∃ z : Int, ags = [.int .i64 z] ∧ v = .agg (encV (1, z, ByteArray.empty)).toArray) (fun i ags v w1 w2 q hb => q) ?_
        refine TW62.hd (k := n) rfl (by omega) hn' ?_
        refine rd_box0 (by kernel_rfl) (X56.up h5862) rfl rfl ?_
        refine at_int tyI (by kernel_rfl) (S.up hb62) (j := 0) rfl (by have := S.int; simp at this; omega) fun y1 hy => ?_
        obtain rfl : 1 + (t.nf : Int) + (f : Int) = y1 := by simpa using hy
        refine SA.rows (hb20.trans hb62) f1 hq2 ?_
        refine rdp_rem (by omega) ?_
        have hrm : (n : Int).tmod (q2.1 : Int) = ((n % q2.1 : Nat) : Int) := (Int.ofNat_tmod n q2.1).symm
        rw [hrm]
        have hmn : n % q2.1 < q2.1 := Nat.mod_lt _ hq2p
        have hmle : n % q2.1 ≤ n := Nat.mod_le _ _
        refine z_i64 (by omega) ?_
        refine flc_mk (fun w73 _ _ => ?_) (fun x77 => ?_)
        · refine call_mono (keyMk _) ?_
          rintro v w76 ⟨rfl, h76⟩
          exact ⟨h76, fun _ => ⟨_, rfl, rfl⟩⟩
        refine flend_mk fun w78 h78 f => ?_
        obtain ⟨zz, a1, a2⟩ := f.1 rfl
        have hzz : (1 + ((n % q2.1 : Nat) : Int)) = zz := by injection a1 with a1 _; injection a1
        subst hzz
        have hx77 : (Value.agg #[.int .i64 x77.1, .int .i64 x77.2.1, .string x77.2.2.1]) = .agg (encV (keyV (1 + n % q2.1))).toArray := by
          rw [a2]
          show _ = Value.agg (encV (1, ((1 + n % q2.1 : Nat) : Int), ByteArray.empty)).toArray
          rw [show ((1 + n % q2.1 : Nat) : Int) = 1 + ((n % q2.1 : Nat) : Int) by omega]
        rw [hx77]
        refine (TW62.up h78).set (k := n) (c := 1 + t.nf + _) (by omega) (rowlen_lt hf') (by omega) (keyV (1 + n % q2.1)) fun w81 TW81 s81 hbel81 _ => ?_
        refine z_i64 (by dsimp only; omega) ?_
        refine hag3 _ hf' ⟨hbel81 (Nat.le_refl _) (hb62.trans h78), _, TW81, fun k hk => ?_, ?_⟩
        · simp only [if_neg (show ¬ k = n by omega)]
          exact hA k hk
        · simp only [if_true]
          exact hB.next hf' hto hq2
      · dsimp only at e
        have hfn : f = t.tos.length := by omega
        subst hfn
        refine z_i64 (by dsimp only; omega) ?_
        refine hag2 _ hn' ⟨hb53, bs1, R1, TW1, fun k hk => ?_⟩
        by_cases hkn : k = n
        · subst hkn; exact hB
        · exact hA k (by omega)
    · dsimp only at e
      have hnq : n = q.1 := by omega
      subst hnq
      refine rd_box (by kernel_rfl) (X18.up hb27) (i := 1) rfl rfl ?_
      -- the free columns
      refine loop_up t.nc (fun c w' => bel w20 w' ∧ ∃ R, TW w' w20.heap.size ad q.1 q.1 t.nc bs R ∧ ∀ k, k < q.1 → Row2 Q t q.2 k c (R k)) ⟨hb27, R, TWn, fun k hk => ⟨hR1 k hk, fun j p s v h => by omega⟩⟩ fun c w87 hc ⟨hb87, R, TWc, hR2⟩ again3 hag3 _ => ?_
      refine br_dec (fun e => ?_) (fun e => ?_)
      · dsimp only at e
        have hc' : c < t.nc := by omega
        have hbw87 := hb20.trans hb87
        refine join_mk (fun _ w' => bel w20 w' ∧ ∃ R, TW w' w20.heap.size ad q.1 q.1 t.nc bs R ∧ ∀ k, k < q.1 → Row2 Q t q.2 k (c + 1) (R k)) (fun K hK => ?_) ?_
        · refine rd_boxN (X18.up hb87) (by kernel_rfl) rfl ?_
          refine call_mono (freeP (T.up hbw87) ok hc') ?_
          rintro b w94 ⟨rfl, h94⟩
          have hb94 := hb87.trans h94
          refine br_mk (fun e3 => ?_) (fun e3 => ?_)
          · exact hK _ _ ⟨hb94, R, TWc.up h94, fun k hk => (hR2 k hk).skip (by simpa using e3)⟩
          · have hfr : isFree t c = true := by simpa using e3
            unfold isFree at hfr
            have hfr2 := of_decide_eq_true hfr
            obtain ⟨j, rfl⟩ : ∃ j, c = 1 + j := ⟨c - 1, by omega⟩
            obtain ⟨p, hp⟩ : ∃ p, t.free[j]? = some p := ⟨_, List.getElem?_eq_getElem (by have : t.nf = t.free.length := rfl; omega)⟩
            obtain ⟨s, hs⟩ : ∃ s, q.2[1 + j]? = some s := ⟨_, List.getElem?_eq_getElem (by omega)⟩
            have SO := hS j p s hp hs
            have hsm := st_small SO h20
            have hOth := hO i t q j p s ht hq hp hs
            refine SA.colsB (hb20.trans hb94) rfl hq fun y Y => ?_
            refine Y.atB (hb20.trans hb94) rfl hs fun ch C => ?_
            refine call_mono (listP (C.up (hb20.trans hb94)) SO.len SO.pos (by omega)) ?_
            rintro (x99 : Hdr) w100 ⟨h100, L, LR, OL⟩
            have hLl : L.length = q.1 := by rw [LR.len, e1, ← SO.sum]; omega
            have hxl : x99.2.1 = q.1 := by rw [← hLl]; exact (RowAt.len OL.sl).symm
            refine z_eq rfl ?_
            refine z_eq rfl ?_
            refine z_eq rfl ?_
            refine z_eq rfl ?_
            refine z_eq rfl ?_
            rw [hxl]
            refine call_mono (shuffleP _ q.1 (by omega)) ?_
            rintro (x106 : Hdr × Int × Unit) w107 ⟨h107, ol, SR, OS⟩
            have hb107 := (hb94.trans h100).trans h107
            have hol2 : x106.1.2.1 = q.1 := by have := OS.sl.int; have := SR.len; omega
            have TW107 := ((TWc.up h94).up h100).up h107
            have OL107 := Own.kept OL h107
            have hbsl : ∀ k, k < q.1 → (bs k).block < w94.heap.size := fun k hk => ((( TWc.up h94).row k hk).lt _ rfl).2
            refine loop_up q.1 (fun n w' => bel w20 w' ∧ Own w' w94.heap.size 55 3 x99.1 x99.2.1 x99.2.2 (L.flatMap encV) ∧ Own w' w100.heap.size 3 1 x106.1.1 x106.1.2.1 x106.1.2.2 (ints .i64 ol) ∧ ∃ R, TW w' w20.heap.size ad q.1 q.1 t.nc bs R ∧ ∀ k, k < q.1 → (k < n → Row2 Q t q.2 k (1 + j + 1) (R k)) ∧ (n ≤ k → Row2 Q t q.2 k (1 + j) (R k)))
              ⟨hb107, OL107, OS, R, TW107, fun k hk => ⟨(fun h => by omega), fun _ => hR2 k hk⟩⟩ fun n w110 hn ⟨hb110, OL, OS, R, TWr, hR⟩ again4 hag4 _ => ?_
            refine br_dec (fun e => ?_) (fun e => ?_)
            · dsimp only at e
              have hn' : n < q.1 := by omega
              refine drw_mk fun w111 h111 _ => ?_
              have TW111 := TWr.up h111
              have OL111 := Own.kept OL h111
              have OS111 := Own.kept OS h111
              refine TW111.hd (k := n) rfl hn' hn' ?_
              obtain ⟨o, ho⟩ : ∃ o, ol[n]? = some o := ⟨_, List.getElem?_eq_getElem (by rw [SR.len]; exact hn')⟩
              have hor := SR.lt n o ho
              refine at_int tyI (by kernel_rfl) OS111.sl (j := n) rfl (by omega) fun z hz => ?_
              obtain rfl : o = z := by rw [ho] at hz; cases hz; rfl
              obtain ⟨on, rfl⟩ : ∃ on : Nat, o = (on : Int) := ⟨o.toNat, by omega⟩
              first
                | refine row_at (x := x99) (r := L) OL111.sl (j := on) rfl (by omega) fun v hv => ?_
                | refine row_at (x := ((x99.1, q.1, x99.2.2) : Hdr)) (r := L) (by show Sl w111 x99.1 q.1 x99.2.2 3 _; rw [← hxl]; exact OL111.sl) (j := on) rfl (by omega) fun v hv => ?_
              have hfit : FitCell p s v := by
                rcases LR.mem v (List.mem_of_getElem? hv) with a | ⟨a, b⟩
                · exact .inl a
                · refine .inr ⟨a, ?_⟩
                  rcases b with b | ⟨b, c⟩
                  · exact SO.nul b
                  · rcases hOth b with d | d
                    · exact d
                    · omega
              refine TW111.set (k := n) (c := 1 + j) hn' hc' rfl v fun w119 TW119 s119 hbel119 g119 => ?_
              refine z_i64 (by dsimp only; omega) ?_
              have hbn : (bs n).block < w94.heap.size := hbsl n hn'
              refine hag4 _ hn' ⟨hbel119 (Nat.le_refl _) (hb110.trans h111), OL111.keptBy g119 ?_, keptO OS111 (TW111.row n hn') (by decide) g119, _, TW119, fun k hk => ⟨fun hkn => ?_, fun hkn => ?_⟩⟩
              · cases hq' : blk x99.1 with
                | none => exact .inl rfl
                | some b => exact .inr fun qq => by have := (OL111.lt b hq').1; have : b = (bs n).block := by simpa [blk] using qq
                                                    omega
              · by_cases e4 : k = n
                · subst e4
                  simp only [if_true]
                  exact ((hR k hk).2 (Nat.le_refl _)).next hp hs hfit
                · simp only [if_neg e4]
                  exact (hR k hk).1 (by omega)
              · simp only [if_neg (show ¬ k = n by omega)]
                exact (hR k hk).2 (by omega)
            · dsimp only at e
              exact hK _ _ ⟨hb110, R, TWr, fun k hk => (hR k hk).1 (by omega)⟩
        · rintro _ w90 HH _
          refine z_i64 (by omega) ?_
          exact hag3 _ hc' HH
      · dsimp only at e
        have hcn : c = t.nc := by omega
        subst hcn
        have hb1587 := h20'.trans hb87
        have X10' := X10.up hb1587
        have OO' := Own.kept OO hb1587
        have hz87 : w11.heap.size ≤ w87.heap.size := Nat.le_trans hz15 hb1587.size
        refine rd_box0 (by kernel_rfl) X10' rfl rfl ?_
        refine wr_app1 tyTabs (v := .slice (some ad) q.1 q.1) OO' hz87 rfl (by omega) (by omega) rfl rfl (by omega) (by unfold maxLen; omega) fun a' c' w125 O125 g125 _ s125 => ?_
        have hx10n : some x10.block ≠ blk out.1 := fun qq => by have := (OO'.lt _ qq.symm).1; omega
        have X125 := X10'.grown g125 hx10n
        refine wu_box X125 (v := .slice a' (out.2.1 + 1) c') (by kernel_rfl) (Nat.le_refl 1) rfl fun w126 X126 g126 s126 => ?_
        replace X126 : Box w126 x10 [.slice a' (out.2.1 + 1) c'] := X126
        refine z_i64 (by dsimp only; omega) ?_
        have hblk : blk a' ≠ some x10.block := fun qq => by have := (O125.lt _ qq).1; omega
        have tr : ∀ {x : Hdr} {R : Rows}, RowsST w87 w11.heap.size x R → RowsST w126 w11.heap.size x R := fun q => (q.apart OO' (by decide) (by decide) g125).keepB hx10l g126
        refine hag _ hi' ⟨(bel.own (hb15.trans hb1587) OO' g125 (by have := h11.size; omega)).grownAt g126 (by omega), by omega, (a', out.2.1 + 1, c'), LH ++ [(some ad, q.1, q.1)], RR ++ [(List.range q.1).map R], X126, ?_, by simp [hLH], by simp [hRR], fun k u v q1 q2 => ?_, fun k t' q' R' r1 r2 r3 => ?_⟩
        · rw [List.map_append]
          exact O125.keptBy g126 (.inr hblk)
        · rcases Nat.lt_or_ge k i with qq | qq
          · rw [List.getElem?_append_left (by omega)] at q1 q2
            exact tr ((hT k u v q1 q2).up hb1587)
          · have hk : k = i := by have := (List.getElem?_eq_some_iff.1 q1).1; simp at this; omega
            subst hk
            rw [List.getElem?_append_right (by omega), hLH] at q1
            rw [List.getElem?_append_right (by omega), hRR] at q2
            simp at q1 q2
            subst q1; subst q2
            exact tr (TWc.done.le (Nat.le_trans hz15 h20'.size))
        · rcases Nat.lt_or_ge k i with qq | qq
          · rw [List.getElem?_append_left (by omega)] at r3
            exact hF k t' q' R' r1 r2 r3
          · have hk : k = i := by have := (List.getElem?_eq_some_iff.1 r3).1; simp at this; omega
            subst hk
            rw [List.getElem?_append_right (by omega), hRR] at r3
            simp at r3
            subst r3
            rw [ht] at r1; cases r1
            rw [hq] at r2; cases r2
            refine ⟨by simp, fun n r hr => ?_⟩
            have hn : n < q.1 := by have := (List.getElem?_eq_some_iff.1 hr).1; simpa using this
            rw [List.getElem?_map, List.getElem?_range hn] at hr
            cases hr
            exact hR2 n hn
  · dsimp only at e
    have hiD : i = D.length := by omega
    have hx3n : x3.block < w11.heap.size := Nat.lt_of_lt_of_le hx3lt h11.size
    refine rd_boxN X10 (by kernel_rfl) rfl ?_
    have X3' := X17x3.up hb15
    refine wu_box X3' (v := .agg #[.slice out.1 out.2.1 out.2.2]) (by kernel_rfl) (Nat.le_refl 1) rfl fun w129 X129 g129 _ => ?_
    replace X129 : Box w129 x3 [.slice out.1 out.2.1 out.2.2] := X129
    refine rd_boxV (l := [Sh.slice]) X129 (by kernel_rfl) (x := ((out : Hdr), ())) rfl ?_
    refine ⟨(((out : Hdr), ()), (0 : Int), ()), rfl, (hb7.trans hb15).grownAt g129 hx3, .inr ⟨rfl, RR, ⟨LH, (OO.keptBy g129 (.inr fun qq => by have := (OO.lt _ qq).1; omega)).sl, by omega, fun k u v q1 q2 => ((hT k u v q1 q2).keepB hx3n g129).at'⟩, ⟨by omega, hF⟩⟩⟩
end Go.Proofs.YtcfghfmlfgaeaaaGreatDoor

/- The reference: values, names, tables found, keys. -/

namespace Go.Proofs.YtcfghfmlfgaeaaaGreatDoor
open Go.RowKit Go.Q Go.V Go.Bag Go.Shelf

def resWords : List ByteArray := [⟨#[115, 101, 108, 101, 99, 116]⟩, ⟨#[100, 105, 115, 116, 105, 110, 99, 116]⟩, ⟨#[97, 108, 108]⟩, ⟨#[102, 114, 111, 109]⟩, ⟨#[119, 104, 101, 114, 101]⟩, ⟨#[103, 114, 111, 117, 112]⟩, ⟨#[98, 121]⟩, ⟨#[104, 97, 118, 105, 110, 103]⟩, ⟨#[97, 115]⟩, ⟨#[111, 110]⟩, ⟨#[117, 110, 105, 111, 110]⟩, ⟨#[101, 120, 99, 101, 112, 116]⟩, ⟨#[105, 110, 116, 101, 114, 115, 101, 99, 116]⟩, ⟨#[106, 111, 105, 110]⟩, ⟨#[105, 110, 110, 101, 114]⟩, ⟨#[108, 101, 102, 116]⟩, ⟨#[114, 105, 103, 104, 116]⟩, ⟨#[102, 117, 108, 108]⟩, ⟨#[99, 114, 111, 115, 115]⟩, ⟨#[115, 101, 109, 105]⟩, ⟨#[97, 110, 116, 105]⟩, ⟨#[97, 110, 100]⟩, ⟨#[111, 114]⟩, ⟨#[110, 111, 116]⟩, ⟨#[105, 115]⟩, ⟨#[110, 117, 108, 108]⟩, ⟨#[116, 114, 117, 101]⟩, ⟨#[102, 97, 108, 115, 101]⟩, ⟨#[105, 110]⟩, ⟨#[99, 97, 115, 101]⟩, ⟨#[119, 104, 101, 110]⟩, ⟨#[116, 104, 101, 110]⟩, ⟨#[101, 108, 115, 101]⟩, ⟨#[101, 110, 100]⟩, ⟨#[118, 97, 108, 117, 101, 115]⟩, ⟨#[116, 97, 98, 108, 101]⟩, ⟨#[112, 114, 105, 109, 97, 114, 121]⟩, ⟨#[117, 110, 105, 113, 117, 101]⟩, ⟨#[102, 111, 114, 101, 105, 103, 110]⟩, ⟨#[114, 101, 102, 101, 114, 101, 110, 99, 101, 115]⟩, ⟨#[99, 104, 101, 99, 107]⟩, ⟨#[105, 110, 116]⟩, ⟨#[98, 111, 111, 108]⟩, ⟨#[116, 101, 120, 116]⟩, ⟨#[99, 111, 117, 110, 116]⟩, ⟨#[115, 117, 109]⟩, ⟨#[109, 105, 110]⟩, ⟨#[109, 97, 120]⟩, ⟨#[99, 111, 97, 108, 101, 115, 99, 101]⟩, ⟨#[108, 101, 110, 103, 116, 104]⟩, ⟨#[115, 97, 109, 101]⟩, ⟨#[109, 111, 100]⟩]
theorem good_words : ∀ s ∈ goodNames, ∀ t ∈ resWords, t ≠ s := by decide +kernel
theorem tyStr : TyS Tryz.prog 146 9 (.string ByteArray.empty) 1 16 := ⟨by kernel_rfl, by kernel_rfl⟩
theorem reservedP {w : World} : call Tryz.prog 192 [] (.one (.one .slice)) w (fun (x : Hdr) w' => Sl w' x.1 x.2.1 x.2.2 1 (resWords.map Value.string) ∧ bel w w') := by
  refine call_of (S192_calls w _ ?_)
  unfold S192
  refine wr_lit tyStr (resWords.map Value.string).toArray (by kernel_rfl) (by omega) (by omega) rfl (by unfold maxLen; omega) fun ad w2 O h2 _ _ => ?_
  exact ⟨((some ad, 52, 52) : Hdr), rfl, (O _ (Nat.le_refl _)).sl, h2⟩
theorem at_str {w : World} {a : Option Addr} {n c j : Nat} {L : List ByteArray} (H : Sl w a n c 1 (L.map Value.string)) {i : Int} {s : ByteArray} {K : ByteArray → Prop} (hj : i = (j : Int)) (hs : L[j]? = some s) (hk : K s) :
    rdp Tryz.prog (Instr.indexAt 146 (.slice a n c) (.int .i64 i)) (.one .addr) fun ad => rd Tryz.prog (Instr.loadAt 9 (.pointer (some ad))) (.one .str) w K :=
  at_mk (s := .str) tyStr (by kernel_rfl) H hj (v := .string s) (by rw [List.getElem?_map, hs]; rfl) rfl hk
set_option maxHeartbeats 800000 in
theorem rnameP (s : ByteArray) (hs : s ∈ goodNames) (w : World) : call Tryz.prog 125 [.string s] (.one (.one .bool)) w (fun (b : Bool) w' => b = true ∧ bel w w') := by
  have h2 := good_size s hs
  have g0 := good_0 s hs
  have g1 := good_1 s hs
  refine call_of (S125_calls s w _ ?_)
  unfold S125
  refine br_dec (fun e => by omega) (fun _ => ?_)
  refine br_dec (fun e => by omega) (fun _ => ?_)
  refine atS (j := 0) rfl (by omega) ?_
  rw [get_data (by omega)]
  refine br_dec (fun e => by omega) (fun _ => ?_)
  refine atS (j := 0) rfl (by omega) ?_
  rw [get_data (by omega)]
  refine br_dec (fun e => by omega) (fun _ => ?_)
  refine loop_up 2 (fun i w1 => bel w w1) (bel.refl _) fun i w5 hi hb again hag _ => ?_
  refine br_dec (fun e => ?_) (fun e => ?_)
  · dsimp only at e
    have hi2 : i < 2 := by omega
    refine join_mk (fun _ w1 => bel w w1) (fun K hK => ?_) ?_
    · have hK' := hK () w5 hb
      have gi : (97 ≤ (s.data.toList.getD i 0).toNat ∧ (s.data.toList.getD i 0).toNat ≤ 122) ∨ (48 ≤ (s.data.toList.getD i 0).toNat ∧ (s.data.toList.getD i 0).toNat ≤ 57) := by
        have : i = 0 ∨ i = 1 := by omega
        rcases this with rfl | rfl
        · exact .inl g0
        · exact g1
      refine atS (j := i) rfl (by omega) ?_
      rw [get_data (by omega)]
      refine br_dec (fun e1 => ?_) (fun e1 => ?_)
      · refine atS (j := i) rfl (by omega) ?_
        rw [get_data (by omega)]
        refine br_dec (fun e2 => by omega) (fun _ => ?_)
        refine atS (j := i) rfl (by omega) ?_
        rw [get_data (by omega)]
        exact br_dec (fun e2 => by omega) (fun _ => hK')
      · refine atS (j := i) rfl (by omega) ?_
        rw [get_data (by omega)]
        exact br_dec (fun e2 => by omega) (fun _ => hK')
    · rintro _ w8 hb _
      refine z_i64 (by omega) ?_
      exact hag _ hi2 hb
  · refine call_mono reservedP ?_
    rintro (x20 : Hdr) w21 ⟨S, h21⟩
    have hxl : x20.2.1 = 52 := by have := S.len; simp at this; have : resWords.length = 52 := rfl; omega
    refine loop_up 52 (fun i w1 => bel w21 w1) (bel.refl _) fun i w24 hi hb2 again2 hag2 _ => ?_
    refine br_dec (fun e2 => ?_) (fun e2 => ⟨true, rfl, rfl, (hb.trans h21).trans hb2⟩)
    dsimp only at e2
    obtain ⟨t, ht⟩ : ∃ t, resWords[i]? = some t := ⟨_, List.getElem?_eq_getElem (by have : resWords.length = 52 := rfl; omega)⟩
    refine at_str (S.up hb2) rfl ht ?_
    refine eqS (br_f (decide_eq_false (good_words s hs t (List.mem_of_getElem? ht))) ?_)
    refine z_i64 (by dsimp only; omega) ?_
    exact hag2 _ (by omega) hb2
section
variable {w : World} {h : Hdr} {D : List TPar}
theorem rfindP (H : SchAt w h D) (hD : OkD D) {j : Nat} (hj : j < D.length) : call Tryz.prog 42 [.agg #[.slice h.1 h.2.1 h.2.2], .string (nm 116 j)] (.many [.one (.int .i64), .one .bool]) w (fun (x : Int × Bool × Unit) w' => x.1 = (j : Int) ∧ x.2.1 = true ∧ bel w w') := by
  have hl := H.len
  have h3 := hD.d2
  refine call_of (S42_calls h.1 h.2.1 h.2.2 (nm 116 j) w _ ?_)
  unfold S42
  refine wr_box fun x1 w2 X1 h2 _ _ => ?_
  replace X1 : Box w2 x1 [.slice h.1 h.2.1 h.2.2] := X1
  refine loop_up j (fun _ w' => bel w2 w') (bel.refl _) fun i w5 hi hb again hag _ => ?_
  refine rd_box0 (by kernel_rfl) (X1.up hb) rfl rfl ?_
  refine br_dec (fun e => ?_) (fun e => by dsimp only at e; omega)
  refine rd_box0 (by kernel_rfl) (X1.up hb) rfl rfl ?_
  refine ((H.up h2).up hb).nam rfl (by omega) ?_
  refine eqS (br_mk (fun e1 => ?_) (fun e1 => ?_))
  · have := nm_inj i (by omega) j (by omega) (of_decide_eq_true e1)
    subst this
    exact ⟨((i : Int), true, ()), rfl, rfl, rfl, h2.trans hb⟩
  · have hne : i ≠ j := by rintro rfl; simp at e1
    refine z_i64 (by dsimp only; omega) ?_
    exact hag _ (by omega) hb
theorem rtargetP (H : SchAt w h D) (hD : OkD D) {i k to : Nat} {t : TPar} (ht : D[i]? = some t) (hk : t.tos[k]? = some to) :
    call Tryz.prog 20 [.agg #[.slice h.1 h.2.1 h.2.2], .int .i64 (i : Int), .int .i64 (k : Int)] (.many [.one (.int .i64), .one .bool]) w (fun (x : Int × Bool × Unit) w' => x.1 = (to : Int) ∧ x.2.1 = true ∧ bel w w') := by
  have hl := H.len
  have hi : i < D.length := (List.getElem?_eq_some_iff.1 ht).1
  have hkl : k < t.tos.length := (List.getElem?_eq_some_iff.1 hk).1
  refine call_of (S20_calls h.1 h.2.1 h.2.2 i k w _ ?_)
  unfold S20
  refine wr_box fun x1 w2 X1 h2 _ _ => ?_
  replace X1 : Box w2 x1 [.slice h.1 h.2.1 h.2.2] := X1
  replace H := H.up h2
  refine br_dec (fun e => by omega) (fun _ => ?_)
  refine rd_box0 (by kernel_rfl) X1 rfl rfl ?_
  refine br_dec (fun e => by dsimp only at e; omega) (fun _ => ?_)
  refine br_dec (fun e => by omega) (fun _ => ?_)
  refine rd_box0 (by kernel_rfl) X1 rfl rfl ?_
  refine H.fld (o := 4) rfl hi (by kernel_rfl) fun x t' ht' T => ⟨x.2.2.2.2.1, rfl, ?_⟩
  obtain rfl : t = t' := by rw [ht] at ht'; cases ht'; rfl
  refine br_dec (fun e => by have := T.nt; omega) (fun _ => ?_)
  refine drw_mk fun w7 h7 _ => ?_
  replace X1 := X1.up h7
  replace H := H.up h7
  refine rd_boxN X1 (by kernel_rfl) rfl ?_
  refine rd_box0 (by kernel_rfl) X1 rfl rfl ?_
  refine H.fld (o := 4) rfl hi (by kernel_rfl) fun x t' ht' T => ⟨x.2.2.2.2.1, rfl, ?_⟩
  obtain rfl : t = t' := by rw [ht] at ht'; cases ht'; rfl
  refine T.fors.nam rfl hkl fun to' hto => ?_
  obtain rfl : to = to' := by rw [hk] at hto; cases hto; rfl
  have hto2 := (hD.each i t ht).to to (List.mem_of_getElem? hk)
  refine call_mono (rfindP H hD (j := to) (by omega)) ?_
  rintro (x : Int × Bool × Unit) w15 ⟨e1, e2, hb⟩
  exact ⟨x, rfl, e1, e2, (h2.trans h7).trans hb⟩
end
section
variable {w : World} {i : Nat} {x : TH} {t : TPar}
theorem rcolumnP (T : TbAt w i x t) (ok : t.Ok i) {c : Nat} {y : Col} (hc : t.cols[c]? = some y) :
    call Tryz.prog 193 [tbv x, .string y.1] (.many [.one (.int .i64), .one .bool]) w (fun (r : Int × Bool × Unit) w' => r.1 = (c : Int) ∧ r.2.1 = true ∧ bel w w') := by
  have hn := T.nc
  have hle := nc_le ok
  have hcl : c < t.nc := by have := (List.getElem?_eq_some_iff.1 hc).1; rwa [cols_len] at this
  refine call_of (S193_calls x.1 x.2.1.1 x.2.1.2.1 x.2.1.2.2 x.2.2.1.1 x.2.2.1.2.1 x.2.2.1.2.2 x.2.2.2.1.1 x.2.2.2.1.2.1 x.2.2.2.1.2.2 x.2.2.2.2.1.1 x.2.2.2.2.1.2.1 x.2.2.2.2.1.2.2 x.2.2.2.2.2.1.1 x.2.2.2.2.2.1.2.1 x.2.2.2.2.2.1.2.2 y.1 w _ ?_)
  unfold S193
  refine wr_box fun x1 w2 X1 h2 _ _ => ?_
  replace X1 : Box w2 x1 (tbc x) := X1
  refine loop_up c (fun _ w' => bel w2 w') (bel.refl _) fun j w5 hj hb again hag _ => ?_
  refine rd_box (by kernel_rfl) (X1.up hb) (i := 1) rfl rfl ?_
  refine br_dec (fun e => ?_) (fun e => by dsimp only at e; omega)
  refine rd_box (by kernel_rfl) (X1.up hb) (i := 1) rfl rfl ?_
  obtain ⟨z, hz⟩ : ∃ z, t.cols[j]? = some z := ⟨_, List.getElem?_eq_getElem (by rw [cols_len]; omega)⟩
  refine ColsAt.nam ((T.cols.up h2).up hb) rfl hz ?_
  refine eqS (br_mk (fun e1 => ?_) (fun e1 => ?_))
  · have := col_inj ok hz hc (of_decide_eq_true e1)
    subst this
    exact ⟨((j : Int), true, ()), rfl, rfl, rfl, h2.trans hb⟩
  · have hne : j ≠ c := by
      rintro rfl
      rw [hc] at hz; cases hz; simp at e1
    refine z_i64 (by dsimp only; omega) ?_
    exact hag _ (by omega) hb
theorem rkeyP (T : TbAt w i x t) (ok : t.Ok i) {c : Nat} (hc : c < t.nc) :
    call Tryz.prog 7 [tbv x, .int .i64 (c : Int)] (.one (.one .bool)) w (fun (b : Bool) w' => b = !isFree t c ∧ bel w w') := by
  have hn := T.nc
  have hp := T.np
  have hnt := T.nt
  have hk2 := ok.k2
  have hnn : t.nc = 1 + t.nf + t.tos.length := rfl
  refine call_of (S7_calls x.1 x.2.1.1 x.2.1.2.1 x.2.1.2.2 x.2.2.1.1 x.2.2.1.2.1 x.2.2.1.2.2 x.2.2.2.1.1 x.2.2.2.1.2.1 x.2.2.2.1.2.2 x.2.2.2.2.1.1 x.2.2.2.2.1.2.1 x.2.2.2.2.1.2.2 x.2.2.2.2.2.1.1 x.2.2.2.2.2.1.2.1 x.2.2.2.2.2.1.2.2 c w _ ?_)
  unfold S7
  refine wr_box fun x1 w2 X1 h2 _ _ => ?_
  replace X1 : Box w2 x1 (tbc x) := X1
  refine loop_up 1 (fun j w' => bel w2 w' ∧ (1 ≤ j → c ≠ 0)) ⟨bel.refl _, fun h => by omega⟩ fun j w5 hj ⟨hb, hc0⟩ again hag _ => ?_
  refine rd_box (by kernel_rfl) (X1.up hb) (i := 2) rfl rfl ?_
  refine br_dec (fun e => ?_) (fun e => ?_)
  · have hj0 : j = 0 := by dsimp only at e; omega
    subst hj0
    refine rd_box (by kernel_rfl) (X1.up hb) (i := 2) rfl rfl ?_
    refine at_int tyI (by kernel_rfl) ((T.prim.up h2).up hb) (j := 0) rfl (by omega) fun y hy => ?_
    obtain rfl : 0 = y := by simpa using hy
    refine br_eq (fun e1 => ?_) (fun e1 => ?_)
    · refine ⟨true, rfl, ?_, h2.trans hb⟩
      unfold isFree
      rw [decide_eq_false (by omega)]; rfl
    · refine z_i64 (by omega) ?_
      exact hag _ (by omega) ⟨hb, fun _ => by omega⟩
  · have hj1 : j = 1 := by dsimp only at e; omega
    have hc1 := hc0 (by omega)
    refine loop_up t.tos.length (fun f w' => bel w2 w' ∧ ∀ g, g < f → c ≠ 1 + t.nf + g) ⟨hb, fun g h => by omega⟩ fun f w13 hf ⟨hb, hg⟩ again2 hag2 _ => ?_
    refine rd_box (by kernel_rfl) (X1.up hb) (i := 4) rfl rfl ?_
    refine br_dec (fun e => ?_) (fun e => ?_)
    · dsimp only at e
      have hf' : f < t.tos.length := by omega
      refine loop_up 1 (fun j w' => bel w2 w' ∧ (1 ≤ j → c ≠ 1 + t.nf + f)) ⟨hb, fun h => by omega⟩ fun j w17 hj ⟨hb, hcf⟩ again3 hag3 _ => ?_
      refine rd_box (by kernel_rfl) (X1.up hb) (i := 4) rfl rfl ?_
      refine ForsAt.col ((T.fors.up h2).up hb) rfl hf' fun y S => ?_
      have hy1 : y.2.1 = 1 := by have := S.int; simpa using this.symm
      refine br_dec (fun e => ?_) (fun e => ?_)
      · have hj0 : j = 0 := by dsimp only at e; omega
        subst hj0
        refine rd_box (by kernel_rfl) (X1.up hb) (i := 4) rfl rfl ?_
        refine ForsAt.col ((T.fors.up h2).up hb) rfl hf' fun y S => ?_
        have hy1 : y.2.1 = 1 := by have := S.int; simpa using this.symm
        refine at_int tyI (by kernel_rfl) S (j := 0) rfl (by omega) fun v hv => ?_
        obtain rfl : 1 + (t.nf : Int) + (f : Int) = v := by simpa using hv
        refine br_eq (fun e1 => ?_) (fun e1 => ?_)
        · refine ⟨true, rfl, ?_, h2.trans hb⟩
          unfold isFree
          rw [decide_eq_false (by omega)]; rfl
        · refine z_i64 (by omega) ?_
          exact hag3 _ (by omega) ⟨hb, fun _ => by omega⟩
      · have hj1 : j = 1 := by dsimp only at e; omega
        refine z_i64 (by dsimp only; omega) ?_
        refine hag2 _ hf' ⟨hb, fun g hg' => ?_⟩
        by_cases hgf : g = f
        · subst hgf; exact hcf (by omega)
        · exact hg g (by omega)
    · dsimp only at e
      refine ⟨false, rfl, ?_, h2.trans hb⟩
      unfold isFree
      have : 1 ≤ c ∧ c ≤ t.nf := by
        refine ⟨by omega, ?_⟩
        rcases Nat.lt_or_ge t.nf c with q | q
        · exact absurd (show c = 1 + t.nf + (c - 1 - t.nf) by omega) (hg _ (by omega))
        · exact q
      rw [decide_eq_true this]; rfl
end
theorem sameP (a b : V3) (w : World) : call Tryz.prog 14 [.agg (encV a).toArray, .agg (encV b).toArray] (.one (.one .bool)) w (fun (r : Bool) w' => r = decide (a = b) ∧ bel w w') := by
  refine call_of (S14_calls a.1 a.2.1 a.2.2 b.1 b.2.1 b.2.2 w _ ?_)
  unfold S14
  refine wr_box fun x1 w2 X1 h2 _ _ => ?_
  refine wr_box fun x3 w4 X3 h4 _ _ => ?_
  replace X1 : Box w4 x1 (encV a) := Box.up (show Box w2 x1 (encV a) from X1) h4
  replace X3 : Box w4 x3 (encV b) := X3
  refine rd_boxN X1 (by kernel_rfl) rfl ?_
  refine rd_boxN X3 (by kernel_rfl) rfl ?_
  refine call_mono (comp01 a b w4) fun (n : Int) w8 ⟨en, h8⟩ => ?_
  refine ⟨_, rfl, ?_, (h2.trans h4).trans h8⟩
  rw [en, Bool.eq_iff_iff]
  simp only [beq_iff_eq, decide_eq_true_eq]
  exact cmpV_to.eq a b
end Go.Proofs.YtcfghfmlfgaeaaaGreatDoor

/- The reference: valid values, valid schemas. -/

namespace Go.Proofs.YtcfghfmlfgaeaaaGreatDoor
open Go.RowKit Go.Q Go.V Go.Bag Go.Shelf

theorem okT_size : ∀ s, okT s → s.size ≤ 1 := by rintro s (rfl | rfl | rfl) <;> decide
theorem okT_ch : ∀ s, okT s → 1 ≤ s.size → 97 ≤ (s.data.toList.getD 0 0).toNat ∧ (s.data.toList.getD 0 0).toNat ≤ 98 := by
  rintro s (rfl | rfl | rfl) h
  · exact absurd h (by decide)
  · exact ⟨by decide, by decide⟩
  · exact ⟨by decide, by decide⟩
theorem rvalidP (v : V3) (hv : SmallV v) (w : World) : call Tryz.prog 127 [.agg (encV v).toArray] (.one (.one .bool)) w (fun (b : Bool) w' => b = true ∧ bel w w') := by
  refine call_of (S127_calls v.1 v.2.1 v.2.2 w _ ?_)
  unfold S127
  refine wr_box fun x1 w2 X1 h _ _ => ?_
  replace X1 : Box w2 x1 (encV v) := X1
  refine rd_box0 (by kernel_rfl) X1 rfl rfl ?_
  rcases hv with rfl | ⟨a, b, c, d⟩ | ⟨a, b, d⟩ | ⟨a, b, d⟩
  · refine br_t rfl ?_
    refine rd_box (by kernel_rfl) X1 (i := 1) rfl rfl ?_
    refine br_t rfl ?_
    refine rd_box (by kernel_rfl) X1 (i := 2) rfl rfl ?_
    exact eqS ⟨true, by rw [emptyS]; rfl, rfl, h⟩
  · refine br_f (by rw [a]; rfl) ?_
    refine br_t (by rw [a]; rfl) ?_
    refine rd_box (by kernel_rfl) X1 (i := 1) rfl rfl ?_
    refine br_dec (fun _ => ?_) (fun e => absurd (by omega) e)
    refine rd_box (by kernel_rfl) X1 (i := 1) rfl rfl ?_
    refine br_dec (fun _ => ?_) (fun e => absurd (by omega) e)
    refine rd_box (by kernel_rfl) X1 (i := 2) rfl rfl ?_
    rw [d]
    exact eqS ⟨true, by rw [emptyS]; rfl, rfl, h⟩
  · refine br_f (by rw [a]; rfl) ?_
    refine br_f (by rw [a]; rfl) ?_
    refine br_t (by rw [a]; rfl) ?_
    refine rd_box (by kernel_rfl) X1 (i := 1) rfl rfl ?_
    refine br_eq (fun e => ?_) (fun e => ?_)
    · refine rd_box (by kernel_rfl) X1 (i := 2) rfl rfl ?_
      rw [d]
      exact eqS ⟨true, by rw [emptyS]; rfl, rfl, h⟩
    · refine rd_box (by kernel_rfl) X1 (i := 1) rfl rfl ?_
      refine br_eq (fun _ => ?_) (fun e2 => by omega)
      refine rd_box (by kernel_rfl) X1 (i := 2) rfl rfl ?_
      rw [d]
      exact eqS ⟨true, by rw [emptyS]; rfl, rfl, h⟩
  · have hsz := okT_size _ d
    have hch := okT_ch _ d
    refine br_f (by rw [a]; rfl) ?_
    refine br_f (by rw [a]; rfl) ?_
    refine br_f (by rw [a]; rfl) ?_
    refine br_t (by rw [a]; rfl) ?_
    refine rd_box (by kernel_rfl) X1 (i := 1) rfl rfl ?_
    refine br_ne (fun e => absurd b e) (fun _ => ?_)
    refine rd_box (by kernel_rfl) X1 (i := 2) rfl rfl ?_
    refine br_dec (fun e => by omega) (fun _ => ?_)
    refine loop_up v.2.2.size (fun _ w' => bel w2 w') (bel.refl _) fun i w21 hi hb again hag _ => ?_
    refine rd_box (by kernel_rfl) (X1.up hb) (i := 2) rfl rfl ?_
    refine br_dec (fun e => ?_) (fun _ => ⟨true, rfl, rfl, h.trans hb⟩)
    dsimp only at e
    have hi0 : i = 0 := by omega
    subst hi0
    have hc := hch (by omega)
    have step : ∀ {K : Int → Prop}, K (((v.2.2.data.toList.getD 0 0).toNat : Nat) : Int) → rd Tryz.prog (Instr.loadAt 9 (.pointer (some (x1.add 2)))) (.one .str) w21 fun (x : ByteArray) => rd Tryz.prog (Instr.index 9 (.string x) (.int .i64 0)) (.one (.int .u8)) w21 K := fun {K} hK => by
      refine rd_box (by kernel_rfl) (X1.up hb) (i := 2) rfl rfl ?_
      refine atS (j := 0) rfl (by omega) ?_
      rw [get_data (by omega)]
      exact hK
    refine step (br_dec (fun e => by omega) (fun _ => ?_))
    refine step (br_dec (fun e => by omega) (fun _ => ?_))
    refine step (br_eq (fun e => by omega) (fun _ => ?_))
    refine z_i64 (by omega) ?_
    exact hag _ (by omega) hb
section
variable {w : World} {i : Nat} {x : TH} {t : TPar}
theorem listedP (T : TbAt w i x t) {l : Hdr} {c : Nat} (hc : c < t.nc) (S : Sl w l.1 l.2.1 l.2.2 1 (ints .i64 [(c : Int)])) :
    call Tryz.prog 194 [tbv x, .slice l.1 l.2.1 l.2.2] (.one (.one .bool)) w (fun (b : Bool) w' => b = true ∧ bel w w') := by
  have hn := T.nc
  have hl : l.2.1 = 1 := by have := S.int; simpa using this.symm
  refine call_of (S194_calls x.1 x.2.1.1 x.2.1.2.1 x.2.1.2.2 x.2.2.1.1 x.2.2.1.2.1 x.2.2.1.2.2 x.2.2.2.1.1 x.2.2.2.1.2.1 x.2.2.2.1.2.2 x.2.2.2.2.1.1 x.2.2.2.2.1.2.1 x.2.2.2.2.1.2.2 x.2.2.2.2.2.1.1 x.2.2.2.2.2.1.2.1 x.2.2.2.2.2.1.2.2 l.1 l.2.1 l.2.2 w _ ?_)
  unfold S194
  refine wr_box fun x1 w2 X1 h2 _ _ => ?_
  replace X1 : Box w2 x1 (tbc x) := X1
  refine loop_up 1 (fun _ w' => bel w2 w') (bel.refl _) fun j w5 hj hb again hag _ => ?_
  refine br_dec (fun e => ?_) (fun e => ⟨true, by rw [decide_eq_true (by omega)]; rfl, rfl, h2.trans hb⟩)
  dsimp only at e
  have hj0 : j = 0 := by omega
  subst hj0
  refine drw_mk fun w6 h6 _ => ?_
  replace hb := hb.trans h6
  have S' := (S.up h2).up hb
  refine at_int tyI (by kernel_rfl) S' (j := 0) rfl (by omega) fun y hy => ?_
  obtain rfl : (c : Int) = y := by simpa using hy
  refine br_dec (fun e => by omega) (fun _ => ?_)
  refine at_int tyI (by kernel_rfl) S' (j := 0) rfl (by omega) fun y hy => ?_
  obtain rfl : (c : Int) = y := by simpa using hy
  refine rd_box (by kernel_rfl) (X1.up hb) (i := 1) rfl rfl ?_
  refine br_dec (fun e => by dsimp only at e; omega) (fun _ => ?_)
  refine loop_up 0 (fun _ w' => bel w2 w') hb fun k w14 hk hb again2 hag2 _ => ?_
  refine br_dec (fun e => by dsimp only at e; omega) (fun _ => ?_)
  refine z_i64 (by omega) ?_
  exact hag _ (by omega) hb
set_option maxHeartbeats 800000 in
theorem rtableP (T : TbAt w i x t) (ok : t.Ok i) :
    call Tryz.prog 126 [tbv x] (.one (.one (.int .i64))) w (fun (r : Int) w' => r = 0 ∧ bel w w') := by
  have hn := T.nc
  have hp := T.np
  have hf := T.nt
  have hu := T.uniq
  have hc := T.chks
  have hk2 := ok.k2
  have hle := nc_le ok
  have h1 : 1 ≤ t.nc := by show 1 ≤ 1 + t.free.length + t.tos.length; omega
  have e3 : x.2.2.2.1.2.1 = 0 := by rw [hu]
  have e5 : x.2.2.2.2.2.1.2.1 = 0 := by rw [hc]
  refine call_of (S126_calls x.1 x.2.1.1 x.2.1.2.1 x.2.1.2.2 x.2.2.1.1 x.2.2.1.2.1 x.2.2.1.2.2 x.2.2.2.1.1 x.2.2.2.1.2.1 x.2.2.2.1.2.2 x.2.2.2.2.1.1 x.2.2.2.2.1.2.1 x.2.2.2.2.1.2.2 x.2.2.2.2.2.1.1 x.2.2.2.2.2.1.2.1 x.2.2.2.2.2.1.2.2 w _ ?_)
  unfold S126
  refine wr_box fun x1 w2 X1 h _ _ => ?_
  replace X1 : Box w2 x1 (tbc x) := X1
  refine rd_box (by kernel_rfl) X1 (i := 1) rfl rfl ?_
  refine br_dec (fun e => by dsimp only at e; omega) (fun _ => ?_)
  refine rd_box (by kernel_rfl) X1 (i := 3) rfl rfl ?_
  refine br_dec (fun e => by dsimp only at e; omega) (fun _ => ?_)
  refine rd_box (by kernel_rfl) X1 (i := 4) rfl rfl ?_
  refine br_dec (fun e => by dsimp only at e; omega) (fun _ => ?_)
  refine rd_box (by kernel_rfl) X1 (i := 5) rfl rfl ?_
  refine br_dec (fun e => by dsimp only at e; omega) (fun _ => ?_)
  refine rd_box (by kernel_rfl) X1 (i := 1) rfl rfl ?_
  refine br_eq (fun e => by dsimp only at e; omega) (fun _ => ?_)
  refine loop_up t.nc (fun _ w' => bel w2 w') (bel.refl _) fun j w10 hj hb again hag _ => ?_
  refine rd_box (by kernel_rfl) (X1.up hb) (i := 1) rfl rfl ?_
  refine br_dec (fun e => ?_) (fun e => ?_)
  · dsimp only at e
    have hj' : j < t.nc := by omega
    refine rd_box (by kernel_rfl) (X1.up hb) (i := 1) rfl rfl ?_
    obtain ⟨y, hy⟩ : ∃ y, t.cols[j]? = some y := ⟨_, List.getElem?_eq_getElem (by rw [cols_len]; omega)⟩
    have ht := col_type ok hy
    refine ColsAt.at ((T.cols.up h).up hb) rfl hy ?_
    refine var_mk (z := .agg #[.string ByteArray.empty, .int .i64 0, .bool false]) (v := .agg (encC y).toArray) (by kernel_rfl) (by kernel_rfl) rfl rfl fun x18 w20 Y h20 _ => ?_
    replace Y : Box w20 x18 (encC y) := Y
    replace hb := hb.trans h20
    refine rd_box0 (by kernel_rfl) Y rfl rfl ?_
    refine call_mono (rnameP y.1 (col_good ok hy) w20) ?_
    rintro b w23 ⟨rfl, hb2⟩
    replace Y := Y.up hb2; replace hb := hb.trans hb2
    refine br_f rfl ?_
    refine rd_boxN (X1.up hb) (by kernel_rfl) rfl ?_
    refine rd_box0 (by kernel_rfl) Y rfl rfl ?_
    refine call_mono (rcolumnP (T.up (h.trans hb)) ok hy) ?_
    rintro (r : Int × Bool × Unit) w27 ⟨er, _, hb2⟩
    replace Y := Y.up hb2; replace hb := hb.trans hb2
    refine br_ne (fun e => absurd er e) (fun _ => ?_)
    refine rd_box (by kernel_rfl) Y (i := 1) rfl rfl ?_
    refine br_dec (fun e => by omega) (fun _ => ?_)
    refine rd_box (by kernel_rfl) Y (i := 1) rfl rfl ?_
    refine br_dec (fun e => by omega) (fun _ => ?_)
    refine z_i64 (by dsimp only; omega) ?_
    exact hag _ hj' hb
  · refine rd_boxN (X1.up hb) (by kernel_rfl) rfl ?_
    refine rd_box (by kernel_rfl) (X1.up hb) (i := 2) rfl rfl ?_
    refine call_mono (listedP (c := 0) (l := x.2.2.1) (T.up (h.trans hb)) (by omega) (T.prim.up (h.trans hb))) ?_
    rintro b w31 ⟨rfl, h31⟩
    replace hb := hb.trans h31
    refine br_f rfl ?_
    refine loop_up 1 (fun _ w' => bel w2 w') hb fun j w34 hj hb again hag _ => ?_
    refine rd_box (by kernel_rfl) (X1.up hb) (i := 2) rfl rfl ?_
    refine br_dec (fun e => ?_) (fun e => ?_)
    · have hj0 : j = 0 := by dsimp only at e; omega
      subst hj0
      refine drw_mk fun w36 h36 _ => ?_
      replace hb := hb.trans h36
      refine rd_box (by kernel_rfl) (X1.up hb) (i := 1) rfl rfl ?_
      refine rd_box (by kernel_rfl) (X1.up hb) (i := 2) rfl rfl ?_
      refine at_int tyI (by kernel_rfl) ((T.prim.up h).up hb) (j := 0) rfl (by omega) fun y hy => ?_
      obtain rfl : 0 = y := by simpa using hy
      refine ColsAt.nul ((T.cols.up h).up hb) (j := 0) rfl (cols_id t) ?_
      refine br_f rfl ?_
      refine z_i64 (by omega) ?_
      exact hag _ (by omega) hb
    · refine loop_up 0 (fun _ w' => bel w2 w') hb fun j w46 hj hb again2 hag2 _ => ?_
      refine rd_box (by kernel_rfl) (X1.up hb) (i := 3) rfl rfl ?_
      refine br_dec (fun e => by dsimp only at e; omega) (fun _ => ?_)
      refine loop_up t.tos.length (fun _ w' => bel w2 w') hb fun f w58 hf' hb again3 hag3 _ => ?_
      refine rd_box (by kernel_rfl) (X1.up hb) (i := 4) rfl rfl ?_
      refine br_dec (fun e => ?_) (fun e => ?_)
      · have hfl : f < t.tos.length := by dsimp only at e; omega
        refine drw_mk fun w60 h60 _ => ?_
        replace hb := hb.trans h60
        refine rd_boxN (X1.up hb) (by kernel_rfl) rfl ?_
        refine rd_box (by kernel_rfl) (X1.up hb) (i := 4) rfl rfl ?_
        refine ForsAt.col ((T.fors.up h).up hb) rfl hfl fun y S => ?_
        refine call_mono (listedP (c := 1 + t.nf + f) (l := y) (T.up (h.trans hb)) (rowlen_lt hfl) (by
          rw [show ((1 + t.nf + f : Nat) : Int) = 1 + (t.nf : Int) + (f : Int) by omega]; exact S)) ?_
        rintro b w66 ⟨rfl, h66⟩
        refine br_f rfl ?_
        refine z_i64 (by dsimp only; omega) ?_
        exact hag3 _ hfl (hb.trans h66)
      · refine loop_up 0 (fun _ w' => bel w2 w') hb fun j w70 hj hb again4 hag4 _ => ?_
        refine rd_box (by kernel_rfl) (X1.up hb) (i := 5) rfl rfl ?_
        exact br_dec (fun e => by dsimp only at e; omega) (fun _ => ⟨(0 : Int), rfl, rfl, h.trans hb⟩)
end
end Go.Proofs.YtcfghfmlfgaeaaaGreatDoor

/- The reference: the order of tables; valid schemas. -/

namespace Go.Proofs.YtcfghfmlfgaeaaaGreatDoor
open Go.RowKit Go.Q Go.V Go.Bag Go.Shelf

def doneC (n m : Nat) : List Value := (List.range n).map fun k => Value.bool (decide (k < m))
theorem doneC_get {n m k : Nat} (h : k < n) : (doneC n m)[k]? = some (.bool (decide (k < m))) := by
  unfold doneC; rw [List.getElem?_map, List.getElem?_range h]; rfl
theorem doneC_set {n m : Nat} (_h : m < n) : (doneC n m).set m (.bool true) = doneC n (m + 1) := by
  refine List.ext_getElem? fun k => ?_
  by_cases hk : k < n
  · rw [doneC_get hk]
    by_cases e : k = m
    · subst e
      rw [List.getElem?_set_self (by unfold doneC; simpa using hk), decide_eq_true (by omega)]
    · rw [List.getElem?_set_ne (fun q => e q.symm), doneC_get hk]
      congr 2
      exact decide_eq_decide.2 (by omega)
  · rw [List.getElem?_eq_none (by unfold doneC; simpa using hk), List.getElem?_eq_none (by unfold doneC; simpa using hk)]
theorem doneC_made (n : Nat) : (madeCells (Value.bool false).cells (n * 1)).toList = doneC n 0 := by
  have e := made_flat (sz := 1) (enc := fun _ : Unit => [Value.bool false]) (fun _ => rfl) (by omega) () (Value.bool false).cells rfl n
  rw [e, ← List.map_eq_flatMap]
  refine List.ext_getElem? fun k => ?_
  unfold doneC
  rw [List.getElem?_map, List.getElem?_map, List.getElem?_replicate]
  by_cases hk : k < n
  · rw [if_pos hk, List.getElem?_range hk]; simp
  · rw [if_neg hk, List.getElem?_eq_none (by simpa using hk)]; rfl
def upI (m : Nat) : List Int := (List.range m).map fun k : Nat => (k : Int)
section
variable {w : World} {h : Hdr} {D : List TPar}
set_option maxHeartbeats 1600000 in
theorem rorderP (H : SchAt w h D) (hD : OkD D) : call Tryz.prog 19 [.agg #[.slice h.1 h.2.1 h.2.2]] (.many [.one .slice, .one (.int .i64)]) w (fun (x : Hdr × Int × Unit) w' => bel w w' ∧ x.2.1 = 0 ∧ Own w' w.heap.size 3 1 x.1.1 x.1.2.1 x.1.2.2 (ints .i64 (upI D.length))) := by
  have hl := H.len
  have hd2 := hD.d2
  refine call_of (S19_calls h.1 h.2.1 h.2.2 w _ ?_)
  unfold S19
  refine wr_box fun x1 w2 X1 h2 _ _ => ?_
  replace X1 : Box w2 x1 [.slice h.1 h.2.1 h.2.2] := X1
  replace H := H.up h2
  refine loop_up D.length (fun _ w' => bel w2 w') (bel.refl _) fun i w5 hi hb again hag _ => ?_
  refine rd_box0 (by kernel_rfl) (X1.up hb) rfl rfl ?_
  refine br_dec (fun e => ?_) (fun e => ?_)
  · dsimp only at e
    have hi' : i < D.length := by omega
    obtain ⟨t, ht⟩ : ∃ t, D[i]? = some t := ⟨_, List.getElem?_eq_getElem hi'⟩
    have ok := hD.each i t ht
    have hk2 := ok.k2
    refine loop_up t.tos.length (fun _ w' => bel w2 w') hb fun f w9 hf hb again2 hag2 _ => ?_
    refine rd_box0 (by kernel_rfl) (X1.up hb) rfl rfl ?_
    refine (H.up hb).fld (o := 4) rfl hi' (by kernel_rfl) fun x t' ht' T => ⟨x.2.2.2.2.1, rfl, ?_⟩
    obtain rfl : t = t' := by rw [ht] at ht'; cases ht'; rfl
    have hnt := T.nt
    refine br_dec (fun e => ?_) (fun e => ?_)
    · dsimp only at e
      have hf' : f < t.tos.length := by omega
      obtain ⟨to, hto⟩ : ∃ to, t.tos[f]? = some to := ⟨_, List.getElem?_eq_getElem hf'⟩
      refine rd_boxN (X1.up hb) (by kernel_rfl) rfl ?_
      refine call_mono (rtargetP (H.up hb) hD ht hto) ?_
      rintro (r : Int × Bool × Unit) w15 ⟨_, e2, h15⟩
      refine br_f (by rw [e2]; rfl) ?_
      refine z_i64 (by dsimp only; omega) ?_
      exact hag2 _ hf' (hb.trans h15)
    · refine z_i64 (by dsimp only; omega) ?_
      exact hag _ hi' hb
  · refine rd_box0 (by kernel_rfl) (X1.up hb) rfl rfl ?_
    refine wr_make tyBo D.length (by dsimp only; omega) (by dsimp only; omega) (by omega) (by unfold maxLen; omega) fun ad w20 O20 h20 _ _ => ?_
    have OD := O20 w5.heap.size (Nat.le_refl _)
    rw [doneC_made] at OD
    have hb20 := hb.trans h20
    refine loop_gh (G := Nat) (fun m (s : Hdr × Unit) w' => m ≤ D.length ∧ bel w2 w' ∧ Own w' w5.heap.size 3 1 s.1.1 s.1.2.1 s.1.2.2 (ints .i64 (upI m)) ∧ Own w' w5.heap.size 4 1 (some ad) D.length D.length (doneC D.length m)) (fun m => D.length - m) 0 ⟨Nat.zero_le _, hb20, Own.nil _ _ _ _, OD⟩ ?_
    rintro m ⟨s, u⟩ w23 ⟨hm, hb23, OI, OB⟩ again2 hag2 _
    have hz5 : w5.heap.size ≤ w23.heap.size := by
      have := (OB.lt ad.block rfl); omega
    dsimp only at OI
    have hsl : s.2.1 = m := by have := OI.1; simp [upI, ints] at this; omega
    refine rd_box0 (by kernel_rfl) (X1.up hb23) rfl rfl ?_
    refine br_dec (fun e => ?_) (fun e => ?_)
    · dsimp only at e
      have hm' : m < D.length := by omega
      refine join_mk (fun s' w' => s'.1 = (m : Int) ∧ bel w23 w') (fun K hK => ?_) ?_
      · refine loop_upA D.length (fun i (r : Int) w' => bel w23 w' ∧ (i ≤ m → r = -1) ∧ (m < i → r = (m : Int))) ⟨bel.refl _, fun _ => rfl, fun h => by omega⟩ fun i r w36 hi ⟨hb36, hr1, hr2⟩ again3 hag3 _ => ?_
        have hb2 := hb23.trans hb36
        refine rd_box0 (by kernel_rfl) (X1.up hb2) rfl rfl ?_
        refine br_dec (fun e => ?_) (fun e => hK _ _ ⟨hr2 (by dsimp only at e; omega), hb36⟩)
        dsimp only at e
        have hi' : i < D.length := by omega
        refine br_dec (fun e2 => ?_) (fun e2 => hK _ _ ⟨hr2 (by dsimp only at e2; omega), hb36⟩)
        dsimp only at e2
        have him : i ≤ m := by
          rcases Nat.lt_or_ge m i with q | q
          · have := hr2 q; omega
          · exact q
        have hr := hr1 him
        subst hr
        obtain ⟨t, ht⟩ : ∃ t, D[i]? = some t := ⟨_, List.getElem?_eq_getElem hi'⟩
        have ok := hD.each i t ht
        have hk2 := ok.k2
        refine join_mk (fun s' w' => s'.1 = (if i = m then (m : Int) else -1) ∧ bel w23 w') (fun K2 hK2 => ?_) ?_
        · refine at_mk (s := .bool) tyBo (by kernel_rfl) (OB.sl.up hb36) (j := i) rfl (doneC_get hi') (x := decide (i < m)) rfl ?_
          refine loop_upA t.tos.length (fun f (rd : Bool) w' => bel w23 w' ∧ rd = decide (i = m)) ⟨hb36, by
            rw [← decide_not]; exact decide_eq_decide.2 (by omega)⟩ fun f rd w46 hf ⟨hb46, hrd⟩ again4 hag4 _ => ?_
          have hb3 := hb23.trans hb46
          refine rd_box0 (by kernel_rfl) (X1.up hb3) rfl rfl ?_
          refine (H.up hb3).fld (o := 4) rfl hi' (by kernel_rfl) fun x t' ht' T => ⟨x.2.2.2.2.1, rfl, ?_⟩
          obtain rfl : t = t' := by rw [ht] at ht'; cases ht'; rfl
          have hnt := T.nt
          refine br_dec (fun e => ?_) (fun e => ?_)
          · dsimp only at e
            have hf' : f < t.tos.length := by omega
            obtain ⟨to, hto⟩ : ∃ to, t.tos[f]? = some to := ⟨_, List.getElem?_eq_getElem hf'⟩
            have hto2 := ok.to to (List.mem_of_getElem? hto)
            refine rd_boxN (X1.up hb3) (by kernel_rfl) rfl ?_
            refine call_mono (rtargetP (H.up hb3) hD ht hto) ?_
            rintro (r : Int × Bool × Unit) w52 ⟨e1, _, h52⟩
            refine br_mk (fun e3 => ?_) (fun e3 => ?_)
            · dsimp only at e3
              rw [hrd] at e3
              have him' := of_decide_eq_true e3
              refine at_mk (s := .bool) tyBo (by kernel_rfl) (OB.sl.up (hb46.trans h52)) (j := to) e1 (doneC_get (by omega)) (x := decide (to < m)) rfl ?_
              refine z_i64 (by dsimp only; omega) ?_
              exact hag4 _ _ hf' ⟨hb46.trans h52, by rw [decide_eq_true him']; exact decide_eq_true (by omega)⟩
            · dsimp only at e3
              refine z_i64 (by dsimp only; omega) ?_
              exact hag4 _ _ hf' ⟨hb46.trans h52, by rw [← hrd]; exact e3.symm⟩
          · refine br_mk (fun e3 => ?_) (fun e3 => ?_)
            · dsimp only at e3
              rw [hrd] at e3
              have him' := of_decide_eq_true e3
              exact hK2 _ _ ⟨by rw [if_pos him', him'], hb46⟩
            · dsimp only at e3
              rw [hrd] at e3
              exact hK2 _ _ ⟨by rw [if_neg (of_decide_eq_false e3)], hb46⟩
        · rintro ⟨s', u'⟩ w40 ⟨hs', hb40⟩ _
          dsimp only at hs'
          refine z_i64 (by dsimp only; omega) ?_
          refine hag3 _ _ hi' ⟨hb40, fun h => by rw [hs', if_neg (by omega)], fun h => by rw [hs', if_pos (by omega)]⟩
      · rintro ⟨s', u'⟩ w27 ⟨hs', hb27⟩ _
        dsimp only at hs'
        subst hs'
        refine br_dec (fun e2 => by omega) (fun _ => ?_)
        have OB' := Own.kept OB hb27
        have OI' := Own.kept OI hb27
        refine set_mk tyBo OB' (j := m) rfl hm' rfl fun w29 O29 g29 s29 => ?_
        rw [doneC_set hm'] at O29
        have OI29 := keptO OI' OB' (by decide) g29
        have hb29 := bel.own (hb23.trans hb27) OB' g29 (by have := hb.size; omega)
        have s27 := hb27.size
        refine wr_app1 tyI (v := .int .i64 (m : Int)) OI29 (by omega) rfl (by omega) (by omega) rfl rfl (by omega) (by unfold maxLen; omega) fun a' c' w33 O33 g33 _ _ => ?_
        refine hag2 (m + 1) ((a', s.2.1 + 1, c'), ()) _ ⟨by omega, bel.own hb29 OI29 g33 (by have := hb.size; omega), ?_, keptO O29 OI29 (by decide) g33⟩ (by omega)
        have e : ints .i64 (upI (m + 1)) = ints .i64 (upI m) ++ [.int .i64 (m : Int)] := by simp [upI, ints, List.range_succ]
        rw [e]; exact O33
    · dsimp only at e
      have hmD : m = D.length := by omega
      subst hmD
      exact ⟨(s, (0 : Int), ()), rfl, h2.trans hb23, rfl, ownLe OI (by have := h2.size; have := hb.size; omega)⟩
set_option maxHeartbeats 800000 in
theorem rschP (H : SchAt w h D) (hD : OkD D) : call Tryz.prog 71 [.agg #[.slice h.1 h.2.1 h.2.2]] (.one (.one (.int .i64))) w (fun (r : Int) w' => r = 0 ∧ bel w w') := by
  have hl := H.len
  have hd2 := hD.d2
  refine call_of (S71_calls h.1 h.2.1 h.2.2 w _ ?_)
  unfold S71
  refine wr_box fun x1 w2 X1 h2 _ _ => ?_
  replace X1 : Box w2 x1 [.slice h.1 h.2.1 h.2.2] := X1
  replace H := H.up h2
  refine rd_box0 (by kernel_rfl) X1 rfl rfl ?_
  refine br_dec (fun e => by dsimp only at e; omega) (fun _ => ?_)
  refine loop_up D.length (fun _ w' => bel w2 w') (bel.refl _) fun i w6 hi hb again hag _ => ?_
  refine rd_box0 (by kernel_rfl) (X1.up hb) rfl rfl ?_
  refine br_dec (fun e => ?_) (fun e => ?_)
  · dsimp only at e
    have hi' : i < D.length := by omega
    refine rd_box0 (by kernel_rfl) (X1.up hb) rfl rfl ?_
    refine (H.up hb).nam rfl hi' ?_
    refine call_mono (rnameP _ (t_good i (by omega)) w6) ?_
    rintro b w12 ⟨rfl, h12⟩
    refine br_f rfl ?_
    refine drw_mk fun w13 h13 _ => ?_
    replace hb := (hb.trans h12).trans h13
    refine rd_boxN (X1.up hb) (by kernel_rfl) rfl ?_
    refine rd_box0 (by kernel_rfl) (X1.up hb) rfl rfl ?_
    refine (H.up hb).nam rfl hi' ?_
    refine call_mono (rfindP (H.up hb) hD hi') ?_
    rintro (r : Int × Bool × Unit) w19 ⟨e1, _, h19⟩
    replace hb := hb.trans h19
    refine br_ne (fun e => absurd e1 e) (fun _ => ?_)
    refine rd_box0 (by kernel_rfl) (X1.up hb) rfl rfl ?_
    refine (H.up hb).at rfl hi' fun x t ht T => ?_
    refine call_mono (rtableP T (hD.each i t ht)) ?_
    rintro r w24 ⟨rfl, h24⟩
    refine br_f rfl ?_
    refine z_i64 (by dsimp only; omega) ?_
    exact hag _ hi' (hb.trans h24)
  · refine loop_up D.length (fun _ w' => bel w2 w') hb fun i w28 hi hb again hag _ => ?_
    refine rd_box0 (by kernel_rfl) (X1.up hb) rfl rfl ?_
    refine br_dec (fun e => ?_) (fun e => ?_)
    · dsimp only at e
      have hi' : i < D.length := by omega
      obtain ⟨t, ht⟩ : ∃ t, D[i]? = some t := ⟨_, List.getElem?_eq_getElem hi'⟩
      have ok := hD.each i t ht
      have hk2 := ok.k2
      refine loop_up t.tos.length (fun _ w' => bel w2 w') hb fun f w32 hf hb again2 hag2 _ => ?_
      refine rd_box0 (by kernel_rfl) (X1.up hb) rfl rfl ?_
      refine (H.up hb).fld (o := 4) rfl hi' (by kernel_rfl) fun x t' ht' T => ⟨x.2.2.2.2.1, rfl, ?_⟩
      obtain rfl : t = t' := by rw [ht] at ht'; cases ht'; rfl
      have hnt := T.nt
      refine br_dec (fun e => ?_) (fun e => ?_)
      · dsimp only at e
        have hf' : f < t.tos.length := by omega
        obtain ⟨to, hto⟩ : ∃ to, t.tos[f]? = some to := ⟨_, List.getElem?_eq_getElem hf'⟩
        have hto2 := ok.to to (List.mem_of_getElem? hto)
        have htoD : to < D.length := by omega
        refine rd_boxN (X1.up hb) (by kernel_rfl) rfl ?_
        refine call_mono (rtargetP (H.up hb) hD ht hto) ?_
        rintro (r : Int × Bool × Unit) w38 ⟨e1, e2, h38⟩
        refine br_f (by rw [e2]; rfl) ?_
        refine drw_mk fun w39 h39 _ => ?_
        replace hb := (hb.trans h38).trans h39
        refine rd_box0 (by kernel_rfl) (X1.up hb) rfl rfl ?_
        refine (H.up hb).fld (o := 4) rfl hi' (by kernel_rfl) fun x t' ht' T => ⟨x.2.2.2.2.1, rfl, ?_⟩
        obtain rfl : t = t' := by rw [ht] at ht'; cases ht'; rfl
        refine ForsAt.col T.fors rfl hf' fun y S => ?_
        have hy1 : y.2.1 = 1 := by have := S.int; simpa using this.symm
        refine rd_box0 (by kernel_rfl) (X1.up hb) rfl rfl ?_
        refine (H.up hb).fld (o := 2) e1 htoD (by kernel_rfl) fun x2 t2 ht2 T2 => ⟨x2.2.2.1, rfl, ?_⟩
        have hp2 := T2.np
        refine br_ne (fun e => absurd (by omega) e) (fun _ => ?_)
        refine loop_up 1 (fun _ w' => bel w39 w') (bel.refl _) fun j w50 hj hbj again3 hag3 _ => ?_
        refine br_dec (fun e => ?_) (fun e => ?_)
        · have hj0 : j = 0 := by dsimp only at e; omega
          subst hj0
          refine drw_mk fun w51 h51 _ => ?_
          replace hbj := hbj.trans h51
          have hbb := hb.trans hbj
          refine rd_box0 (by kernel_rfl) (X1.up hbb) rfl rfl ?_
          refine (H.up hbb).fld (o := 1) rfl hi' (by kernel_rfl) fun x3 t3 ht3 T3 => ⟨x3.2.1, rfl, ?_⟩
          obtain rfl : t = t3 := by rw [ht] at ht3; cases ht3; rfl
          refine at_int tyI (by kernel_rfl) (S.up hbj) (j := 0) rfl (by omega) fun v hv => ?_
          obtain rfl : 1 + (t.nf : Int) + (f : Int) = v := by simpa using hv
          refine ColsAt.typ T3.cols (j := 1 + t.nf + f) (by omega) (cols_key hf') ?_
          refine rd_box0 (by kernel_rfl) (X1.up hbb) rfl rfl ?_
          refine (H.up hbb).fld (o := 1) e1 htoD (by kernel_rfl) fun x4 t4 ht4 T4 => ⟨x4.2.1, rfl, ?_⟩
          refine at_int tyI (by kernel_rfl) (T2.prim.up hbj) (j := 0) rfl (by omega) fun v hv => ?_
          obtain rfl : 0 = v := by simpa using hv
          refine ColsAt.typ T4.cols (j := 0) rfl (cols_id t4) ?_
          refine br_f rfl ?_
          refine z_i64 (by omega) ?_
          exact hag3 _ (by omega) hbj
        · refine z_i64 (by dsimp only; omega) ?_
          exact hag2 _ hf' (hb.trans hbj)
      · refine z_i64 (by dsimp only; omega) ?_
        exact hag _ hi' hb
    · refine rd_boxN (X1.up hb) (by kernel_rfl) rfl ?_
      refine call_mono (rorderP (H.up hb) hD) ?_
      rintro (r : Hdr × Int × Unit) w71 ⟨h71, e1, _⟩
      exact ⟨r.2.1, rfl, e1, (h2.trans hb).trans h71⟩
end
end Go.Proofs.YtcfghfmlfgaeaaaGreatDoor

/- The reference: shapes of rows, keys. -/

namespace Go.Proofs.YtcfghfmlfgaeaaaGreatDoor
open Go.RowKit Go.Q Go.V Go.Bag Go.Shelf

theorem inP {w : World} (l : Hdr) (xs : List Int) (v : Int) (H : Sl w l.1 l.2.1 l.2.2 1 (ints .i64 xs)) :
    call Tryz.prog 128 [.slice l.1 l.2.1 l.2.2, .int .i64 v] (.one (.one .bool)) w (fun (b : Bool) w' => b = decide (v ∈ xs) ∧ bel w w') := by
  refine call_of (S128_calls l.1 l.2.1 l.2.2 v w _ ?_)
  unfold S128
  have hl := H.int
  have hle := H.le
  refine loop_up xs.length (fun i w' => bel w w' ∧ ∀ j, j < i → ∀ y, xs[j]? = some y → y ≠ v) ⟨bel.refl _, fun j hj => by omega⟩ fun i w3 hi ⟨hb, hp⟩ again hag _ => ?_
  refine br_dec (fun e => ?_) (fun e => ?_)
  · dsimp only at e
    refine at_int tyI (by kernel_rfl) (H.up hb) rfl (by omega) fun y hy => ?_
    refine br_eq (fun e1 => ?_) (fun e1 => ?_)
    · subst e1
      exact ⟨true, rfl, (decide_eq_true (List.mem_of_getElem? hy)).symm, hb⟩
    · refine z_i64 (by dsimp only; omega) ?_
      exact hag _ (by omega) ⟨hb, pre_one hp hy e1⟩
  · dsimp only at e
    refine ⟨false, rfl, (decide_eq_false fun q => ?_).symm, hb⟩
    exact absurd rfl (pre_end (p := fun y => y ≠ v) hp (by omega) v q)
theorem pickP {w : World} {y l : Hdr} {r : Rw} {c : Nat} {p : V3} (R : RowAt w y r) (S : Sl w l.1 l.2.1 l.2.2 1 (ints .i64 [(c : Int)])) (hp : r[c]? = some p) :
    call Tryz.prog 130 [.slice y.1 y.2.1 y.2.2, .slice l.1 l.2.1 l.2.2] (.one (.one .slice)) w (fun (x : Hdr) w' => RowAt w' x [p] ∧ bel w w') := by
  have hl : l.2.1 = 1 := by have := S.int; simpa using this.symm
  have hc := (List.getElem?_eq_some_iff.1 hp).1
  refine call_of (S130_calls y.1 y.2.1 y.2.2 l.1 l.2.1 l.2.2 w _ ?_)
  unfold S130
  refine loop_upA 1 (fun j (s : Hdr) w' => bel w w' ∧ Own w' w.heap.size 55 3 s.1 s.2.1 s.2.2 ((([p] : Rw).take j).flatMap encV)) ⟨bel.refl _, Own.nil _ _ _ _⟩ fun j s w3 hj ⟨hb, O⟩ again hag _ => ?_
  refine br_dec (fun e => ?_) (fun e => ?_)
  · dsimp only at e
    have hj0 : j = 0 := by omega
    subst hj0
    have hs0 : s.2.1 = 0 := by have := O.1; simp at this; omega
    refine at_int tyI (by kernel_rfl) (S.up hb) (j := 0) rfl (by omega) fun z hz => ?_
    obtain rfl : (c : Int) = z := by simpa using hz
    refine row_at (R.up hb) rfl hc fun q hq => ?_
    obtain rfl : p = q := by rw [hp] at hq; cases hq; rfl
    refine wr_app1 tyV (v := .agg (encV p).toArray) O hb.size rfl (by omega) (by omega) rfl rfl (by omega) (by unfold maxLen; omega) fun a' c' w11 O11 g11 _ _ => ?_
    refine z_i64 (by dsimp only; omega) ?_
    exact hag (a', s.2.1 + 1, c') _ (by omega) ⟨bel.own hb O g11 (Nat.le_refl _), O11⟩
  · dsimp only at e
    have hj1 : j = 1 := by omega
    subst hj1
    exact ⟨s, rfl, O.sl, hb⟩
theorem nullP {w : World} {x : Hdr} {p : V3} (R : RowAt w x [p]) (hp : p.1 ≠ 0) :
    call Tryz.prog 131 [.slice x.1 x.2.1 x.2.2] (.one (.one .bool)) w (fun (b : Bool) w' => b = false ∧ bel w w') := by
  have hl : x.2.1 = 1 := by have := RowAt.len R; simpa using this.symm
  refine call_of (S131_calls x.1 x.2.1 x.2.2 w _ ?_)
  unfold S131
  refine loop_up 1 (fun _ w' => bel w w') (bel.refl _) fun j w3 hj hb again hag _ => ?_
  refine br_dec (fun e => ?_) (fun e => ⟨false, rfl, rfl, hb⟩)
  dsimp only at e
  have hj0 : j = 0 := by omega
  subst hj0
  refine idx_agg tyV encV_len (by omega) (R.up hb) (L := [p]) (j := 0) rfl (p := p) rfl fun ad had => ?_
  have h0 := had 0 _ rfl
  rw [add_zero] at h0
  refine rd_cell (by kernel_rfl) h0 rfl ?_
  refine br_eq (fun e1 => absurd e1 hp) (fun _ => ?_)
  refine z_i64 (by omega) ?_
  exact hag _ (by omega) hb
theorem cmpKey {m n : Nat} : cmpR [keyV m] [keyV n] = 0 ↔ m = n := by
  unfold cmpR lexc
  constructor
  · intro h
    split at h
    · rename_i h1
      have := (cmpV_to.eq _ _).1 h1
      injection this with _ this
      injection this with this _
      omega
    · rename_i h1; exact absurd h h1
  · rintro rfl
    rw [if_pos ((cmpV_to.eq _ _).2 rfl)]; rfl
theorem cmpRk {w : World} {x y : Hdr} {m n : Nat} (X : RowAt w x [keyV m]) (Y : RowAt w y [keyV n]) :
    call Tryz.prog 132 [.slice x.1 x.2.1 x.2.2, .slice y.1 y.2.1 y.2.2] (.one (.one (.int .i64))) w (fun (r : Int) w' => (r = 0 ↔ m = n) ∧ bel w w') :=
  call_mono (rows01 x y [keyV m] [keyV n] w X Y) fun r w' ⟨h1, h2⟩ => ⟨by rw [h1]; exact cmpKey, h2⟩
theorem repeatedP {w : World} {g l : Hdr} {t : TPar} {I : List Rows} {Rs : Rows} (G : RowsAt w g Rs) (hR : ∀ n r, Rs[n]? = some r → RowOk I t n r) (h20 : Rs.length ≤ 20) (L : Sl w l.1 l.2.1 l.2.2 1 (ints .i64 [0])) (kind n idx : Int) :
    call Tryz.prog 129 [.int .i64 kind, .int .i64 n, .int .i64 idx, .slice l.1 l.2.1 l.2.2, .slice g.1 g.2.1 g.2.2, .bool true] (.one (.one .slice)) w (fun (x : Hdr) w' => x = (none, 0, 0) ∧ bel w w') := by
  have hgl := G.len
  refine call_of (S129_calls kind n idx l.1 l.2.1 l.2.2 g.1 g.2.1 g.2.2 true w _ ?_)
  unfold S129
  refine loop_upA Rs.length (fun _ (s : Hdr) w' => s = (none, 0, 0) ∧ bel w w') ⟨rfl, bel.refl _⟩ fun i s w3 hi ⟨hs, hb⟩ again hag _ => ?_
  subst hs
  refine br_dec (fun e => ?_) (fun e => ⟨((none, 0, 0) : Hdr), rfl, rfl, hb⟩)
  dsimp only at e
  have hi' : i < Rs.length := by omega
  refine join_mk (fun s' w' => s'.1 = (none, 0, 0) ∧ bel w w') (fun K hK => ?_) ?_
  · refine G.atB hb rfl hi' fun z r hr Z => ?_
    have R := hR i r hr
    refine call_mono (pickP (c := 0) (Z.up hb) (L.up hb) R.id) ?_
    rintro (x10 : Hdr) w11 ⟨P10, h11⟩
    refine join_mk (fun _ w' => bel w11 w') (fun K2 hK2 => ?_) ?_
    · refine call_mono (nullP P10 (show (1 : Int) ≠ 0 by decide)) ?_
      rintro b w30 ⟨rfl, h30⟩
      exact br_f rfl (hK2 _ _ h30)
    · rintro _ w14 h14 _
      refine loop_upA i (fun _ (s : Hdr) w' => s = (none, 0, 0) ∧ bel w14 w') ⟨rfl, bel.refl _⟩ fun j s w17 hj ⟨hs, hb2⟩ again2 hag2 _ => ?_
      subst hs
      have h17 := (hb.trans h11).trans (h14.trans hb2)
      refine br_dec (fun e2 => ?_) (fun e2 => hK _ _ ⟨rfl, h17⟩)
      dsimp only at e2
      have hj' : j < i := by omega
      refine G.atB h17 rfl (by omega) fun z2 r2 hr2 Z2 => ?_
      have R2 := hR j r2 hr2
      refine call_mono (pickP (c := 0) (Z2.up h17) (L.up h17) R2.id) ?_
      rintro (x20 : Hdr) w21 ⟨P20, h21⟩
      refine call_mono (cmpRk P20 (Sl.up P10 ((h14.trans hb2).trans h21))) ?_
      rintro r w23 ⟨hr0, h23⟩
      refine br_eq (fun e3 => by have := hr0.1 e3; omega) (fun _ => ?_)
      refine z_i64 (by dsimp only; omega) ?_
      exact hag2 (none, 0, 0) _ hj' ⟨rfl, (hb2.trans h21).trans h23⟩
  · rintro ⟨s', u'⟩ w6 ⟨hs', hb⟩ _
    dsimp only at hs'
    subst hs'
    refine z_i64 (by dsimp only; omega) ?_
    exact hag (none, 0, 0) _ hi' ⟨rfl, hb⟩
end Go.Proofs.YtcfghfmlfgaeaaaGreatDoor

/- The conditions of functions, printed by our tool; each is checked against the code by the kernel. -/



namespace Go.Proofs
open Go Go.V Go.RowKit
open Tryz (prog)
set_option maxRecDepth 100000
def S73o (s_0a : OA) (s_0n s_0c : Nat) (i_0a : OA) (i_0n i_0c : Nat) (n_ : Int) (fine_a : OA) (fine_n fine_c : Nat) (w0 : World) (R : KR) : Prop :=
 wr prog (Instr.box 29 (.agg #[.slice s_0a s_0n s_0c])) oA w0 fun (x1 : Addr) w2 =>
 wr prog (Instr.box 34 (.agg #[.slice i_0a i_0n i_0c])) oA w2 fun (x3 : Addr) w4 =>
 drw w4 fun w5 => flExC w5 fun E8 G7 Y6 F9 =>
 rdE prog (ER Y6 [11] E8) (jL 27 x1) oS w5 fun (x10 : Hd3) =>
 rdp prog (jI 27 x10 n_) oA fun (x11 : Addr) =>
 rdE prog (ER Y6 [11] E8) (jL 41 x11) (.agg [.str, .slice, .slice, .slice, .slice, .slice]) w5 fun (x12 : ByteArray × Hd3 × Hd3 × TS) =>
 rdE prog (ER Y6 [] E8) (jL 32 x3) oS w5 fun (x13 : Hd3) =>
 rdp prog (jI 32 x13 n_) oA fun (x14 : Addr) =>
 rdE prog (ER Y6 [] E8) (jL 53 x14) oS w5 fun (x15 : Hd3) =>
 flcC Y6 10 E8 w5 (fun (_D19 : Nat → Bool) _w17 => True) (fun (D18 : Nat → Bool) w16 =>
   wr prog (Instr.alloc 41 true (.tuple #[])) oA w16 fun (x20 : Addr) w21 =>
 (E8 w16 w21 ∧ G7 10 w16 w21 ∧ Y6 (setD D18 10) w21 ∧ F9 (setD D18 10) 10 [] (jp x20) w21))
  fun (x22 : Addr) =>
 flcC Y6 11 E8 w5 (fun (D26 : Nat → Bool) w24 => F9 D26 10 [] (jp x22) w24 ∧ True) (fun (D25 : Nat → Bool) w23 =>
   wu prog (jS 41 x22 (.agg #[.string x12.1, jw x12.2.1, jw x12.2.2.1, jw x12.2.2.2.1, jw x12.2.2.2.2.1, jw x12.2.2.2.2.2.1])) w23 fun w27 =>
 (E8 w23 w27 ∧ G7 11 w23 w27 ∧ Y6 (setD D25 11) w27 ∧ F9 (setD D25 11) 11 [] undef w27))
  fun (_x28 : Unit) =>
 flendC Y6 [11, 10] E8 w5 (fun D0 w30 => F9 D0 11 [] (.tuple #[]) w30 ∧ F9 D0 10 [] (jp x22) w30 ∧ True) fun w29 =>
 rd prog (jL 22 (Addr.add x22 2)) oS w29 fun (x31 : Hd3) =>
 call prog 129 [ji 4, ji n_, ji 0, jw x31, jw x15, .bool true] (.one oS) w29 fun (x32 : Hd3) w33 =>
 loop (T := (Hd3 × Int × Unit)) ((x32.1, x32.2.1, x32.2.2), 0, ()) w33 fun (g34 : Hd3 × Int × Unit → World → Prop) (s35 : Hd3 × Int × Unit) w36 => ∀ _ : NV,
 rd prog (jL 36 (Addr.add x22 3)) oS w36 fun (x37 : Hd3) =>
 br (decide (s35.2.1 < ((x37.2.1 : Nat) : Int))) (rd prog (jL 36 (Addr.add x22 3)) oS w36 fun (x38 : Hd3) =>
 rdp prog (jI 36 x38 s35.2.1) oA fun (x39 : Addr) =>
 rd prog (jL 22 x39) oS w36 fun (x40 : Hd3) =>
 call prog 129 [ji 5, ji n_, ji s35.2.1, jw x40, jw x15, .bool false] (.one oS) w36 fun (x41 : Hd3) w42 =>
 wr prog (Builtin.append_ #[91, 91] 91 #[.slice s35.1.1 s35.1.2.1 s35.1.2.2, .slice x41.1 x41.2.1 x41.2.2]) oS w42 fun (x43 : Hd3) w44 =>
 z (IntKind.wrap .i64 (s35.2.1 + 1)) fun (z45 : Int) =>
 g34 ((x43.1, x43.2.1, x43.2.2), z45, ()) w44)
 (loop (T := (Hd3 × Int × Unit)) ((s35.1.1, s35.1.2.1, s35.1.2.2), 0, ()) w36 fun (g46 : Hd3 × Int × Unit → World → Prop) (s47 : Hd3 × Int × Unit) w48 => ∀ _ : NV,
 rd prog (jL 38 (Addr.add x22 4)) oS w48 fun (x49 : Hd3) =>
 br (decide (s47.2.1 < ((x49.2.1 : Nat) : Int))) (join (T := (Hd3 × Unit)) (fun (s51 : Hd3 × Unit) w52 => ∀ _ : NV,
 z (IntKind.wrap .i64 (s47.2.1 + 1)) fun (z53 : Int) =>
 g46 ((s51.1.1, s51.1.2.1, s51.1.2.2), z53, ()) w52)
  fun (K50 : Hd3 × Unit → World → Prop) =>
 rd prog (jL 29 x1) (.agg [.slice]) w48 fun (x54 : Hd3 × Unit) =>
 call prog 20 [.agg #[jw x54.1], ji n_, ji s47.2.1] (.many [oI, oB]) w48 fun (x55 : Int × Bool × Unit) w56 =>
 loop (T := (Hd3 × Int × Unit)) ((s47.1.1, s47.1.2.1, s47.1.2.2), 0, ()) w56 fun (g57 : Hd3 × Int × Unit → World → Prop) (s58 : Hd3 × Int × Unit) w59 => ∀ _ : NV,
 br (decide (s58.2.1 < ((x15.2.1 : Nat) : Int))) (rdp prog (Instr.indexAt 106 (.slice fine_a fine_n fine_c) (ji x55.1)) oA fun (x60 : Addr) =>
 rd prog (jL 4 x60) oB w59 fun (x61 : Bool) =>
 br x61 (join (T := (Hd3 × Unit)) (fun (s63 : Hd3 × Unit) w64 => ∀ _ : NV,
 z (IntKind.wrap .i64 (s58.2.1 + 1)) fun (z65 : Int) =>
 g57 ((s63.1.1, s63.1.2.1, s63.1.2.2), z65, ()) w64)
  fun (K62 : Hd3 × Unit → World → Prop) =>
 drw w59 fun w66 =>
 rdp prog (jI 53 x15 s58.2.1) oA fun (x67 : Addr) =>
 rd prog (jL 56 x67) oS w66 fun (x68 : Hd3) =>
 rd prog (jL 38 (Addr.add x22 4)) oS w66 fun (x69 : Hd3) =>
 rdp prog (jI 38 x69 s47.2.1) oA fun (x70 : Addr) =>
 rd prog (jL 22 x70) oS w66 fun (x71 : Hd3) =>
 call prog 130 [jw x68, jw x71] (.one oS) w66 fun (x72 : Hd3) w73 =>
 call prog 131 [jw x72] (.one oB) w73 fun (x74 : Bool) w75 =>
 join (T := (Bool × Unit)) (fun (s77 : Bool × Unit) w78 => ∀ _ : NV,
 br (!s77.1) (wr prog (Instr.buildSlice 91 1 #[(0, (.agg #[ji 6, ji n_, ji s47.2.1, ji s58.2.1, ji 0]))]) oS w78 fun (x79 : Hd3) w80 =>
 wr prog (Builtin.append_ #[91, 91] 91 #[.slice s58.1.1 s58.1.2.1 s58.1.2.2, .slice x79.1 x79.2.1 x79.2.2]) oS w80 fun (x81 : Hd3) w82 =>
 K62 ((x81.1, x81.2.1, x81.2.2), ()) w82)
 (K62 ((s58.1.1, s58.1.2.1, s58.1.2.2), ()) w78))
  fun (K76 : Bool × Unit → World → Prop) =>
 loop (T := (Bool × Int × Unit)) (x74, 0, ()) w75 fun (g83 : Bool × Int × Unit → World → Prop) (s84 : Bool × Int × Unit) w85 => ∀ _ : NV,
 rd prog (jL 32 x3) oS w85 fun (x86 : Hd3) =>
 rdp prog (jI 32 x86 x55.1) oA fun (x87 : Addr) =>
 rd prog (jL 53 x87) oS w85 fun (x88 : Hd3) =>
 br (decide (s84.2.1 < ((x88.2.1 : Nat) : Int))) (br (!s84.1) (drw w85 fun w89 => flEx fun F90 =>
 rd prog (jL 32 x3) oS w89 fun (x91 : Hd3) =>
 rdp prog (jI 32 x91 x55.1) oA fun (x92 : Addr) =>
 rd prog (jL 53 x92) oS w89 fun (x93 : Hd3) =>
 rdp prog (jI 53 x93 s84.2.1) oA fun (x94 : Addr) =>
 rd prog (jL 56 x94) oS w89 fun (x95 : Hd3) =>
 rd prog (jL 27 x1) oS w89 fun (x96 : Hd3) =>
 rdp prog (jI 27 x96 x55.1) oA fun (x97 : Addr) =>
 rd prog (jL 22 (Addr.add x97 2)) oS w89 fun (x98 : Hd3) =>
 flc bel w89 (fun _w100 => True) (fun w99 =>
   call prog 130 [jw x95, jw x98] (.one oS) w99 fun (x101 : Hd3) w102 =>
 (bel w99 w102 ∧ F90 14 [jw x95, jw x98] (jw x101) w102))
  fun (x103 : Hd3) =>
 flend bel w89 (fun w105 => F90 14 [jw x95, jw x98] (jw x103) w105 ∧ True) fun w104 =>
 call prog 132 [jw x103, jw x72] (.one oI) w104 fun (x106 : Int) w107 =>
 z (IntKind.wrap .i64 (s84.2.1 + 1)) fun (z108 : Int) =>
 g83 ((x106 == 0), z108, ()) w107)
 (K76 (s84.1, ()) w85))
 (K76 (s84.1, ()) w85))
 (K50 ((s58.1.1, s58.1.2.1, s58.1.2.2), ()) w59))
 (K50 ((s58.1.1, s58.1.2.1, s58.1.2.2), ()) w59))
 (loop (T := (Hd3 × Int × Unit)) ((s47.1.1, s47.1.2.1, s47.1.2.2), 0, ()) w48 fun (g109 : Hd3 × Int × Unit → World → Prop) (s110 : Hd3 × Int × Unit) w111 => ∀ _ : NV,
 rd prog (jL 39 (Addr.add x22 5)) oS w111 fun (x112 : Hd3) =>
 br (decide (s110.2.1 < ((x112.2.1 : Nat) : Int))) (loop (T := (Hd3 × Int × Unit)) ((s110.1.1, s110.1.2.1, s110.1.2.2), 0, ()) w111 fun (g113 : Hd3 × Int × Unit → World → Prop) (s114 : Hd3 × Int × Unit) w115 => ∀ _ : NV,
 br (decide (s114.2.1 < ((x15.2.1 : Nat) : Int))) (join (T := (Hd3 × Unit)) (fun (s117 : Hd3 × Unit) w118 => ∀ _ : NV,
 z (IntKind.wrap .i64 (s114.2.1 + 1)) fun (z119 : Int) =>
 g113 ((s117.1.1, s117.1.2.1, s117.1.2.2), z119, ()) w118)
  fun (K116 : Hd3 × Unit → World → Prop) =>
 drw w115 fun w120 =>
 rd prog (jL 39 (Addr.add x22 5)) oS w120 fun (x121 : Hd3) =>
 rdp prog (jI 39 x121 s110.2.1) oA fun (x122 : Addr) =>
 rd prog (jL 66 x122) (.agg [.int .i64, .int .i64, .int .i64, .str, .int .i64, .slice]) w120 fun (x123 : Int × Int × Int × ByteArray × Int × Hd3 × Unit) =>
 rdp prog (jI 53 x15 s114.2.1) oA fun (x124 : Addr) =>
 rd prog (jL 56 x124) oS w120 fun (x125 : Hd3) =>
 call prog 134 [.agg #[ji x123.1, ji x123.2.1, ji x123.2.2.1, .string x123.2.2.2.1, ji x123.2.2.2.2.1, jw x123.2.2.2.2.2.1], jw x125] (.one (.agg [.int .i64, .int .i64, .str])) w120 fun (x126 : Int × Int × ByteArray × Unit) w127 =>
 call prog 133 [.agg #[ji x126.1, ji x126.2.1, .string x126.2.2.1]] (.one oI) w127 fun (x128 : Int) w129 =>
 br (x128 == 0) (wr prog (Instr.buildSlice 91 1 #[(0, (.agg #[ji 7, ji n_, ji s110.2.1, ji s114.2.1, ji 0]))]) oS w129 fun (x130 : Hd3) w131 =>
 wr prog (Builtin.append_ #[91, 91] 91 #[.slice s114.1.1 s114.1.2.1 s114.1.2.2, .slice x130.1 x130.2.1 x130.2.2]) oS w131 fun (x132 : Hd3) w133 =>
 K116 ((x132.1, x132.2.1, x132.2.2), ()) w133)
 (K116 ((s114.1.1, s114.1.2.1, s114.1.2.2), ()) w129))
 (z (IntKind.wrap .i64 (s110.2.1 + 1)) fun (z134 : Int) =>
 g109 ((s114.1.1, s114.1.2.1, s114.1.2.2), z134, ()) w115))
 (R (jw s110.1) w111)))
def H73o : Hints := ⟨[(2, 0, [(11, (.one .slice)), (12, (.one (.int .i64)))]), (2, 2, [(11, (.one .slice)), (13, (.one (.int .i64)))]), (2, 4, [(11, (.one .slice)), (16, (.one (.int .i64)))]), (2, 6, [(18, (.one .bool)), (19, (.one (.int .i64)))]), (1, 6, [(18, (.one .bool))]), (1, 5, [(11, (.one .slice))]), (1, 3, [(11, (.one .slice))]), (2, 8, [(11, (.one .slice)), (20, (.one (.int .i64)))]), (2, 10, [(11, (.one .slice)), (21, (.one (.int .i64)))]), (1, 11, [(11, (.one .slice))])], [(1, 12), (14, 10), (19, 16), (28, 9)], [], [1000001]⟩
theorem S73o_calls (s_0a : OA) (s_0n s_0c : Nat) (i_0a : OA) (i_0n i_0c : Nat) (n_ : Int) (fine_a : OA) (fine_n fine_c : Nat) (w0 : World) (R : KR) (h : S73o s_0a s_0n s_0c i_0a i_0n i_0c n_ fine_a fine_n fine_c w0 R) : Calls prog 73 #[.agg #[.slice s_0a s_0n s_0c], .agg #[.slice i_0a i_0n i_0c], ji n_, .slice fine_a fine_n fine_c] w0 (ret R) :=
 vcFn_sound (H := H73o) follows_ Tryz.func73 (Eq.mpr (by kernel_rfl) h)
end Go.Proofs

/- The reference: rows, tables, Violations, Valid. -/


namespace Go.Proofs.YtcfghfmlfgaeaaaGreatDoor
open Go.RowKit Go.Q Go.V Go.Bag Go.Shelf

section
variable {w : World} {i : Nat} {x : TH} {t : TPar} {I : List Rows}
set_option maxHeartbeats 1600000 in
theorem rrowsP (T : TbAt w i x t) (ok : t.Ok i) {g : Hdr} {Rs : Rows} (G : RowsAt w g Rs) (hR : ∀ n r, Rs[n]? = some r → RowOk I t n r) (hRI : Rs ∈ I) (few : ∀ R ∈ I, R.length ≤ 20) (n0 : Int) :
    call Tryz.prog 72 [tbv x, .int .i64 n0, .slice g.1 g.2.1 g.2.2] (.many [.one .slice, .one .bool]) w (fun (r : Hdr × Bool × Unit) w' => r.1 = (none, 0, 0) ∧ r.2.1 = true ∧ bel w w') := by
  have hgl := G.len
  have h20 := few Rs hRI
  have hnc := T.nc
  have hle := nc_le ok
  refine call_of (S72_calls x.1 x.2.1.1 x.2.1.2.1 x.2.1.2.2 x.2.2.1.1 x.2.2.1.2.1 x.2.2.1.2.2 x.2.2.2.1.1 x.2.2.2.1.2.1 x.2.2.2.1.2.2 x.2.2.2.2.1.1 x.2.2.2.2.1.2.1 x.2.2.2.2.1.2.2 x.2.2.2.2.2.1.1 x.2.2.2.2.2.1.2.1 x.2.2.2.2.2.1.2.2 n0 g.1 g.2.1 g.2.2 w _ ?_)
  unfold S72
  refine wr_box fun x1 w2 X1 h2 _ _ => ?_
  replace X1 : Box w2 x1 (tbc x) := X1
  refine loop_gh (G := Nat) (fun n (s : Hdr × Bool × Int × Unit) w' => s = ((none, 0, 0), true, (n : Int), ()) ∧ n ≤ Rs.length ∧ bel w2 w') (fun n => Rs.length - n) 0 ⟨rfl, Nat.zero_le _, bel.refl _⟩ ?_
  rintro n s w5 ⟨rfl, hn, hb⟩ again hag _
  refine br_dec (fun e => ?_) (fun e => ⟨((none, 0, 0), true, ()), rfl, rfl, rfl, h2.trans hb⟩)
  dsimp only at e
  have hn' : n < Rs.length := by omega
  refine join_mk (fun s' w' => s' = ((none, 0, 0), true, ()) ∧ bel w2 w') (fun K hK => ?_) ?_
  · refine drw_mk fun w10 h10 _ => ?_
    replace hb := hb.trans h10
    refine (G.up h2).atB hb rfl hn' fun z r hr Z => ?_
    have R := hR n r hr
    have hrl := R.len
    have hzl := RowAt.len Z
    refine rd_box (by kernel_rfl) (X1.up hb) (i := 1) rfl rfl ?_
    refine br_ne (fun e => absurd (by dsimp only; omega) e) (fun _ => ?_)
    refine loop_gh (G := Nat) (fun c (s : Hdr × Bool × Int × Unit) w' => s = ((none, 0, 0), true, (c : Int), ()) ∧ c ≤ t.nc ∧ bel w2 w') (fun c => t.nc - c) 0 ⟨rfl, Nat.zero_le _, hb⟩ ?_
    rintro c s w20 ⟨rfl, hc, hb⟩ again2 hag2 _
    refine rd_box (by kernel_rfl) (X1.up hb) (i := 1) rfl rfl ?_
    refine br_dec (fun e => ?_) (fun e => hK _ _ ⟨rfl, hb⟩)
    dsimp only at e
    have hc' : c < t.nc := by omega
    obtain ⟨col, hcol⟩ : ∃ col, t.cols[c]? = some col := ⟨_, List.getElem?_eq_getElem (by rw [cols_len]; omega)⟩
    refine join_mk (fun s' w' => s' = ((none, 0, 0), true, ()) ∧ bel w2 w') (fun K hK => ?_) ?_
    · refine (G.up h2).atB hb rfl hn' fun z' r' hr' Z' => ?_
      obtain rfl : r = r' := by rw [hr] at hr'; cases hr'; rfl
      refine row_at (Sl.up Z' hb) rfl (by omega) fun p hp => ?_
      obtain ⟨sm, hty⟩ := row_val ok R few (by omega) hcol hp
      refine var_mk (z := .agg #[.int .i64 0, .int .i64 0, .string ByteArray.empty]) (v := .agg (encV p).toArray) (by kernel_rfl) (by kernel_rfl) rfl rfl fun x30 w32 X h32 _ => ?_
      replace X : Box w32 x30 (encV p) := X
      replace hb := hb.trans h32
      refine join_mk (fun s w' => s.1 = false ∧ bel w32 w') (fun K2 hK2 => ?_) ?_
      · refine drw_mk fun w55 h55 _ => ?_
        replace X := X.up h55
        refine flEx_mk (fun i _ v _ => i = 1 → v = .bool true) (fun _ _ _ _ _ h _ => h) ?_
        refine rd_boxN X (by kernel_rfl) rfl ?_
        refine flc_mk (fun w17 _ _ => ?_) (fun x21 => ?_)
        · refine call_mono (rvalidP p sm w17) ?_
          rintro b w20 ⟨rfl, h20⟩
          exact ⟨h20, fun _ => rfl⟩
        refine br_mk (fun e => flend_mk fun w22 h22 f => ?_) (fun e => ?_)
        · have := inj_b (f.1 rfl)
          subst this; cases e
        refine rd_box0 (by kernel_rfl) X rfl rfl ?_
        refine br_ne (fun e1 => ?_) (fun e1 => flend_mk fun w31 h31 _ => hK2 _ _ ⟨rfl, h55.trans h31⟩)
        refine rd_box0 (by kernel_rfl) X rfl rfl ?_
        refine rd_box (by kernel_rfl) ((X1.up hb).up h55) (i := 1) rfl rfl ?_
        refine ColsAt.typ (((T.cols.up h2).up hb).up h55) rfl hcol ?_
        refine flend_mk fun w29 h29 _ => hK2 _ _ ⟨?_, h55.trans h29⟩
        have : p.1 = col.2.1 := by rcases hty with q | q; exact absurd q.1 e1; exact q.2
        simp [this]
      · rintro ⟨s, u⟩ w38 ⟨hs, h38⟩ _
        dsimp only at hs
        subst hs
        have hb38 := hb.trans h38
        refine br_f rfl ?_
        refine rd_box0 (by kernel_rfl) (X.up h38) rfl rfl ?_
        refine br_eq (fun e1 => ?_) (fun e1 => hK _ _ ⟨rfl, hb38⟩)
        have hq : col.2.2 = true ∧ c ≠ 0 := by rcases hty with q | q; exact q.2; exact absurd e1 q.1
        refine rd_box (by kernel_rfl) (X1.up hb38) (i := 1) rfl rfl ?_
        refine ColsAt.nul ((T.cols.up h2).up hb38) rfl hcol ?_
        rw [hq.1]
        refine br_f rfl ?_
        refine rd_box (by kernel_rfl) (X1.up hb38) (i := 2) rfl rfl ?_
        refine call_mono (inP x.2.2.1 [0] (c : Int) ((T.prim.up h2).up hb38)) ?_
        rintro bb w49 ⟨rfl, h49⟩
        refine br_f (decide_eq_false (by have := hq.2; simp; omega)) ?_
        exact hK _ _ ⟨rfl, hb38.trans h49⟩
    · rintro s' w14 ⟨rfl, hb⟩ _
      refine z_i64 (by dsimp only; omega) ?_
      exact hag2 (c + 1) _ _ ⟨by dsimp only; simp, hc', hb⟩ (by omega)
  · rintro s' w8 ⟨rfl, hb⟩ _
    refine z_i64 (by dsimp only; omega) ?_
    exact hag (n + 1) _ _ ⟨by dsimp only; simp, hn', hb⟩ (by omega)
end
end Go.Proofs.YtcfghfmlfgaeaaaGreatDoor

/- The reference: a table's keys and references; Violations, Valid. -/

namespace Go.Proofs.YtcfghfmlfgaeaaaGreatDoor
open Go.RowKit Go.Q Go.V Go.Bag Go.Shelf

theorem rdE_cells {P : Program} {E : Rel} {t : TypeId} {l : List Sh} {w : World} {ad : Addr} {vs : List Value} {x : LT l} {k : LT l → Prop} (hE : ∀ w', E w w' → bel w w') (ht : aggOf P t vs.length = true) (h : ∀ j v, vs[j]? = some v → w.cell? (ad.add j) = some v)
    (hx : Lget l vs = some x) (hk : k x) : rdE P E (Instr.loadAt t (.pointer (some ad))) (.agg l) w k :=
  ⟨x, fun w' hw => by rw [run_loadAt, run_loadVarN ht (fun j v hj => (hE w' hw).cell (h j v hj)), Lget_spec hx]; rfl, hk⟩
theorem rdE_cell {P : Program} {E : Rel} {t : TypeId} {s : Sh} {w : World} {ad : Addr} {v : Value} {x : s.T} {k : s.T → Prop} (hE : ∀ w', E w w' → bel w w') (ht : scal P t = true) (h : w.cell? ad = some v) (hx : s.get v = some x) (hk : k x) :
    rdE P E (Instr.loadAt t (.pointer (some ad))) (.one s) w k :=
  ⟨x, fun w' hw => by rw [run_loadAt, run_loadVar1 ht ((hE w' hw).cell h), Sh.get_spec hx]; rfl, hk⟩
section
variable {w : World} {h g fh : Hdr} {D : List TPar} {I : List Rows}
set_option maxHeartbeats 4000000 in
theorem rtabP (H : SchAt w h D) (hD : OkD D) (G : InsAt w g I) (oI : OkI D I) (B : Sl w fh.1 fh.2.1 fh.2.2 1 (List.replicate D.length (.bool true))) {n : Nat} (hn : n < D.length) :
    call Tryz.prog 73 [.agg #[.slice h.1 h.2.1 h.2.2], .agg #[.slice g.1 g.2.1 g.2.2], .int .i64 (n : Int), .slice fh.1 fh.2.1 fh.2.2] (.one (.one .slice)) w (fun (x : Hdr) w' => x = (none, 0, 0) ∧ bel w w') := by
  have hl := H.len
  have hd2 := hD.d2
  have hil := oI.len
  have hfl : fh.2.1 = D.length := by have := B.len; simp at this; omega
  obtain ⟨t, ht⟩ : ∃ t, D[n]? = some t := ⟨_, List.getElem?_eq_getElem hn⟩
  obtain ⟨Rs, hRs⟩ : ∃ Rs, I[n]? = some Rs := ⟨_, List.getElem?_eq_getElem (by omega)⟩
  have ok := hD.each n t ht
  have hk2 := ok.k2
  have h20 := okI_few oI hRs
  have hR : ∀ (k : Nat) r, Rs[k]? = some r → RowOk I t k r := fun k r hr => oI.row n t Rs k r ht hRs hr
  refine call_of (S73o_calls h.1 h.2.1 h.2.2 g.1 g.2.1 g.2.2 n fh.1 fh.2.1 fh.2.2 w _ ?_)
  unfold S73o
  refine wr_box fun x1 w2 X1 h2 _ _ => ?_
  refine wr_box fun x3 w4 X3 h4 _ _ => ?_
  replace X1 : Box w4 x1 [.slice h.1 h.2.1 h.2.2] := Box.up (show Box w2 x1 [.slice h.1 h.2.1 h.2.2] from X1) h4
  replace X3 : Box w4 x3 [.slice g.1 g.2.1 g.2.2] := X3
  refine drw_mk fun w5 h5 _ => ?_
  replace X1 := X1.up h5; replace X3 := X3.up h5
  have hb5 := (h2.trans h4).trans h5
  have H5 := H.up hb5
  have G5 := G.up hb5
  obtain ⟨LT, L1, L2, L3⟩ := H5
  obtain ⟨x, hx⟩ : ∃ x, LT[n]? = some x := ⟨_, List.getElem?_eq_getElem (by omega)⟩
  have T := L3 n x t hx ht
  have H5 : SchAt w5 h D := ⟨LT, L1, L2, L3⟩
  obtain ⟨LG, G1, G2, G3⟩ := G5
  obtain ⟨y, hy⟩ : ∃ y, LG[n]? = some y := ⟨_, List.getElem?_eq_getElem (by omega)⟩
  have YR := G3 n y Rs hy hRs
  have G5 : InsAt w5 g I := ⟨LG, G1, G2, G3⟩
  have hyl := YR.len
  have hnt := T.nt
  have hu := T.uniq
  have hcs := T.chks
  have e3 : x.2.2.2.1.2.1 = 0 := by rw [hu]
  have e5 : x.2.2.2.2.2.1.2.1 = 0 := by rw [hcs]
  let P : World → Prop := fun w' => Box w' ⟨w5.heap.size, 0, none⟩ zTb ∨ Box w' ⟨w5.heap.size, 0, none⟩ (tbc x)
  refine flExC_mk (fun w1 w2 => Below w5.heap.size w1 w2) (fun _ w1 w2 => P w1 → P w2)
    (fun D' w' => (D' 10 = false → w'.heap.size = w5.heap.size) ∧ (D' 11 = true → Box w' ⟨w5.heap.size, 0, none⟩ (tbc x)))
    (fun i _ v w' => i = 10 → v = .pointer (some ⟨w5.heap.size, 0, none⟩) ∧ w5.heap.size < w'.heap.size ∧ P w')
    (fun w1 => Below.refl _ w1) (fun _ _ _ a b => a.trans b) (fun i j ags v w1 w2 hne hΦ hE hG e => ?_) ⟨fun _ => rfl, fun q => by cases q⟩ ?_
  · obtain ⟨a1, a2, a3⟩ := hΦ e
    exact ⟨a1, Nat.lt_of_lt_of_le a2 hE.size, hG a3⟩
  refine rdE_box0 (by kernel_rfl) (fun _ hE => X1.up hE.1) rfl rfl ?_
  refine idx_agg tyTb tbc_len (by omega) L1 rfl hx fun ad had => ?_
  refine rdE_cells (vs := tbc x) (fun _ hE => hE.1) (by kernel_rfl) had rfl ?_
  refine rdE_box0 (by kernel_rfl) (fun _ hE => X3.up hE.1) rfl rfl ?_
  refine idx_agg (enc := fun q : Hdr => [hv q]) tyTabs (fun _ => rfl) (by omega) (by rw [← List.map_eq_flatMap]; exact G1) rfl hy fun ad2 had2 => ?_
  have hc2 := had2 0 _ rfl
  rw [add_zero] at hc2
  refine rdE_cell (fun _ hE => hE.1) (by kernel_rfl) hc2 rfl ?_
  refine flcC_mk (fun D' w16 hD' hE hSt _ => ?_) (fun x21 => ?_)
  · have hs16 := hSt.1 hD'
    refine wr_alloc (z := .agg zTb.toArray) (by kernel_rfl) fun a w20 Z h20' hab hsz => ?_
    replace Z : Box w20 a zTb := Z
    have ha : a = ⟨w5.heap.size, 0, none⟩ := by rw [Z.eq, hab, hs16]
    subst ha
    refine ⟨⟨h20'.os, h20'.tape, h20'.output, h20'.size, fun k hk => h20'.block k (by omega)⟩, fun hp => .inl Z, ⟨(fun q => by rw [setD_self] at q; cases q), fun q => ?_⟩, fun _ => ⟨rfl, by omega, .inl Z⟩⟩
    rw [setD_ne (by decide)] at q
    exact (hSt.2 q).up h20'
  refine flcC_mk (fun D' w22 hD' hE hSt f => ?_) (fun _ => ?_)
  · obtain ⟨a1, a2, a3⟩ := f.1 rfl
    have ha : x21 = ⟨w5.heap.size, 0, none⟩ := by injection a1 with a1; injection a1
    subst ha
    have st : ∀ {cs : List Value}, cs.length = 6 → Box w22 ⟨w5.heap.size, 0, none⟩ cs → wu Tryz.prog (Instr.storeAt 41 (.pointer (some ⟨w5.heap.size, 0, none⟩)) (tbv x)) w22 fun w25 => (Below w5.heap.size w22 w25) ∧ (P w22 → P w25) ∧ (((setD D' 11) 10 = false → w25.heap.size = w5.heap.size) ∧ ((setD D' 11) 11 = true → Box w25 ⟨w5.heap.size, 0, none⟩ (tbc x))) := by
      intro cs hcs hB
      refine wu_box hB (v := tbv x) (by kernel_rfl) (by rw [hcs]; exact Nat.le_refl 6) rfl fun w25 Z g25 s25 => ?_
      have Z' : Box w25 ⟨w5.heap.size, 0, none⟩ (tbc x) := by
        have e : putAt cs 0 (tbc x) = tbc x := by
          have := putAt_at (tbc x) [] cs (by rw [hcs]; exact Nat.le_refl 6)
          simp only [List.nil_append, List.length_nil] at this
          rw [this, List.drop_of_length_le (by rw [hcs]; exact Nat.le_refl 6), List.append_nil]
        rw [← e]; exact Z
      refine ⟨⟨g25.os, g25.tape, g25.output, g25.size, fun k hk => g25.block k (by omega) (by intro q; injection q with q; dsimp only at q; omega)⟩, fun _ => .inr Z', ⟨fun q => ?_, fun _ => Z'⟩⟩
      rw [setD_ne (by decide)] at q
      have := hSt.1 q; omega
    rcases a3 with a3 | a3
    · obtain ⟨w25, r, c1, c2, c3⟩ := st rfl a3
      exact ⟨w25, r, c1, c2, c3, fun q => by omega⟩
    · obtain ⟨w25, r, c1, c2, c3⟩ := st rfl a3
      exact ⟨w25, r, c1, c2, c3, fun q => by omega⟩
  refine flendC_mk fun w27 hE hSt f => ?_
  have hb27 : bel w5 w27 := hE
  have hX := hSt.2 rfl
  have ha : x21 = ⟨w5.heap.size, 0, none⟩ := by
    obtain ⟨a1, _⟩ := f.2.1 rfl
    injection a1 with a1; injection a1
  subst ha
  refine rd_box (by kernel_rfl) hX (i := 2) rfl rfl ?_
  refine call_mono (repeatedP (YR.up hb27) hR h20 (T.prim.up hb27) 4 n 0) ?_
  rintro (x30 : Hdr) w31 ⟨rfl, h31⟩
  refine loop_upA 0 (fun _ (s : Hdr) w' => s = (none, 0, 0) ∧ bel w27 w') ⟨rfl, h31⟩ fun j s w34 hj ⟨hs, hb34⟩ again hag _ => ?_
  subst hs
  refine rd_box (by kernel_rfl) (hX.up hb34) (i := 3) rfl rfl ?_
  refine br_dec (fun e => by dsimp only at e; omega) (fun _ => ?_)
  refine loop_upA t.tos.length (fun _ (s : Hdr) w' => s = (none, 0, 0) ∧ bel w27 w') ⟨rfl, hb34⟩ fun f s w46 hf ⟨hs, hb46⟩ again2 hag2 _ => ?_
  subst hs
  refine rd_box (by kernel_rfl) (hX.up hb46) (i := 4) rfl rfl ?_
  refine br_dec (fun e => ?_) (fun e => ?_)
  · dsimp only at e
    have hf' : f < t.tos.length := by omega
    obtain ⟨to, hto⟩ : ∃ to, t.tos[f]? = some to := ⟨_, List.getElem?_eq_getElem hf'⟩
    have hto2 := ok.to to (List.mem_of_getElem? hto)
    have htoD : to < D.length := by omega
    obtain ⟨t2, ht2⟩ : ∃ t2, D[to]? = some t2 := ⟨_, List.getElem?_eq_getElem htoD⟩
    obtain ⟨R2, hR2⟩ : ∃ Rs, I[to]? = some Rs := ⟨_, List.getElem?_eq_getElem (by omega)⟩
    have h202 := okI_few oI hR2
    refine join_mk (fun s' w' => s'.1 = (none, 0, 0) ∧ bel w27 w') (fun K hK => ?_) ?_
    · refine rd_boxN (X1.up (hb27.trans hb46)) (by kernel_rfl) rfl ?_
      refine call_mono (rtargetP (H5.up (hb27.trans hb46)) hD ht hto) ?_
      rintro (r : Int × Bool × Unit) w50 ⟨e1, _, h50⟩
      refine loop_upA Rs.length (fun _ (s : Hdr) w' => s = (none, 0, 0) ∧ bel w27 w') ⟨rfl, hb46.trans h50⟩ fun k s w53 hk ⟨hs, hb53⟩ again3 hag3 _ => ?_
      subst hs
      refine br_dec (fun e => ?_) (fun e => hK _ _ ⟨rfl, hb53⟩)
      dsimp only at e
      have hk' : k < Rs.length := by omega
      have hbw53 := hb5.trans (hb27.trans hb53)
      refine at_mk (s := .bool) tyBo (by kernel_rfl) (B.up hbw53) (j := to) e1 (v := .bool true) (by rw [List.getElem?_replicate, if_pos (by omega)]) (x := true) rfl ?_
      refine br_t rfl ?_
      refine join_mk (fun s' w' => s'.1 = (none, 0, 0) ∧ bel w27 w') (fun K2 hK2 => ?_) ?_
      · refine drw_mk fun w60 h60 _ => ?_
        have hb60 := hb53.trans h60
        have hb560 := hb27.trans hb60
        refine YR.atB hb560 rfl hk' fun z r0 hr Z => ?_
        have R := hR k r0 hr
        obtain ⟨m, R3, q1, q2, q3, q4⟩ := R.key f to hto
        obtain rfl : R2 = R3 := by rw [hR2] at q3; cases q3; rfl
        refine rd_box (by kernel_rfl) (hX.up hb60) (i := 4) rfl rfl ?_
        refine ForsAt.col (T.fors.up hb560) rfl hf' fun l L => ?_
        refine call_mono (pickP (c := 1 + t.nf + f) (Z.up hb560) (by
          rw [show ((1 + t.nf + f : Nat) : Int) = 1 + (t.nf : Int) + (f : Int) by omega]; exact L) q1) ?_
        rintro (x66 : Hdr) w67 ⟨P66, h67⟩
        refine call_mono (nullP P66 (show (1 : Int) ≠ 0 by decide)) ?_
        rintro b w69 ⟨rfl, h69⟩
        have hb69 := (hb60.trans h67).trans h69
        refine join_mk (fun s' w' => s'.1 = true ∧ bel w69 w') (fun K3 hK3 => ?_) ?_
        · refine loop_upA m (fun j (b : Bool) w' => bel w69 w' ∧ b = decide (j = m)) ⟨bel.refl _, (decide_eq_false (by omega)).symm⟩ fun j b w79 hj ⟨hb79, hbj⟩ again4 hag4 _ => ?_
          subst hbj
          have hb579 := hb27.trans (hb69.trans hb79)
          refine rd_box0 (by kernel_rfl) (X3.up hb579) rfl rfl ?_
          refine G5.atB hb579 e1 (by omega) fun y2 R4 hR4 Y2 => ?_
          obtain rfl : R2 = R4 := by rw [hR2] at hR4; cases hR4; rfl
          have hy2 := Y2.len
          refine br_dec (fun e2 => ?_) (fun e2 => ?_)
          · refine br_mk (fun e4 => ?_) (fun e4 => ?_)
            · have hjm : j ≠ m := by
                rintro rfl
                simp at e4
              have hjm' : j < m := by omega
              refine drw_mk fun w83 h83 _ => ?_
              have hb583 := hb579.trans h83
              refine flEx_mk (fun i ags v w' => i = 14 → ∃ X : Hdr, v = .slice X.1 X.2.1 X.2.2 ∧ RowAt w' X [keyV (j + 1)]) (fun i ags v w1 w2 q hb e => by
                obtain ⟨X, a1, a2⟩ := q e
                exact ⟨X, a1, Sl.up a2 hb⟩) ?_
              refine rd_box0 (by kernel_rfl) (X3.up hb583) rfl rfl ?_
              refine G5.atB hb583 e1 (by omega) fun y3 R5 hR5 Y3 => ?_
              obtain rfl : R2 = R5 := by rw [hR2] at hR5; cases hR5; rfl
              refine Y3.atB hb583 rfl (by omega) fun z3 r3 hr3 Z3 => ?_
              have R3' := oI.row to t2 R2 j r3 ht2 hR2 hr3
              refine rd_box0 (by kernel_rfl) (X1.up hb583) rfl rfl ?_
              refine (H5.up hb583).fld (o := 2) e1 htoD (by kernel_rfl) fun x2 t2' ht2' T2 => ⟨x2.2.2.1, rfl, ?_⟩
              refine flc_mk (fun w93 h93 _ => ?_) (fun x97 => ?_)
              · refine call_mono (pickP (c := 0) (Sl.up (Sl.up Z3 hb583) h93) (T2.prim.up h93) R3'.id) ?_
                rintro (x95 : Hdr) w96 ⟨P95, h96⟩
                exact ⟨h96, fun _ => ⟨x95, rfl, P95⟩⟩
              refine flend_mk fun w98 h98 f => ?_
              obtain ⟨X, a1, a2⟩ := f.1 rfl
              have hX97 := sl_eq a1
              rw [show ((X.1, X.2.1, X.2.2) : Hdr) = X from rfl] at hX97
              subst hX97
              have hb6998 := (hb79.trans h83).trans h98
              refine call_mono (cmpRk a2 (Sl.up P66 (h69.trans hb6998))) ?_
              rintro r w101 ⟨hr0, h101⟩
              refine z_i64 (by dsimp only; omega) ?_
              refine hag4 _ _ hjm' ⟨hb6998.trans h101, ?_⟩
              rw [Bool.eq_iff_iff]
              simp only [decide_eq_true_eq]
              have hri : ∀ r : Int, (r = 0 ↔ j + 1 = m) → ((r == 0) = true ↔ j + 1 = m) := fun r hr0 => Iff.trans beq_iff_eq hr0
              exact hri r hr0
            · refine hK3 _ _ ⟨?_, hb79⟩
              simpa using e4
          · refine hK3 _ _ ⟨?_, hb79⟩
            dsimp only at e2
            exact decide_eq_true (by omega)
        · rintro ⟨s', u'⟩ w72 ⟨hs', h72⟩ _
          dsimp only at hs'
          subst hs'
          exact br_f rfl (hK2 _ _ ⟨rfl, hb69.trans h72⟩)
      · rintro ⟨s', u'⟩ w58 ⟨hs', hb58⟩ _
        dsimp only at hs'
        subst hs'
        refine z_i64 (by dsimp only; omega) ?_
        exact hag3 (none, 0, 0) _ hk' ⟨rfl, hb58⟩
    · rintro ⟨s', u'⟩ w46' ⟨hs', hb'⟩ _
      dsimp only at hs'
      subst hs'
      refine z_i64 (by dsimp only; omega) ?_
      exact hag2 (none, 0, 0) _ hf' ⟨rfl, hb'⟩
  · refine loop_upA 0 (fun _ (s : Hdr) w' => s = (none, 0, 0) ∧ bel w27 w') ⟨rfl, hb46⟩ fun j s w105 hj ⟨hs, hb105⟩ again3 hag3 _ => ?_
    subst hs
    refine rd_box (by kernel_rfl) (hX.up hb105) (i := 5) rfl rfl ?_
    exact br_dec (fun e => by dsimp only at e; omega) (fun _ => ⟨((none, 0, 0) : Hdr), rfl, rfl, hb5.trans (hb27.trans hb105)⟩)
end
end Go.Proofs.YtcfghfmlfgaeaaaGreatDoor

/- The reference: Violations, Valid. -/

namespace Go.Proofs.YtcfghfmlfgaeaaaGreatDoor
open Go.RowKit Go.Q Go.V Go.Bag Go.Shelf

theorem tyVio : TyS Tryz.prog 91 188 (.agg #[.int .i64 0, .int .i64 0, .int .i64 0, .int .i64 0, .int .i64 0]) 5 40 := ⟨by kernel_rfl, by kernel_rfl⟩
section
variable {w : World} {h g : Hdr} {D : List TPar} {I : List Rows}
set_option maxHeartbeats 1600000 in
theorem rviolationsP (H : SchAt w h D) (hD : OkD D) (G : InsAt w g I) (oI : OkI D I) :
    call Tryz.prog 34 [.agg #[.slice h.1 h.2.1 h.2.2], .agg #[.slice g.1 g.2.1 g.2.2]] (.many [.one .slice, .one (.int .i64)]) w (fun (x : Hdr × Int × Unit) w' => x.1.2.1 = 0 ∧ x.2.1 = 0 ∧ bel w w') := by
  have hl := H.len
  have hd2 := hD.d2
  have hgl := G.len
  have hil := oI.len
  refine call_of (S34_calls h.1 h.2.1 h.2.2 g.1 g.2.1 g.2.2 w _ ?_)
  unfold S34
  refine wr_box fun x1 w2 X1 h2 _ _ => ?_
  refine wr_box fun x3 w4 X3 h4 _ _ => ?_
  replace X1 : Box w4 x1 [.slice h.1 h.2.1 h.2.2] := Box.up (show Box w2 x1 [.slice h.1 h.2.1 h.2.2] from X1) h4
  replace X3 : Box w4 x3 [.slice g.1 g.2.1 g.2.2] := X3
  have hb4 := h2.trans h4
  refine rd_boxN X1 (by kernel_rfl) rfl ?_
  refine call_mono (rschP (H.up hb4) hD) ?_
  rintro r w7 ⟨rfl, h7⟩
  replace X1 := X1.up h7; replace X3 := X3.up h7
  have hb7 := hb4.trans h7
  have H7 := H.up hb7
  have G7 := G.up hb7
  refine br_f rfl ?_
  refine rd_box0 (by kernel_rfl) X3 rfl rfl ?_
  refine rd_box0 (by kernel_rfl) X1 rfl rfl ?_
  refine br_ne (fun e => by dsimp only at e; omega) (fun _ => ?_)
  refine loop_upA D.length (fun i (s : Hdr) w' => bel w7 w' ∧ Own w' w7.heap.size 4 1 s.1 s.2.1 s.2.2 (List.replicate i (.bool true))) ⟨bel.refl _, Own.nil _ _ _ _⟩ fun i s w12 hi ⟨hb, O⟩ again hag _ => ?_
  have hsl : s.2.1 = i := by have := O.1; simp at this; omega
  refine rd_box0 (by kernel_rfl) (X1.up hb) rfl rfl ?_
  refine br_dec (fun e => ?_) (fun e => ?_)
  · dsimp only at e
    have hi' : i < D.length := by omega
    refine drw_mk fun w14 h14 _ => ?_
    have hb14 := hb.trans h14
    refine rd_box0 (by kernel_rfl) (X1.up hb14) rfl rfl ?_
    refine (H7.up hb14).at rfl hi' fun x t ht T => ?_
    have ok := hD.each i t ht
    refine rd_box0 (by kernel_rfl) (X3.up hb14) rfl rfl ?_
    refine (G7.up hb14).at rfl (by omega) fun y Rs hRs YR => ?_
    refine call_mono (rrowsP T ok YR (fun n r hr => oI.row i t Rs n r ht hRs hr) (List.mem_of_getElem? hRs) oI.few i) ?_
    rintro (x21 : Hdr × Bool × Unit) w22 ⟨_, hx2, h22⟩
    have hx2' : x21.2.1 = true := hx2
    rw [hx2']
    have O22 := Own.kept (Own.kept O h14) h22
    have hb22 := hb14.trans h22
    refine wr_app1 tyBo (v := .bool true) O22 hb22.size rfl (by omega) (by omega) rfl rfl (by omega) (by unfold maxLen; omega) fun a' c' w26 O26 g26 _ _ => ?_
    refine z_i64 (by dsimp only; omega) ?_
    refine hag (a', s.2.1 + 1, c') _ hi' ⟨bel.own hb22 O22 g26 (Nat.le_refl _), ?_⟩
    rw [List.replicate_succ']
    exact O26
  · dsimp only at e
    have hiD : i = D.length := by omega
    subst hiD
    refine loop_upA D.length (fun _ (s : Hdr) w' => s = (none, 0, 0) ∧ bel w12 w') ⟨rfl, bel.refl _⟩ fun k s2 w30 hk ⟨hs, hb2⟩ again2 hag2 _ => ?_
    subst hs
    have hb30 := hb.trans hb2
    refine rd_box0 (by kernel_rfl) (X1.up hb30) rfl rfl ?_
    refine br_dec (fun e => ?_) (fun e => ⟨((none, 0, 0), (0 : Int), ()), rfl, rfl, rfl, hb7.trans hb30⟩)
    dsimp only at e
    have hk' : k < D.length := by omega
    refine join_mk (fun s' w' => s'.1 = (none, 0, 0) ∧ bel w12 w') (fun K hK => ?_) ?_
    · refine drw_mk fun w36 h36 _ => ?_
      have hb36 := hb30.trans h36
      refine rd_box0 (by kernel_rfl) (X1.up hb36) rfl rfl ?_
      refine (H7.up hb36).at rfl hk' fun x t ht T => ?_
      have ok := hD.each k t ht
      refine rd_box0 (by kernel_rfl) (X3.up hb36) rfl rfl ?_
      refine (G7.up hb36).at rfl (by omega) fun y Rs hRs YR => ?_
      refine call_mono (rrowsP T ok YR (fun n r hr => oI.row k t Rs n r ht hRs hr) (List.mem_of_getElem? hRs) oI.few k) ?_
      rintro (x43 : Hdr × Bool × Unit) w44 ⟨hx1, _, h44⟩
      have hx1' : x43.1 = (none, 0, 0) := hx1
      rw [hx1']
      have hb44 := (hb2.trans h36).trans h44
      refine wr_app0 tyVio (Nat.le_refl _) ?_
      refine at_mk (s := .bool) tyBo (by kernel_rfl) (O.sl.up hb44) (j := k) rfl (v := .bool true) (by rw [List.getElem?_replicate, if_pos (by omega)]) (x := true) rfl ?_
      refine br_t rfl ?_
      have hb744 := hb.trans hb44
      refine rd_boxN (X1.up hb744) (by kernel_rfl) rfl ?_
      refine rd_boxN (X3.up hb744) (by kernel_rfl) rfl ?_
      refine call_mono (rtabP (fh := s) (H7.up hb744) hD (G7.up hb744) oI (O.sl.up hb44) hk') ?_
      rintro x51 w52 ⟨hx51, h52⟩
      have hx51' : x51 = ((none, 0, 0) : Hdr) := hx51
      subst hx51'
      refine wr_app0 tyVio (Nat.le_refl _) ?_
      exact hK ((none, 0, 0), ()) _ ⟨rfl, hb44.trans h52⟩
    · rintro ⟨s', u'⟩ w34 ⟨hs', hb'⟩ _
      dsimp only at hs'
      subst hs'
      refine z_i64 (by dsimp only; omega) ?_
      exact hag2 (none, 0, 0) _ hk' ⟨rfl, hb'⟩
theorem rvalP (H : SchAt w h D) (hD : OkD D) (G : InsAt w g I) (oI : OkI D I) :
    call Tryz.prog 11 [.agg #[.slice h.1 h.2.1 h.2.2], .agg #[.slice g.1 g.2.1 g.2.2]] (.one (.one .bool)) w (fun (b : Bool) w' => b = true ∧ bel w w') := by
  refine call_of (S11_calls h.1 h.2.1 h.2.2 g.1 g.2.1 g.2.2 w _ ?_)
  unfold S11
  refine wr_box fun x1 w2 X1 h2 _ _ => ?_
  refine wr_box fun x3 w4 X3 h4 _ _ => ?_
  replace X1 : Box w4 x1 [.slice h.1 h.2.1 h.2.2] := Box.up (show Box w2 x1 [.slice h.1 h.2.1 h.2.2] from X1) h4
  replace X3 : Box w4 x3 [.slice g.1 g.2.1 g.2.2] := X3
  have hb4 := h2.trans h4
  refine rd_boxN X1 (by kernel_rfl) rfl ?_
  refine rd_boxN X3 (by kernel_rfl) rfl ?_
  refine call_mono (rviolationsP (H.up hb4) hD (G.up hb4) oI) ?_
  rintro (x7 : Hdr × Int × Unit) w8 ⟨e1, e2, h8⟩
  refine br_t (by rw [e2]; rfl) ⟨true, by rw [e1]; rfl, rfl, hb4.trans h8⟩
end
/-! ### what is made is good -/
theorem made_ok {D : List TPar} {I : List Rows} {th : Int} {Q : List (Nat × List St)} {I' : List Rows} (hD : OkD D) (oI : OkI D I) (QO : QOk D I th Q) (M : MadeOk D Q I') : OkI D I' := by
  have hql := QO.len
  have look : ∀ (i : Nat) R, I'[i]? = some R → ∃ t q Rs, D[i]? = some t ∧ Q[i]? = some q ∧ I[i]? = some Rs ∧ R.length = q.1 ∧ q.1 = Rs.length := fun i R hR => by
    have hi := (List.getElem?_eq_some_iff.1 hR).1
    have hm := M.len
    obtain ⟨t, ht⟩ : ∃ t, D[i]? = some t := ⟨_, List.getElem?_eq_getElem (by omega)⟩
    obtain ⟨q, hq⟩ : ∃ q, Q[i]? = some q := ⟨_, List.getElem?_eq_getElem (by omega)⟩
    obtain ⟨Rs, hRs⟩ : ∃ Rs, I[i]? = some Rs := ⟨_, List.getElem?_eq_getElem (by rw [oI.len]; omega)⟩
    exact ⟨t, q, Rs, ht, hq, hRs, (M.row i t q R ht hq hR).1, (QO.at_ i t Rs q ht hRs hq).1⟩
  refine ⟨M.len, fun R hR => ?_, fun i t R n r ht hR hr => ?_⟩
  · obtain ⟨i, hi⟩ := List.getElem?_of_mem hR
    obtain ⟨t, q, Rs, _, _, hRs, e1, e2⟩ := look i R hi
    have := okI_few oI hRs
    omega
  · obtain ⟨t', q, Rs, ht', hq, hRs, e1, e2⟩ := look i R hR
    rw [ht] at ht'; cases ht'
    obtain ⟨_, hrow⟩ := M.row i t q R ht hq hR
    have row := hrow n r hr
    have hn := (List.getElem?_eq_some_iff.1 hr).1
    have ok := hD.each i t ht
    have hnn : t.nc = 1 + t.free.length + t.tos.length := rfl
    refine ⟨row.one.len, row.one.id, fun k p v hp hv => ?_, fun k j hj => ?_⟩
    · have hk := (List.getElem?_eq_some_iff.1 hp).1
      obtain ⟨_, e3, hS⟩ := QO.at_ i t Rs q ht hRs hq
      obtain ⟨s, hs⟩ : ∃ s, q.2[1 + k]? = some s := ⟨_, List.getElem?_eq_getElem (by omega)⟩
      have S := hS k p s hp hs
      rcases row.free k p s v (by omega) hp hs hv with a | ⟨a, b⟩
      · exact (S.val v a).1
      · subst a
        exact ⟨.inl rfl, .inl ⟨rfl, b⟩⟩
    · have hk := (List.getElem?_eq_some_iff.1 hj).1
      have hj2 := ok.to j (List.mem_of_getElem? hj)
      have hi := (List.getElem?_eq_some_iff.1 ht).1
      obtain ⟨q2, hq2⟩ : ∃ q, Q[j]? = some q := ⟨_, List.getElem?_eq_getElem (by omega)⟩
      obtain ⟨R2, hR2⟩ : ∃ R, I'[j]? = some R := ⟨_, List.getElem?_eq_getElem (by rw [M.len]; omega)⟩
      obtain ⟨t2, q2', Rs2, ht2, hq2', hRs2, e4, e5⟩ := look j R2 hR2
      rw [hq2] at hq2'; cases hq2'
      have hpos : 0 < q2.1 := by
        obtain ⟨r0, hr0⟩ : ∃ r0, Rs[0]? = some r0 := ⟨_, List.getElem?_eq_getElem (by omega)⟩
        obtain ⟨m, R3, a1, a2, a3, a4⟩ := (oI.row i t Rs 0 r0 ht hRs hr0).key k j hj
        rw [hRs2] at a3; cases a3
        omega
      have hm : n % q2.1 < q2.1 := Nat.mod_lt _ hpos
      exact ⟨1 + n % q2.1, R2, row.one.key k j q2 hk hj hq2, by omega, hR2, by omega⟩
theorem made_tells {D : List TPar} {I : List Rows} {th : Int} {Q : List (Nat × List St)} {I' : List Rows} (QO : QOk D I th Q) (M : MadeOk D Q I') {i : Nat} {t : TPar} {Rs R : Rows} (ht : D[i]? = some t) (hRs : I[i]? = some Rs) (hR : I'[i]? = some R) {n k : Nat} {r : Rw} {p : Int × Bool} {v : V3} (hr : R[n]? = some r) (hp : t.free[k]? = some p) (hv : r[1 + k]? = some v) (hne : v.1 ≠ 0) : th ≤ (cntV v (fcol (1 + k) Rs) : Int) := by
  have hi := (List.getElem?_eq_some_iff.1 ht).1
  have hql := QO.len
  obtain ⟨q, hq⟩ : ∃ q, Q[i]? = some q := ⟨_, List.getElem?_eq_getElem (by omega)⟩
  obtain ⟨_, e3, hS⟩ := QO.at_ i t Rs q ht hRs hq
  have hk := (List.getElem?_eq_some_iff.1 hp).1
  have hnn : t.nc = 1 + t.free.length + t.tos.length := rfl
  obtain ⟨s, hs⟩ : ∃ s, q.2[1 + k]? = some s := ⟨_, List.getElem?_eq_getElem (by omega)⟩
  have S := hS k p s hp hs
  obtain ⟨_, hrow⟩ := M.row i t q R ht hq hR
  rcases (hrow n r hr).free k p s v (by omega) hp hs hv with a | ⟨a, b⟩
  · exact S.occ v a
  · subst a; exact absurd rfl hne
end Go.Proofs.YtcfghfmlfgaeaaaGreatDoor

/- The conditions of functions, printed by our tool; each is checked against the code by the kernel. -/



namespace Go.Proofs
open Go Go.V Go.RowKit
open Tryz (prog)
set_option maxRecDepth 100000
def S77o (s_0a : OA) (s_0n s_0c : Nat) (i_0a : OA) (i_0n i_0c : Nat) (v_0 : ByteArray) (v_1a : OA) (v_1n v_1c : Nat) (v_2a : OA) (v_2n v_2c : Nat) (n_ : Int) (w0 : World) (R : KR) : Prop :=
 wr prog (Instr.box 29 (.agg #[.slice s_0a s_0n s_0c])) oA w0 fun (x1 : Addr) w2 =>
 wr prog (Instr.box 34 (.agg #[.slice i_0a i_0n i_0c])) oA w2 fun (x3 : Addr) w4 =>
 wr prog (Instr.box 96 (.agg #[.string v_0, .slice v_1a v_1n v_1c, .slice v_2a v_2n v_2c])) oA w4 fun (x5 : Addr) w6 =>
 rd prog (jL 29 x1) (.agg [.slice]) w6 fun (x7 : Hd3 × Unit) =>
 rd prog (jL 96 x5) (.agg [.str, .slice, .slice]) w6 fun (x8 : ByteArray × Hd3 × Hd3 × Unit) =>
 call prog 76 [.agg #[jw x7.1], .agg #[.string x8.1, jw x8.2.1, jw x8.2.2.1]] (.many [oS, oB]) w6 fun (x9 : Hd3 × Bool × Unit) w10 =>
 drw w10 fun w11 =>
 br (!x9.2.1) (R (.tuple #[.slice none 0 0, .bool false]) w11)
 (rd prog (jL 32 x3) oS w11 fun (x12 : Hd3) =>
 rd prog (jL 27 x1) oS w11 fun (x13 : Hd3) =>
 br (decide (((x12.2.1 : Nat) : Int) < ((x13.2.1 : Nat) : Int))) (R (.tuple #[.slice none 0 0, .bool false]) w11)
 (br (decide (n_ < 0)) (R (.tuple #[.slice none 0 0, .bool false]) w11)
 (rd prog (jL 32 x3) oS w11 fun (x14 : Hd3) =>
 rdp prog (jI 22 x9.1 0) oA fun (x15 : Addr) =>
 rd prog (jL 3 x15) oI w11 fun (x16 : Int) =>
 rdp prog (jI 32 x14 x16) oA fun (x17 : Addr) =>
 rd prog (jL 53 x17) oS w11 fun (x18 : Hd3) =>
 br (decide (n_ ≥ ((x18.2.1 : Nat) : Int))) (R (.tuple #[.slice none 0 0, .bool false]) w11)
 (loop (T := (Int × Hd3 × Int × Unit)) (n_, (none, 0, 0), 0, ()) w11 fun (g19 : Int × Hd3 × Int × Unit → World → Prop) (s20 : Int × Hd3 × Int × Unit) w21 => ∀ _ : NV,
 br (decide (s20.2.2.1 < ((x9.1.2.1 : Nat) : Int))) (join (T := (Int × Hd3 × Unit)) (fun (s23 : Int × Hd3 × Unit) w24 => ∀ _ : NV,
 z (IntKind.wrap .i64 (s20.2.2.1 + 1)) fun (z25 : Int) =>
 g19 (s23.1, (s23.2.1.1, s23.2.1.2.1, s23.2.1.2.2), z25, ()) w24)
  fun (K22 : Int × Hd3 × Unit → World → Prop) =>
 rdp prog (jI 22 x9.1 s20.2.2.1) oA fun (x26 : Addr) =>
 rd prog (jL 3 x26) oI w21 fun (x27 : Int) =>
 drw w21 fun w28 => flExC w28 fun E31 G30 Y29 F32 =>
 rdE prog (ER Y29 [14] E31) (jL 27 x1) oS w28 fun (x33 : Hd3) =>
 rdp prog (jI 27 x33 x27) oA fun (x34 : Addr) =>
 rdE prog (ER Y29 [14] E31) (jL 41 x34) (.agg [.str, .slice, .slice, .slice, .slice, .slice]) w28 fun (x35 : ByteArray × Hd3 × Hd3 × TS) =>
 rdE prog (ER Y29 [] E31) (jL 32 x3) oS w28 fun (x36 : Hd3) =>
 rdp prog (jI 32 x36 x27) oA fun (x37 : Addr) =>
 rdE prog (ER Y29 [] E31) (jL 53 x37) oS w28 fun (x38 : Hd3) =>
 rdp prog (jI 53 x38 s20.1) oA fun (x39 : Addr) =>
 rdE prog (ER Y29 [] E31) (jL 56 x39) oS w28 fun (x40 : Hd3) =>
 flcC Y29 13 E31 w28 (fun (_D44 : Nat → Bool) _w42 => True) (fun (D43 : Nat → Bool) w41 =>
   wr prog (Instr.alloc 41 true (.tuple #[])) oA w41 fun (x45 : Addr) w46 =>
 (E31 w41 w46 ∧ G30 13 w41 w46 ∧ Y29 (setD D43 13) w46 ∧ F32 (setD D43 13) 13 [] (jp x45) w46))
  fun (x47 : Addr) =>
 flcC Y29 14 E31 w28 (fun (D51 : Nat → Bool) w49 => F32 D51 13 [] (jp x47) w49 ∧ True) (fun (D50 : Nat → Bool) w48 =>
   wu prog (jS 41 x47 (.agg #[.string x35.1, jw x35.2.1, jw x35.2.2.1, jw x35.2.2.2.1, jw x35.2.2.2.2.1, jw x35.2.2.2.2.2.1])) w48 fun w52 =>
 (E31 w48 w52 ∧ G30 14 w48 w52 ∧ Y29 (setD D50 14) w52 ∧ F32 (setD D50 14) 14 [] undef w52))
  fun (_x53 : Unit) =>
 flendC Y29 [14, 13] E31 w28 (fun D0 w55 => F32 D0 14 [] (.tuple #[]) w55 ∧ F32 D0 13 [] (jp x47) w55 ∧ True) fun w54 =>
 rd prog (jL 37 (Addr.add x47 1)) oS w54 fun (x56 : Hd3) =>
 br (decide (((x40.2.1 : Nat) : Int) < ((x56.2.1 : Nat) : Int))) (R (.tuple #[.slice none 0 0, .bool false]) w54)
 (rd prog (jL 37 (Addr.add x47 1)) oS w54 fun (x57 : Hd3) =>
 rdp prog (Instr.sliceAt 56 (jw x40) none (some (ji ((x57.2.1 : Nat) : Int))) none) oS fun (x58 : Hd3) =>
 wr prog (Builtin.append_ #[56, 56] 56 #[.slice s20.2.1.1 s20.2.1.2.1 s20.2.1.2.2, .slice x58.1 x58.2.1 x58.2.2]) oS w54 fun (x59 : Hd3) w60 =>
 rd prog (jL 22 (Addr.add x5 1)) oS w60 fun (x61 : Hd3) =>
 br (decide (s20.2.2.1 < ((x61.2.1 : Nat) : Int))) (z (IntKind.wrap .i64 (s20.2.2.1 + 1)) fun (z62 : Int) =>
 rdp prog (jI 22 x9.1 z62) oA fun (x63 : Addr) =>
 rd prog (jL 3 x63) oI w60 fun (x64 : Int) =>
 drw w60 fun w65 =>
 rd prog (jL 27 x1) oS w65 fun (x66 : Hd3) =>
 rdp prog (jI 27 x66 x64) oA fun (x67 : Addr) =>
 rd prog (jL 41 x67) (.agg [.str, .slice, .slice, .slice, .slice, .slice]) w65 fun (x68 : ByteArray × Hd3 × Hd3 × TS) =>
 rd prog (jL 32 x3) oS w65 fun (x69 : Hd3) =>
 rdp prog (jI 32 x69 x64) oA fun (x70 : Addr) =>
 rd prog (jL 53 x70) oS w65 fun (x71 : Hd3) =>
 rd prog (jL 38 (Addr.add x47 4)) oS w65 fun (x72 : Hd3) =>
 rd prog (jL 22 (Addr.add x5 1)) oS w65 fun (x73 : Hd3) =>
 rdp prog (jI 22 x73 s20.2.2.1) oA fun (x74 : Addr) =>
 rd prog (jL 3 x74) oI w65 fun (x75 : Int) =>
 rdp prog (jI 38 x72 x75) oA fun (x76 : Addr) =>
 rd prog (jL 64 x76) (.agg [.slice, .str]) w65 fun (x77 : Hd3 × ByteArray × Unit) =>
 call prog 138 [.agg #[.string x68.1, jw x68.2.1, jw x68.2.2.1, jw x68.2.2.2.1, jw x68.2.2.2.2.1, jw x68.2.2.2.2.2.1], jw x71, .agg #[jw x77.1, .string x77.2.1], jw x40] (.many [oI, oB]) w65 fun (x78 : Int × Bool × Unit) w79 =>
 br (!x78.2.1) (R (.tuple #[.slice none 0 0, .bool false]) w79)
 (K22 (x78.1, (x59.1, x59.2.1, x59.2.2), ()) w79))
 (K22 (s20.1, (x59.1, x59.2.1, x59.2.2), ()) w60)))
 (R (.tuple #[jw s20.2.1, .bool true]) w21)))))
def H77o : Hints := ⟨[(2, 0, [(3, (.one (.int .i64))), (12, (.one .slice)), (53, (.one (.int .i64)))]), (1, 1, [(3, (.one (.int .i64))), (12, (.one .slice))])], [(2, 22), (8, 15), (14, 20)], [], [1000008]⟩
theorem S77o_calls (s_0a : OA) (s_0n s_0c : Nat) (i_0a : OA) (i_0n i_0c : Nat) (v_0 : ByteArray) (v_1a : OA) (v_1n v_1c : Nat) (v_2a : OA) (v_2n v_2c : Nat) (n_ : Int) (w0 : World) (R : KR) (h : S77o s_0a s_0n s_0c i_0a i_0n i_0c v_0 v_1a v_1n v_1c v_2a v_2n v_2c n_ w0 R) : Calls prog 77 #[.agg #[.slice s_0a s_0n s_0c], .agg #[.slice i_0a i_0n i_0c], .agg #[.string v_0, .slice v_1a v_1n v_1c, .slice v_2a v_2n v_2c], ji n_] w0 (ret R) :=
 vcFn_sound (H := H77o) follows_ Tryz.func77 (Eq.mpr (by kernel_rfl) h)
end Go.Proofs

/- Package demand: views of whole tables. -/


namespace Go.Proofs.YtcfghfmlfgaeaaaGreatDoor
open Go.RowKit Go.Q Go.V Go.Bag Go.Shelf

abbrev vwc (k : Nat) : List Value := [.string (nm 116 k), .slice none 0 0, .slice none 0 0]
abbrev encDm (q : Nat × Int) : List Value := [.string (nm 116 q.1), .slice none 0 0, .slice none 0 0, .int .i64 q.2]
theorem encDm_len (q : Nat × Int) : (encDm q).length = 4 := rfl
theorem tyDm : TyS Tryz.prog 51 98 (.agg #[.string ByteArray.empty, .slice none 0 0, .slice none 0 0, .int .i64 0]) 4 72 := ⟨by kernel_rfl, by kernel_rfl⟩
section
variable {w : World} {h g : Hdr} {D : List TPar} {I : List Rows} {k : Nat}
theorem tablesP (H : SchAt w h D) (hD : OkD D) (hk : k < D.length) :
    call Tryz.prog 76 [.agg #[.slice h.1 h.2.1 h.2.2], .agg (vwc k).toArray] (.many [.one .slice, .one .bool]) w (fun (x : Hdr × Bool × Unit) w' => bel w w' ∧ x.2.1 = true ∧ Sl w' x.1.1 x.1.2.1 x.1.2.2 1 (ints .i64 [(k : Int)])) := by
  refine call_of (S76_calls h.1 h.2.1 h.2.2 (nm 116 k) none 0 0 none 0 0 w _ ?_)
  unfold S76
  refine wr_box fun x1 w2 X1 h2 _ _ => ?_
  refine wr_box fun x3 w4 X3 h4 _ _ => ?_
  replace X1 : Box w4 x1 [.slice h.1 h.2.1 h.2.2] := Box.up (show Box w2 x1 [.slice h.1 h.2.1 h.2.2] from X1) h4
  replace X3 : Box w4 x3 (vwc k) := X3
  have hb4 := h2.trans h4
  refine rd_boxN X1 (by kernel_rfl) rfl ?_
  refine rd_box0 (by kernel_rfl) X3 rfl rfl ?_
  refine call_mono (findP (H.up hb4) hD hk) ?_
  rintro (r : Int × Bool × Unit) w8 ⟨e1, e2, h8⟩
  refine br_f (by rw [e2]; rfl) ?_
  refine wr_lit tyI #[.int .i64 r.1] (fill_one 1 (.int .i64 r.1) _ rfl (by simp)) (by omega) (by omega) rfl (by unfold maxLen; omega) fun ad w10 O h10 _ _ => ?_
  have hb10 := (hb4.trans h8).trans h10
  refine rd_box (by kernel_rfl) (X3.up (h8.trans h10)) (s := .slice) (i := 1) (x := ((none, 0, 0) : Hdr)) rfl rfl ?_
  refine loop_gh (G := Nat) (fun j (s : Int × Hdr × Int × Unit) w' => s = (r.1, (some ad, 1, 1), 0, ()) ∧ bel w10 w') (fun _ => 0) 0 ⟨rfl, bel.refl _⟩ ?_
  rintro j s w14 ⟨rfl, hb⟩ again hag _
  refine br_dec (fun e => by dsimp only at e; omega) (fun _ => ?_)
  refine ⟨((some ad, 1, 1), true, ()), rfl, hb10.trans hb, rfl, ?_⟩
  have := (O _ (Nat.le_refl _)).sl.up hb
  rw [← e1]; exact this
theorem dvalidP (H : SchAt w h D) (hD : OkD D) (hm : ML w) (hk : k < D.length) :
    call Tryz.prog 75 [.agg #[.slice h.1 h.2.1 h.2.2], .agg (vwc k).toArray] (.one (.one (.int .i64))) w (fun (r : Int) w' => r = 0 ∧ bel w w') := by
  refine call_of (S75_calls h.1 h.2.1 h.2.2 (nm 116 k) none 0 0 none 0 0 w _ ?_)
  unfold S75
  refine wr_box fun x1 w2 X1 h2 _ _ => ?_
  refine wr_box fun x3 w4 X3 h4 _ _ => ?_
  replace X1 : Box w4 x1 [.slice h.1 h.2.1 h.2.2] := Box.up (show Box w2 x1 [.slice h.1 h.2.1 h.2.2] from X1) h4
  replace X3 : Box w4 x3 (vwc k) := X3
  have hb4 := h2.trans h4
  refine rd_boxN X1 (by kernel_rfl) rfl ?_
  refine call_mono (PlainP (H.up hb4) hD (hm.up hb4)) ?_
  rintro b w7 ⟨rfl, h7⟩
  replace X1 := X1.up h7; replace X3 := X3.up h7
  have hb7 := hb4.trans h7
  refine br_f rfl ?_
  refine rd_boxN X1 (by kernel_rfl) rfl ?_
  refine rd_box0 (by kernel_rfl) X3 rfl rfl ?_
  refine call_mono (findP (H.up hb7) hD hk) ?_
  rintro (r : Int × Bool × Unit) w11 ⟨_, e2, h11⟩
  replace X1 := X1.up h11; replace X3 := X3.up h11
  have hb11 := hb7.trans h11
  refine br_f (by rw [e2]; rfl) ?_
  refine rd_boxN X1 (by kernel_rfl) rfl ?_
  refine rd_boxN (l := [Sh.str, Sh.slice, Sh.slice]) X3 (by kernel_rfl) (x := (nm 116 k, ((none, 0, 0) : Hdr), ((none, 0, 0) : Hdr), ())) rfl ?_
  refine call_mono (tablesP (H.up hb11) hD hk) ?_
  rintro (x14 : Hdr × Bool × Unit) w15 ⟨h15, e3, _⟩
  replace X3 := X3.up h15
  refine br_f (by rw [e3]; rfl) ?_
  refine rd_box (by kernel_rfl) X3 (s := .slice) (i := 1) (x := ((none, 0, 0) : Hdr)) rfl rfl ?_
  refine br_dec (fun e => by dsimp only at e; omega) (fun _ => ?_)
  refine rd_box (by kernel_rfl) X3 (s := .slice) (i := 2) (x := ((none, 0, 0) : Hdr)) rfl rfl ?_
  refine br_dec (fun e => by dsimp only at e; omega) (fun _ => ?_)
  refine rd_box (by kernel_rfl) X3 (s := .slice) (i := 2) (x := ((none, 0, 0) : Hdr)) rfl rfl ?_
  refine br_t rfl ⟨(0 : Int), rfl, rfl, hb11.trans h15⟩
theorem trueP {x : Hdr} : call Tryz.prog 78 [.agg (vwc k).toArray, .slice x.1 x.2.1 x.2.2] (.one (.one .bool)) w (fun (b : Bool) w' => b = true ∧ bel w w') := by
  refine call_of (S78_calls (nm 116 k) none 0 0 none 0 0 x.1 x.2.1 x.2.2 w _ ?_)
  unfold S78
  refine wr_box fun x1 w2 X1 h2 _ _ => ?_
  refine wr_box fun x3 w4 X3 h4 _ _ => ?_
  replace X1 : Box w4 x1 (vwc k) := Box.up (show Box w2 x1 (vwc k) from X1) h4
  refine rd_box (by kernel_rfl) X1 (s := .slice) (i := 2) (x := ((none, 0, 0) : Hdr)) rfl rfl ?_
  refine call_mono (r := .one (.one .bool)) (Q := fun (b : Bool) w' => b = false ∧ bel w4 w') (call_of (S139d_calls none 0 0 x3 w4 _ ?_)) ?_
  · unfold S139d
    refine call_mono (r := .one (.one (.int .i64))) (Q := RIdx (fun _ => false) 0 w4) (call_of (S215d_calls none 0 0 x3 w4 _ ?_)) ?_
    · unfold S215d
      refine scanC (vs := .agg [(.int .i64), (.int .i64), (.int .i64), .str, (.int .i64), .slice]) (fargs := fun z => [.agg #[.int .i64 z.1, .int .i64 z.2.1, .int .i64 z.2.2.1, .string z.2.2.2.1, .int .i64 z.2.2.2.2.1, .slice z.2.2.2.2.2.1.1 z.2.2.2.2.2.1.2.1 z.2.2.2.2.2.1.2.2], .pointer (some x3)]) _ (by omega) (fun j hj w' hb K hK => by omega)
    · rintro r w' ⟨hr, hb⟩
      exact ⟨_, rfl, by rw [hr]; exact any_none fun _ _ => rfl, hb⟩
  · rintro b w' ⟨rfl, hb⟩
    exact ⟨true, rfl, rfl, (h2.trans h4).trans hb⟩
end
end Go.Proofs.YtcfghfmlfgaeaaaGreatDoor

/- Package demand: rows of views counted; Holds. -/

namespace Go.Proofs.YtcfghfmlfgaeaaaGreatDoor
open Go.RowKit Go.Q Go.V Go.Bag Go.Shelf

section
variable {w : World} {h g : Hdr} {D : List TPar} {I : List Rows} {k : Nat}
set_option maxHeartbeats 4000000 in
theorem drowP (H : SchAt w h D) (hD : OkD D) (G : InsAt w g I) (oI : OkI D I) (hk : k < D.length) {Rs : Rows} (hRs : I[k]? = some Rs) {n : Nat} (hn : n < Rs.length) :
    call Tryz.prog 77 [.agg #[.slice h.1 h.2.1 h.2.2], .agg #[.slice g.1 g.2.1 g.2.2], .agg (vwc k).toArray, .int .i64 (n : Int)] (.many [.one .slice, .one .bool]) w (fun (x : Hdr × Bool × Unit) w' => x.2.1 = true ∧ bel w w') := by
  have hl := H.len
  have hd2 := hD.d2
  have hgl := G.len
  have hil := oI.len
  obtain ⟨t, ht⟩ : ∃ t, D[k]? = some t := ⟨_, List.getElem?_eq_getElem hk⟩
  have ok := hD.each k t ht
  have hle := nc_le ok
  refine call_of (S77o_calls h.1 h.2.1 h.2.2 g.1 g.2.1 g.2.2 (nm 116 k) none 0 0 none 0 0 n w _ ?_)
  unfold S77o
  refine wr_box fun x1 w2 X1 h2 _ _ => ?_
  refine wr_box fun x3 w4 X3 h4 _ _ => ?_
  refine wr_box fun x5 w6 X5 h6 _ _ => ?_
  replace X1 : Box w6 x1 [.slice h.1 h.2.1 h.2.2] := Box.up (Box.up (show Box w2 x1 [.slice h.1 h.2.1 h.2.2] from X1) h4) h6
  replace X3 : Box w6 x3 [.slice g.1 g.2.1 g.2.2] := Box.up (show Box w4 x3 [.slice g.1 g.2.1 g.2.2] from X3) h6
  replace X5 : Box w6 x5 (vwc k) := X5
  have hb6 := (h2.trans h4).trans h6
  refine rd_boxN X1 (by kernel_rfl) rfl ?_
  refine rd_boxN (l := [Sh.str, Sh.slice, Sh.slice]) X5 (by kernel_rfl) (x := (nm 116 k, ((none, 0, 0) : Hdr), ((none, 0, 0) : Hdr), ())) rfl ?_
  refine call_mono (tablesP (H.up hb6) hD hk) ?_
  rintro (x9 : Hdr × Bool × Unit) w10 ⟨h10, e9, S9⟩
  have hx9 : x9.1.2.1 = 1 := by have := S9.int; simpa using this.symm
  refine drw_mk fun w11 h11 _ => ?_
  have h611 := h10.trans h11
  have S11 := S9.up h11
  have hb11 := hb6.trans h611
  replace X1 := X1.up h611; replace X3 := X3.up h611; replace X5 := X5.up h611
  refine br_f (by rw [e9]; rfl) ?_
  refine rd_box0 (by kernel_rfl) X3 rfl rfl ?_
  refine rd_box0 (by kernel_rfl) X1 rfl rfl ?_
  refine br_dec (fun e => by dsimp only at e; omega) (fun _ => ?_)
  refine br_dec (fun e => absurd e (by omega)) (fun _ => ?_)
  refine rd_box0 (by kernel_rfl) X3 rfl rfl ?_
  refine at_int tyI (by kernel_rfl) S11 (j := 0) rfl (by omega) fun y hy => ?_
  obtain rfl : (k : Int) = y := by simpa using hy
  refine G.atB hb11 rfl (by omega) fun y Rs' hRs' YR => ?_
  obtain rfl : Rs = Rs' := by rw [hRs] at hRs'; cases hRs'; rfl
  have hyl := YR.len
  refine br_dec (fun e => absurd e (by omega)) (fun _ => ?_)
  refine loop_gh (G := Nat) (fun j (s : Int × Hdr × Int × Unit) w' => s.1 = (n : Int) ∧ s.2.2.1 = (j : Int) ∧ j ≤ 1 ∧ (j = 0 → s.2.1 = (none, 0, 0)) ∧ bel w11 w') (fun j => 1 - j) 0 ⟨rfl, rfl, by omega, fun _ => rfl, bel.refl _⟩ ?_
  rintro j ⟨s1, s2, s3, u⟩ w21 ⟨hs1, hs3, hj, hs2, hb21⟩ again hag _
  dsimp only at hs1 hs3 hs2
  subst hs1; subst hs3
  refine br_dec (fun e => ?_) (fun e => ⟨(s2, true, ()), rfl, rfl, hb11.trans hb21⟩)
  dsimp only at e
  have hj0 : j = 0 := by omega
  subst hj0
  have hs2' := hs2 rfl
  subst hs2'
  refine join_mk (fun s' w' => s'.1 = (n : Int) ∧ bel w11 w') (fun K hK => ?_) ?_
  · refine at_int tyI (by kernel_rfl) (S11.up hb21) (j := 0) rfl (by omega) fun y hy => ?_
    obtain rfl : (k : Int) = y := by simpa using hy
    refine drw_mk fun w28 h28 _ => ?_
    have hb28 := hb21.trans h28
    have hbw28 := hb11.trans hb28
    have X1' := X1.up hb28
    have X3' := X3.up hb28
    obtain ⟨LT, L1, L2, L3⟩ := H.up hbw28
    obtain ⟨x, hx⟩ : ∃ x, LT[k]? = some x := ⟨_, List.getElem?_eq_getElem (by omega)⟩
    have T := L3 k x t hx ht
    have hnc := T.nc
    obtain ⟨LG, G1, G2, G3⟩ := G.up hbw28
    obtain ⟨y2, hy2⟩ : ∃ y, LG[k]? = some y := ⟨_, List.getElem?_eq_getElem (by omega)⟩
    have YR2 := G3 k y2 Rs hy2 hRs
    obtain ⟨LR, R1, R2, R3⟩ := YR2
    obtain ⟨z, hz⟩ : ∃ z, LR[n]? = some z := ⟨_, List.getElem?_eq_getElem (by omega)⟩
    obtain ⟨r, hr⟩ : ∃ r, Rs[n]? = some r := ⟨_, List.getElem?_eq_getElem hn⟩
    have Z := R3 n z r hz hr
    have hrl := (oI.row k t Rs n r ht hRs hr).len
    have hzl := RowAt.len Z
    let P : World → Prop := fun w' => Box w' ⟨w28.heap.size, 0, none⟩ zTb ∨ Box w' ⟨w28.heap.size, 0, none⟩ (tbc x)
    refine flExC_mk (fun w1 w2 => Below w28.heap.size w1 w2) (fun _ w1 w2 => P w1 → P w2)
      (fun D' w' => (D' 13 = false → w'.heap.size = w28.heap.size) ∧ (D' 14 = true → Box w' ⟨w28.heap.size, 0, none⟩ (tbc x)))
      (fun i _ v w' => i = 13 → v = .pointer (some ⟨w28.heap.size, 0, none⟩) ∧ w28.heap.size < w'.heap.size ∧ P w')
      (fun w1 => Below.refl _ w1) (fun _ _ _ a b => a.trans b) (fun i j ags v w1 w2 hne hΦ hE hG e => ?_) ⟨fun _ => rfl, fun q => by cases q⟩ ?_
    · obtain ⟨a1, a2, a3⟩ := hΦ e
      exact ⟨a1, Nat.lt_of_lt_of_le a2 hE.size, hG a3⟩
    refine rdE_box0 (by kernel_rfl) (fun _ hE => X1'.up hE.1) rfl rfl ?_
    refine idx_agg tyTb tbc_len (by omega) L1 rfl hx fun ad had => ?_
    refine rdE_cells (vs := tbc x) (fun _ hE => hE.1) (by kernel_rfl) had rfl ?_
    refine rdE_box0 (by kernel_rfl) (fun _ hE => X3'.up hE.1) rfl rfl ?_
    refine idx_agg (enc := fun q : Hdr => [hv q]) tyTabs (fun _ => rfl) (by omega) (by rw [← List.map_eq_flatMap]; exact G1) rfl hy2 fun ad2 had2 => ?_
    have hc2 := had2 0 _ rfl
    rw [add_zero] at hc2
    refine rdE_cell (fun _ hE => hE.1) (by kernel_rfl) hc2 rfl ?_
    refine idx_agg (enc := fun q : Hdr => [hv q]) tyRows (fun _ => rfl) (by omega) (by rw [← List.map_eq_flatMap]; exact R1) rfl hz fun ad3 had3 => ?_
    have hc3 := had3 0 _ rfl
    rw [add_zero] at hc3
    refine rdE_cell (fun _ hE => hE.1) (by kernel_rfl) hc3 rfl ?_
    refine flcC_mk (fun D' w16 hD' hE hSt _ => ?_) (fun x21 => ?_)
    · have hs16 := hSt.1 hD'
      refine wr_alloc (z := .agg zTb.toArray) (by kernel_rfl) fun a w20 Z h20' hab hsz => ?_
      replace Z : Box w20 a zTb := Z
      have ha : a = ⟨w28.heap.size, 0, none⟩ := by rw [Z.eq, hab, hs16]
      subst ha
      refine ⟨⟨h20'.os, h20'.tape, h20'.output, h20'.size, fun k hk => h20'.block k (by omega)⟩, fun hp => .inl Z, ⟨(fun q => by rw [setD_self] at q; cases q), fun q => ?_⟩, fun _ => ⟨rfl, by omega, .inl Z⟩⟩
      rw [setD_ne (by decide)] at q
      exact (hSt.2 q).up h20'
    refine flcC_mk (fun D' w22 hD' hE hSt f => ?_) (fun _ => ?_)
    · obtain ⟨a1, a2, a3⟩ := f.1 rfl
      have ha : x21 = ⟨w28.heap.size, 0, none⟩ := by injection a1 with a1; injection a1
      subst ha
      have st : ∀ {cs : List Value}, cs.length = 6 → Box w22 ⟨w28.heap.size, 0, none⟩ cs → wu Tryz.prog (Instr.storeAt 41 (.pointer (some ⟨w28.heap.size, 0, none⟩)) (tbv x)) w22 fun w25 => (Below w28.heap.size w22 w25) ∧ (P w22 → P w25) ∧ (((setD D' 14) 13 = false → w25.heap.size = w28.heap.size) ∧ ((setD D' 14) 14 = true → Box w25 ⟨w28.heap.size, 0, none⟩ (tbc x))) := by
        intro cs hcs hB
        refine wu_box hB (v := tbv x) (by kernel_rfl) (by rw [hcs]; exact Nat.le_refl 6) rfl fun w25 Z g25 s25 => ?_
        have Z' : Box w25 ⟨w28.heap.size, 0, none⟩ (tbc x) := by
          have e : putAt cs 0 (tbc x) = tbc x := by
            have := putAt_at (tbc x) [] cs (by rw [hcs]; exact Nat.le_refl 6)
            simp only [List.nil_append, List.length_nil] at this
            rw [this, List.drop_of_length_le (by rw [hcs]; exact Nat.le_refl 6), List.append_nil]
          rw [← e]; exact Z
        refine ⟨⟨g25.os, g25.tape, g25.output, g25.size, fun k hk => g25.block k (by omega) (by intro q; injection q with q; dsimp only at q; omega)⟩, fun _ => .inr Z', ⟨fun q => ?_, fun _ => Z'⟩⟩
        rw [setD_ne (by decide)] at q
        have := hSt.1 q; omega
      rcases a3 with a3 | a3
      · obtain ⟨w25, r, c1, c2, c3⟩ := st rfl a3
        exact ⟨w25, r, c1, c2, c3, fun q => by omega⟩
      · obtain ⟨w25, r, c1, c2, c3⟩ := st rfl a3
        exact ⟨w25, r, c1, c2, c3, fun q => by omega⟩
    refine flendC_mk fun w27 hE hSt f => ?_
    have hb27 : bel w28 w27 := hE
    have hX := hSt.2 rfl
    have ha : x21 = ⟨w28.heap.size, 0, none⟩ := by
      obtain ⟨a1, _⟩ := f.2.1 rfl
      injection a1 with a1; injection a1
    subst ha
    refine rd_box (by kernel_rfl) hX (i := 1) rfl rfl ?_
    refine br_dec (fun e => by dsimp only at e; omega) (fun _ => ?_)
    refine rd_box (by kernel_rfl) hX (i := 1) rfl rfl ?_
    have hcap := Z.cap
    refine sl_to tyV (m := x.2.1.2.1) rfl (show x.2.1.2.1 ≤ z.2.2 by omega) ?_
    have Z27 : Sl w27 z.1 x.2.1.2.1 z.2.2 3 (r.flatMap encV) := by
      have := Sl.up Z hb27
      rw [show x.2.1.2.1 = z.2.1 by omega]; exact this
    refine wr_appH tyV (h := ((z.1, x.2.1.2.1, z.2.2) : Hdr)) (Own.nil w27 0 55 3) Z27 (Nat.zero_le _) rfl (by omega) (plainR _) (by dsimp only; omega) (by unfold maxLen; dsimp only; omega) fun a' c' w54 O54 g54 _ => ?_
    have hb54 : bel w27 w54 := bel_of_grown g54
    refine rd_box (by kernel_rfl) (X5.up ((hb28.trans hb27).trans hb54)) (s := .slice) (i := 1) (x := ((none, 0, 0) : Hdr)) rfl rfl ?_
    refine br_dec (fun e => by dsimp only at e; omega) (fun _ => ?_)
    exact hK (_, (a', 0 + x.2.1.2.1, c'), ()) _ ⟨rfl, (hb28.trans hb27).trans hb54⟩
  · rintro ⟨s1, s2, u'⟩ w24 ⟨hs', hb'⟩ _
    dsimp only at hs'
    subst hs'
    refine z_i64 (by dsimp only; omega) ?_
    exact hag 1 _ _ ⟨rfl, rfl, by omega, (fun q => by omega), hb'⟩ (by omega)
theorem countP' (H : SchAt w h D) (hD : OkD D) (hm : ML w) (G : InsAt w g I) (oI : OkI D I) (hk : k < D.length) {Rs : Rows} (hRs : I[k]? = some Rs) :
    call Tryz.prog 37 [.agg #[.slice h.1 h.2.1 h.2.2], .agg #[.slice g.1 g.2.1 g.2.2], .agg (vwc k).toArray] (.many [.one (.int .i64), .one (.int .i64)]) w (fun (x : Int × Int × Unit) w' => x.1 = (Rs.length : Int) ∧ x.2.1 = 0 ∧ bel w w') := by
  have hl := H.len
  have hgl := G.len
  have hil := oI.len
  have h20 := okI_few oI hRs
  refine call_of (S37_calls h.1 h.2.1 h.2.2 g.1 g.2.1 g.2.2 (nm 116 k) none 0 0 none 0 0 w _ ?_)
  unfold S37
  refine wr_box fun x1 w2 X1 h2 _ _ => ?_
  refine wr_box fun x3 w4 X3 h4 _ _ => ?_
  refine wr_box fun x5 w6 X5 h6 _ _ => ?_
  replace X1 : Box w6 x1 [.slice h.1 h.2.1 h.2.2] := Box.up (Box.up (show Box w2 x1 [.slice h.1 h.2.1 h.2.2] from X1) h4) h6
  replace X3 : Box w6 x3 [.slice g.1 g.2.1 g.2.2] := Box.up (show Box w4 x3 [.slice g.1 g.2.1 g.2.2] from X3) h6
  replace X5 : Box w6 x5 (vwc k) := X5
  have hb6 := (h2.trans h4).trans h6
  refine rd_boxN X1 (by kernel_rfl) rfl ?_
  refine rd_boxN (l := [Sh.str, Sh.slice, Sh.slice]) X5 (by kernel_rfl) (x := (nm 116 k, ((none, 0, 0) : Hdr), ((none, 0, 0) : Hdr), ())) rfl ?_
  refine call_mono (dvalidP (H.up hb6) hD (hm.up hb6) hk) ?_
  rintro r w10 ⟨rfl, h10⟩
  replace X1 := X1.up h10; replace X3 := X3.up h10; replace X5 := X5.up h10
  have hb10 := hb6.trans h10
  refine br_f rfl ?_
  refine rd_box0 (by kernel_rfl) X3 rfl rfl ?_
  refine rd_box0 (by kernel_rfl) X1 rfl rfl ?_
  refine br_ne (fun e => by dsimp only at e; omega) (fun _ => ?_)
  refine rd_boxN X1 (by kernel_rfl) rfl ?_
  refine rd_boxN (l := [Sh.str, Sh.slice, Sh.slice]) X5 (by kernel_rfl) (x := (nm 116 k, ((none, 0, 0) : Hdr), ((none, 0, 0) : Hdr), ())) rfl ?_
  refine call_mono (tablesP (H.up hb10) hD hk) ?_
  rintro (x15 : Hdr × Bool × Unit) w16 ⟨h16, _, S16⟩
  have hx15 : x15.1.2.1 = 1 := by have := S16.int; simpa using this.symm
  refine drw_mk fun w17 h17 _ => ?_
  have h1017 := h16.trans h17
  replace X1 := X1.up h1017; replace X3 := X3.up h1017; replace X5 := X5.up h1017
  have hb17 := hb10.trans h1017
  refine rd_box0 (by kernel_rfl) X3 rfl rfl ?_
  refine at_int tyI (by kernel_rfl) (S16.up h17) (j := 0) rfl (by omega) fun y hy => ?_
  obtain rfl : (k : Int) = y := by simpa using hy
  refine G.atB hb17 rfl (by omega) fun y Rs' hRs' YR => ?_
  obtain rfl : Rs = Rs' := by rw [hRs] at hRs'; cases hRs'; rfl
  have hyl := YR.len
  refine loop_upA Rs.length (fun j (c : Int) w' => c = (j : Int) ∧ bel w17 w') ⟨rfl, bel.refl _⟩ fun j c w25 hj ⟨hc, hb⟩ again hag _ => ?_
  subst hc
  refine br_dec (fun e => ?_) (fun e => ⟨((j : Int), (0 : Int), ()), rfl, by dsimp only at e ⊢; omega, rfl, hb17.trans hb⟩)
  dsimp only at e
  have hj' : j < Rs.length := by omega
  have hbb := hb17.trans hb
  refine join_mk (fun s' w' => s'.1 = (j : Int) + 1 ∧ bel w17 w') (fun K hK => ?_) ?_
  · refine rd_boxN (X1.up hb) (by kernel_rfl) rfl ?_
    refine rd_boxN (X3.up hb) (by kernel_rfl) rfl ?_
    refine rd_boxN (l := [Sh.str, Sh.slice, Sh.slice]) (X5.up hb) (by kernel_rfl) (x := (nm 116 k, ((none, 0, 0) : Hdr), ((none, 0, 0) : Hdr), ())) rfl ?_
    refine call_mono (drowP (H.up hbb) hD (G.up hbb) oI hk hRs hj') ?_
    rintro (x33 : Hdr × Bool × Unit) w34 ⟨e33, h34⟩
    refine br_t e33 ?_
    refine rd_boxN (l := [Sh.str, Sh.slice, Sh.slice]) ((X5.up hb).up h34) (by kernel_rfl) (x := (nm 116 k, ((none, 0, 0) : Hdr), ((none, 0, 0) : Hdr), ())) rfl ?_
    refine call_mono (trueP (k := k) (x := x33.1)) ?_
    rintro b w37 ⟨rfl, h37⟩
    refine br_t rfl ?_
    refine z_i64 (by dsimp only; omega) ?_
    exact hK _ _ ⟨rfl, (hb.trans h34).trans h37⟩
  · rintro ⟨s', u'⟩ w28 ⟨hs', hb'⟩ _
    dsimp only at hs'
    subst hs'
    refine z_i64 (by dsimp only; omega) ?_
    exact hag _ _ hj' ⟨by omega, hb'⟩
def DmAt (w : World) (l : Hdr) (I : List Rows) : Prop := ∃ L : List (Nat × Int), Sl w l.1 l.2.1 l.2.2 4 (L.flatMap encDm) ∧ L.length = I.length ∧ ∀ (k : Nat) q R, L[k]? = some q → I[k]? = some R → q = (k, (R.length : Int))
theorem DmAt.up {w w' : World} {l : Hdr} {I : List Rows} (H : DmAt w l I) (hb : bel w w') : DmAt w' l I := by
  obtain ⟨L, h1, h2, h3⟩ := H
  exact ⟨L, h1.up hb, h2, h3⟩
theorem holdsP {l : Hdr} {I0 : List Rows} (H : SchAt w h D) (hD : OkD D) (hm : ML w) (G : InsAt w g I) (oI : OkI D I) (M : DmAt w l I0) (hlen : ∀ (k : Nat) R R0, I[k]? = some R → I0[k]? = some R0 → R.length = R0.length) (h0 : I0.length = D.length) :
    call Tryz.prog 12 [.agg #[.slice h.1 h.2.1 h.2.2], .agg #[.slice g.1 g.2.1 g.2.2], .slice l.1 l.2.1 l.2.2] (.one (.one .bool)) w (fun (b : Bool) w' => b = true ∧ bel w w') := by
  have hd2 := hD.d2
  have hil := oI.len
  obtain ⟨L, M1, M2, M3⟩ := M
  have hll : l.2.1 = D.length := by have := M1.len; rw [flat_len encDm_len] at this; omega
  refine call_of (S12_calls h.1 h.2.1 h.2.2 g.1 g.2.1 g.2.2 l.1 l.2.1 l.2.2 w _ ?_)
  unfold S12
  refine wr_box fun x1 w2 X1 h2 _ _ => ?_
  refine wr_box fun x3 w4 X3 h4 _ _ => ?_
  replace X1 : Box w4 x1 [.slice h.1 h.2.1 h.2.2] := Box.up (show Box w2 x1 [.slice h.1 h.2.1 h.2.2] from X1) h4
  replace X3 : Box w4 x3 [.slice g.1 g.2.1 g.2.2] := X3
  have hb4 := h2.trans h4
  refine call_mono (r := .one (.one .bool)) (Q := fun (b : Bool) w' => b = false ∧ bel w4 w') (call_of (S35h_calls l.1 l.2.1 l.2.2 x1 x3 w4 _ ?_)) ?_
  · unfold S35h
    refine call_mono (r := .one (.one (.int .i64))) (Q := RIdx (fun _ => false) l.2.1 w4) (call_of (S74h_calls l.1 l.2.1 l.2.2 x1 x3 w4 _ ?_)) ?_
    · unfold S74h
      refine scanC (vs := .agg [.str, .slice, .slice, .int .i64]) (fargs := fun z => [.agg #[.string z.1, .slice z.2.1.1 z.2.1.2.1 z.2.1.2.2, .slice z.2.2.1.1 z.2.2.1.2.1 z.2.2.1.2.2, .int .i64 z.2.2.2.1], .pointer (some x1), .pointer (some x3)]) _ (by omega) (fun k hk w' hb' K hK => ?_)
      have hkD : k < D.length := by omega
      obtain ⟨q, hq⟩ : ∃ q, L[k]? = some q := ⟨_, List.getElem?_eq_getElem (by omega)⟩
      obtain ⟨R0, hR0⟩ : ∃ R, I0[k]? = some R := ⟨_, List.getElem?_eq_getElem (by omega)⟩
      obtain ⟨R, hR⟩ : ∃ R, I[k]? = some R := ⟨_, List.getElem?_eq_getElem (by omega)⟩
      have eq := M3 k q R0 hq hR0
      subst eq
      have hlR := hlen k R R0 hR hR0
      refine at_agg tyDm (by kernel_rfl) encDm_len (by omega) ((M1.up hb4).up hb') rfl hq (l := [Sh.str, Sh.slice, Sh.slice, Sh.int .i64]) (x := (nm 116 k, ((none, 0, 0) : Hdr), ((none, 0, 0) : Hdr), (R0.length : Int), ())) rfl ?_
      refine call_of (S36_calls (nm 116 k) none 0 0 none 0 0 R0.length x1 x3 w' _ ?_)
      unfold S36
      refine wr_box fun y1 w3 Y1 h3 _ _ => ?_
      replace Y1 : Box w3 y1 (encDm (k, (R0.length : Int))) := Y1
      have hb3 := hb'.trans h3
      have hbw3 := hb4.trans hb3
      refine rd_boxN (X1.up hb3) (by kernel_rfl) rfl ?_
      refine rd_boxN (X3.up hb3) (by kernel_rfl) rfl ?_
      refine rd_cells (vs := vwc k) (by kernel_rfl) (fun j v hj => Y1.cell (by
        have hjl := (List.getElem?_eq_some_iff.1 hj).1
        have : j = 0 ∨ j = 1 ∨ j = 2 := by simp at hjl; omega
        rcases this with rfl | rfl | rfl <;> exact hj)) (l := [Sh.str, Sh.slice, Sh.slice]) (x := (nm 116 k, ((none, 0, 0) : Hdr), ((none, 0, 0) : Hdr), ())) rfl ?_
      refine call_mono (countP' (H.up hbw3) hD (hm.up hbw3) (G.up hbw3) oI hkD hR) ?_
      rintro (x6 : Int × Int × Unit) w7 ⟨e1, e2, h7⟩
      refine br_f (by rw [e2]; rfl) ?_
      refine rd_box (by kernel_rfl) (Y1.up h7) (i := 3) rfl rfl ?_
      refine ⟨false, ?_, hK _ (h3.trans h7)⟩
      rw [e1, hlR]; simp [RS.val, VS.val, Sh.val]
    · rintro r w' ⟨hr, hb⟩
      exact ⟨_, rfl, by rw [hr]; exact any_none fun _ _ => rfl, hb⟩
  · rintro b w6 ⟨rfl, h6⟩
    exact ⟨true, rfl, rfl, hb4.trans h6⟩
end
end Go.Proofs.YtcfghfmlfgaeaaaGreatDoor

/- Made things: the tape; demands counted; values. -/


namespace Go.Proofs.YtcfghfmlfgaeaaaGreatDoor
open Go.RowKit Go.Q Go.V Go.Bag Go.Shelf

def I64 (n : Int) : Prop := -9223372036854775808 ≤ n ∧ n ≤ 9223372036854775807
structure Tape (w : World) (tb : Addr) (l : Hdr) (L : List Int) (p : Nat) : Prop where
  box : Box w tb [.slice l.1 l.2.1 l.2.2, .int .i64 (p : Int)]
  sl : Sl w l.1 l.2.1 l.2.2 1 (ints .i64 L)
  old : ∀ ad, l.1 = some ad → L ≠ [] → ad.block < tb.block
  i64 : ∀ x ∈ L, I64 x
theorem Tape.up {w w' : World} {tb : Addr} {l : Hdr} {L : List Int} {p : Nat} (h : Tape w tb l L p) (hb : bel w w') : Tape w' tb l L p := ⟨h.box.up hb, h.sl.up hb, h.old, h.i64⟩
theorem Tape.grown {w w' : World} {tb : Addr} {l : Hdr} {L : List Int} {p b : Nat} (h : Tape w tb l L p) (hg : w.grownBy w' (some b)) (hb : tb.block < b) : Tape w' tb l L p :=
  ⟨h.box.xg hg (by omega), Sl.xg h.sl hg (fun ad ha hx => by have := h.old ad ha (by rintro rfl; exact hx rfl); omega), h.old, h.i64⟩
theorem Tape.xb {S : Nat → Prop} {w w' : World} {tb : Addr} {l : Hdr} {L : List Int} {p : Nat} (h : Tape w tb l L p) (hX : Xb S w w') (hs : ∀ k, S k → tb.block < k) : Tape w' tb l L p :=
  ⟨h.box.xb hX (fun q => by have := hs _ q; omega), h.sl.xb hX (fun ad ha hx q => by have := h.old ad ha (by rintro rfl; exact hx rfl); have := hs _ q; omega), h.old, h.i64⟩
set_option maxHeartbeats 400000 in
theorem nextF {w : World} {tb : Addr} {l : Hdr} {L : List Int} {p : Nat} (n : Int) (h : Tape w tb l L p) (hp : p ≤ 1000000) (hn : 1 ≤ n ∧ n ≤ 9223372036854775807) :
    call Tryz.prog 15 [.pointer (some tb), .int .i64 n] (.one (.one (.int .i64))) w (fun (x : Int) w' => (0 ≤ x ∧ x < n) ∧ Tape w' tb l L (p + 1) ∧ w.grownBy w' (some tb.block)) := by
  refine call_of (S15_calls (some tb) n w _ ?_)
  unfold S15
  have hl := h.sl.int
  refine br_dec (fun e => by omega) (fun _ => ?_)
  refine join_mk (fun s w' => (0 ≤ s.1 ∧ s.1 < n) ∧ bel w w') (fun K hK => ?_) (fun s w3 hh _ => ?_)
  · refine drw_mk fun w9 h9 _ => ?_
    refine nn_mk rfl ?_
    refine rd_box (by kernel_rfl) (h.box.up h9) (i := 1) rfl rfl ?_
    refine nn_mk rfl ?_
    refine rd_box0 (by kernel_rfl) (h.box.up h9) rfl rfl ?_
    refine br_dec (fun e => ?_) (fun e => hK _ _ ⟨⟨by dsimp only; omega, by dsimp only; omega⟩, h9⟩)
    dsimp only at e
    refine drw_mk fun w14 h14 _ => ?_
    have h14' := h9.trans h14
    refine nn_mk rfl ?_
    refine rd_box0 (by kernel_rfl) (h.box.up h14') rfl rfl ?_
    refine nn_mk rfl ?_
    refine rd_box (by kernel_rfl) (h.box.up h14') (i := 1) rfl rfl ?_
    refine at_int tyI (by kernel_rfl) (h.sl.up h14') rfl (by omega) fun x hx => ?_
    refine rdp_rem (by omega) ?_
    have b1 := Int.tmod_lt_of_pos x (show 0 < n by omega)
    have b2 := Int.lt_tmod_of_pos x (show 0 < n by omega)
    refine br_dec (fun e2 => ?_) (fun e2 => hK _ _ ⟨⟨by dsimp only; omega, by dsimp only; omega⟩, h14'⟩)
    refine z_i64 (by omega) ?_
    exact hK _ _ ⟨⟨by dsimp only; omega, by dsimp only; omega⟩, h14'⟩
  · obtain ⟨x, _⟩ := s
    obtain ⟨hx, hb⟩ := hh
    refine nn_mk rfl ?_
    refine rd_box (by kernel_rfl) (h.box.up hb) (i := 1) rfl rfl ?_
    refine z_i64 (by omega) ?_
    refine nn_mk rfl ?_
    refine wu_boxi (h.box.up hb) (by kernel_rfl) (by simp) rfl fun w8 X hg _ => ?_
    have X' : Box w8 tb [.slice l.1 l.2.1 l.2.2, .int .i64 ((p + 1 : Nat) : Int)] := X
    exact ⟨x, rfl, hx, ⟨X', Sl.xg (h.sl.up hb) hg (fun ad ha hx => by have := h.old ad ha (by rintro rfl; exact hx rfl); omega), h.old, h.i64⟩, (grown_of_bel hb _).trans hg⟩
theorem Tape.put {w w' : World} {tb : Addr} {l : Hdr} {L : List Int} {p : Nat} {o : Option Nat} (h : Tape w tb l L p) (hg : w.grownBy w' o) (ho : ∀ k, o = some k → tb.block < k) : Tape w' tb l L p :=
  ⟨h.box.grown hg (fun e => by have := ho _ e.symm; omega), h.sl.grown hg (fun ad ha hx e => by have := h.old ad ha (by rintro rfl; exact hx rfl); have := ho _ e.symm; omega), h.old, h.i64⟩
theorem tape_new {w w' : World} {tb : Addr} {l : Hdr} {L : List Int} (S : Sl w l.1 l.2.1 l.2.2 1 (ints .i64 L)) (hI : ∀ x ∈ L, I64 x) (X : Box w' tb [.slice l.1 l.2.1 l.2.2, .int .i64 0]) (hb : bel w w') (hn : tb.block = w.heap.size) : Tape w' tb l L 0 :=
  ⟨X, S.up hb, fun ad ha hx => by
    cases L with
    | nil => exact absurd rfl hx
    | cons x xs =>
      obtain ⟨ad', h1, _, h3⟩ := S.at' 0 (.int .i64 x) rfl
      rw [ha] at h1; cases h1; omega, hI⟩
section
variable {w : World} {tb : Addr} {l : Hdr} {L : List Int} {p : Nat} {h g : Hdr} {D : List TPar} {I : List Rows}
theorem countedP (Tp : Tape w tb l L p) (hp : p ≤ 1000000) (H : SchAt w h D) (hD : OkD D) (G : InsAt w g I) (hI : I.length = D.length) :
    call Tryz.prog 13 [.pointer (some tb), .agg #[.slice h.1 h.2.1 h.2.2], .agg #[.slice g.1 g.2.1 g.2.2], .int .i64 0] (.one (.one .slice)) w (fun (x : Hdr) w' => DmAt w' x I ∧ Tape w' tb l L (p + 1) ∧ w.grownBy w' (some tb.block)) := by
  have hl := H.len
  have hd2 := hD.d2
  have htl := Tp.box.lt
  refine call_of (S13_calls (some tb) h.1 h.2.1 h.2.2 g.1 g.2.1 g.2.2 0 w _ ?_)
  unfold S13
  refine wr_box fun x1 w2 X1 h2 _ _ => ?_
  refine wr_box fun x3 w4 X3 h4 _ _ => ?_
  replace X1 : Box w4 x1 [.slice h.1 h.2.1 h.2.2] := Box.up (show Box w2 x1 [.slice h.1 h.2.1 h.2.2] from X1) h4
  replace X3 : Box w4 x3 [.slice g.1 g.2.1 g.2.2] := X3
  have hb4 := h2.trans h4
  refine loop_upA D.length (fun i (s : Hdr) w' => bel w4 w' ∧ ∃ M : List (Nat × Int), M.length = i ∧ (∀ (k : Nat) q R, M[k]? = some q → I[k]? = some R → q = (k, (R.length : Int))) ∧ Own w' w4.heap.size 98 4 s.1 s.2.1 s.2.2 (M.flatMap encDm)) ⟨bel.refl _, [], rfl, fun k q R e => by simp at e, Own.nil _ _ _ _⟩ fun i s w7 hi ⟨hb, M, hM, hq, O⟩ again hag _ => ?_
  have hsl : s.2.1 = i := by have := O.1; rw [flat_len encDm_len] at this; omega
  refine rd_box0 (by kernel_rfl) (X1.up hb) rfl rfl ?_
  refine br_dec (fun e => ?_) (fun e => ?_)
  · dsimp only at e
    have hi' : i < D.length := by omega
    refine drw_mk fun w9 h9 _ => ?_
    have hb9 := hb.trans h9
    refine rd_box0 (by kernel_rfl) (X1.up hb9) rfl rfl ?_
    refine ((H.up hb4).up hb9).nam rfl hi' ?_
    refine rd_box0 (by kernel_rfl) (X3.up hb9) rfl rfl ?_
    refine G.atB (hb4.trans hb9) rfl (by omega) fun y R hR YR => ?_
    have hyl := YR.len
    refine wr_app1 tyDm (v := .agg (encDm (i, (y.2.1 : Int))).toArray) (Own.kept O h9) hb9.size rfl (by omega) (by omega) rfl rfl (by omega) (by unfold maxLen; omega) fun a' c' w19 O19 g19 _ _ => ?_
    refine z_i64 (by dsimp only; omega) ?_
    refine hag (a', s.2.1 + 1, c') _ hi' ⟨bel.own hb9 (Own.kept O h9) g19 (Nat.le_refl _), M ++ [(i, (y.2.1 : Int))], by simp [hM], fun k q R' h1 h3 => ?_, ?_⟩
    · rcases Nat.lt_or_ge k i with q' | q'
      · rw [List.getElem?_append_left (by omega)] at h1
        exact hq k q R' h1 h3
      · have hk : k = i := by have := (List.getElem?_eq_some_iff.1 h1).1; simp at this; omega
        subst hk
        rw [List.getElem?_append_right (by omega), hM] at h1
        simp at h1
        subst h1
        rw [hR] at h3; cases h3
        rw [hyl]
    · rw [List.flatMap_append]
      simp only [List.flatMap_cons, List.flatMap_nil, List.append_nil]
      exact O19
  · dsimp only at e
    have hiD : i = D.length := by omega
    refine z_i64 (by omega) ?_
    refine call_mono (nextF 1 (Tp.up (hb4.trans hb)) hp ⟨by omega, by omega⟩) ?_
    rintro (x22 : Int) w23 ⟨hx, Tp', g23⟩
    have hx0 : x22 = 0 := by omega
    subst hx0
    have O23 : Own w23 w4.heap.size 98 4 s.1 s.2.1 s.2.2 (M.flatMap encDm) := Own.xg O g23 (Nat.lt_of_lt_of_le htl hb4.size)
    refine loop_gh (G := Nat) (fun _ (s' : Hdr × Int × Unit) w' => s' = (s, 0, ()) ∧ w' = w23) (fun _ => 0) 0 ⟨rfl, rfl⟩ ?_
    rintro j s' w26 ⟨rfl, rfl⟩ again2 hag2 _
    refine br_dec (fun e => by dsimp only at e; omega) (fun _ => ?_)
    exact ⟨s, rfl, ⟨M, O23.sl, by omega, hq⟩, Tp', (grown_of_bel (hb4.trans hb) _).trans g23⟩
end
end Go.Proofs.YtcfghfmlfgaeaaaGreatDoor

/- Made schemas: tables that are being made. -/

namespace Go.Proofs.YtcfghfmlfgaeaaaGreatDoor
open Go.RowKit Go.Q Go.V Go.Bag Go.Shelf

structure SB (w : World) (B : Nat) (e : TypeId) (h : Hdr) (sz : Nat) (xs : List Value) : Prop where
  st : ST w e h.1 h.2.1 h.2.2 sz xs
  new : ∀ ad, h.1 = some ad → B ≤ ad.block
theorem SB.keep {w w' : World} {B : Nat} {e : TypeId} {h : Hdr} {sz : Nat} {xs : List Value} {o : Option Nat} (H : SB w B e h sz xs) (hg : w.grownBy w' o) (h1 : ∀ ad : Addr, B ≤ ad.block → (∃ cur fz, w.heap[ad.block]? = some (.cells cur e fz)) → some ad.block ≠ o) : SB w' B e h sz xs :=
  ⟨H.st.keep hg fun ad ha => h1 ad (H.new ad ha) (H.st.ty ad ha), H.new⟩
theorem SB.of {w : World} {B B' : Nat} {e : TypeId} {h : Hdr} {sz : Nat} {xs : List Value} (O : Own w B e sz h.1 h.2.1 h.2.2 xs) (hB : B' ≤ B) : SB w B' e h sz xs :=
  ⟨Own.st O, fun ad ha => Nat.le_trans hB (O.lt ad.block (by rw [ha]; rfl)).1⟩
theorem typed_ne {w : World} {B : Nat} {e e' : TypeId} {sz : Nat} {a' : Option Addr} {n' c' : Nat} {ys : List Value} (O : Own w B e' sz a' n' c' ys) {ad : Addr} (h : ∃ cur fz, w.heap[ad.block]? = some (.cells cur e fz)) (hne : e ≠ e') : some ad.block ≠ blk a' := by
  obtain ⟨cur, fz, h⟩ := h
  intro q
  cases a' with
  | none => simp [blk] at q
  | some ad' =>
    obtain ⟨cur', fz', h'⟩ := Own.ty O ad' rfl
    have q' : ad.block = ad'.block := by simpa [blk] using q
    rw [q', h'] at h
    injection h with h
    injection h with _ h _
    exact hne h.symm
theorem SB.xg {w w' : World} {B b : Nat} {e : TypeId} {h : Hdr} {sz : Nat} {xs : List Value} (H : SB w B e h sz xs) (hg : w.grownBy w' (some b)) (hb : b < B) : SB w' B e h sz xs :=
  H.keep hg fun ad hB _ q => by injection q; omega
theorem SB.up {w w' : World} {B : Nat} {e : TypeId} {h : Hdr} {sz : Nat} {xs : List Value} (H : SB w B e h sz xs) (hb : bel w w') : SB w' B e h sz xs :=
  H.keep (grown_of_bel hb none) fun _ _ _ => by simp
theorem SB.apart {w w' : World} {B B' : Nat} {e e' : TypeId} {h : Hdr} {sz sz' : Nat} {xs ys : List Value} {a' : Option Addr} {n' c' : Nat} (H : SB w B e h sz xs) (O : Own w B' e' sz' a' n' c' ys) (hne : e ≠ e') (hg : w.grownBy w' (blk a')) : SB w' B e h sz xs :=
  H.keep hg fun _ _ q => typed_ne O q hne
theorem SB.off {w w' : World} {B b : Nat} {e : TypeId} {h : Hdr} {sz : Nat} {xs : List Value} (H : SB w B e h sz xs) (hg : w.grownBy w' (some b)) (hn : ∀ ad, h.1 = some ad → ad.block ≠ b) : SB w' B e h sz xs :=
  ⟨H.st.keep hg fun ad ha q => hn ad ha (by injection q), H.new⟩
theorem SB.le {w : World} {B B' : Nat} {e : TypeId} {h : Hdr} {sz : Nat} {xs : List Value} (H : SB w B e h sz xs) (hB : B' ≤ B) : SB w B' e h sz xs := ⟨H.st, fun ad ha => Nat.le_trans hB (H.new ad ha)⟩
def ForsS (w : World) (B : Nat) (h : Hdr) (nf : Nat) (tos : List Nat) : Prop :=
  ∃ L : List (Hdr × ByteArray), SB w B 64 h 2 (L.flatMap encFo) ∧ L.length = tos.length ∧ ∀ (k : Nat) p j, L[k]? = some p → tos[k]? = some j → p.2 = nm 116 j ∧ SB w B 3 p.1 1 (ints .i64 [1 + (nf : Int) + (k : Int)])
structure TbS (w : World) (B i : Nat) (h : TH) (t : TPar) : Prop where
  name : h.1 = nm 116 i
  cols : SB w B 62 h.2.1 3 (t.cols.flatMap encC)
  prim : SB w B 3 h.2.2.1 1 (ints .i64 [0])
  uniq : h.2.2.2.1 = (none, 0, 0)
  fors : ForsS w B h.2.2.2.2.1 t.nf t.tos
theorem TbS.keep {w w' : World} {B i : Nat} {h : TH} {t : TPar} {o : Option Nat} (H : TbS w B i h t) (hg : w.grownBy w' o) (h1 : ∀ (ad : Addr) (e : TypeId), e = 62 ∨ e = 3 ∨ e = 64 → B ≤ ad.block → (∃ cur fz, w.heap[ad.block]? = some (.cells cur e fz)) → some ad.block ≠ o) : TbS w' B i h t := by
  obtain ⟨L, f1, f2, f3⟩ := H.fors
  exact ⟨H.name, H.cols.keep hg fun ad a b => h1 ad _ (.inl rfl) a b, H.prim.keep hg fun ad a b => h1 ad _ (.inr (.inl rfl)) a b, H.uniq,
    ⟨L, f1.keep hg fun ad a b => h1 ad _ (.inr (.inr rfl)) a b, f2, fun k p j q1 q2 => ⟨(f3 k p j q1 q2).1, (f3 k p j q1 q2).2.keep hg fun ad a b => h1 ad _ (.inr (.inl rfl)) a b⟩⟩⟩
theorem TbS.xg {w w' : World} {B b i : Nat} {h : TH} {t : TPar} (H : TbS w B i h t) (hg : w.grownBy w' (some b)) (hb : b < B) : TbS w' B i h t :=
  H.keep hg fun ad _ _ hB _ q => by injection q; omega
theorem TbS.up {w w' : World} {B i : Nat} {h : TH} {t : TPar} (H : TbS w B i h t) (hb : bel w w') : TbS w' B i h t :=
  H.keep (grown_of_bel hb none) fun _ _ _ _ _ => by simp
theorem TbS.apart {w w' : World} {B B' i : Nat} {h : TH} {t : TPar} {e' : TypeId} {sz' : Nat} {a' : Option Addr} {n' c' : Nat} {ys : List Value} (H : TbS w B i h t) (O : Own w B' e' sz' a' n' c' ys) (h1 : 62 ≠ e') (h2 : 3 ≠ e') (h3 : 64 ≠ e') (hg : w.grownBy w' (blk a')) : TbS w' B i h t :=
  H.keep hg fun ad e he _ q => typed_ne O q (by rcases he with rfl | rfl | rfl <;> assumption)
def cl (h : TH) : TH := (h.1, h.2.1, h.2.2.1, h.2.2.2.1, h.2.2.2.2.1, (none, 0, 0), ())
theorem TbS.cl' {w : World} {B i : Nat} {h : TH} {t : TPar} (H : TbS w B i h t) : TbS w B i (cl h) t := ⟨H.name, H.cols, H.prim, H.uniq, H.fors⟩
theorem TbS.le {w : World} {B B' i : Nat} {h : TH} {t : TPar} (H : TbS w B i h t) (hB : B' ≤ B) : TbS w B' i h t := by
  obtain ⟨L, f1, f2, f3⟩ := H.fors
  exact ⟨H.name, H.cols.le hB, H.prim.le hB, H.uniq, ⟨L, f1.le hB, f2, fun k p j q1 q2 => ⟨(f3 k p j q1 q2).1, (f3 k p j q1 q2).2.le hB⟩⟩⟩
theorem TbS.at' {w : World} {B i : Nat} {h : TH} {t : TPar} (H : TbS w B i h t) (hc : h.2.2.2.2.2.1 = (none, 0, 0)) : TbAt w i h t := by
  obtain ⟨L, f1, f2, f3⟩ := H.fors
  exact ⟨H.name, H.cols.st.sl, H.prim.st.sl, H.uniq, ⟨L, f1.st.sl, f2, fun k p j q1 q2 => ⟨(f3 k p j q1 q2).1, (f3 k p j q1 q2).2.st.sl⟩⟩, hc⟩
theorem TbS.ts {w : World} {B b i : Nat} {h : TH} {t : TPar} (H : TbS w B i h t) (hb : b < B) (hc : h.2.2.2.2.2.1 = (none, 0, 0)) : ∀ w', w.grownBy w' (some b) → TbAt w' i h t := fun _ hg => (H.xg hg hb).at' hc
end Go.Proofs.YtcfghfmlfgaeaaaGreatDoor

/- Made schemas: checks taken away. -/

namespace Go.Proofs.YtcfghfmlfgaeaaaGreatDoor
open Go.RowKit Go.Q Go.V Go.Bag Go.Shelf

def SchC (b : Nat) (w : World) (h : Hdr) (D : List TPar) : Prop := ∃ L : List TH, L.length = D.length ∧ SB w (b + 1) 41 h 6 (L.flatMap tbc) ∧ ∀ (i : Nat) x t, L[i]? = some x → D[i]? = some t → TbS w (b + 1) i x t
def SchF (b : Nat) (w : World) (h : Hdr) (D : List TPar) : Prop := ∃ L : List TH, L.length = D.length ∧ SB w (b + 1) 41 h 6 (L.flatMap tbc) ∧ (∀ x ∈ L, x.2.2.2.2.2.1 = (none, 0, 0)) ∧ ∀ (i : Nat) x t, L[i]? = some x → D[i]? = some t → TbS w (b + 1) i x t
theorem SchF.sch {b : Nat} {w w2 : World} {h : Hdr} {D : List TPar} (H : SchF b w h D) (hg : w.grownBy w2 (some b)) : SchAt w2 h D := by
  obtain ⟨L, h1, h2, h3, h4⟩ := H
  exact ⟨L, (h2.xg hg (Nat.lt_succ_self _)).st.sl, h1, fun i x t q1 q2 => ((h4 i x t q1 q2).xg hg (Nat.lt_succ_self _)).at' (h3 x (List.mem_of_getElem? q1))⟩
theorem freeMk {w : World} {b : Nat} {h : Hdr} {D : List TPar} (H : SchC b w h D) (hD : OkD D) (hbw : b < w.heap.size) :
    call Tryz.prog 4 [.agg #[.slice h.1 h.2.1 h.2.2]] (.one (.agg [.slice])) w (fun (x : Hdr × Unit) w' => SchF b w' x.1 D ∧ bel w w') := by
  have hd2 := hD.d2
  obtain ⟨L, hL, SL, hT⟩ := H
  have S0 := SL.st.sl
  have hl : h.2.1 = D.length := by have := S0.len; rw [flat_len tbc_len] at this; omega
  refine call_of (S4_calls h.1 h.2.1 h.2.2 w _ ?_)
  unfold S4
  refine wr_box fun x1 w2 X1 h2 hx1 hs2 => ?_
  refine wr_alloc (z := .agg #[.slice none 0 0]) (by kernel_rfl) fun x3 w4 X3 h4 hx3 hs4 => ?_
  refine wr_alloc (z := .agg #[.slice none 0 0]) (by kernel_rfl) fun x5 w6 X5 h6 hx5 hs6 => ?_
  replace X1 : Box w6 x1 [.slice h.1 h.2.1 h.2.2] := Box.up (Box.up (show Box w2 x1 [.slice h.1 h.2.1 h.2.2] from X1) h4) h6
  replace X3 : Box w6 x3 [.slice none 0 0] := Box.up (show Box w4 x3 [.slice none 0 0] from X3) h6
  replace X5 : Box w6 x5 [.slice none 0 0] := X5
  have hb6 := (h2.trans h4).trans h6
  refine loop_up D.length (fun i w' => bel w w' ∧ w6.heap.size ≤ w'.heap.size ∧ Box w' x1 [.slice h.1 h.2.1 h.2.2] ∧ Box w' x3 [.slice none 0 0] ∧ ∃ out : Hdr, Box w' x5 [.slice out.1 out.2.1 out.2.2] ∧ Own w' w6.heap.size 41 6 out.1 out.2.1 out.2.2 (((L.take i).map cl).flatMap tbc)) ⟨hb6, Nat.le_refl _, X1, X3, (none, 0, 0), X5, Own.nil _ _ _ _⟩ fun i w9 hi ⟨hb, hz, X1, X3, out, X5, O⟩ again hag _ => ?_
  have hol : out.2.1 = i := by have := O.1; rw [flat_len tbc_len, List.length_map, List.length_take] at this; omega
  refine rd_box0 (by kernel_rfl) X1 rfl rfl ?_
  refine br_dec (fun e => ?_) (fun e => ?_)
  · dsimp only at e
    have hi' : i < D.length := by omega
    obtain ⟨x, hx⟩ : ∃ x, L[i]? = some x := ⟨_, List.getElem?_eq_getElem (by omega)⟩
    refine rd_box0 (by kernel_rfl) X1 rfl rfl ?_
    refine at_agg tyTb agTb tbc_len (by omega) (S0.up hb) rfl hx rfl ?_
    refine var_mk (z := .agg zTb.toArray) (v := tbv x) (by kernel_rfl) (by kernel_rfl) rfl rfl fun x14 w16 X14 h16 hx14 => ?_
    replace X14 : Box w16 x14 (tbc x) := X14
    have s16 := h16.size
    refine wu_boxi X14 (i := 5) (v := .slice none 0 0) (by kernel_rfl) (by simp) rfl fun w17 Z g17 s17 => ?_
    replace Z : Box w17 x14 (tbc (cl x)) := Z
    have hb17 : bel w9 w17 := h16.grownAt g17 (by omega)
    have hb17' := hb.trans hb17
    have X5' := X5.up hb17
    have O' := Own.kept O hb17
    have s917 := hb17.size
    refine rd_box0 (by kernel_rfl) X5' rfl rfl ?_
    refine rd_boxN Z (by kernel_rfl) rfl ?_
    refine wr_app1 tyTb (v := tbv (cl x)) O' (by omega) rfl (by omega) (by omega) rfl rfl (by omega) (by unfold maxLen; omega) fun a' c' w23 O23 g23 _ s23 => ?_
    have nb : ∀ {ad : Addr}, ad.block < w6.heap.size → some ad.block ≠ blk out.1 := fun hlt q => by have := (O'.lt _ q.symm).1; omega
    have b1 : x1.block < w6.heap.size := by omega
    have b3 : x3.block < w6.heap.size := by omega
    have b5 : x5.block < w6.heap.size := by omega
    have X523 := X5'.grown g23 (nb b5)
    refine wu_box X523 (v := .slice a' (out.2.1 + 1) c') (by kernel_rfl) (Nat.le_refl 1) rfl fun w24 X524 g24 s24 => ?_
    replace X524 : Box w24 x5 [.slice a' (out.2.1 + 1) c'] := X524
    refine z_i64 (by dsimp only; omega) ?_
    have hsz6 := hb6.size
    refine hag _ hi' ⟨(bel.own hb17' O' g23 hsz6).grownAt g24 (by omega), by omega, ((X1.up hb17).grown g23 (nb b1)).grown g24 (by intro q; injection q; omega), ((X3.up hb17).grown g23 (nb b3)).grown g24 (by intro q; injection q; omega), (a', out.2.1 + 1, c'), X524, ?_⟩
    rw [List.take_add_one, hx, List.map_append, List.flatMap_append]
    have e1 : List.flatMap tbc ((some x).toList.map cl) = tbc (cl x) := by simp
    rw [e1]
    exact O23.keptBy g24 (.inr fun q => by have := (O23.lt _ q).1; omega)
  · dsimp only at e
    have hiD : i = D.length := by omega
    rw [hiD, ← hL, List.take_length] at O
    refine rd_boxN X5 (by kernel_rfl) rfl ?_
    refine wu_box X3 (v := .agg #[.slice out.1 out.2.1 out.2.2]) (by kernel_rfl) (Nat.le_refl 1) rfl fun w27 X27 g27 _ => ?_
    replace X27 : Box w27 x3 [.slice out.1 out.2.1 out.2.2] := X27
    refine rd_boxV (l := [Sh.slice]) X27 (by kernel_rfl) (x := ((out : Hdr), ())) rfl ?_
    have hb27 := hb.grownAt g27 (by omega : w.heap.size ≤ x3.block)
    have O27 := O.keptBy g27 (.inr fun q => by have := (O.lt _ q).1; omega)
    have hs6 := hb6.size
    refine ⟨((out : Hdr), ()), rfl, ⟨L.map cl, by simpa using hL, SB.of O27 (by omega), fun x hx => ?_, fun i x t hx ht => ?_⟩, hb27⟩
    · obtain ⟨y, _, rfl⟩ := List.mem_map.1 hx; rfl
    · rw [List.getElem?_map] at hx
      obtain ⟨y, hy, rfl⟩ := Option.map_eq_some_iff.1 hx
      exact ((hT i y t hy ht).up hb27).cl'
end Go.Proofs.YtcfghfmlfgaeaaaGreatDoor

/- Made values. -/

namespace Go.Proofs.YtcfghfmlfgaeaaaGreatDoor
open Go.RowKit Go.Q Go.V Go.Bag Go.Shelf

def smallI : List Int := [0, 1, 2, -1, 5, 7, -7, 100, 1000000000000, -1000000000000, 999999999999, 1000000]
def smallS : List ByteArray := [ByteArray.empty, ⟨#[97]⟩, ⟨#[98]⟩, ⟨#[97, 98]⟩, ⟨#[48]⟩, ⟨#[32]⟩, ⟨#[97, 98, 99, 100, 101, 102, 103, 104, 105, 106, 107, 108, 109, 110, 111, 112, 113, 114, 115, 116, 117, 118, 119, 120]⟩]
theorem tyI64' : TyS Tryz.prog 117 2 (.int .i64 0) 1 8 := ⟨by kernel_rfl, by kernel_rfl⟩
theorem boolMk {w : World} (n : Nat) (hn : n ≤ 1) : call Tryz.prog 83 [.int .i64 (n : Int)] (.one (.agg [.int .i64, .int .i64, .str])) w (fun (v : Int × Int × ByteArray × Unit) w' => v = (2, (n : Int), ByteArray.empty, ()) ∧ bel w w') := by
  refine call_of (S83_calls n w _ ?_)
  unfold S83
  refine wr_alloc (z := .agg #[.int .i64 0, .int .i64 0, .string ByteArray.empty]) (by kernel_rfl) fun x1 w2 X1 h2 hx1 _ => ?_
  refine join_mk (fun _ w' => w' = w2) (fun K hK => ?_) ?_
  · refine br_ne (fun e => ?_) (fun _ => hK _ _ rfl)
    exact br_ne (fun e2 => by omega) (fun _ => hK _ _ rfl)
  · rintro _ w5 rfl _
    refine wu_box X1 (v := .agg (encV (2, (n : Int), ByteArray.empty)).toArray) (by kernel_rfl) (Nat.le_refl 3) rfl fun w6 X6 g6 _ => ?_
    replace X6 : Box w6 x1 (encV (2, (n : Int), ByteArray.empty)) := X6
    refine rd_boxV X6 (by kernel_rfl) rfl ?_
    exact ⟨((2 : Int), (n : Int), ByteArray.empty, ()), rfl, rfl, h2.grownAt g6 (by omega)⟩
structure ValsOk (k : Int) (V : List V3) : Prop where
  len : 3 ≤ V.length
  len2 : V.length ≤ 100
  nul : V[0]? = some zV
  val : ∀ (j : Nat) v, 1 ≤ j → j < min 4 V.length → V[j]? = some v → ∀ b, ValOk (k, b) v
theorem fill_v2 (a b : V3) : Instr.fill (fun i => some (i * 3, 3)) ((Array.range (2 * 3)).map ((Value.agg #[.int .i64 0, .int .i64 0, .string ByteArray.empty]).cells[· % (Value.agg #[.int .i64 0, .int .i64 0, .string ByteArray.empty]).cells.size]!)) (#[(0, .agg #[.int .i64 a.1, .int .i64 a.2.1, .string a.2.2]), (1, .agg #[.int .i64 b.1, .int .i64 b.2.1, .string b.2.2])] : Array (Nat × Value)).toList = some (encV a ++ encV b).toArray := by kernel_rfl
set_option maxHeartbeats 1600000 in
theorem valuesP {w : World} (k : Int) (hk : 1 ≤ k ∧ k ≤ 3) : call Tryz.prog 43 [.int .i64 k] (.one (.one .slice)) w (fun (x : Hdr) w' => bel w w' ∧ ∃ V, ValsOk k V ∧ Own w' w.heap.size 55 3 x.1 x.2.1 x.2.2 (V.flatMap encV)) := by
  refine call_of (S43_calls k w _ ?_)
  unfold S43
  refine wr_lit tyV (encV zV).toArray (fill_one 3 (.agg (encV zV).toArray) _ rfl (by simp)) (by omega) (by omega) rfl (by unfold maxLen; omega) fun ad w2 O2 h2 _ _ => ?_
  have O2' := O2 w.heap.size (Nat.le_refl _)
  refine br_eq (fun e => ?_) (fun e => ?_)
  · subst e
    refine wr_lit tyI64' (ints .i64 smallI).toArray (by kernel_rfl) (by omega) (by omega) rfl (by unfold maxLen; omega) fun ad2 w4 O4 h4 _ _ => ?_
    have I4 := O4 w2.heap.size (Nat.le_refl _)
    have hb4 := h2.trans h4
    have hl12 : smallI.length = 12 := rfl
    refine loop_upA 12 (fun j (s : Hdr) w' => bel w w' ∧ Own w' w2.heap.size 2 1 (some ad2) 12 12 (ints .i64 smallI) ∧ Own w' w.heap.size 55 3 s.1 s.2.1 s.2.2 ((zV :: (smallI.take j).map fun n => ((1, n, ByteArray.empty) : V3)).flatMap encV)) ⟨hb4, I4, Own.kept O2' h4⟩ fun j s w7 hj ⟨hb, OI, O⟩ again hag _ => ?_
    have hsl : s.2.1 = j + 1 := by have := O.1; rw [flat_len encV_len, List.length_cons, List.length_map, List.length_take] at this; omega
    refine br_dec (fun e => ?_) (fun e => ?_)
    · dsimp only at e
      have hj' : j < 12 := by omega
      obtain ⟨n, hn⟩ : ∃ n, smallI[j]? = some n := ⟨_, List.getElem?_eq_getElem (show j < smallI.length from hj')⟩
      refine at_int tyI64' (by kernel_rfl) OI.sl rfl (by omega) fun y hy => ?_
      obtain rfl : n = y := by rw [hn] at hy; cases hy; rfl
      refine wr_app1 tyV (v := .agg (encV (1, n, ByteArray.empty)).toArray) O hb.size rfl (by omega) (by omega) rfl rfl (by omega) (by unfold maxLen; omega) fun a' c' w13 O13 g13 _ _ => ?_
      refine z_i64 (by dsimp only; omega) ?_
      refine hag (a', s.2.1 + 1, c') _ hj' ⟨bel.own hb O g13 (Nat.le_refl _), keptO OI O (by decide) g13, ?_⟩
      rw [List.take_add_one, hn, List.map_append, ← List.cons_append, List.flatMap_append]
      exact O13
    · dsimp only at e
      have hj12 : j = 12 := by omega
      subst hj12
      refine ⟨s, rfl, hb, _, ⟨by simp [smallI], by simp [smallI], rfl, fun q v h1 h3 hv b => ?_⟩, O⟩
      have hq : q = 1 ∨ q = 2 ∨ q = 3 := by omega
      have hv' : v = (1, (q : Int) - 1, ByteArray.empty) := by
        rcases hq with rfl | rfl | rfl <;> (simp [smallI] at hv; rw [← hv]; rfl)
      subst hv'
      exact ⟨.inr (.inl ⟨rfl, by dsimp only; omega, by dsimp only; omega, rfl⟩), .inr rfl⟩
  · refine br_eq (fun e2 => ?_) (fun e2 => ?_)
    · subst e2
      refine call_mono (boolMk (w := w2) 0 (by omega)) ?_
      rintro v w16 ⟨rfl, h16⟩
      refine call_mono (boolMk (w := w16) 1 (by omega)) ?_
      rintro v w18 ⟨rfl, h18⟩
      refine wr_lit tyV (encV (2, 0, ByteArray.empty) ++ encV (2, 1, ByteArray.empty)).toArray (fill_v2 (2, 0, ByteArray.empty) (2, 1, ByteArray.empty)) (by omega) (by omega) rfl (by unfold maxLen; omega) fun ad2 w20 O20 h20 _ _ => ?_
      have h220 := (h16.trans h18).trans h20
      have hb20 := h2.trans h220
      have O2k := Own.kept O2' h220
      refine wr_app tyV O2k (O20 _ (Nat.le_refl _)).sl hb20.size rfl (by omega) rfl (by omega) (by unfold maxLen; omega) fun a' c' w22 O22 g22 _ _ => ?_
      refine ⟨((a', 1 + 2, c') : Hdr), rfl, bel.own hb20 O2k g22 (Nat.le_refl _), [zV, (2, 0, ByteArray.empty), (2, 1, ByteArray.empty)], ⟨by simp, by simp, rfl, fun q v h1 h3 hv b => ?_⟩, O22⟩
      have hq : q = 1 ∨ q = 2 := by simp at h3; omega
      have hv' : v = (2, (q : Int) - 1, ByteArray.empty) := by
        rcases hq with rfl | rfl <;> (simp at hv; rw [← hv]; rfl)
      subst hv'
      exact ⟨.inr (.inr (.inl ⟨rfl, by dsimp only; omega, by dsimp only; omega, rfl⟩)), .inr rfl⟩
    · refine br_eq (fun e3 => ?_) (fun e3 => by omega)
      subst e3
      refine wr_lit tyStr (smallS.map Value.string).toArray (by kernel_rfl) (by omega) (by omega) rfl (by unfold maxLen; omega) fun ad2 w4 O4 h4 _ _ => ?_
      have I4 := O4 w2.heap.size (Nat.le_refl _)
      have hb4 := h2.trans h4
      have hl7 : smallS.length = 7 := rfl
      refine loop_upA 7 (fun j (s : Hdr) w' => bel w w' ∧ Own w' w2.heap.size 9 1 (some ad2) 7 7 (smallS.map Value.string) ∧ Own w' w.heap.size 55 3 s.1 s.2.1 s.2.2 ((zV :: (smallS.take j).map fun n => ((3, 0, n) : V3)).flatMap encV)) ⟨hb4, I4, Own.kept O2' h4⟩ fun j s w7 hj ⟨hb, OI, O⟩ again hag _ => ?_
      have hsl : s.2.1 = j + 1 := by have := O.1; rw [flat_len encV_len, List.length_cons, List.length_map, List.length_take] at this; omega
      refine br_dec (fun e => ?_) (fun e => ?_)
      · dsimp only at e
        have hj' : j < 7 := by omega
        obtain ⟨n, hn⟩ : ∃ n, smallS[j]? = some n := ⟨_, List.getElem?_eq_getElem (show j < smallS.length from hj')⟩
        refine at_str OI.sl rfl hn ?_
        refine wr_app1 tyV (v := .agg (encV (3, 0, n)).toArray) O hb.size rfl (by omega) (by omega) rfl rfl (by omega) (by unfold maxLen; omega) fun a' c' w13 O13 g13 _ _ => ?_
        refine z_i64 (by dsimp only; omega) ?_
        refine hag (a', s.2.1 + 1, c') _ hj' ⟨bel.own hb O g13 (Nat.le_refl _), keptO OI O (by decide) g13, ?_⟩
        rw [List.take_add_one, hn, List.map_append, ← List.cons_append, List.flatMap_append]
        exact O13
      · dsimp only at e
        have hj7 : j = 7 := by omega
        subst hj7
        refine ⟨s, rfl, hb, _, ⟨by simp [smallS], by simp [smallS], rfl, fun q v h1 h3 hv b => ?_⟩, O⟩
        have hq : q = 1 ∨ q = 2 ∨ q = 3 := by omega
        have hv' : v.1 = 3 ∧ v.2.1 = 0 ∧ okT v.2.2 := by
          rcases hq with rfl | rfl | rfl
          · simp [smallS] at hv; rw [← hv]; exact ⟨rfl, rfl, .inl rfl⟩
          · simp [smallS] at hv; rw [← hv]; exact ⟨rfl, rfl, .inr (.inl rfl)⟩
          · simp [smallS] at hv; rw [← hv]; exact ⟨rfl, rfl, .inr (.inr rfl)⟩
        exact ⟨.inr (.inr (.inr hv')), .inr hv'.1⟩
end Go.Proofs.YtcfghfmlfgaeaaaGreatDoor

/- Made values out of few. -/

namespace Go.Proofs.YtcfghfmlfgaeaaaGreatDoor
open Go.RowKit Go.Q Go.V Go.Bag Go.Shelf

theorem smallP {w : World} {tb : Addr} {l : Hdr} {L : List Int} {p : Nat} (Tp : Tape w tb l L p) (hp : p ≤ 1000000) (k : Int) (hk : 1 ≤ k ∧ k ≤ 3) (nl : Bool) :
    call Tryz.prog 21 [.pointer (some tb), .int .i64 k, .bool nl] (.one (.agg [.int .i64, .int .i64, .str])) w (fun (x : Int × Int × ByteArray × Unit) w' => ∃ v : V3, x = (v.1, v.2.1, v.2.2, ()) ∧ ValOk (k, nl) v ∧ Tape w' tb l L (p + 1) ∧ w.grownBy w' (some tb.block)) := by
  have htl := Tp.box.lt
  refine call_of (S21_calls (some tb) k nl w _ ?_)
  unfold S21
  refine wr_alloc (z := .agg #[.int .i64 0, .int .i64 0, .string ByteArray.empty]) (by kernel_rfl) fun x1 w2 X1 h2 hx1 _ => ?_
  refine call_mono (valuesP k hk) ?_
  rintro (x3 : Hdr) w4 ⟨h4, V, VO, OV⟩
  have hxl : x3.2.1 = V.length := (RowAt.len OV.sl).symm
  have h3 := VO.len
  have hb4 := h2.trans h4
  replace X1 := X1.up h4
  have hx1l : w.heap.size ≤ x1.block := by omega
  refine z_eq (m := ((min 4 V.length : Nat) : Int)) (by rw [hxl]; split <;> omega) ?_
  have fin : ∀ (w7 : World) (v : V3), Tape w7 tb l L (p + 1) → w4.grownBy w7 (some tb.block) → ValOk (k, nl) v →
      wu Tryz.prog (Instr.storeAt 55 (.pointer (some x1)) (.agg (encV v).toArray)) w7 fun w10 => rd Tryz.prog (loadVar 55 x1) (.agg [.int .i64, .int .i64, .str]) w10 fun (x11 : Int × Int × ByteArray × Unit) =>
        ∃ x : Int × Int × ByteArray × Unit, (Value.agg #[.int .i64 x11.1, .int .i64 x11.2.1, .string x11.2.2.1]) = (RS.one (VS.agg [Sh.int .i64, Sh.int .i64, Sh.str])).val x ∧ ∃ v : V3, x = (v.1, v.2.1, v.2.2, ()) ∧ ValOk (k, nl) v ∧ Tape w10 tb l L (p + 1) ∧ w.grownBy w10 (some tb.block) := by
    intro w7 v T7 g7 hv
    have X7 := X1.xg g7 (by omega)
    refine wu_box X7 (v := .agg (encV v).toArray) (by kernel_rfl) (Nat.le_refl 3) rfl fun w10 X10 g10 _ => ?_
    replace X10 : Box w10 x1 (encV v) := X10
    refine rd_boxV X10 (by kernel_rfl) rfl ?_
    refine ⟨(v.1, v.2.1, v.2.2, ()), rfl, v, rfl, hv, T7.put g10 (fun k hk => by injection hk; omega), ?_⟩
    exact xg_put ((grown_of_bel hb4 _).trans g7) g10 fun k hk => by injection hk with hk; exact .inl (by omega)
  refine br_mk (fun e => ?_) (fun e => ?_)
  · subst e
    refine call_mono (nextF ((min 4 V.length : Nat) : Int) (Tp.up hb4) hp ⟨by omega, by omega⟩) ?_
    rintro (x6 : Int) w7 ⟨hx6, T7, g7⟩
    obtain ⟨n, rfl⟩ : ∃ n : Nat, x6 = (n : Int) := ⟨x6.toNat, by omega⟩
    have R7 : RowAt w7 x3 V := (Own.xg OV g7 (by have := h2.size; omega)).sl
    refine row_at R7 rfl (by omega) fun v hv => ?_
    refine fin w7 v T7 g7 ?_
    by_cases hn0 : n = 0
    · subst hn0
      rw [VO.nul] at hv; cases hv
      exact ⟨.inl rfl, .inl ⟨rfl, rfl⟩⟩
    · exact VO.val n v (by omega) (by omega) hv true
  · subst e
    refine z_i64 (by omega) ?_
    refine call_mono (nextF (((min 4 V.length : Nat) : Int) - 1) (Tp.up hb4) hp ⟨by omega, by omega⟩) ?_
    rintro (x13 : Int) w7 ⟨hx6, T7, g7⟩
    refine z_i64 (by omega) ?_
    obtain ⟨n, rfl⟩ : ∃ n : Nat, x13 = (n : Int) := ⟨x13.toNat, by omega⟩
    have R7 : RowAt w7 x3 V := (Own.xg OV g7 (by have := h2.size; omega)).sl
    refine row_at R7 (j := 1 + n) (by omega) (by omega) fun v hv => ?_
    exact fin w7 v T7 g7 (VO.val (1 + n) v (by omega) (by omega) hv false)
end Go.Proofs.YtcfghfmlfgaeaaaGreatDoor

/- Made names. -/


namespace Go.Proofs.YtcfghfmlfgaeaaaGreatDoor
open Go.RowKit Go.Q Go.V Go.Bag Go.Shelf

theorem name_cell (w : World) (v : Value) (e : TypeId) : (w.alloc (.cells #[v] e)).cell? ⟨w.heap.size, 0, none⟩ = some v := by
  rw [World.cell?_alloc_at (n := w.heap.size) (hn := rfl)]; rfl

theorem name_str (c k : Nat) (hk : k < 10) : (⟨#[c.toUInt8]⟩ : ByteArray) ++ strOfNums [48 + (k : Int)] = nm c k := by
  have h : ((48 + (k : Int)).toNat) = 48 + k := by omega
  apply ByteArray.ext
  simp [strOfNums, nm, h]

set_option maxRecDepth 100000 in
set_option maxHeartbeats 2000000 in
theorem nameMk {w : World} (c k : Nat) (hk : k < 10) : call Tryz.prog 16 [.string ⟨#[c.toUInt8]⟩, .int .i64 (k : Int)] (.one (.one .str)) w (fun (s : ByteArray) w' => s = nm c k ∧ bel w w') := by
  unfold call
  have h1 : (k : Int).tmod 10 = (k : Int) := Int.tmod_eq_of_lt (by omega) (by omega)
  go_enter Tryz.func16, Tryz.ntmps16
  go_wp2
  rw [run_convert_bytes_arg (w := w.alloc (.cells #[.int .u8 (48 + (k : Int))] 5)) 104 5 rfl rfl w.heap.size 0 1 1 [48 + (k : Int)] rfl (by
    intro i hi
    obtain rfl : i = 0 := by omega
    exact name_cell _ _ _) 9 rfl]
  go_wp2
  exact bodyPost_ret (v := .string ((⟨#[c.toUInt8]⟩ : ByteArray) ++ strOfNums [48 + (k : Int)])) (by simp [results, Tryz.results16, go_sem]) rfl ⟨_, rfl, name_str c k hk, bel_alloc _ _⟩
end Go.Proofs.YtcfghfmlfgaeaaaGreatDoor

/- A constant's expression. -/

namespace Go.Proofs.YtcfghfmlfgaeaaaGreatDoor
open Go.RowKit Go.Q Go.V Go.Bag Go.Shelf

theorem constP {w : World} (a b : Int) (s : ByteArray) (t : Int) : call Tryz.prog 41 [.agg #[.int .i64 a, .int .i64 b, .string s], .int .i64 t] (.one (.agg [.int .i64, .int .i64, .int .i64, .str, .int .i64, .slice])) w (fun (_ : Int × Int × Int × ByteArray × Int × Hdr × Unit) w' => bel w w') := by
  refine call_of (S41_calls a b s t w _ ?_)
  unfold S41
  refine wr_box fun x1 w2 X1 b2 _ _ => ?_
  refine wr_alloc (z := .agg #[.int .i64 0, .int .i64 0, .int .i64 0, .string ByteArray.empty, .int .i64 0, .slice none 0 0]) (by kernel_rfl) fun x3 w4 X3 b4 hx3 _ => ?_
  have hb4 := b2.trans b4
  have hz2 := b2.size
  have fin : ∀ (o t' n : Int) (s' : ByteArray), wu Tryz.prog (Instr.storeAt 66 (.pointer (some x3)) (.agg #[.int .i64 o, .int .i64 t', .int .i64 n, .string s', .int .i64 0, .slice none 0 0])) w4 fun w7 => rd Tryz.prog (loadVar 66 x3) (.agg [.int .i64, .int .i64, .int .i64, .str, .int .i64, .slice]) w7 fun (x : Int × Int × Int × ByteArray × Int × Hdr × Unit) =>
      ∃ y : Int × Int × Int × ByteArray × Int × Hdr × Unit, (Value.agg #[.int .i64 x.1, .int .i64 x.2.1, .int .i64 x.2.2.1, .string x.2.2.2.1, .int .i64 x.2.2.2.2.1, .slice x.2.2.2.2.2.1.1 x.2.2.2.2.2.1.2.1 x.2.2.2.2.2.1.2.2]) = (RS.one (VS.agg [Sh.int .i64, Sh.int .i64, Sh.int .i64, Sh.str, Sh.int .i64, Sh.slice])).val y ∧ bel w w7 := by
    intro o t' n s'
    refine wu_box X3 (v := .agg #[.int .i64 o, .int .i64 t', .int .i64 n, .string s', .int .i64 0, .slice none 0 0]) (by kernel_rfl) (Nat.le_refl 6) rfl fun w7 X7 g7 _ => ?_
    replace X7 : Box w7 x3 [.int .i64 o, .int .i64 t', .int .i64 n, .string s', .int .i64 0, .slice none 0 0] := X7
    refine rd_boxV X7 (by kernel_rfl) rfl ?_
    exact ⟨(o, t', n, s', 0, (none, 0, 0), ()), rfl, hb4.grownAt g7 (by omega)⟩
  refine rd_box0 (by kernel_rfl) (X1.up b4) rfl rfl ?_
  refine br_mk (fun _ => ?_) (fun _ => br_mk (fun _ => ?_) (fun _ => br_mk (fun _ => ?_) (fun _ => ?_)))
  · refine rd_box (by kernel_rfl) (X1.up b4) (i := 1) rfl rfl ?_
    exact fin 2 0 b _
  · refine rd_box (by kernel_rfl) (X1.up b4) (i := 1) rfl rfl ?_
    exact fin 3 0 b _
  · refine rd_box (by kernel_rfl) (X1.up b4) (i := 2) rfl rfl ?_
    exact fin 4 0 0 s
  · exact fin 1 t 0 _
end Go.Proofs.YtcfghfmlfgaeaaaGreatDoor

/- An atom's expression. -/

namespace Go.Proofs.YtcfghfmlfgaeaaaGreatDoor
open Go.RowKit Go.Q Go.V Go.Bag Go.Shelf

theorem tyEx : TyS Tryz.prog 39 66 (.agg #[.int .i64 0, .int .i64 0, .int .i64 0, .string ByteArray.empty, .int .i64 0, .slice none 0 0]) 6 72 := ⟨by kernel_rfl, by kernel_rfl⟩
abbrev EX : Type := Int × Int × Int × ByteArray × Int × Hdr × Unit
abbrev encEX (x : EX) : List Value := [.int .i64 x.1, .int .i64 x.2.1, .int .i64 x.2.2.1, .string x.2.2.2.1, .int .i64 x.2.2.2.2.1, .slice x.2.2.2.2.2.1.1 x.2.2.2.2.2.1.2.1 x.2.2.2.2.2.1.2.2]
theorem fill_x2 (x y : EX) : Instr.fill (fun i => some (i * 6, 6)) ((Array.range (2 * 6)).map ((Value.agg (encEX (0, 0, 0, ByteArray.empty, 0, (none, 0, 0), ())).toArray).cells[· % (Value.agg (encEX (0, 0, 0, ByteArray.empty, 0, (none, 0, 0), ())).toArray).cells.size]!)) (#[(0, .agg (encEX x).toArray), (1, .agg (encEX y).toArray)] : Array (Nat × Value)).toList = some (encEX x ++ encEX y).toArray := by kernel_rfl

theorem exprP {w : World} (a0 a1 a2 a3 : Int) (a4 : ByteArray) : call Tryz.prog 17 [.agg #[.int .i64 a0, .int .i64 a1, .int .i64 a2, .int .i64 a3, .string a4]] (.one (.agg [.int .i64, .int .i64, .int .i64, .str, .int .i64, .slice])) w (fun (_ : EX) w' => bel w w') := by
  refine call_of (S17_calls a0 a1 a2 a3 a4 w _ ?_)
  unfold S17
  refine wr_box fun x1 w2 X1 b2 hx1 _ => ?_
  refine wr_alloc (z := .agg #[.int .i64 0, .int .i64 0, .int .i64 0, .string ByteArray.empty, .int .i64 0, .slice none 0 0]) (by kernel_rfl) fun x3 w4 X3 b4 hx3 _ => ?_
  refine rd_box0 (by kernel_rfl) (X1.up b4) rfl rfl ?_
  refine wr_alloc (z := .agg #[.int .i64 0, .int .i64 0, .int .i64 0, .string ByteArray.empty, .int .i64 0, .slice none 0 0]) (by kernel_rfl) fun x6 w7 X6 b7 hx6 _ => ?_
  have z2 := b2.size
  have z4 := b4.size
  have z7 := b7.size
  have h17 : x1.block < w4.heap.size := (X1.up b4).lt
  have h37 : x3.block < w4.heap.size := X3.lt
  refine wu_box X6 (v := .agg #[.int .i64 5, .int .i64 0, .int .i64 0, .string ByteArray.empty, .int .i64 a0, .slice none 0 0]) (by kernel_rfl) (Nat.le_refl 6) rfl fun w8 X68 g8 s8 => ?_
  replace X68 : Box w8 x6 (encEX (5, 0, 0, ByteArray.empty, a0, (none, 0, 0), ())) := X68
  have X18 := (X1.up (b4.trans b7)).grown g8 (by intro q; injection q; omega)
  have X38 := (X3.up b7).grown g8 (by intro q; injection q; omega)
  have h8 : bel w w8 := ((b2.trans b4).trans b7).grownAt g8 (by omega)
  have fin : ∀ (w9 : World) (x : EX), bel w8 w9 → wu Tryz.prog (Instr.storeAt 66 (.pointer (some x3)) (.agg (encEX x).toArray)) w9 fun w10 => rd Tryz.prog (loadVar 66 x3) (.agg [.int .i64, .int .i64, .int .i64, .str, .int .i64, .slice]) w10 fun (x : EX) =>
      ∃ y : EX, (Value.agg (encEX x).toArray) = (RS.one (VS.agg [Sh.int .i64, Sh.int .i64, Sh.int .i64, Sh.str, Sh.int .i64, Sh.slice])).val y ∧ bel w w10 := by
    intro w9 x h9
    refine wu_box (X38.up h9) (v := .agg (encEX x).toArray) (by kernel_rfl) (Nat.le_refl 6) rfl fun w10 X10 g10 _ => ?_
    replace X10 : Box w10 x3 (encEX x) := X10
    refine rd_boxV X10 (by kernel_rfl) rfl ?_
    exact ⟨x, rfl, (h8.trans h9).grownAt g10 (by omega)⟩
  refine rd_box (by kernel_rfl) X18 (i := 1) rfl rfl ?_
  refine br_mk (fun _ => ?_) (fun _ => br_mk (fun _ => ?_) (fun _ => ?_))
  · refine rd_boxN X68 (by kernel_rfl) rfl ?_
    exact fin w8 _ (bel.refl _)
  · refine rd_boxN X68 (by kernel_rfl) rfl ?_
    refine wr_lit tyEx (encEX (5, 0, 0, ByteArray.empty, a0, (none, 0, 0), ())).toArray (fill_one 6 (.agg (encEX (5, 0, 0, ByteArray.empty, a0, (none, 0, 0), ())).toArray) _ rfl (by simp)) (by omega) (by omega) rfl (by unfold maxLen; omega) fun ad w15 O' h15 _ _ => ?_
    exact fin w15 (21, 0, 0, ByteArray.empty, 0, (some ad, 1, 1), ()) h15
  · refine drw_mk fun w18 h18 _ => ?_
    refine flEx_mk (fun _ _ _ _ => True) (fun _ _ _ _ _ _ _ => trivial) ?_
    refine rd_box (by kernel_rfl) (X18.up h18) (i := 1) rfl rfl ?_
    refine rd_boxN (X68.up h18) (by kernel_rfl) rfl ?_
    refine rd_boxm (X18.up h18) (m := 2) (vs := [.int .i64 a2, .int .i64 a3, .string a4]) (by kernel_rfl) (fun j v hj => by
      match j, hj with
      | 0, hj => exact hj
      | 1, hj => exact hj
      | 2, hj => exact hj) rfl ?_
    refine flc_mk (fun w23 _ _ => ?_) (fun x27 => ?_)
    · refine call_mono (constP a2 a3 a4 0) ?_
      rintro (x25 : EX) w26 h26
      exact ⟨h26, trivial⟩
    refine flc_mk (fun w28 _ _ => ?_) (fun x32 => ?_)
    · refine wr_lit tyEx (encEX (5, 0, 0, ByteArray.empty, a0, (none, 0, 0), ()) ++ encEX x27).toArray (fill_x2 _ x27) (by omega) (by omega) rfl (by unfold maxLen; omega) fun ad w31 O' h31 _ _ => ?_
      exact ⟨h31, trivial⟩
    refine flend_mk fun w33 h33 _ => ?_
    exact fin w33 (a1, 0, 0, ByteArray.empty, 0, x32, ()) (h18.trans h33)
end Go.Proofs.YtcfghfmlfgaeaaaGreatDoor

/- A made atom: only that the tape moves on. -/

namespace Go.Proofs.YtcfghfmlfgaeaaaGreatDoor
open Go.RowKit Go.Q Go.V Go.Bag Go.Shelf

theorem atomP {w : World} {i : Nat} {x : TH} {t : TPar} {tb : Addr} (Ts : ∀ w', w.grownBy w' (some tb.block) → TbAt w' i x t) (ok : t.Ok i) {l : Hdr} {L : List Int} {p : Nat} (Tp : Tape w tb l L p) (hp : p ≤ 999990) :
    call Tryz.prog 18 [.pointer (some tb), tbv x] (.one (.agg [.int .i64, .int .i64, .int .i64, .int .i64, .str])) w (fun (_ : Int × Int × Int × Int × ByteArray × Unit) w' => ∃ q, q ≤ p + 5 ∧ Tape w' tb l L q ∧ w.grownBy w' (some tb.block)) := by
  have T := Ts w (grown_refl _ _)
  have hn := T.nc
  have hf1 := ok.f1
  have hf2 := ok.f2
  have hk2 := ok.k2
  have hnf : t.nf = t.free.length := rfl
  have hnn : t.nc = 1 + t.nf + t.tos.length := rfl
  refine call_of (S18_calls (some tb) x.1 x.2.1.1 x.2.1.2.1 x.2.1.2.2 x.2.2.1.1 x.2.2.1.2.1 x.2.2.1.2.2 x.2.2.2.1.1 x.2.2.2.1.2.1 x.2.2.2.1.2.2 x.2.2.2.2.1.1 x.2.2.2.2.1.2.1 x.2.2.2.2.1.2.2 x.2.2.2.2.2.1.1 x.2.2.2.2.2.1.2.1 x.2.2.2.2.2.1.2.2 w _ ?_)
  unfold S18
  refine wr_box fun x1 w2 X1 b2 hx1 _ => ?_
  replace X1 : Box w2 x1 (tbc x) := X1
  refine wr_alloc (z := .agg #[.int .i64 0, .int .i64 0, .int .i64 0, .int .i64 0, .string ByteArray.empty]) (by kernel_rfl) fun x3 w4 X3 b4 hx3 _ => ?_
  replace X1 := X1.up b4
  have hb4 := b2.trans b4
  refine loop_upA t.nc (fun c (s : Hdr) w' => bel w4 w' ∧ w4.heap.size ≤ w'.heap.size ∧ Own w' w4.heap.size 3 1 s.1 s.2.1 s.2.2 (nints ((List.range c).filter (isFree t)))) ⟨bel.refl _, Nat.le_refl _, Own.nil _ _ _ _⟩ fun c s w7 hc ⟨hb, hz, O⟩ again hag _ => ?_
  refine rd_box (by kernel_rfl) (X1.up hb) (i := 1) rfl rfl ?_
  refine br_dec (fun e => ?_) (fun e => ?_)
  · have hcn : c < t.nc := by dsimp only at e; omega
    refine rd_boxN (X1.up hb) (by kernel_rfl) rfl ?_
    refine call_mono (rkeyP (T.up (hb4.trans hb)) ok hcn) ?_
    rintro y w15 ⟨rfl, h15⟩
    have hz15 := h15.size
    refine br_mk (fun e1 => ?_) (fun e1 => ?_)
    · have hfr : isFree t c = true := by simpa using e1
      refine wr_lit tyI #[.int .i64 (c : Int)] (fill_one 1 (.int .i64 (c : Int)) _ rfl (by simp)) (by omega) (by omega) rfl (by unfold maxLen; omega) fun ad w17 O' h17 hbk _ => ?_
      have hz17 := h17.size
      have O17 : Own w17 w4.heap.size 3 1 s.1 s.2.1 s.2.2 (nints ((List.range c).filter (isFree t))) := (O.kept h15).kept h17
      have hls : s.2.1 = ((List.range c).filter (isFree t)).length := by have := O17.sl.len; simp [nints, ints] at this; omega
      have hle : ((List.range c).filter (isFree t)).length ≤ c := by simpa using List.length_filter_le (isFree t) (List.range c)
      refine wr_app tyI O17 (O' _ (Nat.le_refl _)).sl (by omega) rfl (by omega) rfl (by omega) (by unfold maxLen; omega) fun a' c' w19 O19 g19 hnew hz19 => ?_
      intro _
      refine z_i64 (by dsimp only; omega) ?_
      refine hag _ _ hcn ⟨((hb.trans h15).trans h17).grown g19 (fun k hk => (O17.lt k hk).1), by omega, ?_⟩
      rw [List.range_succ, List.filter_append]
      simp only [List.filter_cons, hfr, if_true, List.filter_nil]
      rw [nints, List.map_append, ints, List.map_append]
      exact O19
    · have hfr : isFree t c = false := by simpa using e1
      intro _
      refine z_i64 (by dsimp only; omega) ?_
      refine hag _ _ hcn ⟨hb.trans h15, by omega, ?_⟩
      rw [List.range_succ, List.filter_append]
      simp only [List.filter_cons, hfr, List.filter_nil, List.append_nil, Bool.false_eq_true, if_false]
      exact O.kept h15
  · have hcn : c = t.nc := by dsimp only at e; omega
    have hls : s.2.1 = ((List.range c).filter (isFree t)).length := by have := O.sl.len; simp [nints, ints] at this; omega
    have hle : ((List.range c).filter (isFree t)).length ≤ c := by simpa using List.length_filter_le (isFree t) (List.range c)
    have hpos : 0 < ((List.range c).filter (isFree t)).length := by
      apply List.length_pos_of_mem (a := 1)
      simp [isFree]
      omega
    have htl := Tp.box.lt
    refine call_mono (nextF ((s.2.1 : Nat) : Int) (Tp.up (hb4.trans hb)) (by omega) ⟨by omega, by omega⟩) ?_
    rintro (x20 : Int) w21 ⟨hx20, T21, g21⟩
    have hz21 := g21.size
    have z2 := b2.size
    have z4 := b4.size
    obtain ⟨n, rfl⟩ : ∃ n : Nat, x20 = (n : Int) := ⟨x20.toNat, by omega⟩
    have O21 : Own w21 w4.heap.size 3 1 s.1 s.2.1 s.2.2 (nints ((List.range c).filter (isFree t))) := Own.xg O g21 (by omega)
    have X121 : Box w21 x1 (tbc x) := (X1.up hb).xg g21 (by omega)
    have X321 := (X3.up hb).xg g21 (by omega)
    have G21 : w.grownBy w21 (some tb.block) := (grown_of_bel (hb4.trans hb) _).trans g21
    have Tx := Ts w21 G21
    refine at_int tyI (by kernel_rfl) O21.sl rfl (by omega) fun y hy => ?_
    obtain ⟨m, hm, hym⟩ : ∃ m : Nat, isFree t m = true ∧ y = (m : Int) := by
      have h1 := List.mem_of_getElem? hy
      obtain ⟨m, h2, h3⟩ := List.mem_map.1 h1
      exact ⟨m, (List.mem_filter.1 h2).2, h3.symm⟩
    subst hym
    have hm' : 1 ≤ m ∧ m ≤ t.nf := by simpa [isFree] using hm
    obtain ⟨pc, hpc⟩ : ∃ pc, t.free[m - 1]? = some pc := ⟨_, List.getElem?_eq_getElem (by omega)⟩
    have hcol := cols_free hpc
    rw [show 1 + (m - 1) = m by omega] at hcol
    have hty := col_type ok hcol
    refine wr_alloc (z := .agg #[.int .i64 0, .int .i64 0, .int .i64 0, .int .i64 0, .string ByteArray.empty]) (by kernel_rfl) fun x24 w25 X24 h25 hx24 _ => ?_
    have hz25 := h25.size
    refine wu_box X24 (v := .agg #[.int .i64 (m : Int), .int .i64 0, .int .i64 0, .int .i64 0, .string ByteArray.empty]) (by kernel_rfl) (Nat.le_refl 5) rfl fun w26 X26 g26 s26 => ?_
    have hnt : tb.block < x24.block := by omega
    have T26 : Tape w26 tb l L (p + 1) := (T21.up h25).grown g26 hnt
    replace X26 : Box w26 x24 [.int .i64 (m : Int), .int .i64 0, .int .i64 0, .int .i64 0, .string ByteArray.empty] := X26
    have hx3l := X321.lt
    have hx1l := X121.lt
    have X126 : Box w26 x1 (tbc x) := (X121.up h25).grown g26 (by intro q; injection q; omega)
    have X326 := (X321.up h25).grown g26 (by intro q; injection q; omega)
    have G26 : w.grownBy w26 (some tb.block) := xg_put (G21.trans (grown_of_bel h25 _)) g26 fun k hk => by injection hk with hk; exact .inl (by omega)
    have hw := G21.size
    have h24l := X26.lt
    have fin : ∀ (w33 : World) (a b c d : Int) (s5 : ByteArray) (q : Nat), Box w33 x24 [.int .i64 a, .int .i64 b, .int .i64 c, .int .i64 d, .string s5] → q ≤ p + 5 → Tape w33 tb l L q → w.grownBy w33 (some tb.block) → Box w33 x3 [.int .i64 0, .int .i64 0, .int .i64 0, .int .i64 0, .string ByteArray.empty] →
        rd Tryz.prog (Instr.loadAt 69 (.pointer (some x24))) (.agg [.int .i64, .int .i64, .int .i64, .int .i64, .str]) w33 fun (x34 : Int × Int × Int × Int × ByteArray × Unit) =>
        wu Tryz.prog (Instr.storeAt 69 (.pointer (some x3)) (.agg #[.int .i64 x34.1, .int .i64 x34.2.1, .int .i64 x34.2.2.1, .int .i64 x34.2.2.2.1, .string x34.2.2.2.2.1])) w33 fun w35 =>
        rd Tryz.prog (loadVar 69 x3) (.agg [.int .i64, .int .i64, .int .i64, .int .i64, .str]) w35 fun (x36 : Int × Int × Int × Int × ByteArray × Unit) =>
        ∃ y : Int × Int × Int × Int × ByteArray × Unit, (Value.agg #[.int .i64 x36.1, .int .i64 x36.2.1, .int .i64 x36.2.2.1, .int .i64 x36.2.2.2.1, .string x36.2.2.2.2.1]) = (RS.one (VS.agg [Sh.int .i64, Sh.int .i64, Sh.int .i64, Sh.int .i64, Sh.str])).val y ∧ ∃ q, q ≤ p + 5 ∧ Tape w35 tb l L q ∧ w.grownBy w35 (some tb.block) := by
      intro w33 a b c d s5 q X33 hq T33 g33 X333
      refine rd_boxN X33 (by kernel_rfl) rfl ?_
      refine wu_box X333 (v := .agg #[.int .i64 a, .int .i64 b, .int .i64 c, .int .i64 d, .string s5]) (by kernel_rfl) (Nat.le_refl 5) rfl fun w35 X35 g35 _ => ?_
      replace X35 : Box w35 x3 [.int .i64 a, .int .i64 b, .int .i64 c, .int .i64 d, .string s5] := X35
      refine rd_boxV X35 (by kernel_rfl) rfl ?_
      exact ⟨(a, b, c, d, s5, ()), rfl, q, hq, T33.put g35 (fun k hk => by injection hk; omega), xg_put g33 g35 fun k hk => by injection hk with hk; exact .inl (by omega)⟩
    refine rd_box (by kernel_rfl) X126 (i := 1) rfl rfl ?_
    refine rd_box0 (by kernel_rfl) X26 rfl rfl ?_
    refine ColsAt.typ (Ts w26 G26).cols rfl hcol ?_
    refine call_mono (nextF 6 T26 (by omega) ⟨by omega, by omega⟩) ?_
    rintro (x37 : Int) w38 ⟨_, T38, g38⟩
    have X338 := X326.xg g38 (by omega)
    have X38 := X26.xg g38 (by omega)
    have G38 : w.grownBy w38 (some tb.block) := G26.trans g38
    refine br_eq (fun _ => ?_) (fun _ => ?_)
    · refine wu_boxi X38 (i := 1) (v := .int .i64 21) (by kernel_rfl) (by simp) rfl fun w39 X39 g39 s39 => ?_
      intro _
      exact fin w39 (m : Int) 21 0 0 ByteArray.empty (p + 2) X39 (by omega) (T38.put g39 (fun k hk => by injection hk; omega)) (xg_put G38 g39 fun k hk => by injection hk with hk; exact .inl (by omega)) (X338.grown g39 (by intro q; injection q; omega))
    have fin2 : ∀ (w44 : World) (o : Int) (v : V3) (q : Nat), Tape w44 tb l L q → q ≤ p + 5 → w.grownBy w44 (some tb.block) → Box w44 x24 [.int .i64 (m : Int), .int .i64 0, .int .i64 0, .int .i64 0, .string ByteArray.empty] → Box w44 x3 [.int .i64 0, .int .i64 0, .int .i64 0, .int .i64 0, .string ByteArray.empty] →
        ∀ K : World → Prop, (∀ w46 (a b c d : Int) (s5 : ByteArray), Box w46 x24 [.int .i64 a, .int .i64 b, .int .i64 c, .int .i64 d, .string s5] → Tape w46 tb l L q → w.grownBy w46 (some tb.block) → Box w46 x3 [.int .i64 0, .int .i64 0, .int .i64 0, .int .i64 0, .string ByteArray.empty] → K w46) →
        wu Tryz.prog (Instr.storeAt 3 (.pointer (some (x24.add 1))) (.int .i64 o)) w44 fun w45 => wu Tryz.prog (Instr.storeAt 55 (.pointer (some (x24.add 2))) (.agg (encV v).toArray)) w45 K := by
      intro w44 o v q T44 hq G44 X44 X344 K hK
      refine wu_boxi X44 (i := 1) (v := .int .i64 o) (by kernel_rfl) (by simp) rfl fun w45 X45 g45 s45 => ?_
      refine wu_boxm X45 (m := 2) (v := .agg (encV v).toArray) (by kernel_rfl) (Nat.le_refl 5) rfl fun w46 X46 g46 s46 => ?_
      exact hK w46 (m : Int) o v.1 v.2.1 v.2.2 X46 ((T44.put g45 (fun k hk => by injection hk; omega)).put g46 (fun k hk => by injection hk; omega)) (xg_put (xg_put G44 g45 fun k hk => by injection hk with hk; exact .inl (by omega)) g46 fun k hk => by injection hk with hk; exact .inl (by omega)) ((X344.grown g45 (by intro q; injection q; omega)).grown g46 (by intro q; injection q; omega))
    have hz38 := g38.size
    refine br_eq (fun _ => ?_) (fun _ => br_eq (fun _ => ?_) (fun _ => ?_))
    · refine call_mono (nextF 6 T38 (by omega) ⟨by omega, by omega⟩) ?_
      rintro (x40 : Int) w41 ⟨hx40, T41, g41⟩
      refine z_i64 (by omega) ?_
      refine call_mono (smallP T41 (by omega) _ hty false) ?_
      rintro _ w44 ⟨v, rfl, _, T44, g44⟩
      exact fin2 w44 _ v _ T44 (by omega) (G38.trans (g41.trans g44)) ((X38.xg g41 (by omega)).xg g44 (by omega)) ((X338.xg g41 (by omega)).xg g44 (by omega)) _ fun w46 a b c d s5 X46 T46 G46 X346 => fun _ => fin w46 a b c d s5 _ X46 (by omega) T46 G46 X346
    · refine call_mono (nextF 2 T38 (by omega) ⟨by omega, by omega⟩) ?_
      rintro (x47 : Int) w48 ⟨_, T48, g48⟩
      have hz48 := g48.size
      have X348 := X338.xg g48 (by omega)
      have X48 := X38.xg g48 (by omega)
      have G48 := G38.trans g48
      refine br_eq (fun _ => ?_) (fun _ => ?_)
      · refine wu_boxi X48 (i := 1) (v := .int .i64 5) (by kernel_rfl) (by simp) rfl fun w49 X49 g49 s49 => ?_
        intro _
        exact fin w49 (m : Int) 5 0 0 ByteArray.empty _ X49 (by omega) (T48.put g49 (fun k hk => by injection hk; omega)) (xg_put G48 g49 fun k hk => by injection hk with hk; exact .inl (by omega)) (X348.grown g49 (by intro q; injection q; omega))
      · refine call_mono (nextF 2 T48 (by omega) ⟨by omega, by omega⟩) ?_
        rintro (x40 : Int) w41 ⟨hx40, T41, g41⟩
        refine z_i64 (by omega) ?_
        refine call_mono (smallP T41 (by omega) _ hty false) ?_
        rintro _ w44 ⟨v, rfl, _, T44, g44⟩
        exact fin2 w44 _ v _ T44 (by omega) (G48.trans (g41.trans g44)) ((X48.xg g41 (by omega)).xg g44 (by omega)) ((X348.xg g41 (by omega)).xg g44 (by omega)) _ fun w46 a b c d s5 X46 T46 G46 X346 => fun _ => fin w46 a b c d s5 _ X46 (by omega) T46 G46 X346
    · refine call_mono (nextF 2 T38 (by omega) ⟨by omega, by omega⟩) ?_
      rintro (x40 : Int) w41 ⟨hx40, T41, g41⟩
      refine z_i64 (by omega) ?_
      refine call_mono (smallP T41 (by omega) _ hty false) ?_
      rintro _ w44 ⟨v, rfl, _, T44, g44⟩
      exact fin2 w44 _ v _ T44 (by omega) (G38.trans (g41.trans g44)) ((X38.xg g41 (by omega)).xg g44 (by omega)) ((X338.xg g41 (by omega)).xg g44 (by omega)) _ fun w46 a b c d s5 X46 T46 G46 X346 => fun _ => fin w46 a b c d s5 _ X46 (by omega) T46 G46 X346
end Go.Proofs.YtcfghfmlfgaeaaaGreatDoor

/- Made instances: the plain part. -/

namespace Go.Proofs.YtcfghfmlfgaeaaaGreatDoor
open Go.RowKit Go.Q Go.V Go.Bag Go.Shelf

theorem RowOk.mono {I I' : List Rows} {t : TPar} {n : Nat} {r : Rw} (H : RowOk I t n r) (h : ∀ (j : Nat) R, I[j]? = some R → ∃ R', I'[j]? = some R' ∧ R.length ≤ R'.length) : RowOk I' t n r := by
  refine ⟨H.len, H.id, H.free, fun k j hk => ?_⟩
  obtain ⟨m, R, h1, h2, h3, h4⟩ := H.key k j hk
  obtain ⟨R', q1, q2⟩ := h j R h3
  exact ⟨m, R', h1, h2, q1, by omega⟩
theorem OkI.none {D : List TPar} : OkI D (List.replicate D.length []) := by
  refine ⟨by simp, fun R hR => ?_, fun i t R n r _ h2 h3 => ?_⟩
  · rw [(List.mem_replicate.1 hR).2]; exact Nat.zero_le _
  · have := (List.mem_replicate.1 (List.mem_of_getElem? h2)).2
    subst this
    simp at h3
theorem OkI.add {D : List TPar} {I : List Rows} (H : OkI D I) {i : Nat} {t : TPar} {R : Rows} {r : Rw} (ht : D[i]? = some t) (hR : I[i]? = some R) (hr : RowOk I t R.length r) (h20 : R.length < 20) : OkI D (I.set i (R ++ [r])) := by
  have hi := (List.getElem?_eq_some_iff.1 hR).1
  have up : ∀ (j : Nat) R0, I[j]? = some R0 → ∃ R', (I.set i (R ++ [r]))[j]? = some R' ∧ R0.length ≤ R'.length := fun j R0 h0 => by
    by_cases e : i = j
    · subst e
      rw [hR] at h0; cases h0
      exact ⟨R ++ [r], by rw [List.getElem?_set_self hi], by simp⟩
    · exact ⟨R0, by rw [List.getElem?_set_ne e]; exact h0, Nat.le_refl _⟩
  refine ⟨by simpa using H.len, fun R' hR' => ?_, fun k t' R' n r' h1 h2 h3 => ?_⟩
  · rcases List.mem_or_eq_of_mem_set hR' with q | rfl
    · exact H.few R' q
    · simp; omega
  · by_cases e : i = k
    · subst e
      rw [ht] at h1; cases h1
      rw [List.getElem?_set_self hi] at h2; cases h2
      rcases Nat.lt_or_ge n R.length with q | q
      · rw [List.getElem?_append_left q] at h3
        exact (H.row i t R n r' ht hR h3).mono up
      · have hn : n = R.length := by have := (List.getElem?_eq_some_iff.1 h3).1; simp at this; omega
        subst hn
        rw [List.getElem?_append_right (Nat.le_refl _)] at h3
        simp at h3; subst h3
        exact hr.mono up
    · rw [List.getElem?_set_ne e] at h2
      exact (H.row k t' R' n r' h1 h2 h3).mono up
structure RowA (t : TPar) (c : Nat) (r : Rw) : Prop where
  len : r.length = t.nc
  val : ∀ (d : Nat) y v, d < c → t.cols[d]? = some y → r[d]? = some v → ValOk (y.2.1, y.2.2) v
theorem RowA.next {t : TPar} {c : Nat} {r : Rw} (H : RowA t c r) {y : Col} (hc : t.cols[c]? = some y) {v : V3} (hv : ValOk (y.2.1, y.2.2) v) : RowA t (c + 1) (r.set c v) := by
  refine ⟨by simpa using H.len, fun d z u hd hz hu => ?_⟩
  by_cases e : c = d
  · subst e
    rw [hc] at hz; cases hz
    rw [List.getElem?_set_self (by have := (List.getElem?_eq_some_iff.1 hu).1; simpa using this)] at hu
    cases hu; exact hv
  · rw [List.getElem?_set_ne e] at hu
    exact H.val d z u (by omega) hz hu
structure RowB (I : List Rows) (t : TPar) (n f : Nat) (r : Rw) : Prop where
  len : r.length = t.nc
  id : r[0]? = some (keyV (n + 1))
  free : ∀ (k : Nat) p v, t.free[k]? = some p → r[1 + k]? = some v → ValOk p v
  key : ∀ (k : Nat) j, k < f → t.tos[k]? = some j → ∃ m R, r[1 + t.nf + k]? = some (keyV m) ∧ 1 ≤ m ∧ I[j]? = some R ∧ m ≤ R.length
theorem RowA.id {t : TPar} {r : Rw} (H : RowA t t.nc r) (I : List Rows) (n : Nat) : RowB I t n 0 (r.set 0 (keyV (n + 1))) := by
  have hl := H.len
  have hpos : 0 < t.nc := by show 0 < 1 + t.free.length + t.tos.length; omega
  refine ⟨by simpa using hl, by rw [List.getElem?_set_self (by omega)], fun k p v hp hv => ?_, fun k j hk => by omega⟩
  rw [List.getElem?_set_ne (by omega)] at hv
  have := H.val (1 + k) _ v (by rw [← hl]; exact (List.getElem?_eq_some_iff.1 hv).1) (cols_free hp) hv
  exact this
theorem RowB.next {I : List Rows} {t : TPar} {n f : Nat} {r : Rw} (H : RowB I t n f r) {j m : Nat} {R : Rows} (hj : t.tos[f]? = some j) (h1 : 1 ≤ m) (hR : I[j]? = some R) (hm : m ≤ R.length) : RowB I t n (f + 1) (r.set (1 + t.nf + f) (keyV m)) := by
  have hl := H.len
  have hf := (List.getElem?_eq_some_iff.1 hj).1
  have hlt := rowlen_lt hf
  refine ⟨by simpa using hl, by rw [List.getElem?_set_ne (by omega)]; exact H.id, fun k p v hp hv => ?_, fun k i hk hi => ?_⟩
  · have hk := (List.getElem?_eq_some_iff.1 hp).1
    have hnf : t.nf = t.free.length := rfl
    rw [List.getElem?_set_ne (by omega)] at hv
    exact H.free k p v hp hv
  · by_cases e : k = f
    · subst e
      rw [hj] at hi; cases hi
      exact ⟨m, R, by rw [List.getElem?_set_self (by omega)], h1, hR, hm⟩
    · rw [List.getElem?_set_ne (by omega)]
      exact H.key k i (by omega) hi
theorem RowB.done {I : List Rows} {t : TPar} {n : Nat} {r : Rw} (H : RowB I t n t.tos.length r) : RowOk I t n r :=
  ⟨H.len, H.id, H.free, fun k j hk => H.key k j (List.getElem?_eq_some_iff.1 hk).1 hk⟩
end Go.Proofs.YtcfghfmlfgaeaaaGreatDoor

/- Made schemas: a table under making. -/

namespace Go.Proofs.YtcfghfmlfgaeaaaGreatDoor
open Go.RowKit Go.Q Go.V Go.Bag Go.Shelf

theorem xb_put {w0 w w' : World} {t B : Nat} (h : w0.grownBy w (some t)) (hX : Xb (fun k => B ≤ k) w w') (hB : w0.heap.size ≤ B) : w0.grownBy w' (some t) :=
  ⟨hX.os.trans h.os, hX.tape.trans h.tape, hX.output.trans h.output, Nat.le_trans h.size hX.size, fun k hk hne => by rw [hX.block k (by have := h.size; omega) (by omega), h.block k hk hne]⟩
theorem Tape.eq {w : World} {tb : Addr} {l : Hdr} {L : List Int} {p q : Nat} (h : Tape w tb l L p) (e : p = q) : Tape w tb l L q := e ▸ h
theorem agg1 {a b : List Value} (h : [Value.agg a.toArray] = [Value.agg b.toArray]) : a = b := by
  injection h with h _
  injection h with h
  simpa using h
structure PT (w : World) (B i : Nat) (x : Addr) (cols prim fors chk : Hdr) (cs : List Col) (nf : Nat) (ts : List Nat) : Prop where
  box : Box w x (tbc (nm 116 i, cols, prim, (none, 0, 0), fors, chk, ()))
  new : B ≤ x.block
  co : Own w B 62 3 cols.1 cols.2.1 cols.2.2 (cs.flatMap encC)
  colsne : ∀ k, blk cols.1 = some k → k ≠ x.block
  pr : SB w B 3 prim 1 (ints .i64 [0])
  primne : ∀ ad, prim.1 = some ad → ad.block ≠ x.block
  fo : ∃ Lf : List (Hdr × ByteArray), Own w (x.block + 1) 64 2 fors.1 fors.2.1 fors.2.2 (Lf.flatMap encFo) ∧ Lf.length = ts.length ∧ ∀ (k : Nat) p j, Lf[k]? = some p → ts[k]? = some j → p.2 = nm 116 j ∧ SB w (x.block + 1) 3 p.1 1 (ints .i64 [1 + (nf : Int) + (k : Int)])
section
variable {w : World} {B i : Nat} {x : Addr} {cols prim fors chk : Hdr} {cs : List Col} {nf : Nat} {ts : List Nat}
theorem PT.xg {w' : World} {b : Nat} (H : PT w B i x cols prim fors chk cs nf ts) (hg : w.grownBy w' (some b)) (hb : b < B) : PT w' B i x cols prim fors chk cs nf ts := by
  have hn := H.new
  obtain ⟨Lf, f1, f2, f3⟩ := H.fo
  exact ⟨H.box.xg hg (by omega), hn, Own.xg H.co hg hb, H.colsne, H.pr.xg hg hb, H.primne, ⟨Lf, Own.xg f1 hg (by omega), f2, fun k p j q1 q2 => ⟨(f3 k p j q1 q2).1, (f3 k p j q1 q2).2.xg hg (by omega)⟩⟩⟩
theorem PT.up {w' : World} (H : PT w B i x cols prim fors chk cs nf ts) (hb : bel w w') : PT w' B i x cols prim fors chk cs nf ts := by
  obtain ⟨Lf, f1, f2, f3⟩ := H.fo
  exact ⟨H.box.up hb, H.new, Own.kept H.co hb, H.colsne, H.pr.up hb, H.primne, ⟨Lf, Own.kept f1 hb, f2, fun k p j q1 q2 => ⟨(f3 k p j q1 q2).1, (f3 k p j q1 q2).2.up hb⟩⟩⟩
theorem PT.nf' (H : PT w B i x cols prim fors chk cs nf []) (m : Nat) : PT w B i x cols prim fors chk cs m [] := by
  obtain ⟨Lf, f1, f2, f3⟩ := H.fo
  exact ⟨H.box, H.new, H.co, H.colsne, H.pr, H.primne, ⟨Lf, f1, f2, fun k p j _ q2 => by simp at q2⟩⟩
theorem PT.clen (H : PT w B i x cols prim fors chk cs nf ts) : cols.2.1 = cs.length := by have := H.co.1; rw [flat_len encC_len] at this; omega
theorem PT.flen (H : PT w B i x cols prim fors chk cs nf ts) : fors.2.1 = ts.length := by
  obtain ⟨Lf, f1, f2, f3⟩ := H.fo
  have := f1.1; rw [flat_len encFo_len] at this; omega
theorem PT.col (H : PT w B i x cols prim fors chk cs nf ts) (hl : cs.length ≤ 10) {c : Col} {ad : Addr} (S : Sl w (some ad) 1 1 3 (encC c)) (hB : B ≤ w.heap.size) {K : World → Prop}
    (hK : ∀ cols' w', PT w' B i x cols' prim fors chk (cs ++ [c]) nf ts → Xb (fun k => B ≤ k) w w' → K w') :
    wr Tryz.prog (Builtin.append_ #[37, 37] 37 #[.slice cols.1 cols.2.1 cols.2.2, .slice (some ad) 1 1]) (.one .slice) w fun (y : Hdr) w1 => wu Tryz.prog (Instr.storeAt 37 (.pointer (some (x.add 1))) (.slice y.1 y.2.1 y.2.2)) w1 K := by
  have hc := H.clen
  refine wr_app tyC H.co S hB rfl (by omega) rfl (by omega) (by unfold maxLen; omega) fun a' c' w1 O1 g1 hn1 hz1 => ?_
  have hxl := H.box.lt
  have X1 := H.box.grown g1 (fun q => H.colsne _ q.symm rfl)
  refine wu_boxi X1 (i := 1) (v := .slice a' (cols.2.1 + 1) c') (by kernel_rfl) (by simp) rfl fun w2 X2 g2 s2 => ?_
  have hne : ∀ k, blk a' = some k → k ≠ x.block := fun k hk => by
    rcases hn1 with q | q
    · exact H.colsne k (q ▸ hk)
    · have := q k hk; omega
  obtain ⟨Lf, f1, f2, f3⟩ := H.fo
  refine hK (a', cols.2.1 + 1, c') w2 ⟨X2, H.new, ?_, hne, (H.pr.apart H.co (by decide) g1).off g2 H.primne, H.primne, ⟨Lf, Own.xg (keptO f1 H.co (by decide) g1) g2 (Nat.lt_succ_self _), f2, fun k p j q1 q2 => ⟨(f3 k p j q1 q2).1, ((f3 k p j q1 q2).2.apart H.co (by decide) g1).xg g2 (Nat.lt_succ_self _)⟩⟩⟩ (Xb.trans (Xb.of g1 fun k hk => (H.co.lt k hk).1) (Xb.of g2 fun k hk => by cases hk; exact H.new))
  rw [List.flatMap_append]
  simp only [List.flatMap_cons, List.flatMap_nil, List.append_nil]
  exact O1.keptBy g2 (.inr fun q => hne _ q rfl)
theorem PT.for' (H : PT w B i x cols prim fors chk cs nf ts) (hl : ts.length ≤ 10) {z : Hdr} {to : Nat} {ad : Addr} (S : Sl w (some ad) 1 1 2 (encFo (z, nm 116 to))) (Z : SB w (x.block + 1) 3 z 1 (ints .i64 [1 + (nf : Int) + (ts.length : Int)])) {K : World → Prop}
    (hK : ∀ fors' w', PT w' B i x cols prim fors' chk cs nf (ts ++ [to]) → Xb (fun k => B ≤ k) w w' → K w') :
    wr Tryz.prog (Builtin.append_ #[38, 38] 38 #[.slice fors.1 fors.2.1 fors.2.2, .slice (some ad) 1 1]) (.one .slice) w fun (y : Hdr) w1 => wu Tryz.prog (Instr.storeAt 38 (.pointer (some (x.add 4))) (.slice y.1 y.2.1 y.2.2)) w1 K := by
  have hc := H.flen
  have hxl := H.box.lt
  have hnw := H.new
  obtain ⟨Lf, f1, f2, f3⟩ := H.fo
  refine wr_app tyFo f1 S (by omega) rfl (by omega) rfl (by omega) (by unfold maxLen; omega) fun a' c' w1 O1 g1 hn1 hz1 => ?_
  have X1 := H.box.grown g1 (fun q => by have := (f1.lt _ q.symm).1; omega)
  refine wu_boxi X1 (i := 4) (v := .slice a' (fors.2.1 + 1) c') (by kernel_rfl) (by simp) rfl fun w2 X2 g2 s2 => ?_
  have hf3 : ∀ (k : Nat) p j, Lf[k]? = some p → ts[k]? = some j → p.2 = nm 116 j ∧ SB w2 (x.block + 1) 3 p.1 1 (ints .i64 [1 + (nf : Int) + (k : Int)]) := fun k p j q1 q2 => ⟨(f3 k p j q1 q2).1, ((f3 k p j q1 q2).2.apart f1 (by decide) g1).xg g2 (Nat.lt_succ_self _)⟩
  refine hK (a', fors.2.1 + 1, c') w2 ⟨X2, H.new, (keptO H.co f1 (by decide) g1).keptBy g2 (.inr fun q => H.colsne _ q rfl), H.colsne, (H.pr.apart f1 (by decide) g1).off g2 H.primne, H.primne, ⟨Lf ++ [(z, nm 116 to)], ?_, by simp [f2], fun k p j q1 q2 => ?_⟩⟩ (Xb.trans (Xb.of g1 fun k hk => by have := (f1.lt k hk).1; show B ≤ k; omega) (Xb.of g2 fun k hk => by cases hk; exact H.new))
  · rw [List.flatMap_append]
    simp only [List.flatMap_cons, List.flatMap_nil, List.append_nil]
    exact Own.xg O1 g2 (Nat.lt_succ_self _)
  · rcases Nat.lt_or_ge k Lf.length with q | q
    · rw [List.getElem?_append_left q] at q1
      rw [List.getElem?_append_left (by omega)] at q2
      exact hf3 k p j q1 q2
    · have hk : k = Lf.length := by have := (List.getElem?_eq_some_iff.1 q1).1; simp at this; omega
      subst hk
      rw [List.getElem?_append_right (Nat.le_refl _)] at q1
      rw [List.getElem?_append_right (by omega), f2] at q2
      simp at q1 q2
      subst q1 q2
      rw [f2]
      exact ⟨rfl, (Z.apart f1 (by decide) g1).xg g2 (Nat.lt_succ_self _)⟩
theorem PT.done {fs : List (Int × Bool)} (H : PT w B i x cols prim fors chk (colsOf fs ts) fs.length ts) : TbS w B i (nm 116 i, cols, prim, (none, 0, 0), fors, chk, ()) ⟨fs, ts⟩ := by
  have hn := H.new
  obtain ⟨Lf, f1, f2, f3⟩ := H.fo
  exact ⟨rfl, SB.of H.co (Nat.le_refl _), H.pr, rfl, ⟨Lf, SB.of f1 (by omega), f2, fun k p j q1 q2 => ⟨(f3 k p j q1 q2).1, (f3 k p j q1 q2).2.le (by omega)⟩⟩⟩
end
end Go.Proofs.YtcfghfmlfgaeaaaGreatDoor
