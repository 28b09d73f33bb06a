import Derived.Test.YtajpdnphamomjaaXP
import Derived.Tactics2
import Derived.Recover
import Derived.Laws.Pointers
import Derived.KernelRfl
import Derived.Test.YtajpdnphamomjaaYA
import Derived.Test.YtajpdnphamomjaaPackLinearSolves4

/- The tableau in memory. -/




namespace Go.Proofs.Ytajpdnphamomjaa
open Go.RowKit Go.Q Go.Q.Num Go.V

abbrev encQ (r : Rat) : List Value := [.int .i64 r.num, .int .i64 ((r.den : Nat) : Int)]
theorem encQ_len (r : Rat) : (encQ r).length = 2 := rfl
theorem atQ {w : World} {a : Option Addr} {n c j : Nat} {L : List Rat} {r : Rat} {K : Int × Int × Unit → Prop} (H : Sl w a n c 2 (L.flatMap encQ)) {i : Int} (hj : i = (j : Int)) (hp : L[j]? = some r) (hk : K (qv r)) :
    rdp Try.prog (Instr.indexAt 33 (.slice a n c) (.int .i64 i)) (.one .addr) fun ad => rd Try.prog (Instr.loadAt 23 (.pointer (some ad))) (.agg [.int .i64, .int .i64]) w K :=
  at_agg tyFracs agFrac encQ_len (by omega) H hj hp rfl hk
theorem slQ_len {w : World} {a : Option Addr} {n c : Nat} {L : List Rat} (H : Sl w a n c 2 (L.flatMap encQ)) : L.length = n := by
  have := H.len
  rw [flat_len encQ_len] at this
  omega
theorem cmpQ {r s : Rat} (w : World) (hr : Fits r) (hs : Fits s) : call Try.prog 16 [fracv r.num r.den, fracv s.num s.den] (.one (.one (.int .i64))) w (fun x w' => x = cmpq r s ∧ bel w w') :=
  call_mono (compF' _ _ _ _ w (i64_fits hr) (i64_fits hs)) fun x w' ⟨h, hb⟩ => ⟨by rw [h]; unfold compv; rw [if_pos ⟨frac_fits hr, frac_fits hs⟩]; rfl, hb⟩

/-! ### a family of slices of numbers, all apart -/
abbrev OwnQ (w : World) (B : Nat) (h : Hdr) (L : List Rat) : Prop := Own w B 23 2 h.1 h.2.1 h.2.2 (L.flatMap encQ)
structure FS (w : World) (B : Nat) (hs : List Hdr) (Ls : List (List Rat)) : Prop where
  len : hs.length = Ls.length
  own : ∀ (i : Nat) h L, hs[i]? = some h → Ls[i]? = some L → OwnQ w B h L
  ap : ∀ (i j : Nat) h g k, i ≠ j → hs[i]? = some h → hs[j]? = some g → blk h.1 = some k → blk g.1 = some k → False
theorem FS.get {w : World} {B : Nat} {hs : List Hdr} {Ls : List (List Rat)} (F : FS w B hs Ls) {i : Nat} {L : List Rat} (h : Ls[i]? = some L) : ∃ g, hs[i]? = some g ∧ OwnQ w B g L := by
  have hi := (List.getElem?_eq_some_iff.1 h).1
  have := F.len
  have e : hs[i]? = some hs[i] := by simp
  exact ⟨_, e, F.own i _ _ e h⟩
theorem FS.keep {w w' : World} {B : Nat} {hs : List Hdr} {Ls : List (List Rat)} {o : Option Nat} (F : FS w B hs Ls) (hg : w.grownBy w' o) (ho : ∀ (i : Nat) h k, hs[i]? = some h → blk h.1 = some k → o ≠ some k) : FS w' B hs Ls :=
  ⟨F.len, fun i h L e1 e2 => (F.own i h L e1 e2).keptBy hg (by
    cases hb : blk h.1 with
    | none => exact .inl rfl
    | some k => exact .inr fun e => ho i h k e1 hb e.symm), F.ap⟩
theorem FS.up {w w' : World} {B : Nat} {hs : List Hdr} {Ls : List (List Rat)} (F : FS w B hs Ls) (hb : bel w w') : FS w' B hs Ls := F.keep (grown_of_bel hb none) fun _ _ _ _ _ e => by cases e
theorem FS.old {w w' : World} {B b : Nat} {hs : List Hdr} {Ls : List (List Rat)} (F : FS w B hs Ls) (hg : w.grownBy w' (some b)) (hb : b < B) : FS w' B hs Ls := F.keep hg fun i h k e1 e2 e => by
  injection e with e; subst e
  have hi := (List.getElem?_eq_some_iff.1 e1).1
  have := (F.own i h _ e1 (by rw [List.getElem?_eq_getElem (by rw [← F.len]; exact hi)])).lt _ e2
  omega
theorem FS.sort {w w' : World} {B B' : Nat} {hs : List Hdr} {Ls : List (List Rat)} {e : TypeId} {sz n c : Nat} {a : Option Addr} {xs : List Value} (F : FS w B hs Ls) (O : Own w B' e sz a n c xs) (he : e ≠ 23) (hg : w.grownBy w' (blk a)) : FS w' B hs Ls := F.keep hg fun i h k e1 e2 e3 => by
  have hi := (List.getElem?_eq_some_iff.1 e1).1
  exact Own.apart O (F.own i h _ e1 (by rw [List.getElem?_eq_getElem (by rw [← F.len]; exact hi)])) he k e3 e2
theorem FS.put {w w' : World} {B : Nat} {hs : List Hdr} {Ls : List (List Rat)} {i : Nat} {h : Hdr} {L : List Rat} (F : FS w B hs Ls) (hi : hs[i]? = some h) (O : OwnQ w' B h L) (hg : w.grownBy w' (blk h.1)) : FS w' B hs (Ls.set i L) := by
  have hlt := (List.getElem?_eq_some_iff.1 hi).1
  refine ⟨by rw [List.length_set]; exact F.len, fun j g K e1 e2 => ?_, F.ap⟩
  by_cases hij : i = j
  · subst hij
    rw [List.getElem?_set_self (by rw [← F.len]; exact hlt)] at e2
    rw [hi] at e1
    cases e1; cases e2; exact O
  · rw [List.getElem?_set_ne hij] at e2
    refine (F.own j g K e1 e2).keptBy hg ?_
    cases hb : blk g.1 with
    | none => exact .inl rfl
    | some k => exact .inr fun e => F.ap i j h g k hij hi e1 e.symm hb

/-! ### the tableau -/
structure Tb where
  low : List Rat
  high : List Rat
  val : List Rat
  bas : List Nat
  rows : List (List Rat)
def Tb.lo (T : Tb) (j : Nat) : Rat := T.low.getD j 0
def Tb.hi (T : Tb) (j : Nat) : Rat := T.high.getD j 0
def Tb.v (T : Tb) (j : Nat) : Rat := T.val.getD j 0
def Tb.b (T : Tb) (i : Nat) : Nat := T.bas.getD i 0
def Tb.a (T : Tb) (i j : Nat) : Rat := (T.rows.getD i []).getD j 0
structure TbOk (N M : Nat) (T : Tb) : Prop where
  ll : T.low.length = N
  lh : T.high.length = N
  lv : T.val.length = N
  lb : T.bas.length = M
  lr : T.rows.length = M
  row : ∀ r ∈ T.rows, r.length = N
  blt : ∀ b ∈ T.bas, b < N
  fl : ∀ x ∈ T.low, Fits x
  fh : ∀ x ∈ T.high, Fits x
  fv : ∀ x ∈ T.val, Fits x
  fr : ∀ r ∈ T.rows, ∀ x ∈ r, Fits x
  sN : N ≤ 1000
  sM : M ≤ 1000
structure TH where
  l : Hdr
  h : Hdr
  v : Hdr
  b : Hdr
  r : Hdr
  s : List Hdr
abbrev tcells (H : TH) (p : Int) : List Value := [.slice H.l.1 H.l.2.1 H.l.2.2, .slice H.h.1 H.h.2.1 H.h.2.2, .slice H.v.1 H.v.2.1 H.v.2.2, .slice H.b.1 H.b.2.1 H.b.2.2, .slice H.r.1 H.r.2.1 H.r.2.2, .int .i64 p]
abbrev natv (l : List Nat) : List Value := ints .i64 (l.map fun (b : Nat) => (b : Int))
structure TabAt (w : World) (t : Addr) (H : TH) (p : Int) (T : Tb) : Prop where
  box : Box w t (tcells H p)
  fs : FS w (t.block + 1) (H.l :: H.h :: H.v :: H.s) (T.low :: T.high :: T.val :: T.rows)
  bs : Own w (t.block + 1) 3 1 H.b.1 H.b.2.1 H.b.2.2 (natv T.bas)
  rs : Own w (t.block + 1) 33 1 H.r.1 H.r.2.1 H.r.2.2 (H.s.map hv)
theorem TabAt.up {w w' : World} {t : Addr} {H : TH} {p : Int} {T : Tb} (A : TabAt w t H p T) (hb : bel w w') : TabAt w' t H p T := ⟨A.box.up hb, A.fs.up hb, A.bs.kept hb, A.rs.kept hb⟩

section
variable {w : World} {t : Addr} {H : TH} {p : Int} {T : Tb} {N M : Nat}
theorem TbOk.val_get (ok : TbOk N M T) {j : Nat} (hj : j < N) : T.val[j]? = some (T.v j) := by
  unfold Tb.v; rw [List.getD_eq_getElem?_getD, List.getElem?_eq_getElem (by rw [ok.lv]; exact hj)]; rfl
theorem TbOk.low_get (ok : TbOk N M T) {j : Nat} (hj : j < N) : T.low[j]? = some (T.lo j) := by
  unfold Tb.lo; rw [List.getD_eq_getElem?_getD, List.getElem?_eq_getElem (by rw [ok.ll]; exact hj)]; rfl
theorem TbOk.high_get (ok : TbOk N M T) {j : Nat} (hj : j < N) : T.high[j]? = some (T.hi j) := by
  unfold Tb.hi; rw [List.getD_eq_getElem?_getD, List.getElem?_eq_getElem (by rw [ok.lh]; exact hj)]; rfl
theorem TbOk.bas_get (ok : TbOk N M T) {i : Nat} (hi : i < M) : T.bas[i]? = some (T.b i) := by
  unfold Tb.b; rw [List.getD_eq_getElem?_getD, List.getElem?_eq_getElem (by rw [ok.lb]; exact hi)]; rfl
theorem TbOk.row_get (ok : TbOk N M T) {i : Nat} (hi : i < M) : T.rows[i]? = some (T.rows.getD i []) := by
  rw [List.getD_eq_getElem?_getD, List.getElem?_eq_getElem (by rw [ok.lr]; exact hi)]; rfl
theorem TbOk.row_len (ok : TbOk N M T) {i : Nat} (hi : i < M) : (T.rows.getD i []).length = N := ok.row _ (mem_at (ok.row_get hi))
theorem TbOk.el_get (ok : TbOk N M T) {i j : Nat} (hi : i < M) (hj : j < N) : (T.rows.getD i [])[j]? = some (T.a i j) := by
  unfold Tb.a
  rw [List.getD_eq_getElem?_getD (l := T.rows.getD i []), List.getElem?_eq_getElem (by rw [ok.row_len hi]; exact hj)]; rfl
theorem TbOk.b_lt (ok : TbOk N M T) {i : Nat} (hi : i < M) : T.b i < N := ok.blt _ (mem_at (ok.bas_get hi))
theorem TbOk.v_fit (ok : TbOk N M T) {j : Nat} (hj : j < N) : Fits (T.v j) := ok.fv _ (mem_at (ok.val_get hj))
theorem TbOk.lo_fit (ok : TbOk N M T) {j : Nat} (hj : j < N) : Fits (T.lo j) := ok.fl _ (mem_at (ok.low_get hj))
theorem TbOk.hi_fit (ok : TbOk N M T) {j : Nat} (hj : j < N) : Fits (T.hi j) := ok.fh _ (mem_at (ok.high_get hj))
theorem TbOk.a_fit (ok : TbOk N M T) {i j : Nat} (hi : i < M) (hj : j < N) : Fits (T.a i j) := ok.fr _ (mem_at (ok.row_get hi)) _ (mem_at (ok.el_get hi hj))
theorem TabAt.hs_get (A : TabAt w t H p T) (ok : TbOk N M T) {i : Nat} (hi : i < M) : ∃ g, H.s[i]? = some g ∧ OwnQ w (t.block + 1) g (T.rows.getD i []) := by
  obtain ⟨g, h1, h2⟩ := A.fs.get (i := i + 3) (L := T.rows.getD i []) (ok.row_get hi)
  exact ⟨g, h1, h2⟩
theorem TabAt.rl (A : TabAt w t H p T) (ok : TbOk N M T) : H.r.2.1 = M := by
  have h1 := A.rs.sl.len
  have h2 := A.fs.len
  simp only [List.length_map, List.length_cons] at h1 h2
  have := ok.lr
  omega
theorem TabAt.bl (A : TabAt w t H p T) (ok : TbOk N M T) : H.b.2.1 = M := by
  have h1 := A.bs.sl.int
  simp only [List.length_map] at h1
  have := ok.lb
  omega
theorem TabAt.hvl (A : TabAt w t H p T) : OwnQ w (t.block + 1) H.v T.val := A.fs.own 2 _ _ rfl rfl
theorem TabAt.val_at (A : TabAt w t H p T) (ok : TbOk N M T) {j : Nat} {i : Int} (hi : i = (j : Int)) (hj : j < N) {K : Int × Int × Unit → Prop} (hk : K (qv (T.v j))) :
    nn (some t) fun a => rd Try.prog (Instr.loadAt 33 (.pointer (some (a.add 2)))) (.one .slice) w fun x => rdp Try.prog (Instr.indexAt 33 (.slice x.1 x.2.1 x.2.2) (.int .i64 i)) (.one .addr) fun ad => rd Try.prog (Instr.loadAt 23 (.pointer (some ad))) (.agg [.int .i64, .int .i64]) w K :=
  nn_mk rfl (rd_box (by kernel_rfl) A.box rfl rfl (atQ A.hvl.sl hi (ok.val_get hj) hk))
theorem TabAt.low_at (A : TabAt w t H p T) (ok : TbOk N M T) {j : Nat} {i : Int} (hi : i = (j : Int)) (hj : j < N) {K : Int × Int × Unit → Prop} (hk : K (qv (T.lo j))) :
    nn (some t) fun a => rd Try.prog (Instr.loadAt 33 (.pointer (some a))) (.one .slice) w fun x => rdp Try.prog (Instr.indexAt 33 (.slice x.1 x.2.1 x.2.2) (.int .i64 i)) (.one .addr) fun ad => rd Try.prog (Instr.loadAt 23 (.pointer (some ad))) (.agg [.int .i64, .int .i64]) w K :=
  nn_mk rfl (rd_box0 (by kernel_rfl) A.box rfl rfl (atQ (A.fs.own 0 _ _ rfl rfl).sl hi (ok.low_get hj) hk))
theorem TabAt.high_at (A : TabAt w t H p T) (ok : TbOk N M T) {j : Nat} {i : Int} (hi : i = (j : Int)) (hj : j < N) {K : Int × Int × Unit → Prop} (hk : K (qv (T.hi j))) :
    nn (some t) fun a => rd Try.prog (Instr.loadAt 33 (.pointer (some (a.add 1)))) (.one .slice) w fun x => rdp Try.prog (Instr.indexAt 33 (.slice x.1 x.2.1 x.2.2) (.int .i64 i)) (.one .addr) fun ad => rd Try.prog (Instr.loadAt 23 (.pointer (some ad))) (.agg [.int .i64, .int .i64]) w K :=
  nn_mk rfl (rd_box (by kernel_rfl) A.box rfl rfl (atQ (A.fs.own 1 _ _ rfl rfl).sl hi (ok.high_get hj) hk))
theorem TabAt.bas_at (A : TabAt w t H p T) (ok : TbOk N M T) {j : Nat} {i : Int} (hi : i = (j : Int)) (hj : j < M) {K : Int → Prop} (hk : K (T.b j : Nat)) :
    nn (some t) fun a => rd Try.prog (Instr.loadAt 47 (.pointer (some (a.add 3)))) (.one .slice) w fun x => rdp Try.prog (Instr.indexAt 47 (.slice x.1 x.2.1 x.2.2) (.int .i64 i)) (.one .addr) fun ad => rd Try.prog (Instr.loadAt 3 (.pointer (some ad))) (.one (.int .i64)) w K :=
  nn_mk rfl (rd_box (by kernel_rfl) A.box rfl rfl (at_int tyInts (by kernel_rfl) A.bs.sl hi (by rw [A.bl ok]; exact hj) fun x hx => by
    rw [List.getElem?_map, ok.bas_get hj] at hx; cases hx; exact hk))
theorem TabAt.row_at (A : TabAt w t H p T) (ok : TbOk N M T) {j : Nat} {i : Int} (hi : i = (j : Int)) (hj : j < M) {K : Hdr → Prop} (hk : ∀ g, H.s[j]? = some g → OwnQ w (t.block + 1) g (T.rows.getD j []) → K g) :
    nn (some t) fun a => rd Try.prog (Instr.loadAt 53 (.pointer (some (a.add 4)))) (.one .slice) w fun x => rdp Try.prog (Instr.indexAt 53 (.slice x.1 x.2.1 x.2.2) (.int .i64 i)) (.one .addr) fun ad => rd Try.prog (Instr.loadAt 33 (.pointer (some ad))) (.one .slice) w K := by
  obtain ⟨g, h1, h2⟩ := A.hs_get ok hj
  exact nn_mk rfl (rd_box (by kernel_rfl) A.box rfl rfl (at_hdr tyFracTab (by kernel_rfl) A.rs.sl hi (by rw [A.rl ok]; exact hj) fun x hx => hk x hx (by rw [h1] at hx; cases hx; exact h2)))
theorem TabAt.el_at (A : TabAt w t H p T) (ok : TbOk N M T) {r j : Nat} {i i' : Int} (hi : i = (r : Int)) (hr : r < M) (hi' : i' = (j : Int)) (hj : j < N) {K : Int × Int × Unit → Prop} (hk : K (qv (T.a r j))) :
    nn (some t) fun a => rd Try.prog (Instr.loadAt 53 (.pointer (some (a.add 4)))) (.one .slice) w fun x => rdp Try.prog (Instr.indexAt 53 (.slice x.1 x.2.1 x.2.2) (.int .i64 i)) (.one .addr) fun ad => rd Try.prog (Instr.loadAt 33 (.pointer (some ad))) (.one .slice) w fun x =>
      rdp Try.prog (Instr.indexAt 33 (.slice x.1 x.2.1 x.2.2) (.int .i64 i')) (.one .addr) fun ad => rd Try.prog (Instr.loadAt 23 (.pointer (some ad))) (.agg [.int .i64, .int .i64]) w K :=
  A.row_at ok hi hr fun _ _ O => atQ O.sl hi' (ok.el_get hr hj) hk
end
end Go.Proofs.Ytajpdnphamomjaa

/- Which row is wrong, and which variable helps. -/

namespace Go.Proofs.Ytajpdnphamomjaa
open Go.RowKit Go.Q Go.Q.Num Go.V

def Tb.wr (T : Tb) : Nat → Option (Nat × Bool)
  | 0 => none
  | i + 1 => if T.v (T.b i) < T.lo (T.b i) ∨ T.hi (T.b i) < T.v (T.b i) then
      (match T.wr i with
      | none => some (i, decide (T.v (T.b i) < T.lo (T.b i)))
      | some p => if T.b i < T.b p.1 then some (i, decide (T.v (T.b i) < T.lo (T.b i))) else some p)
    else T.wr i
def wri : Option (Nat × Bool) → Int
  | none => -1
  | some p => (p.1 : Int)
def wrb : Option (Nat × Bool) → Bool
  | none => false
  | some p => p.2
theorem wr_succ (T : Tb) (i : Nat) : T.wr (i + 1) = if T.v (T.b i) < T.lo (T.b i) ∨ T.hi (T.b i) < T.v (T.b i) then
      (match T.wr i with
      | none => some (i, decide (T.v (T.b i) < T.lo (T.b i)))
      | some p => if T.b i < T.b p.1 then some (i, decide (T.v (T.b i) < T.lo (T.b i))) else some p)
    else T.wr i := rfl
theorem wr_lt {T : Tb} : ∀ {i : Nat} {p : Nat × Bool}, T.wr i = some p → p.1 < i
  | 0, p, h => by cases h
  | i + 1, p, h => by
    unfold Tb.wr at h
    split at h
    · split at h
      · cases h; exact Nat.lt_succ_self _
      · rename_i q hq
        split at h
        · cases h; exact Nat.lt_succ_self _
        · cases h; have := wr_lt hq; omega
    · have := wr_lt h; omega

theorem wrongF {w : World} {t : Addr} {H : TH} {p : Int} {T : Tb} {N M : Nat} (A : TabAt w t H p T) (ok : TbOk N M T) :
    call Try.prog 118 [.pointer (some t)] (.many [.one (.int .i64), .one .bool]) w (fun x w' => x = (wri (T.wr M), wrb (T.wr M), ()) ∧ bel w w') := by
  refine call_of (S118_calls (some t) w _ ?_)
  unfold S118
  refine nn_mk rfl ?_
  refine rd_box (by kernel_rfl) A.box rfl rfl ?_
  have hbl := A.bl ok
  have hM := ok.sM
  have hN := ok.sN
  refine loop_gh (G := Nat) (fun i x w' => i ≤ M ∧ x = (wri (T.wr i), wrb (T.wr i), (i : Int), ()) ∧ bel w w') (fun i => M - i) 0 ⟨Nat.zero_le _, rfl, bel.refl _⟩ ?_
  rintro i x w1 ⟨hi, rfl, hb⟩ again hag _
  have A1 := A.up hb
  refine br_dec (fun hlt => ?_) (fun hge => ?_)
  case refine_2 =>
    have : i = M := by dsimp only at hge; rw [hbl] at hge; omega
    subst this
    exact ⟨(wri (T.wr i), wrb (T.wr i), ()), rfl, rfl, hb⟩
  have hiM : i < M := by dsimp only at hlt; rw [hbl] at hlt; omega
  have hbi := ok.b_lt hiM
  refine join_mk (fun (x : Int × Bool × Unit) w' => x = (wri (T.wr (i + 1)), wrb (T.wr (i + 1)), ()) ∧ bel w w') (fun K6 hK => ?_) (fun x w2 q => ?_)
  case refine_2 =>
    obtain ⟨rfl, hb2⟩ := q
    intro _
    refine z_eq (by exact IntWalk.i64_in _ ⟨by dsimp only; omega, by dsimp only; omega⟩) ?_
    exact hag (i + 1) _ _ ⟨hiM, by rw [Int.natCast_add]; rfl, hb2⟩ (by omega)
  refine at_int tyInts (by kernel_rfl) A1.bs.sl rfl (by rw [hbl]; exact hiM) fun x hx => ?_
  have hx : x = (T.b i : Nat) := by rw [List.getElem?_map, ok.bas_get hiM] at hx; cases hx; rfl
  subst hx
  refine drw_mk fun w2 hb2 _ => ?_
  have A2 := A1.up hb2
  refine flEx_mk (fun _ _ v _ => v = .int .i64 (cmpq (T.v (T.b i)) (T.lo (T.b i)))) (fun _ _ _ _ _ h _ => h) ?_
  refine A2.val_at ok rfl hbi ?_
  refine A2.low_at ok rfl hbi ?_
  refine flc_mk (fun w3 hb3 _ => ?_) fun (x26 : Int) => ?_
  · exact (call_mono (cmpQ w3 (ok.v_fit hbi) (ok.lo_fit hbi)) fun (x : Int) w4 ⟨h1, h2⟩ => ⟨h2, by rw [h1]⟩)
  refine A2.val_at ok rfl hbi ?_
  refine A2.high_at ok rfl hbi ?_
  refine flend_mk fun w3 hb3 q => ?_
  have h26 : x26 = cmpq (T.v (T.b i)) (T.lo (T.b i)) := by
    have := q.1
    simpa using this
  refine call_mono (cmpQ w3 (ok.v_fit hbi) (ok.hi_fit hbi)) fun (x37 : Int) w4 ⟨h37, h4⟩ => ?_
  have hb4 : bel w w4 := ((hb.trans hb2).trans hb3).trans h4
  have A4 := A2.up (hb3.trans h4)
  have e26 : (x26 < 0) ↔ T.v (T.b i) < T.lo (T.b i) := by rw [h26]; exact cmpq_lt0
  have e37 : (x37 > 0) ↔ T.hi (T.b i) < T.v (T.b i) := by rw [h37]; exact cmpq_gt0
  have hdec : decide (x26 < 0) = decide (T.v (T.b i) < T.lo (T.b i)) := by
    by_cases h : x26 < 0
    · rw [decide_eq_true h, decide_eq_true (e26.1 h)]
    · rw [decide_eq_false h, decide_eq_false (fun q => h (e26.2 q))]
  -- what is done with a wrong row
  have wrong : (T.v (T.b i) < T.lo (T.b i) ∨ T.hi (T.b i) < T.v (T.b i)) →
      br (decide (wri (T.wr i) < 0)) (K6 ((i : Int), decide (x26 < 0), ()) w4)
        (nn (some t) fun a => rd Try.prog (Instr.loadAt 47 (.pointer (some (a.add 3)))) (.one .slice) w4 fun x => rdp Try.prog (Instr.indexAt 47 (.slice x.1 x.2.1 x.2.2) (.int .i64 (wri (T.wr i)))) (.one .addr) fun ad => rd Try.prog (Instr.loadAt 3 (.pointer (some ad))) (.one (.int .i64)) w4 fun (y : Int) =>
          br (decide (((T.b i : Nat) : Int) < y)) (K6 ((i : Int), decide (x26 < 0), ()) w4) (K6 (wri (T.wr i), wrb (T.wr i), ()) w4)) := by
    intro hw
    cases hp : T.wr i with
    | none =>
      refine br_t rfl ?_
      refine hK _ _ ⟨?_, hb4⟩
      rw [wr_succ, if_pos hw, hp, hdec]; rfl
    | some pr =>
      have hpl := wr_lt hp
      have hnn : ¬ (wri (some pr) < 0) := by show ¬ ((pr.1 : Int) < 0); omega
      refine br_f (decide_eq_false hnn) ?_
      refine A4.bas_at ok (i := wri (some pr)) rfl (by omega) ?_
      refine br_dec (fun hl => ?_) (fun hl => ?_)
      · refine hK _ _ ⟨?_, hb4⟩
        have hl' : T.b i < T.b pr.1 := by omega
        rw [wr_succ, if_pos hw, hp]; dsimp only; rw [if_pos hl', hdec]; rfl
      · refine hK _ _ ⟨?_, hb4⟩
        have hl' : ¬ T.b i < T.b pr.1 := by omega
        rw [wr_succ, if_pos hw, hp]; dsimp only; rw [if_neg hl']
  refine br_dec (fun h => wrong (.inl (e26.1 h))) (fun h => ?_)
  refine br_dec (fun h' => wrong (.inr (e37.1 h'))) (fun h' => ?_)
  refine hK _ _ ⟨?_, hb4⟩
  rw [wr_succ, if_neg]
  rintro (q | q)
  · exact h (e26.2 q)
  · exact h' (e37.2 q)

def Tb.can (T : Tb) (row : Nat) (up : Bool) (k : Nat) : Prop := T.a row k ≠ 0 ∧ k ≠ T.b row ∧ (if decide (0 < T.a row k) = up then T.v k < T.hi k else T.lo k < T.v k)
theorem num_pos' {r : Rat} : r.num > 0 ↔ 0 < r := by
  have h1 := num_neg (r := r)
  have h2 := Rat.num_eq_zero (q := r)
  constructor
  · intro h
    have h3 : ¬ r < 0 := fun q => by have := h1.2 q; omega
    have h4 : r ≠ 0 := fun q => by have := h2.2 q; omega
    grind
  · intro h
    have h3 : ¬ r.num < 0 := fun q => by have := h1.1 q; grind
    have h4 : r.num ≠ 0 := fun q => by have := h2.1 q; grind
    omega
theorem helperF {w : World} {t : Addr} {H : TH} {p : Int} {T : Tb} {N M : Nat} (A : TabAt w t H p T) (ok : TbOk N M T) {row : Nat} (hr : row < M) (up : Bool) :
    call Try.prog 120 [.pointer (some t), .int .i64 (row : Int), .bool up] (.one (.one (.int .i64))) w (fun (x : Int) w' => ((x = -1 ∧ ∀ k, k < N → ¬ T.can row up k) ∨ ∃ k : Nat, k < N ∧ x = (k : Int) ∧ T.can row up k ∧ ∀ k', k' < k → ¬ T.can row up k') ∧ bel w w') := by
  refine call_of (S120_calls (some t) (row : Int) up w _ ?_)
  unfold S120
  have hM := ok.sM
  have hN := ok.sN
  refine A.row_at ok rfl hr fun g hg O => ?_
  have hgl : g.2.1 = N := by have := slQ_len O.sl; rw [ok.row_len hr] at this; exact this.symm
  refine loop_up N (fun k w' => (∀ k', k' < k → ¬ T.can row up k') ∧ bel w w') ⟨fun k' h => by omega, bel.refl _⟩ ?_
  rintro k w1 hk ⟨hno, hb⟩ again hag _
  have A1 := A.up hb
  refine br_dec (fun hlt => ?_) (fun hge => ?_)
  case refine_2 =>
    have : k = N := by dsimp only at hge; rw [hgl] at hge; omega
    subst this
    exact ⟨(-1 : Int), rfl, .inl ⟨rfl, hno⟩, hb⟩
  have hkN : k < N := by dsimp only at hlt; rw [hgl] at hlt; omega
  refine join_mk (fun (_ : Unit) w' => ¬ T.can row up k ∧ bel w w') (fun K8 hK => ?_) (fun x w2 q => ?_)
  case refine_2 =>
    obtain ⟨hc, hb2⟩ := q
    intro _
    refine z_eq (by exact IntWalk.i64_in _ ⟨by dsimp only; omega, by dsimp only; omega⟩) ?_
    refine hag _ hkN ⟨fun k' h => ?_, hb2⟩
    rcases Nat.lt_or_ge k' k with h' | h'
    · exact hno k' h'
    · have : k' = k := by omega
      subst this; exact hc
  have O1 : OwnQ w1 (t.block + 1) g (T.rows.getD row []) := O.kept hb
  refine atQ O1.sl rfl (ok.el_get hr hkN) ?_
  refine boxF fun x14 w2 hb2 X14 h14 => ?_
  refine rd_box0 (by kernel_rfl) X14 rfl rfl ?_
  have A2 := A1.up hb2
  have hb2' := hb.trans hb2
  refine br_eq (fun h0 => ?_) (fun h0 => ?_)
  · exact hK _ _ ⟨fun q => q.1 (Rat.num_eq_zero.1 h0), hb2'⟩
  have ha0 : T.a row k ≠ 0 := fun q => h0 (Rat.num_eq_zero.2 q)
  refine A2.bas_at ok rfl hr ?_
  refine br_eq (fun h1 => ?_) (fun h1 => ?_)
  · exact hK _ _ ⟨fun q => q.2.1 (by dsimp only at h1; omega), hb2'⟩
  have hkb : k ≠ T.b row := fun q => h1 (by rw [q])
  refine rd_box0 (by kernel_rfl) X14 rfl rfl ?_
  have hdec : decide ((T.a row k).num > 0) = decide (0 < T.a row k) := by
    by_cases h : (T.a row k).num > 0
    · rw [decide_eq_true h, decide_eq_true (num_pos'.1 h)]
    · rw [decide_eq_false h, decide_eq_false (fun q => h (num_pos'.2 q))]
  refine br_mk (fun hd => ?_) (fun hd => ?_)
  · have hd' : decide (0 < T.a row k) = up := by replace hd : (decide ((T.a row k).num > 0) == up) = _ := hd; rw [hdec] at hd; simpa using hd
    refine drw_mk fun w3 hb3 _ => ?_
    have A3 := A2.up hb3
    refine A3.val_at ok rfl hkN ?_
    refine A3.high_at ok rfl hkN ?_
    refine call_mono (cmpQ w3 (ok.v_fit hkN) (ok.hi_fit hkN)) fun (x : Int) w4 ⟨hx, h4⟩ => ?_
    have e : x < 0 ↔ T.v k < T.hi k := by rw [hx]; exact cmpq_lt0
    refine br_dec (fun h => ?_) (fun h => ?_)
    · exact ⟨(k : Int), rfl, .inr ⟨k, hkN, rfl, ⟨ha0, hkb, by rw [if_pos hd']; exact e.1 h⟩, hno⟩, (hb2'.trans hb3).trans h4⟩
    · exact hK _ _ ⟨fun q => h (e.2 (by have := q.2.2; rw [if_pos hd'] at this; exact this)), (hb2'.trans hb3).trans h4⟩
  · have hd' : ¬ decide (0 < T.a row k) = up := by replace hd : (decide ((T.a row k).num > 0) == up) = _ := hd; rw [hdec] at hd; simpa using hd
    refine drw_mk fun w3 hb3 _ => ?_
    have A3 := A2.up hb3
    refine A3.val_at ok rfl hkN ?_
    refine A3.low_at ok rfl hkN ?_
    refine call_mono (cmpQ w3 (ok.v_fit hkN) (ok.lo_fit hkN)) fun (x : Int) w4 ⟨hx, h4⟩ => ?_
    have e : x > 0 ↔ T.lo k < T.v k := by rw [hx]; exact cmpq_gt0
    refine br_dec (fun h => ?_) (fun h => ?_)
    · exact ⟨(k : Int), rfl, .inr ⟨k, hkN, rfl, ⟨ha0, hkb, by rw [if_neg hd']; exact e.1 h⟩, hno⟩, (hb2'.trans hb3).trans h4⟩
    · exact hK _ _ ⟨fun q => h (e.2 (by have := q.2.2; rw [if_neg hd'] at this; exact this)), (hb2'.trans hb3).trans h4⟩
end Go.Proofs.Ytajpdnphamomjaa

/- Writing into a tableau; the values of a move. -/


namespace Go.Proofs.Ytajpdnphamomjaa
open Go.RowKit Go.Q Go.Q.Num Go.V

def HB (H : TH) (S : Nat) : Prop := ∀ h, (h = H.v ∨ h = H.b ∨ h ∈ H.s) → ∀ k, blk h.1 = some k → k < S
abbrev Xa (B : Nat) : Rel := Xb fun k => B ≤ k
theorem bel_xa {w w' : World} (h : bel w w') (B : Nat) : Xa B w w' := Xb.of (grown_of_bel h none) fun k e => by cases e
def PnX (A : Prop) (B : Nat) (w : World) : List PanicEntry → World → Prop := fun ch w' => A ∧ ch = [{ v := failV, recovered := false }] ∧ Xa B w w'
theorem PnX.of {A A' : Prop} {B : Nat} {w w1 w2 : World} (hA : A' → A) (hx : Xa B w w1) (hb : bel w1 w2) (ch : List PanicEntry) (w' : World) (h : PnF A' w2 ch w') : PnX A B w ch w' :=
  ⟨hA h.1, h.2.1, hx.trans (bel_xa (hb.trans h.2.2) B)⟩
theorem TabAt.hb {w : World} {t : Addr} {H : TH} {p : Int} {T : Tb} (A : TabAt w t H p T) : HB H w.heap.size := by
  rintro h (rfl | rfl | hm) k hk
  · exact (A.hvl.lt k hk).2
  · exact (A.bs.lt k hk).2
  · obtain ⟨i, hi, he⟩ := List.mem_iff_getElem.1 hm
    have hl := A.fs.len
    simp only [List.length_cons] at hl
    have e1 : (H.l :: H.h :: H.v :: H.s)[i + 3]? = some h := by
      show H.s[i]? = some h
      rw [List.getElem?_eq_getElem hi, he]
    have e2 : (T.low :: T.high :: T.val :: T.rows)[i + 3]? = some (T.rows.getD i []) := by
      show T.rows[i]? = _
      rw [List.getD_eq_getElem?_getD, List.getElem?_eq_getElem (by omega)]; rfl
    exact ((A.fs.own (i + 3) h _ e1 e2).lt k hk).2

section
variable {w : World} {t : Addr} {H : TH} {p : Int} {T : Tb} {N M S : Nat}
theorem xa_blk {w' : World} {a : Option Addr} {B : Nat} (hg : w.grownBy w' (blk a)) (h : ∀ k, blk a = some k → B ≤ k) : Xa B w w' := Xb.of hg h
theorem TabAt.setV (A : TabAt w t H p T) (ok : TbOk N M T) (hS : HB H S) {j : Nat} {i : Int} (hi : i = (j : Int)) (hj : j < N) (r : Rat) {K : World → Prop}
    (hk : ∀ w', TabAt w' t H p { T with val := T.val.set j r } → Xa (t.block + 1) w w' → (∀ a cs, S ≤ a.block → Box w a cs → Box w' a cs) → K w') :
    rdp Try.prog (Instr.indexAt 33 (.slice H.v.1 H.v.2.1 H.v.2.2) (.int .i64 i)) (.one .addr) fun ad => wu Try.prog (Instr.storeAt 23 (.pointer (some ad)) (.agg #[.int .i64 (qv r).1, .int .i64 (qv r).2.1])) w K := by
  refine set_agg tyFracs encQ_len A.hvl hi (by rw [ok.lv]; exact hj) (p := r) rfl (by omega) rfl fun w' O hg _ => ?_
  refine hk w' ⟨?_, A.fs.put (i := 2) rfl O hg, ?_, ?_⟩ (xa_blk hg fun k hk => (A.hvl.lt k hk).1) (fun a cs ha X => X.grown hg fun e => ?_)
  · exact A.box.grown hg fun e => by have := (A.hvl.lt _ e.symm).1; omega
  · exact A.bs.keptBy hg (by
      cases hb : blk H.b.1 with
      | none => exact .inl rfl
      | some k => exact .inr fun e => Own.apart A.bs A.hvl (by decide) k hb e.symm)
  · exact A.rs.keptBy hg (by
      cases hb : blk H.r.1 with
      | none => exact .inl rfl
      | some k => exact .inr fun e => Own.apart A.rs A.hvl (by decide) k hb e.symm)
  · have := hS H.v (.inl rfl) _ e.symm; omega
theorem TabAt.setR (A : TabAt w t H p T) (ok : TbOk N M T) (hS : HB H S) {q j : Nat} {g : Hdr} {i : Int} (hg0 : H.s[q]? = some g) (hq : q < M) (hi : i = (j : Int)) (hj : j < N) (r : Rat) {K : World → Prop}
    (hk : ∀ w', TabAt w' t H p { T with rows := T.rows.set q ((T.rows.getD q []).set j r) } → Xa (t.block + 1) w w' → (∀ a cs, S ≤ a.block → Box w a cs → Box w' a cs) → K w') :
    rdp Try.prog (Instr.indexAt 33 (.slice g.1 g.2.1 g.2.2) (.int .i64 i)) (.one .addr) fun ad => wu Try.prog (Instr.storeAt 23 (.pointer (some ad)) (.agg #[.int .i64 (qv r).1, .int .i64 (qv r).2.1])) w K := by
  have O0 : OwnQ w (t.block + 1) g (T.rows.getD q []) := A.fs.own (q + 3) g _ hg0 (ok.row_get hq)
  refine set_agg tyFracs encQ_len O0 hi (by rw [ok.row_len hq]; exact hj) (p := r) rfl (by omega) rfl fun w' O hg _ => ?_
  refine hk w' ⟨?_, A.fs.put (i := q + 3) hg0 O hg, ?_, ?_⟩ (xa_blk hg fun k hk => (O0.lt k hk).1) (fun a cs ha X => X.grown hg fun e => ?_)
  · exact A.box.grown hg fun e => by have := (O0.lt _ e.symm).1; omega
  · exact A.bs.keptBy hg (by
      cases hb : blk H.b.1 with
      | none => exact .inl rfl
      | some k => exact .inr fun e => Own.apart A.bs O0 (by decide) k hb e.symm)
  · exact A.rs.keptBy hg (by
      cases hb : blk H.r.1 with
      | none => exact .inl rfl
      | some k => exact .inr fun e => Own.apart A.rs O0 (by decide) k hb e.symm)
  · have := hS g (.inr (.inr (mem_at hg0))) _ e.symm; omega
theorem nat_set (l : List Nat) (j k : Nat) : (natv l).set j (.int .i64 (k : Int)) = natv (l.set j k) := by
  unfold natv ints
  rw [List.map_map, List.map_map, List.map_set]; rfl
theorem TabAt.setB (A : TabAt w t H p T) (ok : TbOk N M T) (hS : HB H S) {j k : Nat} {i : Int} (hi : i = (j : Int)) (hj : j < M) {K : World → Prop}
    (hk : ∀ w', TabAt w' t H p { T with bas := T.bas.set j k } → Xa (t.block + 1) w w' → (∀ a cs, S ≤ a.block → Box w a cs → Box w' a cs) → K w') :
    rdp Try.prog (Instr.indexAt 47 (.slice H.b.1 H.b.2.1 H.b.2.2) (.int .i64 i)) (.one .addr) fun ad => wu Try.prog (Instr.storeAt 3 (.pointer (some ad)) (.int .i64 (k : Int))) w K := by
  refine set_mk tyInts A.bs hi (by rw [A.bl ok]; exact hj) rfl fun w' O hg _ => ?_
  rw [nat_set] at O
  refine hk w' ⟨?_, A.fs.sort A.bs (by decide) hg, O, ?_⟩ (xa_blk hg fun k hk => (A.bs.lt k hk).1) (fun a cs ha X => X.grown hg fun e => ?_)
  · exact A.box.grown hg fun e => by have := (A.bs.lt _ e.symm).1; omega
  · exact A.rs.keptBy hg (by
      cases hb : blk H.r.1 with
      | none => exact .inl rfl
      | some k => exact .inr fun e => Own.apart A.rs A.bs (by decide) k hb e.symm)
  · have := hS H.b (.inr (.inl rfl)) _ e.symm; omega

theorem mem_set {α : Type} {l : List α} {j : Nat} {r x : α} (h : x ∈ l.set j r) : x = r ∨ x ∈ l := by
  rcases List.mem_or_eq_of_mem_set h with h | h
  · exact .inr h
  · exact .inl h
theorem TbOk.setV (ok : TbOk N M T) {j : Nat} {r : Rat} (hr : Fits r) : TbOk N M { T with val := T.val.set j r } :=
  ⟨ok.ll, ok.lh, by simpa using ok.lv, ok.lb, ok.lr, ok.row, ok.blt, ok.fl, ok.fh, fun x hx => (mem_set hx).elim (fun e => e ▸ hr) (ok.fv x), ok.fr, ok.sN, ok.sM⟩
theorem TbOk.setR (ok : TbOk N M T) {q j : Nat} {r : Rat} (hq : q < M) (hr : Fits r) : TbOk N M { T with rows := T.rows.set q ((T.rows.getD q []).set j r) } :=
  ⟨ok.ll, ok.lh, ok.lv, ok.lb, by simpa using ok.lr, fun r hr => (mem_set hr).elim (fun e => by rw [e, List.length_set]; exact ok.row_len hq) (ok.row r), ok.blt, ok.fl, ok.fh, ok.fv,
    fun l hl => (mem_set hl).elim (fun e x hx => by rw [e] at hx; exact (mem_set hx).elim (fun e => e ▸ hr) (ok.fr _ (mem_at (ok.row_get hq)) x)) (ok.fr l), ok.sN, ok.sM⟩
theorem TbOk.setB (ok : TbOk N M T) {j k : Nat} (hk : k < N) : TbOk N M { T with bas := T.bas.set j k } :=
  ⟨ok.ll, ok.lh, ok.lv, by simpa using ok.lb, ok.lr, ok.row, fun b hb => (mem_set hb).elim (fun e => e ▸ hk) (ok.blt b), ok.fl, ok.fh, ok.fv, ok.fr, ok.sN, ok.sM⟩
end
end Go.Proofs.Ytajpdnphamomjaa

/- Appending to the slices of a tableau. -/

namespace Go.Proofs.Ytajpdnphamomjaa
open Go.RowKit Go.Q Go.Q.Num Go.V

theorem wr_appX {P : Program} {t e : TypeId} {z : Value} {sz bytes : Nat} (T : TyS P t e z sz bytes) {w : World} {B : Nat} {sa : Option Addr} {n c : Nat} {xs : List Value} (O : Own w B e sz sa n c xs) {ty : TypeId} {ad : Addr} {m mc : Nat} {ys : List Value} (H : Sl w (some ad) m mc sz ys) {k : (Option Addr × Nat × Nat) → World → Prop}
    (hB : B ≤ w.heap.size) (hz : z.cells.size = sz) (hs : 0 < sz) (hp : plainV ys = true) (hb : (n + m) * bytes ≤ 140737488355328) (hn : n + m ≤ maxLen) (hm : 0 < m)
    (hk : ∀ a' c' w', Own w' B e sz a' (n + m) c' (xs ++ ys) → w.grownBy w' (blk sa) → (n + m ≤ c → blk a' = blk sa) → (c < n + m → blk a' = some w.heap.size) → k (a', n + m, c') w') :
    wr P (Builtin.append_ #[t, t] ty #[.slice sa n c, .slice (some ad) m mc]) (.one .slice) w k := by
  have hy : ∀ j u, ys[j]? = some u → w.cell? (ad.add j) = some u := fun j u hj => by
    obtain ⟨ad', q1, q2, _⟩ := H.at' j u hj
    cases q1; exact q2
  have h1 : ∀ u ∈ ys, u.oneCell' = true := fun u hu => by unfold plainV at hp; rw [List.all_eq_true] at hp; exact hp u hu
  obtain ⟨a', c', w2, hr, hA⟩ := run_app (P := P) w t ty B e z sz bytes T.ht T.hi hz hs sa n c xs O ad m mc ys H.len hy h1 hb hn hB
  obtain ⟨i, hi0, hz0, hz1, hz2⟩ := info_parts T.hi
  have two : (n + m ≤ c → blk a' = blk sa) ∧ (c < n + m → blk a' = some w.heap.size) := by
    rcases O.2 with ⟨h1', h2⟩ | ⟨g, cap, cur, h1', h2, h3, h4, h5, h6, h7⟩
    · cases h1'
      refine ⟨fun h => by omega, fun _ => ?_⟩
      rcases hA.at' with q | q | q
      · cases a' with
        | none => have := hA.own.sl.nil' rfl; omega
        | some x => cases q
      · exact q
      · cases a' with
        | none => have := hA.own.sl.nil' rfl; omega
        | some x => cases q
    · cases h1'
      refine ⟨fun hroom => ?_, fun hc => ?_⟩
      · have hfit : n * i.size + ys.length ≤ cur.size := by rw [hz1, H.len, h6, ← Nat.add_mul]; exact Nat.mul_le_mul_right _ hroom
        have hr2 := run_append_room (P := P) w t ty e i T.ht hi0 g n c cur h3 ad m mc ys (by rw [hz1]; exact H.len) hy h1 hroom hfit
        have e := hr.symm.trans hr2
        injection e with e1 e2
        injection e1 with e1 e3 e4
        rw [e1]
      · have holds : ∀ j u, xs[j]? = some u → w.cell? ((⟨g, 0, none⟩ : Addr).add j) = some u := World.ownsRow.cells O (g := g) rfl
        have hr2 := run_append_grow (P := P) w t ty e i z T.ht hi0 hz0 ⟨g, 0, none⟩ n c xs (by rw [hz1]; exact O.1) holds ad m mc ys (by rw [hz1]; exact H.len) hy (by omega) (by unfold maxLen at hn; omega) (growslice_fits (by omega) (by rw [hz2]; exact hb))
        have e := hr.symm.trans hr2
        injection e with e1 e2
        injection e1 with e1 e3 e4
        rw [e1]; rfl
  exact ⟨(a', n + m, c'), w2, hr, hk a' c' w2 hA.own hA.grown two.1 two.2⟩

theorem Own_xb {w w' : World} {S : Nat → Prop} {B : Nat} {e : TypeId} {sz : Nat} {a : Option Addr} {n c : Nat} {xs : List Value} (h : Own w B e sz a n c xs) (hX : Xb S w w') (hn : ∀ k, blk a = some k → ¬ S k) : Own w' B e sz a n c xs := by
  refine ⟨h.1, ?_⟩
  rcases h.2 with h2 | ⟨g, cap, cur, h1, h2, h3, h4⟩
  · exact .inl h2
  · cases h1
    exact .inr ⟨g, c, cur, rfl, h2, (hX.block g (Array.getElem?_eq_some_iff.1 h3).1 (hn g rfl)).trans h3, h4⟩

theorem FS.app {w w' : World} {B : Nat} {hs : List Hdr} {Ls : List (List Rat)} {i : Nat} {h h' : Hdr} {L' : List Rat} (F : FS w B hs Ls) (hi : hs[i]? = some h) (O : OwnQ w' B h' L') (hg : w.grownBy w' (blk h.1)) (hn : blk h'.1 = blk h.1 ∨ ∀ b, blk h'.1 = some b → w.heap.size ≤ b) :
    FS w' B (hs.set i h') (Ls.set i L') := by
  have hlt := (List.getElem?_eq_some_iff.1 hi).1
  have old : ∀ (j : Nat) g k, hs[j]? = some g → blk g.1 = some k → k < w.heap.size := fun j g k e1 e2 => by
    have hj := (List.getElem?_eq_some_iff.1 e1).1
    exact ((F.own j g _ e1 (by rw [List.getElem?_eq_getElem (by rw [← F.len]; exact hj)])).lt _ e2).2
  have one : ∀ (j : Nat) g k, i ≠ j → hs[j]? = some g → blk h'.1 = some k → blk g.1 = some k → False := by
    intro j g k hij e1 e2 e3
    rcases hn with q | q
    · exact F.ap i j h g k hij hi e1 (by rw [← q]; exact e2) e3
    · have := q k e2; have := old j g k e1 e3; omega
  refine ⟨by rw [List.length_set, List.length_set]; exact F.len, fun j g K e1 e2 => ?_, fun j j' g g' k hjj e1 e2 e3 e4 => ?_⟩
  · by_cases hij : i = j
    · subst hij
      rw [List.getElem?_set_self (by rw [← F.len]; exact hlt)] at e2
      rw [List.getElem?_set_self hlt] at e1
      cases e1; cases e2; exact O
    · rw [List.getElem?_set_ne hij] at e1 e2
      refine (F.own j g K e1 e2).keptBy hg ?_
      cases hb : blk g.1 with
      | none => exact .inl rfl
      | some k => exact .inr fun e => F.ap i j h g k hij hi e1 e.symm hb
  · by_cases h1 : i = j <;> by_cases h2 : i = j'
    · omega
    · subst h1
      rw [List.getElem?_set_self hlt] at e1
      rw [List.getElem?_set_ne h2] at e2
      cases e1
      exact one j' g' k h2 e2 e3 e4
    · subst h2
      rw [List.getElem?_set_self hlt] at e2
      rw [List.getElem?_set_ne h1] at e1
      cases e2
      exact one j g k h1 e1 e4 e3
    · rw [List.getElem?_set_ne h1] at e1
      rw [List.getElem?_set_ne h2] at e2
      exact F.ap j j' g g' k hjj e1 e2 e3 e4
theorem FS.two {w w' : World} {B : Nat} {h0 h1 g0 g1 : Hdr} {r : List Hdr} {K0 K1 L0 L1 : List Rat} {R : List (List Rat)} {S : Nat → Prop} (F : FS w B (h0 :: h1 :: r) (K0 :: K1 :: R)) (hX : Xb S w w') (hS : ∀ k, S k → blk h0.1 = some k ∨ blk h1.1 = some k)
    (O0 : OwnQ w' B g0 L0) (O1 : OwnQ w' B g1 L1) (n0 : blk g0.1 = blk h0.1 ∨ ∀ b, blk g0.1 = some b → w.heap.size ≤ b) (n1 : blk g1.1 = blk h1.1 ∨ ∀ b, blk g1.1 = some b → w.heap.size ≤ b) (ap : ∀ k, blk g0.1 = some k → blk g1.1 = some k → False) :
    FS w' B (g0 :: g1 :: r) (L0 :: L1 :: R) := by
  have hl := F.len
  simp only [List.length_cons] at hl
  have get : ∀ (j : Nat) g, r[j]? = some g → ∃ K, R[j]? = some K ∧ OwnQ w B g K := fun j g e => by
    have hj := (List.getElem?_eq_some_iff.1 e).1
    have e2 : R[j]? = some R[j] := List.getElem?_eq_getElem (by omega)
    exact ⟨_, e2, F.own (j + 2) g _ e e2⟩
  have one0 : ∀ (j : Nat) g k, r[j]? = some g → blk g0.1 = some k → blk g.1 = some k → False := by
    intro j g k e1 e2 e3
    obtain ⟨K, _, O⟩ := get j g e1
    rcases n0 with q | q
    · exact F.ap 0 (j + 2) h0 g k (by omega) rfl e1 (by rw [← q]; exact e2) e3
    · have := q k e2; have := (O.lt k e3).2; omega
  have one1 : ∀ (j : Nat) g k, r[j]? = some g → blk g1.1 = some k → blk g.1 = some k → False := by
    intro j g k e1 e2 e3
    obtain ⟨K, _, O⟩ := get j g e1
    rcases n1 with q | q
    · exact F.ap 1 (j + 2) h1 g k (by omega) rfl e1 (by rw [← q]; exact e2) e3
    · have := q k e2; have := (O.lt k e3).2; omega
  refine ⟨by simp only [List.length_cons]; omega, fun j g K e1 e2 => ?_, fun j j' g g' k hjj e1 e2 e3 e4 => ?_⟩
  · match j with
    | 0 => cases e1; cases e2; exact O0
    | 1 => cases e1; cases e2; exact O1
    | j + 2 =>
      exact Own_xb (F.own (j + 2) g K e1 e2) hX fun k hk q => (hS k q).elim (fun q => F.ap 0 (j + 2) h0 g k (by omega) rfl e1 q hk) (fun q => F.ap 1 (j + 2) h1 g k (by omega) rfl e1 q hk)
  · match j, j' with
    | 0, 0 => omega
    | 0, 1 => cases e1; cases e2; exact ap k e3 e4
    | 1, 0 => cases e1; cases e2; exact ap k e4 e3
    | 1, 1 => omega
    | 0, j' + 2 => cases e1; exact one0 j' g' k e2 e3 e4
    | 1, j' + 2 => cases e1; exact one1 j' g' k e2 e3 e4
    | j + 2, 0 => cases e2; exact one0 j g k e1 e4 e3
    | j + 2, 1 => cases e2; exact one1 j g k e1 e4 e3
    | j + 2, j' + 2 => exact F.ap (j + 2) (j' + 2) g g' k hjj e1 e2 e3 e4
end Go.Proofs.Ytajpdnphamomjaa

/- Queues: the tail of a block of one's own; two stores in one region. -/

namespace Go.V
open Go Go.RowKit Go.Q

theorem rdE_boxN {P : Program} {E : Rel} {t : TypeId} {l : List Sh} {w : World} {a : Addr} {cs : List Value} {x : LT l} {k : LT l → Prop} (h : ∀ w', E w w' → Box w' a cs) (ht : aggOf P t cs.length = true) (hx : Lget l cs = some x) (hk : k x) :
    rdE P E (Instr.loadAt t (.pointer (some a))) (.agg l) w k := ⟨x, fun w' hw => by rw [run_loadAt, run_loadVarN ht (fun _ _ hj => (h w' hw).cell hj), Lget_spec hx]; rfl, hk⟩
end Go.V

/- The first tableau: regions that append in any order. -/


namespace Go.Proofs.Ytajpdnphamomjaa
open Go.RowKit Go.Q Go.Q.Num Go.V

theorem lWholeS (n : Int) (w : World) : call Try.prog 122 [.int .i64 n] (.one (.agg [.int .i64, .int .i64])) w (fun x w' => x = qv (n : Rat) ∧ bel w w' ∧ w'.heap.size = w.heap.size + 1) := by
  refine call_of (S122_calls n w _ ?_)
  unfold S122
  refine wr_alloc (z := fracv 0 0) (by kernel_rfl) fun ad w1 Z h hz hs => ?_
  refine wu_box Z (by kernel_rfl) (Nat.le_refl 2) rfl fun w2 Z hg hs2 => ?_
  refine rd_boxV Z (by kernel_rfl) rfl ?_
  exact ⟨_, rfl, rfl, h.grownAt hg (by omega), by omega⟩
abbrev RgE (h0 h1 : Hdr) : Rel := Xb fun k => blk h0.1 = some k ∨ blk h1.1 = some k
def RgG (c f : Nat) (h0 h1 : Hdr) (j : Nat) : Rel := fun w w' => w.grownBy w' (if j = c then blk h0.1 else if j = f then blk h1.1 else none)
structure RgS (w9 : World) (B : Nat) (h0 h1 : Hdr) (L1 L2 : List Rat) (a b c d e f g h : Nat) (D : Nat → Bool) (w : World) : Prop where
  o0 : D c = false → OwnQ w B h0 L1
  o1 : D f = false → OwnQ w B h1 L2
  cl : D c = false → D d = false ∧ D e = false ∧ D f = false ∧ D g = false
  up : D c = false → w.heap.size ≤ w9.heap.size + ((D a).toNat + (D b).toNat + (D h).toNat)
  lw : w9.heap.size + ((D a).toNat + (D b).toNat + (D d).toNat + (D e).toNat) ≤ w.heap.size
def LitQ (w9 w : World) (x : Rat) (v : Value) : Prop := ∃ ad, v = .slice (some ad) 1 1 ∧ Sl w (some ad) 1 1 2 (encQ x) ∧ w9.heap.size ≤ ad.block
structure RgF (w9 : World) (B : Nat) (h0 h1 : Hdr) (L1 L2 : List Rat) (x1 x2 x3 : Rat) (a b c d e f g h : Nat) (i : Nat) (v : Value) (w : World) : Prop where
  a : i = a → v = fracv x1.num x1.den
  b : i = b → LitQ w9 w x1 v
  c : i = c → ∃ q : Hdr, v = hv q ∧ OwnQ w B q (L1 ++ [x1]) ∧ (blk q.1 = blk h0.1 ∨ ∀ k, blk q.1 = some k → w9.heap.size ≤ k ∧ k ≤ w9.heap.size + 3)
  d : i = d → v = fracv x2.num x2.den
  e : i = e → LitQ w9 w x2 v
  f : i = f → ∃ q : Hdr, v = hv q ∧ OwnQ w B q (L2 ++ [x2]) ∧ (blk q.1 = blk h1.1 ∨ ∀ k, blk q.1 = some k → w9.heap.size + 4 ≤ k)
  g : i = g → v = fracv x3.num x3.den
  h : i = h → LitQ w9 w x3 v
section
variable {w9 : World} {B : Nat} {h0 h1 : Hdr} {r : List Hdr} {L1 L2 : List Rat} {R : List (List Rat)} {x1 x2 x3 : Rat} {a b c d e f g h : Nat}
theorem blk_lt {h : Hdr} {L : List Rat} {w : World} (O : OwnQ w B h L) {k : Nat} (hk : blk h.1 = some k) : k < w.heap.size := (O.lt k hk).2
theorem LitQ.keep (F : FS w9 B (h0 :: h1 :: r) (L1 :: L2 :: R)) {w w' : World} {x : Rat} {v : Value} (H : LitQ w9 w x v) (hE : RgE h0 h1 w w') : LitQ w9 w' x v := by
  obtain ⟨ad, e1, S, hn⟩ := H
  refine ⟨ad, e1, S.xb hE fun ad' ha _ q => ?_, hn⟩
  cases ha
  rcases q with q | q
  · have := blk_lt (F.own 0 _ _ rfl rfl) q; omega
  · have := blk_lt (F.own 1 _ _ rfl rfl) q; omega
theorem RgF.keep (F : FS w9 B (h0 :: h1 :: r) (L1 :: L2 :: R)) {i j : Nat} {v : Value} {w w' : World} (hij : i ≠ j) (H : RgF w9 B h0 h1 L1 L2 x1 x2 x3 a b c d e f g h i v w) (hE : RgE h0 h1 w w') (hG : RgG c f h0 h1 j w w') : RgF w9 B h0 h1 L1 L2 x1 x2 x3 a b c d e f g h i v w' := by
  refine ⟨H.a, fun q => (H.b q).keep F hE, fun q => ?_, H.d, fun q => (H.e q).keep F hE, fun q => ?_, H.g, fun q => (H.h q).keep F hE⟩
  · obtain ⟨y, e1, O, hn⟩ := H.c q
    refine ⟨y, e1, ?_, hn⟩
    unfold RgG at hG
    rw [if_neg (by omega)] at hG
    refine O.keptBy hG ?_
    split
    · cases hb : blk y.1 with
      | none => exact .inl rfl
      | some k =>
        refine .inr fun e2 => ?_
        rcases hn with hn | hn
        · exact F.ap 0 1 h0 h1 k (by omega) rfl rfl (by rw [← hn]; exact hb) e2.symm
        · have := hn k hb; have := blk_lt (F.own 1 _ _ rfl rfl) e2.symm; omega
    · cases hb : blk y.1 with
      | none => exact .inl rfl
      | some k => exact .inr (by simp)
  · obtain ⟨y, e1, O, hn⟩ := H.f q
    refine ⟨y, e1, ?_, hn⟩
    unfold RgG at hG
    rw [if_neg (c := j = f) (by omega)] at hG
    refine O.keptBy hG ?_
    split
    · cases hb : blk y.1 with
      | none => exact .inl rfl
      | some k =>
        refine .inr fun e2 => ?_
        rcases hn with hn | hn
        · exact F.ap 0 1 h0 h1 k (by omega) rfl rfl e2.symm (by rw [← hn]; exact hb)
        · have := hn k hb; have := blk_lt (F.own 0 _ _ rfl rfl) e2.symm; omega
    · cases hb : blk y.1 with
      | none => exact .inl rfl
      | some k => exact .inr (by simp)
theorem litQ {x : Rat} {w : World} {k : Hdr → World → Prop} (hk : ∀ ad w', Sl w' (some ad) 1 1 2 (encQ x) → bel w w' → ad.block = w.heap.size → w'.heap.size = w.heap.size + 1 → k (some ad, 1, 1) w') :
    wr Try.prog (Instr.buildSlice 33 1 #[(0, .agg #[.int .i64 (qv x).1, .int .i64 (qv x).2.1])]) (.one .slice) w k := by
  refine wr_lit tyFracs #[.int .i64 x.num, .int .i64 ((x.den : Nat) : Int)] (fill_one 2 _ _ rfl (by simp)) (by omega) (by omega) rfl (by unfold maxLen; omega) fun ad w' O hb hbl hs => ?_
  exact hk ad w' (O w.heap.size (Nat.le_refl _)).sl hb hbl hs
theorem app_enc (L : List Rat) (x : Rat) : L.flatMap encQ ++ encQ x = (L ++ [x]).flatMap encQ := by simp
end
end Go.Proofs.Ytajpdnphamomjaa

/- The first tableau: what stands behind the regions. -/

namespace Go.Proofs.Ytajpdnphamomjaa
open Go.RowKit Go.Q Go.Q.Num Go.V

theorem own_keep {w w' : World} {B B' : Nat} {e e' : TypeId} {sz sz' : Nat} {a a' : Option Addr} {n c n' c' : Nat} {xs ys : List Value} (O : Own w B e sz a n c xs) (O' : Own w B' e' sz' a' n' c' ys) (hne : e ≠ e') (hg : w.grownBy w' (blk a')) : Own w' B e sz a n c xs := O.keptBy hg (by
  cases hb : blk a with
  | none => exact .inl rfl
  | some k => exact .inr fun q => Own.apart O O' hne k hb q.symm)
theorem own_box {w w' : World} {B b : Nat} {e : TypeId} {sz : Nat} {a : Option Addr} {n c : Nat} {xs : List Value} (O : Own w B e sz a n c xs) (hg : w.grownBy w' (some b)) (hb : b < B) : Own w' B e sz a n c xs := O.keptBy hg (by
  cases h : blk a with
  | none => exact .inl rfl
  | some k => exact .inr fun q => by have := (O.lt k h).1; injection q; omega)
theorem xa_box {w w' : World} {a : Addr} {cs : List Value} {B : Nat} (X : Box w a cs) (h : Xa B w w') (hn : a.block < B) : Box w' a cs := X.xb h (by omega)

theorem app3 {w : World} {t : Addr} {H : TH} {p : Int} {T : Tb} {g0 g1 : Hdr} {x1 x2 x3 : Rat} {ad : Addr} (F : FS w (t.block + 1) (g0 :: g1 :: H.v :: H.s) ((T.low ++ [x1]) :: (T.high ++ [x2]) :: T.val :: T.rows)) (X : Box w t (tcells H p))
    (bs : Own w (t.block + 1) 3 1 H.b.1 H.b.2.1 H.b.2.2 (natv T.bas)) (rs : Own w (t.block + 1) 33 1 H.r.1 H.r.2.1 H.r.2.2 (H.s.map hv)) (S : Sl w (some ad) 1 1 2 (encQ x3)) (hl : T.val.length ≤ 100000) {K : World → Prop}
    (hk : ∀ (H' : TH) w', H'.l = g0 → H'.h = g1 → (blk H'.v.1 = blk H.v.1 ∨ ∀ b, blk H'.v.1 = some b → w.heap.size ≤ b) → H'.b = H.b → H'.r = H.r → H'.s = H.s → TabAt w' t H' p { T with low := T.low ++ [x1], high := T.high ++ [x2], val := T.val ++ [x3] } → Xb (fun k => k = t.block ∨ blk H.v.1 = some k) w w' → K w') :
    wr Try.prog (Builtin.append_ #[33, 33] 33 #[.slice H.v.1 H.v.2.1 H.v.2.2, .slice (some ad) 1 1]) (.one .slice) w fun x w1 => nn (some t) fun a => wu Try.prog (Instr.storeAt 33 (.pointer (some a)) (.slice g0.1 g0.2.1 g0.2.2)) w1 fun w2 =>
      nn (some t) fun a => wu Try.prog (Instr.storeAt 33 (.pointer (some (a.add 1))) (.slice g1.1 g1.2.1 g1.2.2)) w2 fun w3 => nn (some t) fun a => wu Try.prog (Instr.storeAt 33 (.pointer (some (a.add 2))) (.slice x.1 x.2.1 x.2.2)) w3 K := by
  have tl := X.lt
  have O : OwnQ w (t.block + 1) H.v T.val := F.own 2 _ _ rfl rfl
  have hn := slQ_len O.sl
  refine wr_appX tyFracs O S (by omega) rfl (by omega) rfl (by omega) (by unfold maxLen; omega) (by omega) fun a' c' w1 O1 hg hin hout => ?_
  rw [app_enc] at O1
  have hnew : blk a' = blk H.v.1 ∨ ∀ b, blk a' = some b → w.heap.size ≤ b := by
    rcases Nat.lt_or_ge H.v.2.2 (H.v.2.1 + 1) with q | q
    · exact .inr fun b e => by rw [hout q] at e; injection e with e; omega
    · exact .inl (hin q)
  have F1 := F.app (i := 2) (h' := (a', H.v.2.1 + 1, c')) rfl O1 hg hnew
  have X1 : Box w1 t (tcells H p) := X.grown hg fun e => by have := (O.lt _ e.symm).1; omega
  have bs1 := own_keep bs O (by decide) hg
  have rs1 := own_keep rs O (by decide) hg
  have x1 : Xb (fun k => k = t.block ∨ blk H.v.1 = some k) w w1 := Xb.of hg fun k e => .inr e
  refine nn_mk rfl ?_
  refine wu_box X1 (by kernel_rfl) (show 1 ≤ 6 by omega) rfl fun w2 X2 hg2 _ => ?_
  refine nn_mk rfl ?_
  refine wu_boxi X2 (by kernel_rfl) (by show 1 < 6; omega) rfl fun w3 X3 hg3 _ => ?_
  refine nn_mk rfl ?_
  refine wu_boxi X3 (by kernel_rfl) (by show 2 < 6; omega) rfl fun w4 X4 hg4 _ => ?_
  refine hk ⟨g0, g1, (a', H.v.2.1 + 1, c'), H.b, H.r, H.s⟩ w4 rfl rfl hnew rfl rfl rfl ⟨X4, ((F1.old hg2 (Nat.lt_succ_self _)).old hg3 (Nat.lt_succ_self _)).old hg4 (Nat.lt_succ_self _), own_box (own_box (own_box bs1 hg2 (Nat.lt_succ_self _)) hg3 (Nat.lt_succ_self _)) hg4 (Nat.lt_succ_self _),
    own_box (own_box (own_box rs1 hg2 (Nat.lt_succ_self _)) hg3 (Nat.lt_succ_self _)) hg4 (Nat.lt_succ_self _)⟩ ?_
  exact ((x1.trans (Xb.of hg2 fun k e => by injection e with e; exact .inl e.symm)).trans (Xb.of hg3 fun k e => by injection e with e; exact .inl e.symm)).trans (Xb.of hg4 fun k e => by injection e with e; exact .inl e.symm)

theorem atE_int {P : Program} {E : Rel} {t e : TypeId} {z : Value} {bytes : Nat} (T : TyS P t e z 1 bytes) (he : scal P e = true) {w : World} {a : Option Addr} {n c j : Nat} {kk : IntKind} {xs : List Int} (hE : E w w) (H : ∀ w', E w w' → Sl w' a n c 1 (ints kk xs)) {k : IntKind} {i : Int} {K : Int → Prop}
    (hj : i = (j : Int)) {x : Int} (hx : xs[j]? = some x) (hk : K x) : rdp P (Instr.indexAt t (.slice a n c) (.int k i)) (.one .addr) fun ad => rdE P E (Instr.loadAt e (.pointer (some ad))) (.one (.int kk)) w K := by
  have S := H w hE
  have hl := S.int
  have hlt := (List.getElem?_eq_some_iff.1 hx).1
  have hv : ∀ w', E w w' → ∃ ad, a = some ad ∧ w'.cell? (ad.add j) = some (.int kk x) := fun w' hw => by
    obtain ⟨ad, h1, h2, _⟩ := (H w' hw).at' j (.int kk x) (by unfold ints; rw [List.getElem?_map, hx]; rfl)
    exact ⟨ad, h1, h2⟩
  obtain ⟨ad, ha, _⟩ := hv w hE
  refine idx_mk T hj (by omega) ha ⟨x, fun w' hw => ?_, hk⟩
  obtain ⟨ad', ha', hc⟩ := hv w' hw
  rw [ha] at ha'; cases ha'
  rw [Nat.mul_one, run_loadAt, run_loadVar1 he hc]; rfl
theorem FS.push {w : World} {B : Nat} {hs : List Hdr} {Ls : List (List Rat)} {h : Hdr} {L : List Rat} (F : FS w B hs Ls) (O : OwnQ w B h L) (ap : ∀ (j : Nat) g k, hs[j]? = some g → blk g.1 = some k → blk h.1 = some k → False) : FS w B (hs ++ [h]) (Ls ++ [L]) := by
  have hl := F.len
  refine ⟨by simp [hl], fun i g K e1 e2 => ?_, fun i j g g' k hij e1 e2 e3 e4 => ?_⟩
  · rcases Nat.lt_or_ge i hs.length with h1 | h1
    · rw [List.getElem?_append_left h1] at e1
      rw [List.getElem?_append_left (by omega)] at e2
      exact F.own i g K e1 e2
    · have hi : i = hs.length := by
        have := (List.getElem?_eq_some_iff.1 e1).1
        simp at this; omega
      rw [List.getElem?_append_right h1, hi, Nat.sub_self] at e1
      rw [List.getElem?_append_right (by omega), hi, hl, Nat.sub_self] at e2
      cases e1; cases e2; exact O
  · have low : ∀ (i : Nat) g, (hs ++ [h])[i]? = some g → (i < hs.length ∧ hs[i]? = some g) ∨ (i = hs.length ∧ g = h) := by
      intro i g e
      rcases Nat.lt_or_ge i hs.length with h1 | h1
      · rw [List.getElem?_append_left h1] at e; exact .inl ⟨h1, e⟩
      · have hi : i = hs.length := by
          have := (List.getElem?_eq_some_iff.1 e).1
          simp at this; omega
        rw [List.getElem?_append_right h1, hi, Nat.sub_self] at e
        cases e; exact .inr ⟨hi, rfl⟩
    rcases low i g e1 with ⟨_, q1⟩ | ⟨q1, rfl⟩ <;> rcases low j g' e2 with ⟨_, q2⟩ | ⟨q2, rfl⟩
    · exact F.ap i j g g' k hij q1 q2 e3 e4
    · exact ap i g k q1 e3 e4
    · exact ap j g' k q2 e4 e3
    · omega
theorem hv_inj {x q : Hdr} (h : Value.slice x.1 x.2.1 x.2.2 = hv q) : x = q := by
  obtain ⟨a, b, c⟩ := x
  obtain ⟨a', b', c'⟩ := q
  simp only [hv, Value.slice.injEq] at h
  obtain ⟨h1, h2, h3⟩ := h
  subst h1 h2 h3; rfl
end Go.Proofs.Ytajpdnphamomjaa

/- The move of a tableau: what it computes. -/

namespace Go.Proofs.Ytajpdnphamomjaa
open Go.RowKit Go.Q Go.Q.Num Go.V

def Tb.by (T : Tb) (row k : Nat) (to : Rat) : Rat := (to + -(T.v (T.b row))) / T.a row k
def Tb.v0 (T : Tb) (row k : Nat) (to : Rat) : List Rat := (T.val.set (T.b row) to).set k (T.v k + T.by row k to)
def Tb.vN (T : Tb) (row k : Nat) (to : Rat) : Nat → List Rat
  | 0 => T.v0 row k to
  | i + 1 => if i ≠ row ∧ T.a i k ≠ 0 then (T.vN row k to i).set (T.b i) ((T.vN row k to i).getD (T.b i) 0 + T.a i k * T.by row k to) else T.vN row k to i
def divN (r : List Rat) (c : Rat) : Nat → List Rat
  | 0 => r
  | j + 1 => if r.getD j 0 ≠ 0 then (divN r c j).set j (0 + -(r.getD j 0 / c)) else divN r c j
def addN (r : List Rat) (c : Rat) (nr : List Rat) : Nat → List Rat
  | 0 => r
  | j + 1 => if nr.getD j 0 ≠ 0 then (addN r c nr j).set j ((addN r c nr j).getD j 0 + c * nr.getD j 0) else addN r c nr j
def Tb.nr (T : Tb) (row k : Nat) : List Rat := ((divN (T.rows.getD row []) (T.a row k) (T.rows.getD row []).length).set k 0).set (T.b row) (1 / T.a row k)
def Tb.rN (T : Tb) (row k : Nat) : Nat → List (List Rat)
  | 0 => T.rows.set row (T.nr row k)
  | i + 1 => if i ≠ row ∧ T.a i k ≠ 0 then (T.rN row k i).set i (addN ((T.rows.getD i []).set k 0) (T.a i k) (T.nr row k) (T.nr row k).length) else T.rN row k i
def Tb.move (T : Tb) (row k : Nat) (to : Rat) : Tb := { T with val := T.vN row k to T.bas.length, bas := T.bas.set row k, rows := T.rN row k T.rows.length }
structure MvFit (N M : Nat) (T : Tb) (row k : Nat) (to : Rat) : Prop where
  f1 : Fits (to + -(T.v (T.b row)))
  f2 : Fits (T.by row k to)
  f3 : Fits (T.v k + T.by row k to)
  f4 : ∀ i, i < M → i ≠ row → T.a i k ≠ 0 → Fits (T.a i k * T.by row k to) ∧ Fits ((T.vN row k to i).getD (T.b i) 0 + T.a i k * T.by row k to)
  f5 : ∀ j, j < N → T.a row j ≠ 0 → Fits (T.a row j / T.a row k) ∧ Fits (0 + -(T.a row j / T.a row k))
  f6 : Fits (1 / T.a row k)
  f7 : ∀ i, i < M → i ≠ row → T.a i k ≠ 0 → ∀ j, j < N → (T.nr row k).getD j 0 ≠ 0 → Fits (T.a i k * (T.nr row k).getD j 0) ∧ Fits ((addN ((T.rows.getD i []).set k 0) (T.a i k) (T.nr row k) j).getD j 0 + T.a i k * (T.nr row k).getD j 0)

theorem divN_len (r : List Rat) (c : Rat) : ∀ j, (divN r c j).length = r.length
  | 0 => rfl
  | j + 1 => by unfold divN; split <;> simp [divN_len r c j]
theorem divN_get (r : List Rat) (c : Rat) : ∀ j q, j ≤ q → (divN r c j)[q]? = r[q]?
  | 0, q, _ => rfl
  | j + 1, q, h => by
    unfold divN
    split
    · rw [List.getElem?_set_ne (by omega), divN_get r c j q (by omega)]
    · exact divN_get r c j q (by omega)
theorem addN_len (r : List Rat) (c : Rat) (nr : List Rat) : ∀ j, (addN r c nr j).length = r.length
  | 0 => rfl
  | j + 1 => by unfold addN; split <;> simp [addN_len r c nr j]
section
variable {T : Tb} {N M row k : Nat} {to : Rat}
theorem vN_len : ∀ i, (T.vN row k to i).length = T.val.length
  | 0 => by simp [Tb.vN, Tb.v0]
  | i + 1 => by unfold Tb.vN; split <;> simp [vN_len i]
theorem rN_len : ∀ i, (T.rN row k i).length = T.rows.length
  | 0 => by simp [Tb.rN]
  | i + 1 => by unfold Tb.rN; split <;> simp [rN_len i]
theorem rN_get : ∀ i q, i ≤ q → (T.rN row k i)[q]? = (T.rows.set row (T.nr row k))[q]?
  | 0, q, _ => rfl
  | i + 1, q, h => by
    unfold Tb.rN
    split
    · rw [List.getElem?_set_ne (by omega), rN_get i q (by omega)]
    · exact rN_get i q (by omega)
theorem rN_row : ∀ i, (T.rN row k i)[row]? = (T.rows.set row (T.nr row k))[row]?
  | 0 => rfl
  | i + 1 => by
    unfold Tb.rN
    split
    · rename_i h
      rw [List.getElem?_set_ne h.1, rN_row i]
    · exact rN_row i
theorem nr_len : (T.nr row k).length = (T.rows.getD row []).length := by simp [Tb.nr, divN_len]
end
theorem agg_qv {x : Int × Int × Unit} {r : Rat} (h : (Value.agg #[.int .i64 x.1, .int .i64 x.2.1]) = fracv r.num r.den) : x = qv r := by
  obtain ⟨a, b, u⟩ := x
  simp only [fracv, Value.agg.injEq, Array.mk.injEq, List.cons.injEq, Value.int.injEq, true_and, and_true] at h
  obtain ⟨h1, h2⟩ := h
  rw [h1, h2]; rfl
abbrev tupv (x : FE) : Value := .tuple #[.agg #[.int .i64 x.1.1, .int .i64 x.1.2.1], .int .i64 x.2.1]
theorem tup_eq {x y : FE} (h : tupv x = tupv y) : x = y := by
  obtain ⟨⟨a, b, u⟩, c, v⟩ := x
  obtain ⟨⟨a', b', u'⟩, c', v'⟩ := y
  simp only [tupv, Value.tuple.injEq, Array.mk.injEq, List.cons.injEq, Value.agg.injEq, Value.int.injEq, true_and, and_true] at h
  obtain ⟨⟨h1, h2⟩, h3⟩ := h
  subst h1 h2 h3; rfl
theorem get_some {l : List Rat} {j : Nat} (h : j < l.length) : l[j]? = some (l.getD j 0) := by
  rw [List.getD_eq_getElem?_getD, List.getElem?_eq_getElem h]; rfl
theorem set_self {α : Type} {l : List (List α)} {q : Nat} (hq : q < l.length) : l.set q (l.getD q []) = l := by
  rw [List.getD_eq_getElem?_getD, List.getElem?_eq_getElem hq]; exact List.set_getElem_self hq
theorem getD_set {α : Type} {l : List (List α)} {q : Nat} {Y : List α} (hq : q < l.length) : (l.set q Y).getD q [] = Y := by
  rw [List.getD_eq_getElem?_getD, List.getElem?_set_self hq]; rfl
theorem getD_set_ne' {α : Type} {l : List (List α)} {q q' : Nat} {Y : List α} (hq : q' ≠ q) : (l.set q' Y).getD q [] = l.getD q [] := by
  rw [List.getD_eq_getElem?_getD, List.getElem?_set_ne hq, List.getD_eq_getElem?_getD]
theorem TabAt.own_at {w : World} {t : Addr} {H : TH} {p : Int} {T : Tb} {N M : Nat} (A : TabAt w t H p T) (ok : TbOk N M T) {q : Nat} {g : Hdr} (hg : H.s[q]? = some g) (hq : q < M) : OwnQ w (t.block + 1) g (T.rows.getD q []) := by
  obtain ⟨g', h1, h2⟩ := A.hs_get ok hq
  rw [hg] at h1; cases h1; exact h2
theorem set_twice {α : Type} {l : List (List α)} {q : Nat} {Y : List α} (hq : q < l.length) (j : Nat) (r : α) : (l.set q Y).set q (((l.set q Y).getD q []).set j r) = l.set q (Y.set j r) := by
  rw [List.set_set, List.getD_eq_getElem?_getD, List.getElem?_set_self hq]; rfl
end Go.Proofs.Ytajpdnphamomjaa

/- The first tableau: the walk of begin. -/


namespace Go.Proofs.Ytajpdnphamomjaa
open Go.RowKit Go.Q Go.Q.Num Go.V

def q1 (l : List Int) : List Rat := l.map fun (x : Int) => (x : Rat)
def sumQ (row ls : List Int) : Nat → Rat
  | 0 => 0
  | k + 1 => if row.getD k 0 ≠ 0 then sumQ row ls k + ((row.getD k 0 : Int) : Rat) * ((ls.getD k 0 : Int) : Rat) else sumQ row ls k
def rowQ (M : Nat) (row : List Int) : List Rat := q1 row ++ List.replicate M 0
def tb0 (up : List Int) (T : List (List Int)) (rt ls hs : List Int) (i : Nat) : Tb :=
  { low := q1 ls ++ q1 (rt.take i), high := q1 hs ++ q1 (rt.take i), val := q1 ls ++ (T.take i).map (fun row => sumQ row ls up.length), bas := (List.range i).map (fun j => up.length + j), rows := (T.take i).map (rowQ T.length) }
def tbA (ls hs : List Int) (k : Nat) : Tb := { low := q1 (ls.take k), high := q1 (hs.take k), val := q1 (ls.take k), bas := [], rows := [] }
def BgFit (n : Nat) (T : List (List Int)) (ls : List Int) : Prop :=
  ∀ row ∈ T, ∀ k, k < n → row.getD k 0 ≠ 0 → Fits (((row.getD k 0 : Int) : Rat) * ((ls.getD k 0 : Int) : Rat)) ∧ Fits (sumQ row ls k + ((row.getD k 0 : Int) : Rat) * ((ls.getD k 0 : Int) : Rat))
theorem q1_snoc {l : List Int} {k : Nat} {x : Int} (h : l[k]? = some x) : q1 (l.take (k + 1)) = q1 (l.take k) ++ [(x : Rat)] := by
  unfold q1; rw [List.take_add_one, h]; simp
def Bg9 (l : List Int) : Prop := ∀ x ∈ l, -1000000000 ≤ x ∧ x ≤ 1000000000

theorem own_box' {w w' : World} {B b : Nat} {e : TypeId} {sz : Nat} {a : Option Addr} {n c : Nat} {xs : List Value} (O : Own w B e sz a n c xs) (hg : w.grownBy w' (some b)) (hb : ∀ k, blk a = some k → k ≠ b) : Own w' B e sz a n c xs := O.keptBy hg (by
  cases h : blk a with
  | none => exact .inl rfl
  | some k => exact .inr fun q => hb k h (by injection q))
abbrev prQ (r : Rat) : Int × Int := (r.num, ((r.den : Nat) : Int))
def rpr (M : Nat) (row : List Int) (N j : Nat) : List (Int × Int) := ((rowQ M row).take j).map prQ ++ List.replicate (N - j) (0, 0)
theorem rowQ_len (M : Nat) (row : List Int) : (rowQ M row).length = row.length + M := by simp [rowQ, q1]
theorem rowQ_get {M : Nat} {row : List Int} {j : Nat} (h : j < row.length + M) : (rowQ M row)[j]? = some ((row.getD j 0 : Int) : Rat) := by
  unfold rowQ q1
  rcases Nat.lt_or_ge j row.length with q | q
  · rw [List.getElem?_append_left (by simpa using q), List.getElem?_map, List.getD_eq_getElem?_getD, List.getElem?_eq_getElem q]; rfl
  · rw [List.getElem?_append_right (by simpa using q), List.getElem?_replicate, if_pos (by simp; omega), List.getD_eq_getElem?_getD, List.getElem?_eq_none q]; rfl
section
variable {row : List Int} {n T N j : Nat}
theorem rpr_len (hrl : row.length = n) (hN : n + T = N) (hj : j ≤ N) : (rpr T row N j).length = N := by
  unfold rpr
  rw [List.length_append, List.length_map, List.length_take, rowQ_len, List.length_replicate]; omega
theorem rpr_step (hrl : row.length = n) (hN : n + T = N) (hj : j < N) : (rpr T row N j).set j (row.getD j 0, 1) = rpr T row N (j + 1) := by
  unfold rpr
  have hl : ((rowQ T row).take j).length = j := by rw [List.length_take, rowQ_len]; omega
  rw [List.set_append_right _ _ (by rw [List.length_map, hl]; exact Nat.le_refl _), List.length_map, hl, Nat.sub_self, show N - j = (N - (j + 1)) + 1 by omega, List.replicate_succ, List.set_cons_zero, List.take_add_one, rowQ_get (by omega)]
  simp [prQ]
theorem rpr_get (hrl : row.length = n) (hN : n + T = N) (hj : j < N) : (rpr T row N (j + 1))[j]? = some (row.getD j 0, 1) := by
  rw [← rpr_step hrl hN hj, List.getElem?_set_self (by rw [rpr_len hrl hN (by omega)]; exact hj)]
end
theorem tb0_ok {up : List Int} {T : List (List Int)} {rt ls hs : List Int} (hok : sysE up T rt = 0) (hll : ls.length = up.length) (hhl : hs.length = up.length) (hlb : Bg9 ls) (hhb : Bg9 hs) (hsf : ∀ row ∈ T, Fits (sumQ row ls up.length)) : TbOk (up.length + T.length) T.length (tb0 up T rt ls hs T.length) := by
  obtain ⟨hul, hTl, hR, hA⟩ := sysE_ok hok
  have hrt := hA.1
  have fq : ∀ {l : List Int} {x : Rat}, Bg9 l → x ∈ q1 l → Fits x := by
    intro l x hb hx
    obtain ⟨y, hy, rfl⟩ := List.mem_map.1 hx
    have := hb y hy
    exact fits_of_int ⟨by omega, by omega⟩
  have frt : ∀ x ∈ q1 (rt.take T.length), Fits x := fun x hx => fq (l := rt) (fun y hy => hR.2.1 y hy) (by
    obtain ⟨y, hy, rfl⟩ := List.mem_map.1 hx
    exact List.mem_map.2 ⟨y, List.mem_of_mem_take hy, rfl⟩)
  have tT : T.take T.length = T := List.take_length
  refine ⟨by simp [tb0, q1, hll, hrt], by simp [tb0, q1, hhl, hrt], by simp [tb0, q1, hll], by simp [tb0], by simp [tb0], fun r hr => ?_, fun b hb => ?_, fun x hx => ?_, fun x hx => ?_, fun x hx => ?_, fun r hr x hx => ?_, by omega, by omega⟩
  · obtain ⟨row, hm, rfl⟩ := List.mem_map.1 hr
    rw [tT] at hm
    rw [rowQ_len, hA.2 row hm]
  · obtain ⟨j, hj, rfl⟩ := List.mem_map.1 hb
    have := List.mem_range.1 hj
    omega
  · rcases List.mem_append.1 hx with hx | hx
    · exact fq hlb hx
    · exact frt x hx
  · rcases List.mem_append.1 hx with hx | hx
    · exact fq hhb hx
    · exact frt x hx
  · rcases List.mem_append.1 hx with hx | hx
    · exact fq hlb hx
    · obtain ⟨row, hm, rfl⟩ := List.mem_map.1 hx
      rw [tT] at hm
      exact hsf row hm
  · obtain ⟨row, hm, rfl⟩ := List.mem_map.1 hr
    rw [tT] at hm
    rcases List.mem_append.1 hx with hx | hx
    · exact fq (fun y hy => by have := hR.2.2 row hm y hy; omega) hx
    · rw [(List.mem_replicate.1 hx).2]; exact fits_of_int (n := 0) ⟨by omega, by omega⟩
theorem sumQ_ge {row ls : List Int} {n : Nat} (hrl : row.length = n) : ∀ m, sumQ row ls (n + m) = sumQ row ls n
  | 0 => rfl
  | m + 1 => by
    show sumQ row ls (n + m + 1) = _
    rw [sumQ, if_neg, sumQ_ge hrl m]
    intro h
    exact h (by rw [List.getD_eq_getElem?_getD, List.getElem?_eq_none (by omega)]; rfl)

set_option maxHeartbeats 6400000 in
theorem beginF (u r b lo hi : Hdr) (up : List Int) (T : List (List Int)) (rt ls hs : List Int) (w : World) (HS : Sys w u r b up T rt) (hok : sysE up T rt = 0) (HL : Sl w lo.1 lo.2.1 lo.2.2 1 (ints .i64 ls)) (HH : Sl w hi.1 hi.2.1 hi.2.2 1 (ints .i64 hs))
    (hll : ls.length = up.length) (hhl : hs.length = up.length) (hlb : Bg9 ls) (hhb : Bg9 hs) :
    callP Try.prog (PnF (¬ BgFit up.length T ls) w) 117 [sysv u r b, .slice lo.1 lo.2.1 lo.2.2, .slice hi.1 hi.2.1 hi.2.2] (.one (.one .ptr)) w (fun (x : Option Addr) w' => ∃ (t : Addr) (H : TH), x = some t ∧ w.heap.size ≤ t.block ∧ TabAt w' t H 0 (tb0 up T rt ls hs T.length) ∧ TbOk (up.length + T.length) T.length (tb0 up T rt ls hs T.length) ∧ bel w w') := by
  have main : Calls Try.prog 117 #[sysv u r b, .slice lo.1 lo.2.1 lo.2.2, .slice hi.1 hi.2.1 hi.2.2] w (retP (fun v w' => ∃ x : Option Addr, v = .pointer x ∧ ∃ (t : Addr) (H : TH), x = some t ∧ w.heap.size ≤ t.block ∧ TabAt w' t H 0 (tb0 up T rt ls hs T.length) ∧ TbOk (up.length + T.length) T.length (tb0 up T rt ls hs T.length) ∧ bel w w') (some (PnF (¬ BgFit up.length T ls) w))) := by
    refine S117_calls u.1 u.2.1 u.2.2 r.1 r.2.1 r.2.2 b.1 b.2.1 b.2.2 lo.1 lo.2.1 lo.2.2 hi.1 hi.2.1 hi.2.2 w _ _ ?_
    generalize hPn : PnF (¬ BgFit up.length T ls) w = Pn
    have pn : ∀ {A' : Prop} {w1 w2 : World}, (BgFit up.length T ls → ¬ A') → bel w w1 → bel w1 w2 → ∀ ch w', PnF A' w2 ch w' → Pn ch w' := by
      intro A' w1 w2 hA hx hb ch w' q
      rw [← hPn]
      exact PnF.up (fun a mf => hA mf a) (hx.trans hb) ch w' q
    obtain ⟨hul, hTl, hR, hA⟩ := sysE_ok hok
    have hur := HS.u.int
    have hlr := HL.int
    have hhr := HH.int
    unfold S117
    refine wr_box fun x1 w2 X1 h2 hx1 hs1 => ?_
    replace X1 : Box w2 x1 (sysc u r b) := X1
    refine wr_box fun t w4 X3 h4 ht hs3 => ?_
    replace X3 : Box w4 t (tcells ⟨(none, 0, 0), (none, 0, 0), (none, 0, 0), (none, 0, 0), (none, 0, 0), []⟩ 0) := X3
    replace X1 := X1.up h4
    have l1 := X1.lt
    have l3 := X3.lt
    have b4 := h2.trans h4
    have s4 := b4.size
    have nt : w.heap.size ≤ t.block := by have := h2.size; omega
    have nx1 : x1.block < t.block := by omega
    refine rd_box0 (by kernel_rfl) X1 rfl rfl ?_
    -- the variables of the system
    refine loop_up up.length (fun k w' => bel w w' ∧ Box w' x1 (sysc u r b) ∧ ∃ H : TH, H.s = [] ∧ TabAt w' t H 0 (tbA ls hs k)) ⟨b4, X1, _, rfl, ⟨X3, ⟨rfl, ?_, ?_⟩, Own.nil _ _ _ _, Own.nil _ _ _ _⟩⟩ ?_
    · intro i h L e1 e2
      match i with
      | 0 => cases e1; cases e2; exact Own.nil _ _ _ _
      | 1 => cases e1; cases e2; exact Own.nil _ _ _ _
      | 2 => cases e1; cases e2; exact Own.nil _ _ _ _
      | i + 3 => cases e1
    · intro i j h g k hij e1 _ e3 _
      match i with
      | 0 => cases e1; cases e3
      | 1 => cases e1; cases e3
      | 2 => cases e1; cases e3
      | i + 3 => cases e1
    rintro k w8 hk ⟨b8, X8, H, hH, A8⟩ again hag _
    refine br_dec (fun hlt => ?_) (fun hge => ?_)
    · have hkn : k < up.length := by dsimp only at hlt; omega
      obtain ⟨xl, hxl⟩ : ∃ x, ls[k]? = some x := ⟨_, List.getElem?_eq_getElem (by omega)⟩
      obtain ⟨xh, hxh⟩ : ∃ x, hs[k]? = some x := ⟨_, List.getElem?_eq_getElem (by omega)⟩
      refine drw_mk fun w9 h9 _ => ?_
      have A9 := A8.up h9
      have X9 := X8.up h9
      have b9 := b8.trans h9
      generalize hTB : tbA ls hs k = TB at A9
      have hTv : TB.val.length ≤ 100000 := by rw [← hTB]; simp [tbA, q1]; omega
      have hTl' : TB.low.length ≤ 100000 := by rw [← hTB]; simp [tbA, q1]; omega
      have hTh' : TB.high.length ≤ 100000 := by rw [← hTB]; simp [tbA, q1]; omega
      have F9 := A9.fs
      have hbx : ∀ w', RgE H.l H.h w9 w' → Box w' t (tcells H 0) := fun w' hE => A9.box.xb hE (by
        rintro (q | q)
        · have := ((F9.own 0 _ _ rfl rfl).lt _ q).1; omega
        · have := ((F9.own 1 _ _ rfl rfl).lt _ q).1; omega)
      have bRg : ∀ w', RgE H.l H.h w9 w' → bel w w' := fun w' hE => Xb.bel b9 hE (by
        rintro k (q | q)
        · have := ((F9.own 0 _ _ rfl rfl).lt _ q).1; omega
        · have := ((F9.own 1 _ _ rfl rfl).lt _ q).1; omega)
      have st0 : RgS w9 (t.block + 1) H.l H.h TB.low TB.high 11 12 13 22 23 24 33 34 (fun _ => false) w9 := ⟨fun _ => F9.own 0 _ _ rfl rfl, fun _ => F9.own 1 _ _ rfl rfl, fun _ => ⟨rfl, rfl, rfl, rfl⟩, fun _ => by simp, by simp⟩
      refine flExC_mk (RgE H.l H.h) (RgG 13 24 H.l H.h) (RgS w9 (t.block + 1) H.l H.h TB.low TB.high 11 12 13 22 23 24 33 34) (fun i _ v w' => RgF w9 (t.block + 1) H.l H.h TB.low TB.high (xl : Rat) (xh : Rat) (xl : Rat) 11 12 13 22 23 24 33 34 i v w')
        (fun w => Xb.refl _ w) (fun _ _ _ p q => p.trans q) (fun i j _ v w1 w2 hij q hE hG => RgF.keep F9 hij q hE hG) st0 ?_
      refine nn_mk rfl ?_
      refine rdE_box0 (by kernel_rfl) (fun w' hE => hbx w' hE.1) rfl rfl ?_
      refine atE_int tyI64 (by kernel_rfl) ⟨Xb.refl _ _, fun _ => false, fun _ _ => rfl, st0⟩ (fun w' hE => HL.up (bRg w' hE.1)) rfl hxl ?_
      refine flcC_mk (fun D w' hD hE hS _ => ?_) fun x23 => ?_
      · skip
        refine callP_of (call_mono (lWholeS xl w') fun y w'' q => ?_)
        obtain ⟨hy, hb, hs⟩ := q
        exact ⟨Xb.of (grown_of_bel hb none) (fun k e => by cases e), by unfold RgG; rw [if_neg (by decide), if_neg (by decide)]; exact grown_of_bel hb none, ⟨fun q => (hS.o0 (by simpa [setD] using q)).kept hb, fun q => (hS.o1 (by simpa [setD] using q)).kept hb, fun q => by have h1 := hS.cl (by simpa [setD] using q); simpa [setD] using h1, fun q => by have h1 := hS.up (by simpa [setD] using q); simp [setD, hD] at h1 ⊢; omega, by have h1 := hS.lw; simp [setD, hD] at h1 ⊢; omega⟩, ⟨fun _ => by rw [hy]; rfl, fun e => absurd e (by decide), fun e => absurd e (by decide), fun e => absurd e (by decide), fun e => absurd e (by decide), fun e => absurd e (by decide), fun e => absurd e (by decide), fun e => absurd e (by decide)⟩⟩
      refine flcC_mk (fun D w' hD hE hS hf => ?_) fun x29 => ?_
      · intro ka
        have ev := agg_qv (hf.1.a rfl)
        subst ev
        refine litQ fun ad w'' S1 hb hbl hs => ?_
        exact ⟨Xb.of (grown_of_bel hb none) (fun k e => by cases e), by unfold RgG; rw [if_neg (by decide), if_neg (by decide)]; exact grown_of_bel hb none, ⟨fun q => (hS.o0 (by simpa [setD] using q)).kept hb, fun q => (hS.o1 (by simpa [setD] using q)).kept hb, fun q => by have h1 := hS.cl (by simpa [setD] using q); simpa [setD] using h1, fun q => by have h1 := hS.up (by simpa [setD] using q); simp [setD, hD] at h1 ⊢; omega, by have h1 := hS.lw; simp [setD, hD] at h1 ⊢; omega⟩, ⟨fun e => absurd e (by decide), fun _ => ⟨ad, rfl, S1, by have := hE.size; omega⟩, fun e => absurd e (by decide), fun e => absurd e (by decide), fun e => absurd e (by decide), fun e => absurd e (by decide), fun e => absurd e (by decide), fun e => absurd e (by decide)⟩⟩
      refine flcC_mk (fun D w' hD hE hS hf => ?_) fun x35 => ?_
      · intro kb ka
        obtain ⟨ad, ev, S1, _⟩ := hf.1.b rfl
        obtain rfl : x29 = (some ad, 1, 1) := hv_inj ev
        have O9 := hS.o0 hD
        have hn := slQ_len O9.sl
        refine wr_appX tyFracs O9 S1 (by have := (hbx w' hE).lt; omega) rfl (by omega) rfl (by omega) (by unfold maxLen; omega) (by omega) fun a' c' w'' O' hg hin hout => ?_
        rw [app_enc] at O'
        exact ⟨Xb.of hg fun k e => .inl e, by unfold RgG; rw [if_pos rfl]; exact hg, ⟨fun q => by simp [setD] at q, fun q => (hS.o1 (by simpa [setD] using q)).keptBy hg (by cases hb : blk H.h.1 with | none => exact .inl rfl | some k => exact .inr fun e => F9.ap 0 1 _ _ k (by omega) rfl rfl e.symm hb), fun q => by simp [setD] at q, fun q => by simp [setD] at q, by have h1 := hS.lw; have h2 := hg.size; simp [setD] at h1 ⊢; omega⟩, ⟨fun e => absurd e (by decide), fun e => absurd e (by decide), fun _ => ⟨(a', _, c'), rfl, O', by
            rcases Nat.lt_or_ge H.l.2.2 (H.l.2.1 + 1) with q | q
            · refine .inr fun k e => ?_
              rw [hout q] at e
              injection e with e
              have h1 := hS.up hD
              have h2 := Bool.toNat_le (D 11)
              have h3 := Bool.toNat_le (D 12)
              have h4 := Bool.toNat_le (D 34)
              have h5 := hE.size
              omega
            · exact .inl (hin q)⟩, fun e => absurd e (by decide), fun e => absurd e (by decide), fun e => absurd e (by decide), fun e => absurd e (by decide), fun e => absurd e (by decide)⟩⟩
      refine nn_mk rfl ?_
      refine rdE_box (by kernel_rfl) (fun w' hE => hbx w' hE.1) rfl rfl ?_
      refine atE_int tyI64 (by kernel_rfl) ⟨Xb.refl _ _, fun _ => false, fun _ _ => rfl, st0⟩ (fun w' hE => HH.up (bRg w' hE.1)) rfl hxh ?_
      refine flcC_mk (fun D w' hD hE hS _ => ?_) fun x45 => ?_
      · intro kc kb ka
        refine callP_of (call_mono (lWholeS xh w') fun y w'' q => ?_)
        obtain ⟨hy, hb, hs⟩ := q
        exact ⟨Xb.of (grown_of_bel hb none) (fun k e => by cases e), by unfold RgG; rw [if_neg (by decide), if_neg (by decide)]; exact grown_of_bel hb none, ⟨fun q => (hS.o0 (by simpa [setD] using q)).kept hb, fun q => (hS.o1 (by simpa [setD] using q)).kept hb, fun q => by simp [setD, kc] at q, fun q => by simp [setD, kc] at q, by have h1 := hS.lw; simp [setD, hD] at h1 ⊢; omega⟩, ⟨fun e => absurd e (by decide), fun e => absurd e (by decide), fun e => absurd e (by decide), fun _ => by rw [hy]; rfl, fun e => absurd e (by decide), fun e => absurd e (by decide), fun e => absurd e (by decide), fun e => absurd e (by decide)⟩⟩
      refine flcC_mk (fun D w' hD hE hS hf => ?_) fun x51 => ?_
      · intro kd kc kb ka
        have ev := agg_qv (hf.1.d rfl)
        subst ev
        refine litQ fun ad w'' S1 hb hbl hs => ?_
        exact ⟨Xb.of (grown_of_bel hb none) (fun k e => by cases e), by unfold RgG; rw [if_neg (by decide), if_neg (by decide)]; exact grown_of_bel hb none, ⟨fun q => (hS.o0 (by simpa [setD] using q)).kept hb, fun q => (hS.o1 (by simpa [setD] using q)).kept hb, fun q => by simp [setD, kc] at q, fun q => by simp [setD, kc] at q, by have h1 := hS.lw; simp [setD, hD] at h1 ⊢; omega⟩, ⟨fun e => absurd e (by decide), fun e => absurd e (by decide), fun e => absurd e (by decide), fun e => absurd e (by decide), fun _ => ⟨ad, rfl, S1, by have := hE.size; omega⟩, fun e => absurd e (by decide), fun e => absurd e (by decide), fun e => absurd e (by decide)⟩⟩
      refine flcC_mk (fun D w' hD hE hS hf => ?_) fun x57 => ?_
      · intro ke kd kc kb ka
        obtain ⟨ad, ev, S1, _⟩ := hf.1.e rfl
        obtain rfl : x51 = (some ad, 1, 1) := hv_inj ev
        have O9 := hS.o1 hD
        have hn := slQ_len O9.sl
        refine wr_appX tyFracs O9 S1 (by have := (hbx w' hE).lt; omega) rfl (by omega) rfl (by omega) (by unfold maxLen; omega) (by omega) fun a' c' w'' O' hg hin hout => ?_
        rw [app_enc] at O'
        exact ⟨Xb.of hg fun k e => .inr e, by unfold RgG; rw [if_neg (by decide), if_pos rfl]; exact hg, ⟨fun q => by simp [setD, kc] at q, fun q => by simp [setD] at q, fun q => by simp [setD, kc] at q, fun q => by simp [setD, kc] at q, by have h1 := hS.lw; have h2 := hg.size; simp [setD] at h1 ⊢; omega⟩, ⟨fun e => absurd e (by decide), fun e => absurd e (by decide), fun e => absurd e (by decide), fun e => absurd e (by decide), fun e => absurd e (by decide), fun _ => ⟨(a', _, c'), rfl, O', by
            rcases Nat.lt_or_ge H.h.2.2 (H.h.2.1 + 1) with q | q
            · refine .inr fun k e => ?_
              rw [hout q] at e
              injection e with e
              have h1 := hS.lw
              simp [ka, kb, kd, ke] at h1
              omega
            · exact .inl (hin q)⟩, fun e => absurd e (by decide), fun e => absurd e (by decide)⟩⟩
      refine nn_mk rfl ?_
      refine rdE_box (by kernel_rfl) (fun w' hE => hbx w' hE.1) rfl rfl ?_
      refine atE_int tyI64 (by kernel_rfl) ⟨Xb.refl _ _, fun _ => false, fun _ _ => rfl, st0⟩ (fun w' hE => HL.up (bRg w' hE.1)) rfl hxl ?_
      refine flcC_mk (fun D w' hD hE hS _ => ?_) fun x67 => ?_
      · intro kf ke kd kc kb ka
        refine callP_of (call_mono (lWholeS xl w') fun y w'' q => ?_)
        obtain ⟨hy, hb, hs⟩ := q
        exact ⟨Xb.of (grown_of_bel hb none) (fun k e => by cases e), by unfold RgG; rw [if_neg (by decide), if_neg (by decide)]; exact grown_of_bel hb none, ⟨fun q => (hS.o0 (by simpa [setD] using q)).kept hb, fun q => (hS.o1 (by simpa [setD] using q)).kept hb, fun q => by simp [setD, kc] at q, fun q => by simp [setD, kc] at q, by have h1 := hS.lw; simp [setD] at h1 ⊢; omega⟩, ⟨fun e => absurd e (by decide), fun e => absurd e (by decide), fun e => absurd e (by decide), fun e => absurd e (by decide), fun e => absurd e (by decide), fun e => absurd e (by decide), fun _ => by rw [hy]; rfl, fun e => absurd e (by decide)⟩⟩
      refine flcC_mk (fun D w' hD hE hS hf => ?_) fun x73 => ?_
      · intro kg kf ke kd kc kb ka
        have ev := agg_qv (hf.1.g rfl)
        subst ev
        refine litQ fun ad w'' S1 hb hbl hs => ?_
        exact ⟨Xb.of (grown_of_bel hb none) (fun k e => by cases e), by unfold RgG; rw [if_neg (by decide), if_neg (by decide)]; exact grown_of_bel hb none, ⟨fun q => (hS.o0 (by simpa [setD] using q)).kept hb, fun q => (hS.o1 (by simpa [setD] using q)).kept hb, fun q => by have h1 := hS.cl (by simpa [setD] using q); simpa [setD] using h1, fun q => by have h1 := hS.up (by simpa [setD] using q); simp [setD, hD] at h1 ⊢; omega, by have h1 := hS.lw; simp [setD] at h1 ⊢; omega⟩, ⟨fun e => absurd e (by decide), fun e => absurd e (by decide), fun e => absurd e (by decide), fun e => absurd e (by decide), fun e => absurd e (by decide), fun e => absurd e (by decide), fun e => absurd e (by decide), fun _ => ⟨ad, rfl, S1, by have := hE.size; omega⟩⟩⟩
      refine flendC_mk fun wE hE hS hf => ?_
      obtain ⟨ad, ev, S3, _⟩ := hf.1.h rfl
      obtain rfl : x73 = (some ad, 1, 1) := hv_inj ev
      obtain ⟨g1, e1, O1, n1⟩ := hf.2.2.1.f rfl
      obtain rfl : x57 = g1 := hv_inj e1
      obtain ⟨g0, e0, O0, n0⟩ := hf.2.2.2.2.2.1.c rfl
      obtain rfl : x35 = g0 := hv_inj e0
      have FE := FS.two F9 hE (fun k q => q) O0 O1 (n0.imp id fun q k e => (q k e).1) (n1.imp id fun q k e => by have := q k e; omega) (by
        intro k q0 q1
        rcases n0 with n0 | n0 <;> rcases n1 with n1 | n1
        · exact F9.ap 0 1 _ _ k (by omega) rfl rfl (by rw [← n0]; exact q0) (by rw [← n1]; exact q1)
        · have := blk_lt (F9.own 0 _ _ rfl rfl) (by rw [← n0]; exact q0); have := n1 k q1; omega
        · have := blk_lt (F9.own 1 _ _ rfl rfl) (by rw [← n1]; exact q1); have := n0 k q0; omega
        · have := n0 k q0; have := n1 k q1; omega)
      have tys : ∀ {e : TypeId} {sz : Nat} {a : Option Addr} {n c : Nat} {xs : List Value}, e ≠ 23 → Own w9 (t.block + 1) e sz a n c xs → Own wE (t.block + 1) e sz a n c xs := fun he O => Own_xb O hE (by
        rintro k hk (q | q)
        · exact Own.apart O (F9.own 0 _ _ rfl rfl) he k hk q
        · exact Own.apart O (F9.own 1 _ _ rfl rfl) he k hk q)
      refine app3 FE (hbx wE hE) (tys (by decide) A9.bs) (tys (by decide) A9.rs) S3 hTv fun H' wF hl' hh' hv' hb' hr' hs' AF xF => ?_
      have bF : bel w wF := Xb.bel (bRg wE hE) xF (by
        rintro k (q | q)
        · omega
        · have := ((F9.own 2 _ _ rfl rfl).lt _ q).1; omega)
      refine z_eq (by exact IntWalk.i64_in _ ⟨by dsimp only; omega, by dsimp only; omega⟩) ?_
      refine hag _ hkn ⟨bF, ?_, H', by rw [hs', hH], ?_⟩
      · exact Box.xb (X9.xb hE (by
          rintro (q | q)
          · have := ((F9.own 0 _ _ rfl rfl).lt _ q).1; omega
          · have := ((F9.own 1 _ _ rfl rfl).lt _ q).1; omega)) xF (by
          rintro (q | q)
          · omega
          · have := ((F9.own 2 _ _ rfl rfl).lt _ q).1; omega)
      · subst hTB
        unfold tbA at AF ⊢
        rw [q1_snoc hxl, q1_snoc hxh]
        exact AF
    · have hkn : k = up.length := by dsimp only at hge; omega
      subst hkn
      clear hag hge again
      have e0 : tbA ls hs up.length = tb0 up T rt ls hs 0 := by
        unfold tbA tb0
        rw [List.take_of_length_le (by omega), List.take_of_length_le (by omega)]
        simp [q1]
      rw [e0] at A8
      have hrT := HS.r.len
      have hrb := HS.b.int
      have hTr : T.length = rt.length := hA.1.symm
      refine rd_box (by kernel_rfl) X8 rfl rfl ?_
      refine loop_up T.length (fun i w' => bel w w' ∧ Box w' x1 (sysc u r b) ∧ (∀ (q : Nat) row, q < i → T[q]? = some row → Fits (sumQ row ls up.length)) ∧ ∃ H : TH, TabAt w' t H 0 (tb0 up T rt ls hs i)) ⟨b8, X8, fun q _ h => absurd h (Nat.not_lt_zero q), H, A8⟩ ?_
      clear A8 X8 b8 hH H
      rintro i w88 hi ⟨b88, X88, hsf, H, A88⟩ again hag _
      refine br_dec (fun hlt => ?_) (fun hge => ?_)
      case refine_2 =>
        have hiM : i = T.length := by dsimp only at hge; omega
        subst hiM
        exact ⟨some t, rfl, t, H, rfl, nt, A88, tb0_ok hok hll hhl hlb hhb (fun row hm => by obtain ⟨q, hq, e⟩ := List.mem_iff_getElem.1 hm; exact hsf q row hq (by rw [List.getElem?_eq_getElem hq, e])), b88⟩
      have hiT : i < T.length := by dsimp only at hlt; omega
      have HS8 := HS.up b88
      refine HS8.r.at tyTab (by kernel_rfl) rfl (by dsimp only at hlt; omega) fun hr row hrow HR => ?_
      have hrl : row.length = up.length := hA.2 row (mem_at hrow)
      have hrn := HR.int
      have hrowT := mem_at hrow
      refine rd_box0 (by kernel_rfl) X88 rfl rfl ?_
      refine rd_box (by kernel_rfl) X88 rfl rfl ?_
      refine z_eq (m := ((up.length + T.length : Nat) : Int)) (by rw [IntWalk.i64_in _ ⟨by dsimp only; omega, by dsimp only; omega⟩]; dsimp only; omega) ?_
      generalize hN : up.length + T.length = N
      refine wr_make tyFracs N rfl rfl (by omega) (by unfold maxLen; omega) fun xd w95 OX h95 hxd hs95 => ?_
      have O95 : OwnF w95 (t.block + 1) (some xd, N, N) (List.replicate N (0, 0)) := by
        have := OX (t.block + 1) (by have := A88.box.lt; omega)
        rw [made_flat encF_len (by omega) (0, 0) (fracv 0 0).cells rfl N] at this
        exact this
      refine callP_of (call_mono (lWhole 0 w95) fun x96 w97 q => ?_)
      obtain ⟨e96, h97⟩ := q
      subst e96
      refine boxF fun x98 w100 h100 X100 n98 => ?_
      replace X100 : Box w100 x98 (encQ (sumQ row ls 0)) := X100
      have b100 : bel w88 w100 := (h95.trans h97).trans h100
      have n98' : w88.heap.size ≤ x98.block := by have := h95.size; have := h97.size; omega
      have nxd : w88.heap.size ≤ xd.block := by omega
      have ne98 : xd.block ≠ x98.block := by have := h97.size; omega
      have f0 : Fits (0 : Rat) := fits_of_int (n := 0) ⟨by omega, by omega⟩
      refine loop_up N (fun j w' => bel w88 w' ∧ OwnF w' (t.block + 1) (some xd, N, N) (rpr T.length row N j) ∧ Box w' x98 (encQ (sumQ row ls j)) ∧ Fits (sumQ row ls j)) ⟨b100, (Own.kept O95 h97).kept h100, X100, f0⟩ ?_
      rintro j w103 hj ⟨b103, O103, X103, f103⟩ again2 hag2 _
      refine br_dec (fun hlt2 => ?_) (fun hge2 => ?_)
      · have hjN : j < N := by dsimp only at hlt2; omega
        refine join_mk (fun _ w' => bel w88 w' ∧ OwnF w' (t.block + 1) (some xd, N, N) (rpr T.length row N (j + 1)) ∧ Box w' x98 (encQ (sumQ row ls (j + 1))) ∧ Fits (sumQ row ls (j + 1))) (fun K104 hK => ?_) (fun x w2 q => ?_)
        case refine_2 =>
          intro _
          refine z_eq (by exact IntWalk.i64_in _ ⟨by dsimp only; omega, by dsimp only; omega⟩) ?_
          exact hag2 _ hjN q
        have hpl : (rpr T.length row N j).length = N := rpr_len hrl hN hj
        refine callP_of (call_mono (lWhole 0 w103) fun x108 w109 q => ?_)
        obtain ⟨e108, h109⟩ := q
        subst e108
        refine set_agg tyFracs encF_len (Own.kept O103 h109) rfl (by rw [hpl]; exact hjN) (p := (0, 1)) rfl (by omega) rfl fun w111 O111 hg111 _ => ?_
        have b111 : bel w88 w111 := (b103.trans h109).grownAt hg111 nxd
        have X111 : Box w111 x98 (encQ (sumQ row ls j)) := (X103.up h109).grown hg111 (by intro e; injection e with e; exact ne98 e.symm)
        have zero : row.getD j 0 = 0 → K104 () w111 := fun q => by
          have e1 : sumQ row ls (j + 1) = sumQ row ls j := by rw [sumQ]; exact if_neg fun h => h q
          have e2 := rpr_step hrl hN hjN (T := T.length)
          rw [q] at e2
          exact hK _ _ ⟨b111, by rw [← e2]; exact O111, by rw [e1]; exact X111, by rw [e1]; exact f103⟩
        refine br_dec (fun hjn => ?_) (fun hjn => ?_)
        case refine_2 => exact zero (by rw [List.getD_eq_getElem?_getD, List.getElem?_eq_none (by dsimp only at hjn; omega)]; rfl)
        have hjn' : j < up.length := by dsimp only at hjn; omega
        have hrj : row[j]? = some (row.getD j 0) := by rw [List.getD_eq_getElem?_getD, List.getElem?_eq_getElem (by omega)]; rfl
        have hlj : ls[j]? = some (ls.getD j 0) := by rw [List.getD_eq_getElem?_getD, List.getElem?_eq_getElem (by omega)]; rfl
        have HR1 := Sl.up HR b111
        refine at_int tyI64 (by kernel_rfl) HR1 rfl (by dsimp only at hjn; omega) fun x113 hx113 => ?_
        have e113 : x113 = row.getD j 0 := by rw [hrj] at hx113; cases hx113; rfl
        subst e113
        refine br_ne (fun h0 => ?_) zero
        refine at_int tyI64 (by kernel_rfl) HR1 rfl (by dsimp only at hjn; omega) fun x115 hx115 => ?_
        have e115 : x115 = row.getD j 0 := by rw [hrj] at hx115; cases hx115; rfl
        subst e115
        refine callP_of (call_mono (lWhole _ w111) fun x116 w117 q => ?_)
        obtain ⟨e116, h117⟩ := q
        subst e116
        refine set_agg tyFracs encF_len (Own.kept O111 h117) rfl (by rw [List.length_set, hpl]; exact hjN) (p := (row.getD j 0, 1)) rfl (by omega) rfl fun w119 O119 hg119 _ => ?_
        rw [List.set_set, rpr_step hrl hN hjN] at O119
        have b119 : bel w88 w119 := (b111.trans h117).grownAt hg119 nxd
        have X119 : Box w119 x98 (encQ (sumQ row ls j)) := (X111.up h117).grown hg119 (by intro e; injection e with e; exact ne98 e.symm)
        refine drw_mk fun w120 h120 _ => ?_
        have b120 := b119.trans h120
        have A120 := A88.up b120
        have bR := hR.2.2 row hrowT _ (mem_at hrj)
        have bL := hlb _ (mem_at hlj)
        refine flEx_mk (fun _ _ v _ => v = fracv (((row.getD j 0 : Int) : Rat) * ((ls.getD j 0 : Int) : Rat)).num (((row.getD j 0 : Int) : Rat) * ((ls.getD j 0 : Int) : Rat)).den ∧ Fits (((row.getD j 0 : Int) : Rat) * ((ls.getD j 0 : Int) : Rat))) (fun _ _ _ _ _ q _ => q) ?_
        refine rd_boxN (X119.up h120) (by kernel_rfl) rfl ?_
        refine at_frac (p := (row.getD j 0, 1)) (Own.kept O119 h120).sl rfl (rpr_get hrl hN hjN) ?_
        refine nn_mk rfl (rd_box (by kernel_rfl) A120.box rfl rfl ?_)
        refine atQ A120.hvl.sl rfl (r := ((ls.getD j 0 : Int) : Rat)) (by
          unfold tb0 q1
          rw [List.getElem?_append_left (by simp; omega), List.getElem?_map, hlj]; rfl) ?_
        refine flc_mk (fun w129 h129 _ => ?_) fun x133 => ?_
        · exact callP_mono (lMul (r := ((row.getD j 0 : Int) : Rat)) (s := ((ls.getD j 0 : Int) : Rat)) w129 (fits_of_int ⟨by omega, by omega⟩) (fits_of_int ⟨by omega, by omega⟩)) (fun x w58 q => ⟨q.2.2, by rw [q.1]; rfl, q.2.1⟩) (pn (fun bg q => q (bg row hrowT j hjn' h0).1) (b88.trans b120) h129)
        refine flend_mk fun w134 h134 q => ?_
        obtain ⟨⟨e133, f133⟩, _⟩ := q
        have e133 := agg_qv e133
        subst e133
        refine callP_mono (lAdd w134 f103 f133) (fun x136 w137 q => ?_) (pn (fun bg q => q (bg row hrowT j hjn' h0).2) (b88.trans b120) h134)
        obtain ⟨e136, f136, h137⟩ := q
        subst e136
        refine wu_box (((X119.up h120).up h134).up h137) (by kernel_rfl) (Nat.le_refl 2) rfl fun w138 X138 hg138 _ => ?_
        have e1 : sumQ row ls (j + 1) = sumQ row ls j + ((row.getD j 0 : Int) : Rat) * ((ls.getD j 0 : Int) : Rat) := by rw [sumQ]; exact if_pos h0
        refine hK _ _ ⟨((b120.trans h134).trans h137).grownAt hg138 n98', own_box' (((Own.kept O119 h120).kept h134).kept h137) hg138 (fun k hk => by cases hk; exact ne98), by rw [e1]; exact X138, by rw [e1]; exact f136⟩
      have hjN : j = N := by dsimp only at hge2; omega
      rw [hjN] at O103 X103 f103
      clear hag2 hge2 hj hjN again2
      obtain ⟨xb, hxb⟩ : ∃ x, rt[i]? = some x := ⟨_, List.getElem?_eq_getElem (by omega)⟩
      refine drw_mk fun w139 h139 _ => ?_
      have b139 := b103.trans h139
      have A9 := A88.up b139
      have b9 := b88.trans b139
      have X9 := X88.up b139
      have X98 := X103.up h139
      have O139 := Own.kept O103 h139
      have old0 : ∀ k, blk H.l.1 = some k → k < w88.heap.size := fun k hk => ((A88.fs.own 0 _ _ rfl rfl).lt _ hk).2
      have old1 : ∀ k, blk H.h.1 = some k → k < w88.heap.size := fun k hk => ((A88.fs.own 1 _ _ rfl rfl).lt _ hk).2
      have old2 : ∀ k, blk H.v.1 = some k → k < w88.heap.size := fun k hk => ((A88.fs.own 2 _ _ rfl rfl).lt _ hk).2
      have t88 := A88.box.lt
      generalize hTB : tb0 up T rt ls hs i = TB at A9
      have hTv : TB.val.length ≤ 100000 := by rw [← hTB]; simp [tb0, q1]; omega
      have hTl' : TB.low.length ≤ 100000 := by rw [← hTB]; simp [tb0, q1]; omega
      have hTh' : TB.high.length ≤ 100000 := by rw [← hTB]; simp [tb0, q1]; omega
      have F9 := A9.fs
      have hbx : ∀ w', RgE H.l H.h w139 w' → Box w' t (tcells H 0) := fun w' hE => A9.box.xb hE (by
        rintro (q | q)
        · have := ((F9.own 0 _ _ rfl rfl).lt _ q).1; omega
        · have := ((F9.own 1 _ _ rfl rfl).lt _ q).1; omega)
      have bRg : ∀ w', RgE H.l H.h w139 w' → bel w w' := fun w' hE => Xb.bel b9 hE (by
        rintro k (q | q)
        · have := ((F9.own 0 _ _ rfl rfl).lt _ q).1; omega
        · have := ((F9.own 1 _ _ rfl rfl).lt _ q).1; omega)
      have st0 : RgS w139 (t.block + 1) H.l H.h TB.low TB.high 12 13 14 24 25 26 0 32 (fun _ => false) w139 := ⟨fun _ => F9.own 0 _ _ rfl rfl, fun _ => F9.own 1 _ _ rfl rfl, fun _ => ⟨rfl, rfl, rfl, rfl⟩, fun _ => by simp, by simp⟩
      refine flExC_mk (RgE H.l H.h) (RgG 14 26 H.l H.h) (RgS w139 (t.block + 1) H.l H.h TB.low TB.high 12 13 14 24 25 26 0 32) (fun i _ v w' => RgF w139 (t.block + 1) H.l H.h TB.low TB.high (xb : Rat) (xb : Rat) (sumQ row ls N) 12 13 14 24 25 26 0 32 i v w')
        (fun w => Xb.refl _ w) (fun _ _ _ p q => p.trans q) (fun i j _ v w1 w2 hij q hE hG => RgF.keep F9 hij q hE hG) st0 ?_
      refine nn_mk rfl ?_
      refine rdE_box0 (by kernel_rfl) (fun w' hE => hbx w' hE.1) rfl rfl ?_
      have hx1E : ∀ w', RgE H.l H.h w139 w' → Box w' x1 (sysc u r b) := fun w' hE => X9.xb hE (by
        rintro (q | q)
        · have := ((F9.own 0 _ _ rfl rfl).lt _ q).1; omega
        · have := ((F9.own 1 _ _ rfl rfl).lt _ q).1; omega)
      have hx98E : ∀ w', RgE H.l H.h w139 w' → Box w' x98 (encQ (sumQ row ls N)) := fun w' hE => X98.xb hE (by
        rintro (q | q)
        · have := old0 _ q; omega
        · have := old1 _ q; omega)
      refine rdE_box (by kernel_rfl) (fun w' hE => hx1E w' hE.1) rfl rfl ?_
      refine atE_int tyI64 (by kernel_rfl) ⟨Xb.refl _ _, fun _ => false, fun _ _ => rfl, st0⟩ (fun w' hE => (HS.up (bRg w' hE.1)).b) rfl hxb ?_
      refine flcC_mk (fun D w' hD hE hS _ => ?_) fun x154 => ?_
      · skip
        refine callP_of (call_mono (lWholeS xb w') fun y w'' q => ?_)
        obtain ⟨hy, hb, hs⟩ := q
        exact ⟨Xb.of (grown_of_bel hb none) (fun k e => by cases e), by unfold RgG; rw [if_neg (by decide), if_neg (by decide)]; exact grown_of_bel hb none, ⟨fun q => (hS.o0 (by simpa [setD] using q)).kept hb, fun q => (hS.o1 (by simpa [setD] using q)).kept hb, fun q => by have h1 := hS.cl (by simpa [setD] using q); simpa [setD] using h1, fun q => by have h1 := hS.up (by simpa [setD] using q); simp [setD, hD] at h1 ⊢; omega, by have h1 := hS.lw; simp [setD, hD] at h1 ⊢; omega⟩, ⟨fun _ => by rw [hy]; rfl, fun e => absurd e (by decide), fun e => absurd e (by decide), fun e => absurd e (by decide), fun e => absurd e (by decide), fun e => absurd e (by decide), fun e => absurd e (by decide), fun e => absurd e (by decide)⟩⟩
      refine flcC_mk (fun D w' hD hE hS hf => ?_) fun x160 => ?_
      · intro ka
        have ev := agg_qv (hf.1.a rfl)
        subst ev
        refine litQ fun ad w'' S1 hb hbl hs => ?_
        exact ⟨Xb.of (grown_of_bel hb none) (fun k e => by cases e), by unfold RgG; rw [if_neg (by decide), if_neg (by decide)]; exact grown_of_bel hb none, ⟨fun q => (hS.o0 (by simpa [setD] using q)).kept hb, fun q => (hS.o1 (by simpa [setD] using q)).kept hb, fun q => by have h1 := hS.cl (by simpa [setD] using q); simpa [setD] using h1, fun q => by have h1 := hS.up (by simpa [setD] using q); simp [setD, hD] at h1 ⊢; omega, by have h1 := hS.lw; simp [setD, hD] at h1 ⊢; omega⟩, ⟨fun e => absurd e (by decide), fun _ => ⟨ad, rfl, S1, by have := hE.size; omega⟩, fun e => absurd e (by decide), fun e => absurd e (by decide), fun e => absurd e (by decide), fun e => absurd e (by decide), fun e => absurd e (by decide), fun e => absurd e (by decide)⟩⟩
      refine flcC_mk (fun D w' hD hE hS hf => ?_) fun x166 => ?_
      · intro kb ka
        obtain ⟨ad, ev, S1, _⟩ := hf.1.b rfl
        obtain rfl : x160 = (some ad, 1, 1) := hv_inj ev
        have O9 := hS.o0 hD
        have hn := slQ_len O9.sl
        refine wr_appX tyFracs O9 S1 (by have := (hbx w' hE).lt; omega) rfl (by omega) rfl (by omega) (by unfold maxLen; omega) (by omega) fun a' c' w'' O' hg hin hout => ?_
        rw [app_enc] at O'
        exact ⟨Xb.of hg fun k e => .inl e, by unfold RgG; rw [if_pos rfl]; exact hg, ⟨fun q => by simp [setD] at q, fun q => (hS.o1 (by simpa [setD] using q)).keptBy hg (by cases hb : blk H.h.1 with | none => exact .inl rfl | some k => exact .inr fun e => F9.ap 0 1 _ _ k (by omega) rfl rfl e.symm hb), fun q => by simp [setD] at q, fun q => by simp [setD] at q, by have h1 := hS.lw; have h2 := hg.size; simp [setD] at h1 ⊢; omega⟩, ⟨fun e => absurd e (by decide), fun e => absurd e (by decide), fun _ => ⟨(a', _, c'), rfl, O', by
            rcases Nat.lt_or_ge H.l.2.2 (H.l.2.1 + 1) with q | q
            · refine .inr fun k e => ?_
              rw [hout q] at e
              injection e with e
              have h1 := hS.up hD
              have h2 := Bool.toNat_le (D 12)
              have h3 := Bool.toNat_le (D 13)
              have h4 := Bool.toNat_le (D 32)
              have h5 := hE.size
              omega
            · exact .inl (hin q)⟩, fun e => absurd e (by decide), fun e => absurd e (by decide), fun e => absurd e (by decide), fun e => absurd e (by decide), fun e => absurd e (by decide)⟩⟩
      refine nn_mk rfl ?_
      refine rdE_box (by kernel_rfl) (fun w' hE => hbx w' hE.1) rfl rfl ?_
      refine rdE_box (by kernel_rfl) (fun w' hE => hx1E w' hE.1) rfl rfl ?_
      refine atE_int tyI64 (by kernel_rfl) ⟨Xb.refl _ _, fun _ => false, fun _ _ => rfl, st0⟩ (fun w' hE => (HS.up (bRg w' hE.1)).b) rfl hxb ?_
      refine flcC_mk (fun D w' hD hE hS _ => ?_) fun x177 => ?_
      · intro kc kb ka
        refine callP_of (call_mono (lWholeS xb w') fun y w'' q => ?_)
        obtain ⟨hy, hb, hs⟩ := q
        exact ⟨Xb.of (grown_of_bel hb none) (fun k e => by cases e), by unfold RgG; rw [if_neg (by decide), if_neg (by decide)]; exact grown_of_bel hb none, ⟨fun q => (hS.o0 (by simpa [setD] using q)).kept hb, fun q => (hS.o1 (by simpa [setD] using q)).kept hb, fun q => by simp [setD, kc] at q, fun q => by simp [setD, kc] at q, by have h1 := hS.lw; simp [setD, hD] at h1 ⊢; omega⟩, ⟨fun e => absurd e (by decide), fun e => absurd e (by decide), fun e => absurd e (by decide), fun _ => by rw [hy]; rfl, fun e => absurd e (by decide), fun e => absurd e (by decide), fun e => absurd e (by decide), fun e => absurd e (by decide)⟩⟩
      refine flcC_mk (fun D w' hD hE hS hf => ?_) fun x183 => ?_
      · intro kd kc kb ka
        have ev := agg_qv (hf.1.d rfl)
        subst ev
        refine litQ fun ad w'' S1 hb hbl hs => ?_
        exact ⟨Xb.of (grown_of_bel hb none) (fun k e => by cases e), by unfold RgG; rw [if_neg (by decide), if_neg (by decide)]; exact grown_of_bel hb none, ⟨fun q => (hS.o0 (by simpa [setD] using q)).kept hb, fun q => (hS.o1 (by simpa [setD] using q)).kept hb, fun q => by simp [setD, kc] at q, fun q => by simp [setD, kc] at q, by have h1 := hS.lw; simp [setD, hD] at h1 ⊢; omega⟩, ⟨fun e => absurd e (by decide), fun e => absurd e (by decide), fun e => absurd e (by decide), fun e => absurd e (by decide), fun _ => ⟨ad, rfl, S1, by have := hE.size; omega⟩, fun e => absurd e (by decide), fun e => absurd e (by decide), fun e => absurd e (by decide)⟩⟩
      refine flcC_mk (fun D w' hD hE hS hf => ?_) fun x189 => ?_
      · intro ke kd kc kb ka
        obtain ⟨ad, ev, S1, _⟩ := hf.1.e rfl
        obtain rfl : x183 = (some ad, 1, 1) := hv_inj ev
        have O9 := hS.o1 hD
        have hn := slQ_len O9.sl
        refine wr_appX tyFracs O9 S1 (by have := (hbx w' hE).lt; omega) rfl (by omega) rfl (by omega) (by unfold maxLen; omega) (by omega) fun a' c' w'' O' hg hin hout => ?_
        rw [app_enc] at O'
        exact ⟨Xb.of hg fun k e => .inr e, by unfold RgG; rw [if_neg (by decide), if_pos rfl]; exact hg, ⟨fun q => by simp [setD, kc] at q, fun q => by simp [setD] at q, fun q => by simp [setD, kc] at q, fun q => by simp [setD, kc] at q, by have h1 := hS.lw; have h2 := hg.size; simp [setD] at h1 ⊢; omega⟩, ⟨fun e => absurd e (by decide), fun e => absurd e (by decide), fun e => absurd e (by decide), fun e => absurd e (by decide), fun e => absurd e (by decide), fun _ => ⟨(a', _, c'), rfl, O', by
            rcases Nat.lt_or_ge H.h.2.2 (H.h.2.1 + 1) with q | q
            · refine .inr fun k e => ?_
              rw [hout q] at e
              injection e with e
              have h1 := hS.lw
              simp [ka, kb, kd, ke] at h1
              omega
            · exact .inl (hin q)⟩, fun e => absurd e (by decide), fun e => absurd e (by decide)⟩⟩
      refine nn_mk rfl ?_
      refine rdE_box (by kernel_rfl) (fun w' hE => hbx w' hE.1) rfl rfl ?_
      refine rdE_boxN (fun w' hE => hx98E w' hE.1) (by kernel_rfl) rfl ?_
      refine flcC_mk (fun D w' hD hE hS _ => ?_) fun x198 => ?_
      · skip
        refine litQ fun ad w'' S1 hb hbl hs => ?_
        exact ⟨Xb.of (grown_of_bel hb none) (fun k e => by cases e), by unfold RgG; rw [if_neg (by decide), if_neg (by decide)]; exact grown_of_bel hb none, ⟨fun q => (hS.o0 (by simpa [setD] using q)).kept hb, fun q => (hS.o1 (by simpa [setD] using q)).kept hb, fun q => by have h1 := hS.cl (by simpa [setD] using q); simpa [setD] using h1, fun q => by have h1 := hS.up (by simpa [setD] using q); simp [setD, hD] at h1 ⊢; omega, by have h1 := hS.lw; simp [setD] at h1 ⊢; omega⟩, ⟨fun e => absurd e (by decide), fun e => absurd e (by decide), fun e => absurd e (by decide), fun e => absurd e (by decide), fun e => absurd e (by decide), fun e => absurd e (by decide), fun e => absurd e (by decide), fun _ => ⟨ad, rfl, S1, by have := hE.size; omega⟩⟩⟩
      refine flendC_mk fun wE hE hS hf => ?_
      obtain ⟨ad, ev, S3, _⟩ := hf.1.h rfl
      obtain rfl : x198 = (some ad, 1, 1) := hv_inj ev
      obtain ⟨g1, e1, O1, n1⟩ := hf.2.1.f rfl
      obtain rfl : x189 = g1 := hv_inj e1
      obtain ⟨g0, e0, O0, n0⟩ := hf.2.2.2.2.1.c rfl
      obtain rfl : x166 = g0 := hv_inj e0
      have FE := FS.two F9 hE (fun k q => q) O0 O1 (n0.imp id fun q k e => (q k e).1) (n1.imp id fun q k e => by have := q k e; omega) (by
        intro k q0 q1
        rcases n0 with n0 | n0 <;> rcases n1 with n1 | n1
        · exact F9.ap 0 1 _ _ k (by omega) rfl rfl (by rw [← n0]; exact q0) (by rw [← n1]; exact q1)
        · have := blk_lt (F9.own 0 _ _ rfl rfl) (by rw [← n0]; exact q0); have := n1 k q1; omega
        · have := blk_lt (F9.own 1 _ _ rfl rfl) (by rw [← n1]; exact q1); have := n0 k q0; omega
        · have := n0 k q0; have := n1 k q1; omega)
      have tys : ∀ {e : TypeId} {sz : Nat} {a : Option Addr} {n c : Nat} {xs : List Value}, e ≠ 23 → Own w139 (t.block + 1) e sz a n c xs → Own wE (t.block + 1) e sz a n c xs := fun he O => Own_xb O hE (by
        rintro k hk (q | q)
        · exact Own.apart O (F9.own 0 _ _ rfl rfl) he k hk q
        · exact Own.apart O (F9.own 1 _ _ rfl rfl) he k hk q)
      refine app3 FE (hbx wE hE) (tys (by decide) A9.bs) (tys (by decide) A9.rs) S3 hTv fun H' wF hl' hh' hv' hb' hr' hs' AF xF => ?_
      have bF : bel w wF := Xb.bel (bRg wE hE) xF (by
        rintro k (q | q)
        · omega
        · have := ((F9.own 2 _ _ rfl rfl).lt _ q).1; omega)
      have hx1F : Box wF x1 (sysc u r b) := (hx1E wE hE).xb xF (by
        rintro (q | q)
        · omega
        · have := ((F9.own 2 _ _ rfl rfl).lt _ q).1; omega)
      have OF : OwnF wF (t.block + 1) (some xd, N, N) (rpr T.length row N N) := by
        refine Own_xb (Own_xb O139 hE ?_) xF ?_
        · intro k hk q
          have e : xd.block = k := Option.some.inj hk
          rcases q with q | q
          · have := old0 _ q; omega
          · have := old1 _ q; omega
        · intro k hk q
          have e : xd.block = k := Option.some.inj hk
          rcases q with q | q
          · omega
          · have := old2 _ q; omega
      have newx : ∀ h ∈ (H'.l :: H'.h :: H'.v :: H'.s), ∀ k, blk h.1 = some k → xd.block ≠ k := by
        intro h hm k hk e
        have hE1 := hE.size
        have h139s := b139.size
        have hxl := O95.lt xd.block rfl
        have h103 := b103.size
        have h97s := h97.size
        have h100s := h100.size
        have hx1 : xd.block < w139.heap.size := (O139.lt xd.block rfl).2
        simp only [List.mem_cons] at hm
        rcases hm with rfl | rfl | rfl | hm
        · rw [hl'] at hk
          rcases n0 with n0 | n0
          · have := old0 k (by rw [← n0]; exact hk); omega
          · have := n0 k hk; omega
        · rw [hh'] at hk
          rcases n1 with n1 | n1
          · have := old1 k (by rw [← n1]; exact hk); omega
          · have := n1 k hk; omega
        · rcases hv' with n2 | n2
          · have := old2 k (by rw [← n2]; exact hk); omega
          · have := n2 k hk; omega
        · rw [hs'] at hm
          have := A88.hb h (.inr (.inr hm)) k hk; omega
      clear A9 X9 X98 O139 O103 X103 F9 hbx bRg st0 hx1E hx98E FE tys hE xF hS hf O1 O0 S3 n0 n1 X88
      refine drw_mk fun w209 h209 _ => ?_
      have A209 := AF.up h209
      have O209 := Own.kept OF h209
      have X209 := hx1F.up h209
      have b209 := bF.trans h209
      have t209 := A209.box.lt
      have bb : ∀ k, blk H'.b.1 = some k → t.block + 1 ≤ k ∧ k < w209.heap.size := fun k hk => A209.bs.lt k hk
      have hbx : ∀ w', Xb (fun k => blk H'.b.1 = some k) w209 w' → Box w' t (tcells H' 0) := fun w' hE => A209.box.xb hE fun q => by have := (bb _ q).1; omega
      have hx1 : ∀ w', Xb (fun k => blk H'.b.1 = some k) w209 w' → Box w' x1 (sysc u r b) := fun w' hE => X209.xb hE fun q => by have := (bb _ q).1; omega
      have bl := A209.bs.sl.int
      have hbl0 : TB.bas.length = i := by rw [← hTB]; simp [tb0]
      simp only [List.length_map, hbl0] at bl
      refine flExC_mk (Xb (fun k => blk H'.b.1 = some k)) (fun j w w' => w.grownBy w' (if j = 12 then blk H'.b.1 else none)) (fun D w' => D 12 = false → Own w' (t.block + 1) 3 1 H'.b.1 H'.b.2.1 H'.b.2.2 (natv TB.bas))
        (fun j _ v w' => (j = 11 → ∃ ad, v = .slice (some ad) 1 1 ∧ Sl w' (some ad) 1 1 1 (ints .i64 [((up.length + i : Nat) : Int)]) ∧ w209.heap.size ≤ ad.block) ∧
          (j = 12 → ∃ q : Hdr, v = hv q ∧ Own w' (t.block + 1) 3 1 q.1 q.2.1 q.2.2 (natv (TB.bas ++ [up.length + i]))) ∧
          (j = 18 → ∃ ad, v = .slice (some ad) 1 1 ∧ Sl w' (some ad) 1 1 1 [hv (some xd, N, N)] ∧ w209.heap.size ≤ ad.block))
        (fun w => Xb.refl _ w) (fun _ _ _ p q => p.trans q) (fun i1 j1 _ v w1 w2 hij q hE hG => ⟨fun e => ?_, fun e => ?_, fun e => ?_⟩) (fun _ => A209.bs) ?_
      · obtain ⟨ad, e1, S, hn⟩ := q.1 e
        exact ⟨ad, e1, S.xb hE (fun ad' ha _ q => by cases ha; have := (bb _ q).2; omega), hn⟩
      · obtain ⟨y, e1, O⟩ := q.2.1 e
        have hj : j1 ≠ 12 := fun q' => hij (e.trans q'.symm)
        rw [if_neg hj] at hG
        exact ⟨y, e1, O.keptBy hG (by
          cases hb : blk y.1 with
          | none => exact .inl rfl
          | some k => exact .inr (by simp))⟩
      · obtain ⟨ad, e1, S, hn⟩ := q.2.2 e
        exact ⟨ad, e1, S.xb hE (fun ad' ha _ q => by cases ha; have := (bb _ q).2; omega), hn⟩
      refine nn_mk rfl ?_
      refine rdE_box (by kernel_rfl) (fun w' hE => hbx w' hE.1) rfl rfl ?_
      refine rdE_box0 (by kernel_rfl) (fun w' hE => hx1 w' hE.1) rfl rfl ?_
      refine z_eq (m := ((up.length + i : Nat) : Int)) (by rw [IntWalk.i64_in _ ⟨by dsimp only; omega, by dsimp only; omega⟩]; dsimp only; omega) ?_
      refine flcC_mk (fun D w' hD hE hS _ => ?_) fun x223 => ?_
      · refine wr_lit tyInts #[.int .i64 ((up.length + i : Nat) : Int)] (fill_one 1 (.int .i64 ((up.length + i : Nat) : Int)) _ rfl (by simp)) (by omega) (by omega) rfl (by unfold maxLen; omega) fun ad w'' O' hb hbl _ => ?_
        exact ⟨Xb.of (grown_of_bel hb none) (fun k e => by cases e), by dsimp only; rw [if_neg (by decide)]; exact grown_of_bel hb none, fun q => (hS (by simpa [setD] using q)).kept hb,
          ⟨fun _ => ⟨ad, rfl, (O' w'.heap.size (Nat.le_refl _)).sl, by have := hE.size; omega⟩, fun e => absurd e (by decide), fun e => absurd e (by decide)⟩⟩
      refine flcC_mk (fun D w' hD hE hS hf => ?_) fun x229 => ?_
      · intro _
        obtain ⟨ad, ev, S1, _⟩ := hf.1.1 rfl
        obtain rfl : x223 = (some ad, 1, 1) := hv_inj ev
        refine wr_appX tyInts (hS hD) S1 (by have := (hbx w' hE).lt; omega) rfl (by omega) rfl (by omega) (by unfold maxLen; omega) (by omega) fun a' c' w'' O' hg _ _ => ?_
        rw [← ints_app] at O'
        refine ⟨Xb.of hg fun k e => e, by dsimp only; rw [if_pos rfl]; exact hg, fun q => by simp [setD] at q, ⟨fun e => absurd e (by decide), fun _ => ⟨(a', _, c'), rfl, ?_⟩, fun e => absurd e (by decide)⟩⟩
        unfold natv
        rw [List.map_append]
        exact O'
      refine nn_mk rfl ?_
      refine rdE_box (by kernel_rfl) (fun w' hE => hbx w' hE.1) rfl rfl ?_
      refine flcC_mk (fun D w' hD hE hS _ => ?_) fun x237 => ?_
      · refine wr_lit tyFracTab #[.slice (some xd) N N] (fill_one 1 (.slice (some xd) N N) _ rfl (by simp)) (by omega) (by omega) rfl (by unfold maxLen; omega) fun ad w'' O' hb hbl _ => ?_
        exact ⟨Xb.of (grown_of_bel hb none) (fun k e => by cases e), by dsimp only; rw [if_neg (by decide)]; exact grown_of_bel hb none, fun q => (hS (by simpa [setD] using q)).kept hb,
          ⟨fun e => absurd e (by decide), fun e => absurd e (by decide), fun _ => ⟨ad, rfl, (O' w'.heap.size (Nat.le_refl _)).sl, by have := hE.size; omega⟩⟩⟩
      refine flendC_mk fun wG hG _ hf => ?_
      obtain ⟨ad, ev, S3, _⟩ := hf.1.2.2 rfl
      obtain rfl : x237 = (some ad, 1, 1) := hv_inj ev
      obtain ⟨qb, e1, OB⟩ := hf.2.1.2.1 rfl
      obtain rfl : x229 = qb := hv_inj e1
      have tG := (hbx wG hG).lt
      have rsG : Own wG (t.block + 1) 33 1 H'.r.1 H'.r.2.1 H'.r.2.2 (H'.s.map hv) := Own_xb A209.rs hG fun k hk q => Own.apart A209.rs A209.bs (by decide) k hk q
      have fsG : FS wG (t.block + 1) (H'.l :: H'.h :: H'.v :: H'.s) ((TB.low ++ [(xb : Rat)]) :: (TB.high ++ [(xb : Rat)]) :: (TB.val ++ [sumQ row ls N]) :: TB.rows) :=
        ⟨A209.fs.len, fun i h L e1 e2 => Own_xb (A209.fs.own i h L e1 e2) hG fun k hk q => Own.apart (A209.fs.own i h L e1 e2) A209.bs (by decide) k hk q, A209.fs.ap⟩
      have OG : OwnF wG (t.block + 1) (some xd, N, N) (rpr T.length row N N) := Own_xb O209 hG fun k hk q => Own.apart O209 A209.bs (by decide) k hk q
      have rl := rsG.sl.len
      have hsl := fsG.len
      have hrl0 : TB.rows.length = i := by rw [← hTB]; simp [tb0]; omega
      simp only [List.length_map, List.length_cons, hrl0] at rl hsl
      refine wr_appX tyFracTab rsG S3 (by omega) rfl (by omega) rfl (by omega) (by unfold maxLen; omega) (by omega) fun a' c' w241 O241 hg _ _ => ?_
      have ra : ∀ k, blk H'.r.1 = some k → t.block + 1 ≤ k := fun k hk => (rsG.lt k hk).1
      have X241 : Box w241 t (tcells H' 0) := (hbx wG hG).grown hg fun e => by have := ra _ e.symm; omega
      have Y241 : Box w241 x1 (sysc u r b) := (hx1 wG hG).grown hg fun e => by have := ra _ e.symm; omega
      have fs241 := fsG.sort rsG (by decide) hg
      have OB241 := own_keep OB rsG (by decide) hg
      have OX241 := own_keep OG rsG (by decide) hg
      have b241 : bel w w241 := Xb.bel (Xb.bel b209 hG fun k hk => by have := (bb k hk).1; omega) (Xb.of (S := fun k => t.block + 1 ≤ k) hg ra) (fun k hk => by omega)
      refine nn_mk rfl ?_
      refine wu_boxi X241 (by kernel_rfl) (by show 3 < 6; omega) rfl fun w243 X243 hg3 _ => ?_
      refine nn_mk rfl ?_
      refine wu_boxi X243 (by kernel_rfl) (by show 4 < 6; omega) rfl fun w245 X245 hg4 _ => ?_
      refine z_eq (by exact IntWalk.i64_in _ ⟨by dsimp only; omega, by dsimp only; omega⟩) ?_
      have lt1 : t.block < t.block + 1 := Nat.lt_succ_self _
      have ne1 : some x1.block ≠ some t.block := by intro e; injection e; omega
      refine hag _ hiT ⟨(b241.grownAt hg3 nt).grownAt hg4 nt, (Y241.grown hg3 ne1).grown hg4 ne1, ?_, ⟨H'.l, H'.h, H'.v, x229, (a', H'.r.2.1 + 1, c'), H'.s ++ [(some xd, N, N)]⟩, ?_⟩
      · intro q row' hq hr'
        rcases Nat.lt_or_ge q i with h | h
        · exact hsf q row' h hr'
        · have : q = i := by omega
          subst this
          rw [hrow] at hr'; cases hr'
          have es := sumQ_ge (ls := ls) hrl T.length
          rw [hN] at es
          rw [← es]; exact f103
      have eP : (rpr T.length row N N).flatMap encF = (rowQ T.length row).flatMap encQ := by
        unfold rpr
        rw [Nat.sub_self, List.replicate_zero, List.append_nil, List.take_of_length_le (by rw [rowQ_len]; omega), List.flatMap_map]
      have OX : OwnQ w245 (t.block + 1) (some xd, N, N) (rowQ T.length row) := by
        have := own_box (own_box OX241 hg3 lt1) hg4 lt1
        rw [eP] at this
        exact this
      have fin := FS.push ((fs241.old hg3 lt1).old hg4 lt1) OX fun j g k e1 e2 e3 => by cases e3; exact newx g (mem_at e1) _ e2 rfl
      have eT : tb0 up T rt ls hs (i + 1) = { low := TB.low ++ [(xb : Rat)], high := TB.high ++ [(xb : Rat)], val := TB.val ++ [sumQ row ls N], bas := TB.bas ++ [up.length + i], rows := TB.rows ++ [rowQ T.length row] } := by
        rw [← hTB]
        unfold tb0
        have es : sumQ row ls up.length = sumQ row ls N := by rw [← hN]; exact (sumQ_ge hrl _).symm
        rw [q1_snoc hxb, List.take_add_one, hrow, List.range_succ, ← es]
        simp
      rw [eT]
      refine ⟨X245, fin, own_box (own_box OB241 hg3 lt1) hg4 lt1, ?_⟩
      have := own_box (own_box O241 hg3 lt1) hg4 lt1
      rw [show (H'.s.map hv ++ [hv (some xd, N, N)] : List Value) = (H'.s ++ [(some xd, N, N)]).map hv by simp] at this
      exact this
  exact Calls.mono main fun e w' q => q.imp (fun ⟨v, he, x, hv, q⟩ => ⟨x, by rw [he, hv]; rfl, q⟩) id
end Go.Proofs.Ytajpdnphamomjaa

/- The deferred call of Relax. -/




namespace Go.Proofs.Ytajpdnphamomjaa
open Go.RowKit Go.Q Go.Q.Num Go.V

theorem wpOpsS_store {P : Program} {ops : Array Oper} {Q : Exit → Act → List Frame → World → Prop} {i : Nat} {rest : List Nat} {a : Act} {cs : List Frame} {w w1 : World} {t ty : TypeId} {x v : Operand} {ps : String} {af : Array Edge}
    (ho : ops[i]? = some ⟨none, .store t x v, ty, ps, af, none⟩) (hr : (Instr.storeAt t (a.eval x) (a.eval v)).run P w = .ok () w1) (h : wpOpsS P ops Q rest a cs w1) : wpOpsS P ops Q (i :: rest) a cs w := by
  have he : (execOp a.eval ⟨none, .store t x v, ty, ps, af, none⟩).run P w = .ok .skip w1 := by
    simp only [execOp, Sem.run_bind, hr, Result.andThen_ok, Sem.run_pure]
  simp only [wpOpsS, ho, Region.wanted, if_true, he, Oper.upon, Act.put]
  exact h
theorem rlxIdle (p q r : Addr) (w : World) :
    CallsD Try.prog 116 #[.pointer (some p), .pointer (some q), .pointer (some r)] .returning w fun e u w' => (∃ v, e = .returned v) ∧ u = .returning ∧ w' = w := by
  refine callsD_of_wpS Try.func116 rfl fun c₀ cs hu => ?_
  apply wpS_seq
  apply wpS_region
  simp [wpOpsS, go_sem, recoverD, hu, Try.ntmps116, Exit.thenS]
  refine wpS_of_wp ?_
  go_wp2
  cases c₀
  simp_all [bodyPostS, results, Try.results116]
set_option maxRecDepth 4000 in
theorem rlxCatch (p q r : Addr) (a b c : Value) (w : World) (X : Box w p [a]) (Y : Box w q [b]) (Z : Box w r [c]) (hpq : p.block ≠ q.block) (hpr : p.block ≠ r.block) (hqr : q.block ≠ r.block) {K : World → Prop}
    (hK : ∀ w', Box w' p [.slice none 0 0] → Box w' q [.slice none 0 0] → Box w' r [.int .i64 8] → Xb (fun k => k = p.block ∨ k = q.block ∨ k = r.block) w w' → K w') :
    CallsD Try.prog 116 #[.pointer (some p), .pointer (some q), .pointer (some r)] (.panicking [{ v := failV, recovered := false }]) w fun e u w' => (∃ v, e = .returned v) ∧ settle u = .returning ∧ K w' := by
  obtain ⟨w1, r1, X1, g1⟩ : wu Try.prog (Instr.storeAt 33 (.pointer (some p)) (.slice none 0 0)) w fun w' => Box w' p [.slice none 0 0] ∧ w.grownBy w' (some p.block) := wu_box X (by kernel_rfl) (Nat.le_refl 1) rfl fun w' X' hg _ => ⟨X', hg⟩
  have Y1 := Y.grown g1 (by intro e; injection e with e; exact hpq e.symm)
  have Z1 := Z.grown g1 (by intro e; injection e with e; exact hpr e.symm)
  obtain ⟨w2, r2, Y2, g2⟩ : wu Try.prog (Instr.storeAt 33 (.pointer (some q)) (.slice none 0 0)) w1 fun w' => Box w' q [.slice none 0 0] ∧ w1.grownBy w' (some q.block) := wu_box Y1 (by kernel_rfl) (Nat.le_refl 1) rfl fun w' X' hg _ => ⟨X', hg⟩
  have X2 := X1.grown g2 (by intro e; injection e with e; exact hpq e)
  have Z2 := Z1.grown g2 (by intro e; injection e with e; exact hqr e.symm)
  obtain ⟨w3, r3, Z3, g3⟩ : wu Try.prog (Instr.storeAt 28 (.pointer (some r)) (.int .i64 8)) w2 fun w' => Box w' r [.int .i64 8] ∧ w2.grownBy w' (some r.block) := wu_box Z2 (by kernel_rfl) (Nat.le_refl 1) rfl fun w' X' hg _ => ⟨X', hg⟩
  have X3 := X2.grown g3 (by intro e; injection e with e; exact hpr e)
  have Y3 := Y2.grown g3 (by intro e; injection e with e; exact hqr e)
  have fin := hK w3 X3 Y3 Z3 (((Xb.of g1 fun k e => .inl (by injection e with e; exact e.symm)).trans (Xb.of g2 fun k e => .inr (.inl (by injection e with e; exact e.symm)))).trans (Xb.of g3 fun k e => .inr (.inr (by injection e with e; exact e.symm))))
  have ta : ∀ w : World, (Instr.typeAssert failV 20 133 false).run Try.prog w = .ok (.agg #[]) w := by
    intro w
    have hu : Try.prog.underlying 133 = some (.struct #[]) := by kernel_rfl
    simp [Instr.typeAssert, Sem.run_bind, run_underlying hu, Sem.run_pure]
  refine callsD_of_wpS Try.func116 rfl fun c₀ cs hu => ?_
  apply wpS_seq
  apply wpS_region
  simp [wpOpsS, go_sem, recoverD, hu, Try.ntmps116, Exit.thenS]
  apply wpS_seq
  apply wpS_region
  simp [wpOpsS, go_sem, Exit.thenS]
  refine wpS_cond (t := true) (by simp [Act.eval, Array.replicate]) ?_
  simp only [if_true]
  apply wpS_seq
  apply wpS_region
  simp [wpOpsS, go_sem, Exit.thenS, ta]
  apply wpS_region
  refine wpOpsS_store (w1 := w1) rfl r1 ?_
  refine wpOpsS_store (w1 := w2) rfl r2 ?_
  refine wpOpsS_store (w1 := w3) rfl r3 ?_
  cases c₀
  simp_all [wpOpsS, bodyPostS, results, Try.results116, settle]
end Go.Proofs.Ytajpdnphamomjaa

/- The move of a tableau: the walk. -/

namespace Go.Proofs.Ytajpdnphamomjaa
open Go.RowKit Go.Q Go.Q.Num Go.V

set_option maxHeartbeats 6400000 in
theorem moveF {w : World} {t : Addr} {H : TH} {p : Int} {T : Tb} {N M : Nat} (A : TabAt w t H p T) (ok : TbOk N M T) {row k : Nat} {to : Rat} (hr : row < M) (hk : k < N) (hc : T.a row k ≠ 0) (hto : Fits to) :
    callP Try.prog (PnX (¬ MvFit N M T row k to) (t.block + 1) w) 121 [.pointer (some t), .int .i64 (row : Int), .int .i64 (k : Int), fracv to.num to.den] (.many []) w (fun _ w' => TabAt w' t H p (T.move row k to) ∧ TbOk N M (T.move row k to) ∧ Xa (t.block + 1) w w') := by
  have main : Calls Try.prog 121 #[.pointer (some t), .int .i64 (row : Int), .int .i64 (k : Int), fracv to.num to.den] w (retP (fun v w' => v = .tuple #[] ∧ TabAt w' t H p (T.move row k to) ∧ TbOk N M (T.move row k to) ∧ Xa (t.block + 1) w w') (some (PnX (¬ MvFit N M T row k to) (t.block + 1) w))) := by
    refine S121_calls (some t) (row : Int) (k : Int) to.num ((to.den : Nat) : Int) w _ _ ?_
    generalize hPn : PnX (¬ MvFit N M T row k to) (t.block + 1) w = Pn
    have pn : ∀ {A' : Prop} {w1 w2 : World}, (MvFit N M T row k to → ¬ A') → Xa (t.block + 1) w w1 → bel w1 w2 → ∀ ch w', PnF A' w2 ch w' → Pn ch w' := by
      intro A' w1 w2 hA hx hb ch w' q
      rw [← hPn]
      exact PnX.of (fun a mf => hA mf a) hx hb ch w' q
    have hbl := A.bl ok
    have hrl := A.rl ok
    have hM := ok.sM
    have hN := ok.sN
    have hS := A.hb
    have hbr := ok.b_lt hr
    unfold S121
    refine wr_box fun x1 w2 X1 h2 hx1 _ => ?_
    replace X1 : Box w2 x1 (encQ to) := X1
    have A2 := A.up h2
    refine A2.bas_at ok rfl hr ?_
    refine drw_mk fun w7 h7 _ => ?_
    have A7 := A2.up h7
    have X7 := X1.up h7
    have b7 := h2.trans h7
    refine flEx_mk (fun i _ v w' => (i = 8 → v = fracv (to + -(T.v (T.b row))).num (to + -(T.v (T.b row))).den ∧ Fits (to + -(T.v (T.b row)))) ∧ (i = 19 → v = tupv (fitT (T.by row k to))) ∧
      (i = 22 → v = fracv (T.by row k to).num (T.by row k to).den ∧ Fits (T.by row k to)) ∧ (i = 23 → ∃ ad, v = .pointer (some ad) ∧ Box w' ad (encQ 0 |>.map fun _ => Value.int .i64 0) ∧ w7.heap.size ≤ ad.block))
      (fun _ _ _ _ _ q hb => ⟨q.1, q.2.1, q.2.2.1, fun e => by obtain ⟨ad, h1, h2, h3⟩ := q.2.2.2 e; exact ⟨ad, h1, h2.up hb, h3⟩⟩) ?_
    refine rd_boxN X7 (by kernel_rfl) rfl ?_
    refine A7.val_at ok rfl hbr ?_
    refine flc_mk (fun w14 h14 _ => ?_) fun x18 => ?_
    · refine callP_mono (lSub w14 hto (ok.v_fit hbr)) (fun x w17 q => ⟨q.2.2, ⟨fun _ => ⟨by rw [q.1]; rfl, q.2.1⟩, fun e => absurd e (by decide), fun e => absurd e (by decide), fun e => absurd e (by decide)⟩⟩) (pn (fun mf q => q mf.f1) (bel_xa b7 _) h14)
    refine A7.el_at ok rfl hr rfl hk ?_
    refine flc_mk (fun w25 h25 q => ?_) fun x29 => ?_
    · obtain ⟨e18, f18⟩ := q.1.1 rfl
      have e18 := agg_qv e18
      subst e18
      refine callP_of (call_mono (lDiv w25 f18 (ok.a_fit hr hk) (fun q => hc (Rat.num_eq_zero.1 q))) fun x w28 q => ⟨q.2, ⟨fun e => absurd e (by decide), fun _ => by rw [q.1]; rfl, fun e => absurd e (by decide), fun e => absurd e (by decide)⟩⟩)
    refine flc_mk (fun w30 h30 q => ?_) fun x34 => ?_
    · have e29 := tup_eq (q.1.2.1 rfl)
      refine callP_mono (must_fit e29 (bel.refl w30)) (fun x w33 q => ⟨q.2.2, ⟨fun e => absurd e (by decide), fun e => absurd e (by decide), fun _ => ⟨by rw [q.1]; rfl, q.2.1⟩, fun e => absurd e (by decide)⟩⟩) (pn (fun mf q => q mf.f2) (bel_xa b7 _) h30)
    refine flc_mk (fun w35 h35 _ => ?_) fun x39 => ?_
    · refine wr_alloc (z := fracv 0 0) (by kernel_rfl) fun ad w38 Z hz hz2 _ => ?_
      exact ⟨hz, fun e => absurd e (by decide), fun e => absurd e (by decide), fun e => absurd e (by decide), fun _ => ⟨ad, rfl, Z, by have := h35.size; omega⟩⟩
    refine flend_mk fun w40 h40 q => ?_
    obtain ⟨e23, e22, _⟩ := q
    obtain ⟨ad, e39, Z39, h39⟩ := e23.2.2.2 rfl
    obtain ⟨e34, f34⟩ := e22.2.2.1 rfl
    have e34 := agg_qv e34
    subst e34
    have e39 : x39 = ad := by injection e39 with e; injection e with e
    subst e39
    have n39 : x1.block < x39.block := by have := X7.lt; omega
    replace h39 : w.heap.size ≤ x39.block := by have := b7.size; omega
    refine wu_box Z39 (by kernel_rfl) (Nat.le_refl 2) rfl fun w42 X42 g42 _ => ?_
    replace X42 : Box w42 x39 (encQ (T.by row k to)) := X42
    have b42 : bel w w42 := (b7.trans h40).grownAt g42 h39
    have A42 := A.up b42
    have X1' : Box w42 x1 (encQ to) := (X7.up h40).grown g42 (by intro e; injection e with e; omega)
    refine drw_mk fun w43 h43 _ => ?_
    have A43 := A42.up h43
    have b43 := b42.trans h43
    refine flEx_mk (fun _ _ v _ => v = fracv (T.v k + T.by row k to).num (T.v k + T.by row k to).den ∧ Fits (T.v k + T.by row k to)) (fun _ _ _ _ _ q _ => q) ?_
    refine nn_mk rfl (rd_box (by kernel_rfl) A43.box rfl rfl ?_)
    refine nn_mk rfl (rd_box (by kernel_rfl) A43.box rfl rfl ?_)
    refine rd_boxN (X1'.up h43) (by kernel_rfl) rfl ?_
    refine A43.val_at ok rfl hk ?_
    refine rd_boxN (X42.up h43) (by kernel_rfl) rfl ?_
    refine flc_mk (fun w55 h55 _ => ?_) fun x59 => ?_
    · exact callP_mono (lAdd w55 (ok.v_fit hk) f34) (fun x w58 q => ⟨q.2.2, by rw [q.1]; rfl, q.2.1⟩) (pn (fun mf q => q mf.f3) (bel_xa b43 _) h55)
    refine flend_mk fun w60 h60 q => ?_
    obtain ⟨⟨e59, f59⟩, _⟩ := q
    have e59 := agg_qv e59
    subst e59
    have b60 := b43.trans h60
    have A60 := A43.up h60
    have X60 : Box w60 x39 (encQ (T.by row k to)) := (X42.up h43).up h60
    refine A60.setV ok hS rfl hbr to fun w63 A63 g63 k63 => ?_
    have X63 := k63 _ _ h39 X60
    have ok63 := ok.setV (j := T.b row) hto
    refine A63.setV ok63 hS rfl hk (T.v k + T.by row k to) fun w65 A65 g65 k65 => ?_
    have X65 := k65 _ _ h39 X63
    have ok65 := ok63.setV (j := k) f59
    have x65 : Xa (t.block + 1) w w65 := ((bel_xa b60 _).trans g63).trans g65
    clear A2 A7 A42 A43 A60 A63 X7 X1 X1' X42 X60 X63 g63 g65 k63 k65 b60 b43 b42 ok63 h40 h60 h43 g42 Z39 e23 e22 b7 h7 h2
    -- the values of the basic variables
    refine nn_mk rfl (rd_box (by kernel_rfl) A65.box rfl rfl ?_)
    refine loop_up M (fun i w' => TabAt w' t H p { T with val := T.vN row k to i } ∧ TbOk N M { T with val := T.vN row k to i } ∧ Xa (t.block + 1) w w' ∧ Box w' x39 (encQ (T.by row k to))) ⟨A65, ok65, x65, X65⟩ ?_
    rintro i w70 hi ⟨A70, ok70, x70, X70⟩ again hag _
    refine br_dec (fun hlt => ?_) (fun hge => ?_)
    · have hiM : i < M := by dsimp only at hlt; rw [hbl] at hlt; omega
      have hbi := ok.b_lt hiM
      refine join_mk (fun _ w' => TabAt w' t H p { T with val := T.vN row k to (i + 1) } ∧ TbOk N M { T with val := T.vN row k to (i + 1) } ∧ Xa (t.block + 1) w w' ∧ Box w' x39 (encQ (T.by row k to))) (fun K71 hK => ?_) (fun x w2 q => ?_)
      case refine_2 =>
        intro _
        refine z_eq (by exact IntWalk.i64_in _ ⟨by dsimp only; omega, by dsimp only; omega⟩) ?_
        exact hag _ hiM q
      refine at_int tyInts (by kernel_rfl) A70.bs.sl rfl (by rw [hbl]; exact hiM) fun x hx => ?_
      have hx : x = (T.b i : Nat) := by rw [List.getElem?_map, ok.bas_get hiM] at hx; cases hx; rfl
      subst hx
      refine A70.el_at ok70 rfl hiM rfl hk ?_
      refine boxF fun x83 w85 h85 X83 h83 => ?_
      have A85 := A70.up h85
      have X85 := X70.up h85
      have x85 := x70.trans (bel_xa h85 _)
      have no : ¬ (i ≠ row ∧ T.a i k ≠ 0) → K71 () w85 := fun q => by
        have e : T.vN row k to (i + 1) = T.vN row k to i := by rw [Tb.vN]; exact if_neg q
        exact hK _ _ ⟨by rw [e]; exact A85, by rw [e]; exact ok70, x85, X85⟩
      refine br_ne (fun hir => ?_) (fun hir => ?_)
      case refine_2 => exact no fun q => q.1 (by dsimp only at hir; omega)
      have hir' : i ≠ row := fun e => hir (by rw [e])
      refine rd_box0 (by kernel_rfl) X83 rfl rfl ?_
      refine br_ne (fun h0 => ?_) (fun h0 => ?_)
      case refine_2 => exact no fun q => q.2 (Rat.num_eq_zero.1 h0)
      have ha0 : T.a i k ≠ 0 := fun q => h0 (Rat.num_eq_zero.2 q)
      refine drw_mk fun w87 h87 _ => ?_
      have A87 := A85.up h87
      have x87 := x85.trans (bel_xa h87 _)
      refine flEx_mk (fun q _ v _ => (q = 14 → v = fracv (T.a i k * T.by row k to).num (T.a i k * T.by row k to).den ∧ Fits (T.a i k * T.by row k to)) ∧
        (q = 15 → v = fracv ((T.vN row k to i).getD (T.b i) 0 + T.a i k * T.by row k to).num ((T.vN row k to i).getD (T.b i) 0 + T.a i k * T.by row k to).den ∧ Fits ((T.vN row k to i).getD (T.b i) 0 + T.a i k * T.by row k to))) (fun _ _ _ _ _ q _ => q) ?_
      refine nn_mk rfl (rd_box (by kernel_rfl) A87.box rfl rfl ?_)
      refine A87.val_at ok70 rfl hbi ?_
      refine rd_boxN (X83.up h87) (by kernel_rfl) rfl ?_
      refine rd_boxN (X85.up h87) (by kernel_rfl) rfl ?_
      refine flc_mk (fun w97 h97 _ => ?_) fun x101 => ?_
      · exact callP_mono (lMul w97 (ok.a_fit hiM hk) f34) (fun x w58 q => ⟨q.2.2, ⟨fun _ => ⟨by rw [q.1]; rfl, q.2.1⟩, fun e => absurd e (by decide)⟩⟩) (pn (fun mf q => q (mf.f4 i hiM hir' ha0).1) x87 h97)
      refine flc_mk (fun w102 h102 q => ?_) fun x106 => ?_
      · obtain ⟨e1, f1⟩ := q.1.1 rfl
        have e1 := agg_qv e1
        subst e1
        exact callP_mono (lAdd w102 (ok70.v_fit hbi) f1) (fun x w58 q => ⟨q.2.2, ⟨fun e => absurd e (by decide), fun _ => ⟨by rw [q.1]; rfl, q.2.1⟩⟩⟩) (pn (fun mf q => q (mf.f4 i hiM hir' ha0).2) x87 h102)
      refine flend_mk fun w107 h107 q => ?_
      obtain ⟨e1, f1⟩ := q.1.2 rfl
      have e1 := agg_qv e1
      subst e1
      have A107 := A87.up h107
      refine A107.setV ok70 hS rfl hbi _ fun w110 A110 g110 k110 => ?_
      have e : T.vN row k to (i + 1) = (T.vN row k to i).set (T.b i) ((T.vN row k to i).getD (T.b i) 0 + T.a i k * T.by row k to) := by rw [Tb.vN]; exact if_pos ⟨hir', ha0⟩
      refine hK _ _ ⟨by rw [e]; exact A110, by rw [e]; exact ok70.setV (j := T.b i) f1, (x87.trans (bel_xa h107 _)).trans g110, k110 _ _ h39 ((X85.up h87).up h107)⟩
    have hiM : i = M := by dsimp only at hge; rw [hbl] at hge; omega
    rw [hiM] at A70 ok70
    clear hag hge hi hiM again
    have hlb := ok.lb
    have hlr := ok.lr
    -- the row is turned about
    refine A70.el_at ok70 rfl hr rfl hk ?_
    refine boxF fun x117 w119 h119 X119 hx117 => ?_
    have A119 := A70.up h119
    have x119 := x70.trans (bel_xa h119 _)
    have n117 : w.heap.size ≤ x117.block := by have := x70.size; omega
    replace X119 : Box w119 x117 (encQ (T.a row k)) := X119
    refine A119.row_at ok70 rfl hr fun g hg O119 => ?_
    have hgl : g.2.1 = N := by have := slQ_len O119.sl; rw [show ({ T with val := T.vN row k to M } : Tb).rows.getD row [] = T.rows.getD row [] from rfl, ok.row_len hr] at this; exact this.symm
    refine loop_up N (fun j w' => TabAt w' t H p { T with val := T.vN row k to M, rows := T.rows.set row (divN (T.rows.getD row []) (T.a row k) j) } ∧ TbOk N M { T with val := T.vN row k to M, rows := T.rows.set row (divN (T.rows.getD row []) (T.a row k) j) } ∧ Xa (t.block + 1) w w' ∧ Box w' x117 (encQ (T.a row k)))
      ⟨by rw [show divN (T.rows.getD row []) (T.a row k) 0 = T.rows.getD row [] from rfl, set_self (by rw [hlr]; exact hr)]; exact A119, by rw [show divN (T.rows.getD row []) (T.a row k) 0 = T.rows.getD row [] from rfl, set_self (by rw [hlr]; exact hr)]; exact ok70, x119, X119⟩ ?_
    rintro j w126 hj ⟨A126, ok126, x126, X126⟩ again hag _
    refine br_dec (fun hlt => ?_) (fun hge => ?_)
    · have hjN : j < N := by dsimp only at hlt; rw [hgl] at hlt; omega
      refine join_mk (fun _ w' => TabAt w' t H p { T with val := T.vN row k to M, rows := T.rows.set row (divN (T.rows.getD row []) (T.a row k) (j + 1)) } ∧ TbOk N M { T with val := T.vN row k to M, rows := T.rows.set row (divN (T.rows.getD row []) (T.a row k) (j + 1)) } ∧ Xa (t.block + 1) w w' ∧ Box w' x117 (encQ (T.a row k))) (fun K127 hK => ?_) (fun x w2 q => ?_)
      case refine_2 =>
        intro _
        refine z_eq (by exact IntWalk.i64_in _ ⟨by dsimp only; omega, by dsimp only; omega⟩) ?_
        exact hag _ hjN q
      have eD : (T.rows.set row (divN (T.rows.getD row []) (T.a row k) j)).getD row [] = divN (T.rows.getD row []) (T.a row k) j := getD_set (by rw [hlr]; exact hr)
      have hel : (divN (T.rows.getD row []) (T.a row k) j)[j]? = some (T.a row j) := by rw [divN_get _ _ j j (Nat.le_refl _)]; exact ok.el_get hr hjN
      have hrj : (T.rows.getD row []).getD j 0 = T.a row j := rfl
      have O126 := A126.own_at ok126 hg hr
      rw [show ({ T with val := T.vN row k to M, rows := T.rows.set row (divN (T.rows.getD row []) (T.a row k) j) } : Tb).rows.getD row [] = _ from eD] at O126
      refine atQ O126.sl rfl hel ?_
      refine boxF fun x133 w135 h135 X133 hx133 => ?_
      have A135 := A126.up h135
      have x135 := x126.trans (bel_xa h135 _)
      refine rd_box0 (by kernel_rfl) X133 rfl rfl ?_
      refine br_ne (fun h0 => ?_) (fun h0 => ?_)
      case refine_2 =>
        have e : divN (T.rows.getD row []) (T.a row k) (j + 1) = divN (T.rows.getD row []) (T.a row k) j := by rw [divN, hrj]; exact if_neg fun q => q (Rat.num_eq_zero.1 h0)
        exact hK _ _ ⟨by rw [e]; exact A135, by rw [e]; exact ok126, x135, X126.up h135⟩
      have ha0 : T.a row j ≠ 0 := fun q => h0 (Rat.num_eq_zero.2 q)
      refine drw_mk fun w137 h137 _ => ?_
      have A137 := A135.up h137
      have x137 := x135.trans (bel_xa h137 _)
      refine flEx_mk (fun q _ v _ => (q = 8 → v = fracv (0 : Rat).num (0 : Rat).den) ∧ (q = 11 → v = tupv (fitT (T.a row j / T.a row k))) ∧ (q = 14 → v = fracv (T.a row j / T.a row k).num (T.a row j / T.a row k).den ∧ Fits (T.a row j / T.a row k)) ∧
        (q = 15 → v = fracv (0 + -(T.a row j / T.a row k)).num (0 + -(T.a row j / T.a row k)).den ∧ Fits (0 + -(T.a row j / T.a row k)))) (fun _ _ _ _ _ q _ => q) ?_
      refine A137.row_at ok126 rfl hr fun g' hg' _ => ?_
      have hgg : g' = g := by rw [hg] at hg'; cases hg'; rfl
      subst hgg
      refine flc_mk (fun w143 h143 _ => ?_) fun x147 => ?_
      · exact callP_of (call_mono (lWhole 0 w143) fun x w' q => ⟨q.2, ⟨fun _ => by rw [q.1]; rfl, fun e => absurd e (by decide), fun e => absurd e (by decide), fun e => absurd e (by decide)⟩⟩)
      refine rd_boxN (X133.up h137) (by kernel_rfl) rfl ?_
      refine rd_boxN ((X126.up h135).up h137) (by kernel_rfl) rfl ?_
      refine flc_mk (fun w150 h150 _ => ?_) fun x154 => ?_
      · exact callP_of (call_mono (lDiv w150 (ok.a_fit hr hjN) (ok.a_fit hr hk) (fun q => hc (Rat.num_eq_zero.1 q))) fun x w28 q => ⟨q.2, ⟨fun e => absurd e (by decide), fun _ => by rw [q.1], fun e => absurd e (by decide), fun e => absurd e (by decide)⟩⟩)
      refine flc_mk (fun w155 h155 q => ?_) fun x159 => ?_
      · have e154 := tup_eq (q.1.2.1 rfl)
        exact callP_mono (must_fit e154 (bel.refl w155)) (fun x w33 q => ⟨q.2.2, ⟨fun e => absurd e (by decide), fun e => absurd e (by decide), fun _ => ⟨by rw [q.1]; rfl, q.2.1⟩, fun e => absurd e (by decide)⟩⟩) (pn (fun mf q => q (mf.f5 j hjN ha0).1) x137 h155)
      refine flc_mk (fun w160 h160 q => ?_) fun x164 => ?_
      · have e147 := agg_qv (q.2.2.1.1 rfl)
        obtain ⟨e159, f159⟩ := q.1.2.2.1 rfl
        have e159 := agg_qv e159
        subst e147 e159
        exact callP_mono (lSub w160 (fits_of_int (n := 0) ⟨by omega, by omega⟩) f159) (fun x w33 q => ⟨q.2.2, ⟨fun e => absurd e (by decide), fun e => absurd e (by decide), fun e => absurd e (by decide), fun _ => ⟨by rw [q.1]; rfl, q.2.1⟩⟩⟩) (pn (fun mf q => q (mf.f5 j hjN ha0).2) x137 h160)
      refine flend_mk fun w165 h165 q => ?_
      obtain ⟨e164, f164⟩ := q.1.2.2.2 rfl
      have e164 := agg_qv e164
      subst e164
      have A165 := A137.up h165
      refine A165.setR ok126 hS hg hr rfl hjN _ fun w168 A168 g168 k168 => ?_
      have ok168 := ok126.setR (q := row) (j := j) hr f164
      have e : T.rows.set row (divN (T.rows.getD row []) (T.a row k) (j + 1)) = (T.rows.set row (divN (T.rows.getD row []) (T.a row k) j)).set row (((T.rows.set row (divN (T.rows.getD row []) (T.a row k) j)).getD row []).set j (0 + -(T.a row j / T.a row k))) := by
        rw [set_twice (by rw [hlr]; exact hr), divN, hrj, if_pos ha0]
      exact hK _ _ ⟨by rw [e]; exact A168, by rw [e]; exact ok168, (x137.trans (bel_xa h165 _)).trans g168, k168 _ _ n117 (((X126.up h135).up h137).up h165)⟩
    have hjN : j = N := by dsimp only at hge; rw [hgl] at hge; omega
    rw [hjN] at A126 ok126
    clear hag hge hj hjN again
    -- the rest of the row, and the basic variable
    refine drw_mk fun w169 h169 _ => ?_
    have A169 := A126.up h169
    have x169 := x126.trans (bel_xa h169 _)
    refine flEx_mk (fun q _ v _ => (q = 16 → v = fracv (0 : Rat).num (0 : Rat).den) ∧ (q = 17 → v = fracv (1 : Rat).num (1 : Rat).den) ∧ (q = 19 → v = tupv (fitT (1 / T.a row k))) ∧ (q = 22 → v = fracv (1 / T.a row k).num (1 / T.a row k).den ∧ Fits (1 / T.a row k)))
      (fun _ _ _ _ _ q _ => q) ?_
    refine A169.row_at ok126 rfl hr fun g1 hg1 _ => ?_
    have hgg : g1 = g := by rw [hg] at hg1; cases hg1; rfl
    subst hgg
    refine A169.row_at ok126 rfl hr fun g2 hg2 _ => ?_
    have hgg : g2 = g1 := by rw [hg] at hg2; cases hg2; rfl
    subst hgg
    refine flc_mk (fun w179 h179 _ => ?_) fun x183 => ?_
    · exact callP_of (call_mono (lWhole 0 w179) fun x w' q => ⟨q.2, ⟨fun _ => by rw [q.1]; rfl, fun e => absurd e (by decide), fun e => absurd e (by decide), fun e => absurd e (by decide)⟩⟩)
    refine flc_mk (fun w184 h184 _ => ?_) fun x188 => ?_
    · exact callP_of (call_mono (lWhole 1 w184) fun x w' q => ⟨q.2, ⟨fun e => absurd e (by decide), fun _ => by rw [q.1]; rfl, fun e => absurd e (by decide), fun e => absurd e (by decide)⟩⟩)
    refine rd_boxN (X126.up h169) (by kernel_rfl) rfl ?_
    refine flc_mk (fun w190 h190 q => ?_) fun x194 => ?_
    · have e188 := agg_qv (q.1.2.1 rfl)
      subst e188
      exact callP_of (call_mono (lDiv (r := 1) w190 (fits_of_int (n := 1) ⟨by omega, by omega⟩) (ok.a_fit hr hk) (fun q => hc (Rat.num_eq_zero.1 q))) fun x w28 q => ⟨q.2, ⟨fun e => absurd e (by decide), fun e => absurd e (by decide), fun _ => by rw [q.1], fun e => absurd e (by decide)⟩⟩)
    refine flc_mk (fun w195 h195 q => ?_) fun x199 => ?_
    · have e194 := tup_eq (q.1.2.2.1 rfl)
      exact callP_mono (must_fit e194 (bel.refl w195)) (fun x w33 q => ⟨q.2.2, ⟨fun e => absurd e (by decide), fun e => absurd e (by decide), fun e => absurd e (by decide), fun _ => ⟨by rw [q.1]; rfl, q.2.1⟩⟩⟩) (pn (fun mf q => q mf.f6) x169 h195)
    refine flend_mk fun w200 h200 q => ?_
    have e183 := agg_qv (q.2.2.2.1.1 rfl)
    obtain ⟨e199, f199⟩ := q.1.2.2.2 rfl
    have e199 := agg_qv e199
    subst e183 e199
    have A200 := A169.up h200
    have f0 : Fits (0 : Rat) := fits_of_int (n := 0) ⟨by omega, by omega⟩
    have x200 := x169.trans (bel_xa h200 _)
    have hrl' : row < T.rows.length := by rw [hlr]; exact hr
    refine A200.setR ok126 hS hg hr rfl hk _ fun w203 A203 g203 _ => ?_
    have ok203 := ok126.setR (q := row) (j := k) hr f0
    dsimp only at A203 ok203
    rw [set_twice hrl'] at A203 ok203
    refine A203.setR ok203 hS hg hr rfl hbr _ fun w205 A205 g205 _ => ?_
    have ok205 := ok203.setR (q := row) (j := T.b row) hr f199
    dsimp only at A205 ok205
    rw [set_twice hrl'] at A205 ok205
    have enr : ((divN (T.rows.getD row []) (T.a row k) N).set k 0).set (T.b row) (1 / T.a row k) = T.nr row k := by unfold Tb.nr; rw [ok.row_len hr]
    rw [enr] at A205 ok205
    refine nn_mk rfl (rd_box (by kernel_rfl) A205.box rfl rfl ?_)
    refine A205.setB ok205 hS rfl hr (k := k) fun w209 A209 g209 _ => ?_
    have ok209 := ok205.setB (j := row) hk
    dsimp only at A209 ok209
    have x209 := ((x200.trans g203).trans g205).trans g209
    have hnl : (T.nr row k).length = N := by rw [nr_len, ok.row_len hr]
    clear A200 A203 A205 ok203 ok205 g203 g205 g209 A169 A126 ok126 x126 x169 x200 X126 A119 X119 O119 x119 A70 ok70 X70 x70 A65 ok65 x65 X65 q
    -- the other rows
    refine nn_mk rfl (rd_box (by kernel_rfl) A209.box rfl rfl ?_)
    refine loop_up M (fun i w' => TabAt w' t H p { T with val := T.vN row k to M, bas := T.bas.set row k, rows := T.rN row k i } ∧ TbOk N M { T with val := T.vN row k to M, bas := T.bas.set row k, rows := T.rN row k i } ∧ Xa (t.block + 1) w w') ⟨A209, ok209, x209⟩ ?_
    rintro i w214 hi ⟨A214, ok214, x214⟩ again hag _
    refine br_dec (fun hlt => ?_) (fun hge => ?_)
    case refine_2 =>
      have hiM : i = M := by dsimp only at hge; rw [hrl] at hge; omega
      rw [hiM] at A214 ok214
      refine ⟨rfl, ?_, ?_, x214⟩
      · unfold Tb.move; rw [hlb, hlr]; exact A214
      · unfold Tb.move; rw [hlb, hlr]; exact ok214
    have hiM : i < M := by dsimp only at hlt; rw [hrl] at hlt; omega
    refine join_mk (fun _ w' => TabAt w' t H p { T with val := T.vN row k to M, bas := T.bas.set row k, rows := T.rN row k (i + 1) } ∧ TbOk N M { T with val := T.vN row k to M, bas := T.bas.set row k, rows := T.rN row k (i + 1) } ∧ Xa (t.block + 1) w w') (fun K215 hK => ?_) (fun x w2 q => ?_)
    case refine_2 =>
      intro _
      refine z_eq (by exact IntWalk.i64_in _ ⟨by dsimp only; omega, by dsimp only; omega⟩) ?_
      exact hag _ hiM q
    obtain ⟨gi, hgi, Oi⟩ := A214.hs_get ok214 hiM
    refine at_hdr tyFracTab (by kernel_rfl) A214.rs.sl rfl (by rw [hrl]; exact hiM) fun x hx => ?_
    have hx : x = gi := by rw [hgi] at hx; cases hx; rfl
    subst hx
    refine atQ Oi.sl rfl (ok214.el_get hiM hk) ?_
    refine boxF fun x223 w225 h225 X223 hx223 => ?_
    have A225 := A214.up h225
    have x225 := x214.trans (bel_xa h225 _)
    have n223 : w.heap.size ≤ x223.block := by have := x214.size; omega
    have no : ¬ (i ≠ row ∧ T.a i k ≠ 0) → K215 () w225 := fun q => by
      have e : T.rN row k (i + 1) = T.rN row k i := by rw [Tb.rN]; exact if_neg q
      exact hK _ _ ⟨by rw [e]; exact A225, by rw [e]; exact ok214, x225⟩
    refine br_eq (fun hir => ?_) (fun hir => ?_)
    · exact no fun q => q.1 (by dsimp only at hir; omega)
    have hir' : i ≠ row := fun e => hir (by rw [e])
    have hri : (T.rN row k i).getD i [] = T.rows.getD i [] := by
      rw [List.getD_eq_getElem?_getD, rN_get i i (Nat.le_refl _), List.getElem?_set_ne (fun e => hir' e.symm), List.getD_eq_getElem?_getD]
    have hai : ({ T with val := T.vN row k to M, bas := T.bas.set row k, rows := T.rN row k i } : Tb).a i k = T.a i k := by unfold Tb.a; dsimp only; rw [hri]
    rw [hai] at X223
    replace X223 : Box w225 x223 (encQ (T.a i k)) := X223
    refine rd_box0 (by kernel_rfl) X223 rfl rfl ?_
    refine br_eq (fun h0 => ?_) (fun h0 => ?_)
    · exact no fun q => q.2 (Rat.num_eq_zero.1 h0)
    have ha0 : T.a i k ≠ 0 := fun q => h0 (Rat.num_eq_zero.2 q)
    refine callP_of (call_mono (lWhole 0 w225) fun x227 w228 q => ?_)
    obtain ⟨e227, h228⟩ := q
    subst e227
    have A228 := A225.up h228
    have hil : i < (T.rN row k i).length := by rw [rN_len, hlr]; exact hiM
    refine A228.setR ok214 hS hgi hiM rfl hk (0 : Rat) fun w230 A230 g230 k230 => ?_
    have ok230 := ok214.setR (q := i) (j := k) hiM f0
    dsimp only at A230 ok230
    rw [hri] at A230 ok230
    have X230 := k230 _ _ n223 (X223.up h228)
    have x230 := (x225.trans (bel_xa h228 _)).trans g230
    have hrow : ∀ Y : List Rat, ((T.rN row k i).set i Y).getD row [] = T.nr row k := fun Y => by
      rw [getD_set_ne' hir', List.getD_eq_getElem?_getD, rN_row, List.getElem?_set_self hrl']; rfl
    refine A230.row_at ok230 rfl hr fun g' hg' O230 => ?_
    dsimp only at O230
    rw [hrow] at O230
    have hgl' : g'.2.1 = N := by have := slQ_len O230.sl; rw [hnl] at this; exact this.symm
    refine loop_up N (fun j w' => TabAt w' t H p { T with val := T.vN row k to M, bas := T.bas.set row k, rows := (T.rN row k i).set i (addN ((T.rows.getD i []).set k 0) (T.a i k) (T.nr row k) j) } ∧
      TbOk N M { T with val := T.vN row k to M, bas := T.bas.set row k, rows := (T.rN row k i).set i (addN ((T.rows.getD i []).set k 0) (T.a i k) (T.nr row k) j) } ∧ Xa (t.block + 1) w w' ∧ Box w' x223 (encQ (T.a i k))) ⟨A230, ok230, x230, X230⟩ ?_
    rintro j w237 hj ⟨A237, ok237, x237, X237⟩ again2 hag2 _
    refine br_dec (fun hlt2 => ?_) (fun hge2 => ?_)
    case refine_2 =>
      have hjN : j = N := by dsimp only at hge2; rw [hgl'] at hge2; omega
      rw [hjN] at A237 ok237
      have e : T.rN row k (i + 1) = (T.rN row k i).set i (addN ((T.rows.getD i []).set k 0) (T.a i k) (T.nr row k) N) := by rw [Tb.rN, if_pos ⟨hir', ha0⟩, hnl]
      exact hK _ _ ⟨by rw [e]; exact A237, by rw [e]; exact ok237, x237⟩
    have hjN : j < N := by dsimp only at hlt2; rw [hgl'] at hlt2; omega
    refine join_mk (fun _ w' => TabAt w' t H p { T with val := T.vN row k to M, bas := T.bas.set row k, rows := (T.rN row k i).set i (addN ((T.rows.getD i []).set k 0) (T.a i k) (T.nr row k) (j + 1)) } ∧
      TbOk N M { T with val := T.vN row k to M, bas := T.bas.set row k, rows := (T.rN row k i).set i (addN ((T.rows.getD i []).set k 0) (T.a i k) (T.nr row k) (j + 1)) } ∧ Xa (t.block + 1) w w' ∧ Box w' x223 (encQ (T.a i k))) (fun K238 hK2 => ?_) (fun x w2 q => ?_)
    case refine_2 =>
      intro _
      refine z_eq (by exact IntWalk.i64_in _ ⟨by dsimp only; omega, by dsimp only; omega⟩) ?_
      exact hag2 _ hjN q
    have O237 := A237.own_at ok237 hg' hr
    dsimp only at O237
    rw [hrow] at O237
    have hnj : (T.nr row k)[j]? = some ((T.nr row k).getD j 0) := by rw [List.getD_eq_getElem?_getD, List.getElem?_eq_getElem (by rw [hnl]; exact hjN)]; rfl
    have fnj : Fits ((T.nr row k).getD j 0) := by
      have h1 := ok237.row_get hr
      dsimp only at h1
      rw [hrow] at h1
      exact ok237.fr _ (mem_at h1) _ (mem_at hnj)
    refine atQ O237.sl rfl hnj ?_
    refine boxF fun x244 w246 h246 X244 hx244 => ?_
    have A246 := A237.up h246
    have x246 := x237.trans (bel_xa h246 _)
    refine rd_box0 (by kernel_rfl) X244 rfl rfl ?_
    refine br_ne (fun h0 => ?_) (fun h0 => ?_)
    case refine_2 =>
      have e : addN ((T.rows.getD i []).set k 0) (T.a i k) (T.nr row k) (j + 1) = addN ((T.rows.getD i []).set k 0) (T.a i k) (T.nr row k) j := by rw [addN]; exact if_neg fun q => q (Rat.num_eq_zero.1 h0)
      exact hK2 _ _ ⟨by rw [e]; exact A246, by rw [e]; exact ok237, x246, X237.up h246⟩
    have hn0 : (T.nr row k).getD j 0 ≠ 0 := fun q => h0 (Rat.num_eq_zero.2 q)
    refine drw_mk fun w248 h248 _ => ?_
    have A248 := A246.up h248
    have x248 := x246.trans (bel_xa h248 _)
    refine flEx_mk (fun _ _ v _ => v = fracv (T.a i k * (T.nr row k).getD j 0).num (T.a i k * (T.nr row k).getD j 0).den ∧ Fits (T.a i k * (T.nr row k).getD j 0)) (fun _ _ _ _ _ q _ => q) ?_
    have eI : ((T.rN row k i).set i (addN ((T.rows.getD i []).set k 0) (T.a i k) (T.nr row k) j)).getD i [] = addN ((T.rows.getD i []).set k 0) (T.a i k) (T.nr row k) j := getD_set hil
    have O248 := A248.own_at ok237 hgi hiM
    dsimp only at O248
    rw [eI] at O248
    have hal : (addN ((T.rows.getD i []).set k 0) (T.a i k) (T.nr row k) j).length = N := by rw [addN_len, List.length_set, ok.row_len hiM]
    have haj : (addN ((T.rows.getD i []).set k 0) (T.a i k) (T.nr row k) j)[j]? = some ((addN ((T.rows.getD i []).set k 0) (T.a i k) (T.nr row k) j).getD j 0) := get_some (by rw [hal]; exact hjN)
    have faj : Fits ((addN ((T.rows.getD i []).set k 0) (T.a i k) (T.nr row k) j).getD j 0) := by
      have h1 := ok237.row_get hiM
      dsimp only at h1
      rw [eI] at h1
      exact ok237.fr _ (mem_at h1) _ (mem_at haj)
    refine atQ O248.sl rfl haj ?_
    refine rd_boxN ((X237.up h246).up h248) (by kernel_rfl) rfl ?_
    refine rd_boxN (X244.up h248) (by kernel_rfl) rfl ?_
    refine flc_mk (fun w254 h254 _ => ?_) fun x258 => ?_
    · exact callP_mono (lMul w254 (ok.a_fit hiM hk) fnj) (fun x w58 q => ⟨q.2.2, by rw [q.1]; rfl, q.2.1⟩) (pn (fun mf q => q (mf.f7 i hiM hir' ha0 j hjN hn0).1) x248 h254)
    refine flend_mk fun w259 h259 q => ?_
    obtain ⟨⟨e258, f258⟩, _⟩ := q
    have e258 := agg_qv e258
    subst e258
    refine callP_mono (lAdd w259 faj f258) (fun x261 w262 q => ?_) (pn (fun mf q => q (mf.f7 i hiM hir' ha0 j hjN hn0).2) x248 h259)
    obtain ⟨e261, f261, h262⟩ := q
    subst e261
    have A262 := (A248.up h259).up h262
    refine A262.setR ok237 hS hgi hiM rfl hjN _ fun w264 A264 g264 k264 => ?_
    have ok264 := ok237.setR (q := i) (j := j) hiM f261
    dsimp only at A264 ok264
    rw [set_twice hil] at A264 ok264
    have e : addN ((T.rows.getD i []).set k 0) (T.a i k) (T.nr row k) (j + 1) = (addN ((T.rows.getD i []).set k 0) (T.a i k) (T.nr row k) j).set j ((addN ((T.rows.getD i []).set k 0) (T.a i k) (T.nr row k) j).getD j 0 + T.a i k * (T.nr row k).getD j 0) := by rw [addN]; exact if_pos hn0
    exact hK2 _ _ ⟨by rw [e]; exact A264, by rw [e]; exact ok264, (x248.trans (bel_xa (h259.trans h262) _)).trans g264, k264 _ _ n223 ((((X237.up h246).up h248).up h259).up h262)⟩
  exact Calls.mono main fun e w' q => q.imp (fun ⟨v, he, hv, q⟩ => ⟨(), by rw [he, hv]; rfl, q⟩) id
end Go.Proofs.Ytajpdnphamomjaa

/- The conditions of functions, printed by our tool; each is checked against the code by the kernel. -/



namespace Go.Proofs
open Go Go.V Go.RowKit
def S94 (s_0a : Option Addr) (s_0n : Nat) (s_0c : Nat) (s_1a : Option Addr) (s_1n : Nat) (s_1c : Nat) (s_2a : Option Addr) (s_2n : Nat) (s_2c : Nat) (lower_a : Option Addr) (lower_n : Nat) (lower_c : Nat) (upper_a : Option Addr) (upper_n : Nat) (upper_c : Nat) (pivots_ : Int) (w0 : World) (R : Value → World → Prop) : Prop :=
 wr Try.prog (Instr.box 43 (.agg #[(.slice s_0a s_0n s_0c), (.slice s_1a s_1n s_1c), (.slice s_2a s_2n s_2c)])) (.one .addr) w0 fun (x1 : Addr) w2 =>
 wr Try.prog (Instr.alloc 33 true (.tuple #[])) (.one .addr) w2 fun (x3 : Addr) w4 =>
 wr Try.prog (Instr.alloc 33 true (.tuple #[])) (.one .addr) w4 fun (x5 : Addr) w6 =>
 wr Try.prog (Instr.alloc 28 true (.tuple #[])) (.one .addr) w6 fun (x7 : Addr) w8 =>
 dfr Try.prog 116 [(.pointer (some x3)), (.pointer (some x5)), (.pointer (some x7))] (fun (wd : World) =>
 rd Try.prog (loadVar 33 x3) (.one .slice) wd fun (x9 : Hd3) =>
 rd Try.prog (loadVar 33 x5) (.one .slice) wd fun (x10 : Hd3) =>
 rd Try.prog (loadVar 28 x7) (.one (.int .i64)) wd fun (x11 : Int) =>
 R (.tuple #[(.slice x9.1 x9.2.1 x9.2.2), (.slice x10.1 x10.2.1 x10.2.2), (.int .i64 x11)]) wd)
  fun (Pn : List PanicEntry → World → Prop) =>
 rd Try.prog (Instr.loadAt 40 (.pointer (some x1))) (.one .slice) w8 fun (x12 : Hd3) =>
 rd Try.prog (Instr.loadAt 43 (.pointer (some x1))) (.agg [.slice, .slice, .slice]) w8 fun (x13 : (Hd3 × Hd3 × Hd3 × Unit)) =>
 callP Try.prog Pn 117 [(.agg #[(.slice x13.1.1 x13.1.2.1 x13.1.2.2), (.slice x13.2.1.1 x13.2.1.2.1 x13.2.1.2.2), (.slice x13.2.2.1.1 x13.2.2.1.2.1 x13.2.2.1.2.2)]), (.slice lower_a lower_n lower_c), (.slice upper_a upper_n upper_c)] (.one (.one .ptr)) w8 fun (x14 : (Option Addr)) w15 =>
 loop (T := (Unit)) (()) w15 fun (again16 : (Unit) → World → Prop) (_s17 : (Unit)) w18 => ∀ _ : Nat → Value,
 join (T := (Unit)) (fun (_s20 : (Unit)) w21 => ∀ _ : Nat → Value,
 nn x14 fun (a22 : Addr) =>
 rd Try.prog (Instr.loadAt 3 (.pointer (some (Addr.add a22 5)))) (.one (.int .i64)) w21 fun (x23 : Int) =>
 z (IntKind.wrap .i64 (x23 + 1)) fun (z24 : Int) =>
 nn x14 fun (a25 : Addr) =>
 wu Try.prog (Instr.storeAt 3 (.pointer (some (Addr.add a25 5))) (.int .i64 z24)) w21 fun w26 =>
 again16 (()) w26)
  fun (K19 : (Unit) → World → Prop) =>
 nn x14 fun (a27 : Addr) =>
 rd Try.prog (Instr.loadAt 3 (.pointer (some (Addr.add a27 5)))) (.one (.int .i64)) w18 fun (x28 : Int) =>
 br (decide (x28 > pivots_)) (wu Try.prog (Instr.storeAt 33 (.pointer (some x3)) (.slice none 0 0)) w18 fun w29 =>
 wu Try.prog (Instr.storeAt 33 (.pointer (some x5)) (.slice none 0 0)) w29 fun w30 =>
 wu Try.prog (Instr.storeAt 28 (.pointer (some x7)) (.int .i64 8)) w30 fun w31 =>
 rd Try.prog (loadVar 33 x3) (.one .slice) w31 fun (x32 : Hd3) =>
 rd Try.prog (loadVar 33 x5) (.one .slice) w31 fun (x33 : Hd3) =>
 rd Try.prog (loadVar 28 x7) (.one (.int .i64)) w31 fun (x34 : Int) =>
 R (.tuple #[(.slice x32.1 x32.2.1 x32.2.2), (.slice x33.1 x33.2.1 x33.2.2), (.int .i64 x34)]) w31)
 (callP Try.prog Pn 118 [(.pointer x14)] (.many [(.one (.int .i64)), (.one .bool)]) w18 fun (x35 : (Int × Bool × Unit)) w36 =>
 br (decide (x35.1 < 0)) (nn x14 fun (a37 : Addr) =>
 rd Try.prog (Instr.loadAt 33 (.pointer (some (Addr.add a37 2)))) (.one .slice) w36 fun (x38 : Hd3) =>
 rdp Try.prog (Instr.sliceAt 33 (.slice x38.1 x38.2.1 x38.2.2) none (some (.int .i64 ((x12.2.1 : Nat) : Int))) none) (.one .slice) fun (x39 : Hd3) =>
 callP Try.prog Pn 119 [(.slice x39.1 x39.2.1 x39.2.2)] (.one (.one .slice)) w36 fun (x40 : Hd3) w41 =>
 wu Try.prog (Instr.storeAt 33 (.pointer (some x3)) (.slice x40.1 x40.2.1 x40.2.2)) w41 fun w42 =>
 wu Try.prog (Instr.storeAt 33 (.pointer (some x5)) (.slice none 0 0)) w42 fun w43 =>
 wu Try.prog (Instr.storeAt 28 (.pointer (some x7)) (.int .i64 0)) w43 fun w44 =>
 rd Try.prog (loadVar 33 x3) (.one .slice) w44 fun (x45 : Hd3) =>
 rd Try.prog (loadVar 33 x5) (.one .slice) w44 fun (x46 : Hd3) =>
 rd Try.prog (loadVar 28 x7) (.one (.int .i64)) w44 fun (x47 : Int) =>
 R (.tuple #[(.slice x45.1 x45.2.1 x45.2.2), (.slice x46.1 x46.2.1 x46.2.2), (.int .i64 x47)]) w44)
 (nn x14 fun (a48 : Addr) =>
 rd Try.prog (Instr.loadAt 47 (.pointer (some (Addr.add a48 3)))) (.one .slice) w36 fun (x49 : Hd3) =>
 rdp Try.prog (Instr.indexAt 47 (.slice x49.1 x49.2.1 x49.2.2) (.int .i64 x35.1)) (.one .addr) fun (x50 : Addr) =>
 rd Try.prog (Instr.loadAt 3 (.pointer (some x50))) (.one (.int .i64)) w36 fun (x51 : Int) =>
 callP Try.prog Pn 120 [(.pointer x14), (.int .i64 x35.1), (.bool x35.2.1)] (.one (.one (.int .i64))) w36 fun (x52 : Int) w53 =>
 br (decide (x52 ≥ 0)) (nn x14 fun (a54 : Addr) =>
 rd Try.prog (Instr.loadAt 33 (.pointer (some (Addr.add a54 1)))) (.one .slice) w53 fun (x55 : Hd3) =>
 rdp Try.prog (Instr.indexAt 33 (.slice x55.1 x55.2.1 x55.2.2) (.int .i64 x51)) (.one .addr) fun (x56 : Addr) =>
 rd Try.prog (Instr.loadAt 23 (.pointer (some x56))) (.agg [(.int .i64), (.int .i64)]) w53 fun (x57 : (Int × Int × Unit)) =>
 wr Try.prog (Instr.alloc 23 true (.tuple #[])) (.one .addr) w53 fun (x58 : Addr) w59 =>
 wu Try.prog (Instr.storeAt 23 (.pointer (some x58)) (.agg #[(.int .i64 x57.1), (.int .i64 x57.2.1)])) w59 fun w60 =>
 join (T := (Unit)) (fun (_s62 : (Unit)) w63 => ∀ _ : Nat → Value,
 rd Try.prog (Instr.loadAt 23 (.pointer (some x58))) (.agg [(.int .i64), (.int .i64)]) w63 fun (x64 : (Int × Int × Unit)) =>
 callP Try.prog Pn 121 [(.pointer x14), (.int .i64 x35.1), (.int .i64 x52), (.agg #[(.int .i64 x64.1), (.int .i64 x64.2.1)])] (.many []) w63 fun (_x65 : (Unit)) w66 =>
 K19 (()) w66)
  fun (K61 : (Unit) → World → Prop) =>
 br x35.2.1 (nn x14 fun (a67 : Addr) =>
 rd Try.prog (Instr.loadAt 33 (.pointer (some a67))) (.one .slice) w60 fun (x68 : Hd3) =>
 rdp Try.prog (Instr.indexAt 33 (.slice x68.1 x68.2.1 x68.2.2) (.int .i64 x51)) (.one .addr) fun (x69 : Addr) =>
 rd Try.prog (Instr.loadAt 23 (.pointer (some x69))) (.agg [(.int .i64), (.int .i64)]) w60 fun (x70 : (Int × Int × Unit)) =>
 wu Try.prog (Instr.storeAt 23 (.pointer (some x58)) (.agg #[(.int .i64 x70.1), (.int .i64 x70.2.1)])) w60 fun w71 =>
 K61 (()) w71)
 (K61 (()) w60))
 (rd Try.prog (Instr.loadAt 41 (.pointer (some (Addr.add x1 1)))) (.one .slice) w53 fun (x72 : Hd3) =>
 loop (T := (Int × Unit)) (0, ()) w53 fun (again73 : (Int × Unit) → World → Prop) (s74 : (Int × Unit)) w75 => ∀ _ : Nat → Value,
 br (decide (s74.1 < ((x72.2.1 : Nat) : Int))) (join (T := (Unit)) (fun (_s77 : (Unit)) w78 => ∀ _ : Nat → Value,
 z (IntKind.wrap .i64 (s74.1 + 1)) fun (z79 : Int) =>
 again73 (z79, ()) w78)
  fun (K76 : (Unit) → World → Prop) =>
 z (IntKind.wrap .i64 (((x12.2.1 : Nat) : Int) + s74.1)) fun (z80 : Int) =>
 br (x51 == z80) (drw w75 fun w81 => flEx fun F82 =>
 rd Try.prog (Instr.loadAt 33 (.pointer (some x5))) (.one .slice) w81 fun (x83 : Hd3) =>
 flc bel w81 (fun _w85 => True) (fun w84 =>
   callP Try.prog Pn 122 [(.int .i64 1)] (.one (.agg [(.int .i64), (.int .i64)])) w84 fun (x86 : (Int × Int × Unit)) w87 =>
 (bel w84 w87 ∧ F82 1 [(.int .i64 1)] (.agg #[(.int .i64 x86.1), (.int .i64 x86.2.1)]) w87))
  fun (x88 : (Int × Int × Unit)) =>
 flc bel w81 (fun w90 => F82 1 [(.int .i64 1)] (.agg #[(.int .i64 x88.1), (.int .i64 x88.2.1)]) w90 ∧ True) (fun w89 =>
   wr Try.prog (Instr.buildSlice 33 1 #[(0, (.agg #[(.int .i64 x88.1), (.int .i64 x88.2.1)]))]) (.one .slice) w89 fun (x91 : Hd3) w92 =>
 (bel w89 w92 ∧ F82 2 [] (.slice x91.1 x91.2.1 x91.2.2) w92))
  fun (x93 : Hd3) =>
 flend bel w81 (fun w95 => F82 2 [] (.slice x93.1 x93.2.1 x93.2.2) w95 ∧ F82 1 [(.int .i64 1)] (.agg #[(.int .i64 x88.1), (.int .i64 x88.2.1)]) w95 ∧ True) fun w94 =>
 wr Try.prog (Builtin.append_ #[33, 33] 33 #[(.slice x83.1 x83.2.1 x83.2.2), (.slice x93.1 x93.2.1 x93.2.2)]) (.one .slice) w94 fun (x96 : Hd3) w97 =>
 wu Try.prog (Instr.storeAt 33 (.pointer (some x5)) (.slice x96.1 x96.2.1 x96.2.2)) w97 fun w98 =>
 K76 (()) w98)
 (drw w75 fun w99 => flEx fun F100 =>
 rd Try.prog (Instr.loadAt 33 (.pointer (some x5))) (.one .slice) w99 fun (x101 : Hd3) =>
 flc bel w99 (fun _w103 => True) (fun w102 =>
   callP Try.prog Pn 122 [(.int .i64 0)] (.one (.agg [(.int .i64), (.int .i64)])) w102 fun (x104 : (Int × Int × Unit)) w105 =>
 (bel w102 w105 ∧ F100 1 [(.int .i64 0)] (.agg #[(.int .i64 x104.1), (.int .i64 x104.2.1)]) w105))
  fun (x106 : (Int × Int × Unit)) =>
 nn x14 fun (a107 : Addr) =>
 rd Try.prog (Instr.loadAt 53 (.pointer (some (Addr.add a107 4)))) (.one .slice) w99 fun (x108 : Hd3) =>
 rdp Try.prog (Instr.indexAt 53 (.slice x108.1 x108.2.1 x108.2.2) (.int .i64 x35.1)) (.one .addr) fun (x109 : Addr) =>
 rd Try.prog (Instr.loadAt 33 (.pointer (some x109))) (.one .slice) w99 fun (x110 : Hd3) =>
 z (IntKind.wrap .i64 (((x12.2.1 : Nat) : Int) + s74.1)) fun (z111 : Int) =>
 rdp Try.prog (Instr.indexAt 33 (.slice x110.1 x110.2.1 x110.2.2) (.int .i64 z111)) (.one .addr) fun (x112 : Addr) =>
 rd Try.prog (Instr.loadAt 23 (.pointer (some x112))) (.agg [(.int .i64), (.int .i64)]) w99 fun (x113 : (Int × Int × Unit)) =>
 flc bel w99 (fun w115 => F100 1 [(.int .i64 0)] (.agg #[(.int .i64 x106.1), (.int .i64 x106.2.1)]) w115 ∧ True) (fun w114 =>
   callP Try.prog Pn 123 [(.agg #[(.int .i64 x106.1), (.int .i64 x106.2.1)]), (.agg #[(.int .i64 x113.1), (.int .i64 x113.2.1)])] (.one (.agg [(.int .i64), (.int .i64)])) w114 fun (x116 : (Int × Int × Unit)) w117 =>
 (bel w114 w117 ∧ F100 14 [(.agg #[(.int .i64 x106.1), (.int .i64 x106.2.1)]), (.agg #[(.int .i64 x113.1), (.int .i64 x113.2.1)])] (.agg #[(.int .i64 x116.1), (.int .i64 x116.2.1)]) w117))
  fun (x118 : (Int × Int × Unit)) =>
 flc bel w99 (fun w120 => F100 14 [(.agg #[(.int .i64 x106.1), (.int .i64 x106.2.1)]), (.agg #[(.int .i64 x113.1), (.int .i64 x113.2.1)])] (.agg #[(.int .i64 x118.1), (.int .i64 x118.2.1)]) w120 ∧ F100 1 [(.int .i64 0)] (.agg #[(.int .i64 x106.1), (.int .i64 x106.2.1)]) w120 ∧ True) (fun w119 =>
   wr Try.prog (Instr.buildSlice 33 1 #[(0, (.agg #[(.int .i64 x118.1), (.int .i64 x118.2.1)]))]) (.one .slice) w119 fun (x121 : Hd3) w122 =>
 (bel w119 w122 ∧ F100 15 [] (.slice x121.1 x121.2.1 x121.2.2) w122))
  fun (x123 : Hd3) =>
 flend bel w99 (fun w125 => F100 15 [] (.slice x123.1 x123.2.1 x123.2.2) w125 ∧ F100 14 [(.agg #[(.int .i64 x106.1), (.int .i64 x106.2.1)]), (.agg #[(.int .i64 x113.1), (.int .i64 x113.2.1)])] (.agg #[(.int .i64 x118.1), (.int .i64 x118.2.1)]) w125 ∧ F100 1 [(.int .i64 0)] (.agg #[(.int .i64 x106.1), (.int .i64 x106.2.1)]) w125 ∧ True) fun w124 =>
 wr Try.prog (Builtin.append_ #[33, 33] 33 #[(.slice x101.1 x101.2.1 x101.2.2), (.slice x123.1 x123.2.1 x123.2.2)]) (.one .slice) w124 fun (x126 : Hd3) w127 =>
 wu Try.prog (Instr.storeAt 33 (.pointer (some x5)) (.slice x126.1 x126.2.1 x126.2.2)) w127 fun w128 =>
 K76 (()) w128))
 (rd Try.prog (Instr.loadAt 43 (.pointer (some x1))) (.agg [.slice, .slice, .slice]) w75 fun (x129 : (Hd3 × Hd3 × Hd3 × Unit)) =>
 rd Try.prog (Instr.loadAt 33 (.pointer (some x5))) (.one .slice) w75 fun (x130 : Hd3) =>
 callP Try.prog Pn 41 [(.agg #[(.slice x129.1.1 x129.1.2.1 x129.1.2.2), (.slice x129.2.1.1 x129.2.1.2.1 x129.2.1.2.2), (.slice x129.2.2.1.1 x129.2.2.1.2.1 x129.2.2.1.2.2)]), (.slice lower_a lower_n lower_c), (.slice upper_a upper_n upper_c), (.slice x130.1 x130.2.1 x130.2.2)] (.one (.one .bool)) w75 fun (x131 : Bool) w132 =>
 br (!x131) (wu Try.prog (Instr.storeAt 33 (.pointer (some x3)) (.slice none 0 0)) w132 fun w133 =>
 wu Try.prog (Instr.storeAt 33 (.pointer (some x5)) (.slice none 0 0)) w133 fun w134 =>
 wu Try.prog (Instr.storeAt 28 (.pointer (some x7)) (.int .i64 8)) w134 fun w135 =>
 rd Try.prog (loadVar 33 x3) (.one .slice) w135 fun (x136 : Hd3) =>
 rd Try.prog (loadVar 33 x5) (.one .slice) w135 fun (x137 : Hd3) =>
 rd Try.prog (loadVar 28 x7) (.one (.int .i64)) w135 fun (x138 : Int) =>
 R (.tuple #[(.slice x136.1 x136.2.1 x136.2.2), (.slice x137.1 x137.2.1 x137.2.2), (.int .i64 x138)]) w135)
 (drw w132 fun w139 => flExE fun E140 F141 =>
 rdE Try.prog E140 (Instr.loadAt 33 (.pointer (some x5))) (.one .slice) w139 fun (x142 : Hd3) =>
 flc E140 w139 (fun _w144 => True) (fun w143 =>
   wu Try.prog (Instr.storeAt 33 (.pointer (some x3)) (.slice none 0 0)) w143 fun w145 =>
 (E140 w143 w145 ∧ F141 1 [] undef w145))
  fun (_x146 : (Unit)) =>
 flend E140 w139 (fun w148 => F141 1 [] (.tuple #[]) w148 ∧ True) fun w147 =>
 wu Try.prog (Instr.storeAt 33 (.pointer (some x5)) (.slice x142.1 x142.2.1 x142.2.2)) w147 fun w149 =>
 wu Try.prog (Instr.storeAt 28 (.pointer (some x7)) (.int .i64 0)) w149 fun w150 =>
 rd Try.prog (loadVar 33 x3) (.one .slice) w150 fun (x151 : Hd3) =>
 rd Try.prog (loadVar 33 x5) (.one .slice) w150 fun (x152 : Hd3) =>
 rd Try.prog (loadVar 28 x7) (.one (.int .i64)) w150 fun (x153 : Int) =>
 R (.tuple #[(.slice x151.1 x151.2.1 x151.2.2), (.slice x152.1 x152.2.1 x152.2.2), (.int .i64 x153)]) w150)))))
def H94 : Hints := ⟨[(2, 0, []), (0, 74, []), (2, 2, [(90, (.one (.int .i64)))]), (1, 3, []), (1, 1, [])], [(22, 3), (20, 16), (26, 2)], [], [26]⟩
set_option maxRecDepth 100000 in
theorem S94_eq (s_0a : Option Addr) (s_0n : Nat) (s_0c : Nat) (s_1a : Option Addr) (s_1n : Nat) (s_1c : Nat) (s_2a : Option Addr) (s_2n : Nat) (s_2c : Nat) (lower_a : Option Addr) (lower_n : Nat) (lower_c : Nat) (upper_a : Option Addr) (upper_n : Nat) (upper_c : Nat) (pivots_ : Int) (w0 : World) (R : Value → World → Prop) : vcFnD Try.prog H94 Try.f94 [(.agg #[(.slice s_0a s_0n s_0c), (.slice s_1a s_1n s_1c), (.slice s_2a s_2n s_2c)]), (.slice lower_a lower_n lower_c), (.slice upper_a upper_n upper_c), (.int .i64 pivots_)] w0 R = S94 s_0a s_0n s_0c s_1a s_1n s_1c s_2a s_2n s_2c lower_a lower_n lower_c upper_a upper_n upper_c pivots_ w0 R := by kernel_rfl
set_option maxRecDepth 100000 in
theorem S94_calls (s_0a : Option Addr) (s_0n : Nat) (s_0c : Nat) (s_1a : Option Addr) (s_1n : Nat) (s_1c : Nat) (s_2a : Option Addr) (s_2n : Nat) (s_2c : Nat) (lower_a : Option Addr) (lower_n : Nat) (lower_c : Nat) (upper_a : Option Addr) (upper_n : Nat) (upper_c : Nat) (pivots_ : Int) (w0 : World) (R : Value → World → Prop) (h : S94 s_0a s_0n s_0c s_1a s_1n s_1c s_2a s_2n s_2c lower_a lower_n lower_c upper_a upper_n upper_c pivots_ w0 R) : Calls Try.prog 94 #[(.agg #[(.slice s_0a s_0n s_0c), (.slice s_1a s_1n s_1c), (.slice s_2a s_2n s_2c)]), (.slice lower_a lower_n lower_c), (.slice upper_a upper_n upper_c), (.int .i64 pivots_)] w0 (ret R) := by
  rw [← S94_eq] at h; exact vcFnD_sound follows_ Try.func94 h

end Go.Proofs

/- Relax: the walk. -/




namespace Go.Proofs.Ytajpdnphamomjaa
open Go.RowKit Go.Q Go.Q.Num Go.V

theorem fits_neg {x : Rat} (h : Fits x) : Fits (0 + -x) := by
  have e : (0 : Rat) + -x = -x := by grind
  rw [e]
  obtain ⟨h1, h2, h3⟩ := h
  exact ⟨by rw [Rat.neg_num]; omega, by rw [Rat.neg_num]; omega, by rw [Rat.neg_den]; exact h3⟩
theorem own_mono {w : World} {B B' : Nat} {e : TypeId} {sz : Nat} {a : Option Addr} {n c : Nat} {xs : List Value} (O : Own w B e sz a n c xs) (h : B' ≤ B) : Own w B' e sz a n c xs := by
  refine ⟨O.1, ?_⟩
  rcases O.2 with h2 | ⟨g, cap, cur, h1, h2, h3⟩
  · exact .inl h2
  · exact .inr ⟨g, cap, cur, h1, by omega, h3⟩
theorem cloneQ {ad : Addr} {n c : Nat} {L : List Rat} {w : World} (S : Sl w (some ad) n c 2 (L.flatMap encQ)) (h0 : 1 ≤ n) (hn : n ≤ 100000) :
    call Try.prog 119 [.slice (some ad) n c] (.one (.one .slice)) w (fun (x : Hdr) w' => OwnQ w' w.heap.size x L ∧ bel w w') := by
  refine call_of (S119_calls (some ad) n c w _ ?_)
  unfold S119
  refine rd_nil tyFracs ?_
  refine br_f rfl ?_
  refine wr_lit0 tyFracs fun a1 w3 O3 h3 ha hs => ?_
  have S3 := S.up h3
  refine wr_appX (B := w.heap.size) tyFracs (O3 _ (Nat.le_refl _)) S3 h3.size rfl (by omega) (by
    unfold plainV; rw [List.all_eq_true]; intro x hx
    obtain ⟨r, _, hr⟩ := List.mem_flatMap.1 hx
    rcases List.mem_cons.1 hr with rfl | hr
    · rfl
    · rcases List.mem_cons.1 hr with rfl | hr
      · rfl
      · cases hr) (by omega) (by unfold maxLen; omega) (by omega) fun a' c' w' O' hg _ _ => ?_
  refine ⟨(a', 0 + n, c'), rfl, ?_, h3.grown hg fun k e => ?_⟩
  · rw [List.nil_append] at O'; exact O'
  · have e' : a1.block = k := Option.some.inj e
    omega

theorem flat_take (L : List Rat) : ∀ n, (L.take n).flatMap encQ = (L.flatMap encQ).take (n * 2) := by
  induction L with
  | nil => intro n; simp
  | cons x L ih =>
    intro n
    cases n with
    | zero => simp
    | succ n =>
      rw [List.take_succ_cons, List.flatMap_cons, List.flatMap_cons, ih n, show (n + 1) * 2 = n * 2 + 1 + 1 by omega]
      rfl
theorem sl_take {w : World} {a : Option Addr} {n m c : Nat} {L : List Rat} (S : Sl w a n c 2 (L.flatMap encQ)) (hm : m ≤ n) (h1 : 1 ≤ m) : Sl w a m c 2 ((L.take m).flatMap encQ) := by
  have hl := slQ_len S
  refine ⟨by rw [flat_len encQ_len, List.length_take]; omega, by have := S.cap; omega, S.most, fun q => by have := (S.nil' q).1; omega, fun j u hj => ?_⟩
  rw [flat_take, List.getElem?_take] at hj
  split at hj
  · exact S.at' j u hj
  · cases hj
def mults (n M : Nat) (Tb : Tb) (row : Nat) : List Rat := (List.range M).map fun i => if Tb.b row = n + i then 1 else 0 + -(Tb.a row (n + i))
def goal (Tb : Tb) (row : Nat) (below : Bool) : Rat := if below = true then Tb.lo (Tb.b row) else Tb.hi (Tb.b row)
def Stp (N M : Nat) (Tb : Tb) (row : Nat) (below : Bool) (k : Nat) : Prop := Tb.wr M = some (row, below) ∧ k < N ∧ Tb.can row below k ∧ ∀ k', k' < k → ¬ Tb.can row below k'
inductive Rch (N M : Nat) (T0 : Tb) : Nat → Tb → Prop where
  | zero : Rch N M T0 0 T0
  | step {c : Nat} {Tb : Tb} {row k : Nat} {below : Bool} : Rch N M T0 c Tb → TbOk N M Tb → Stp N M Tb row below k → Rch N M T0 (c + 1) (Tb.move row k (goal Tb row below))
section
variable (up : List Int) (T : List (List Int)) (rt ls hs : List Int)
def RlxC (pv : Nat) : Prop := ¬ BgFit up.length T ls ∨ ∃ c Tb, Rch (up.length + T.length) T.length (tb0 up T rt ls hs T.length) c Tb ∧ TbOk (up.length + T.length) T.length Tb ∧
  (pv < c ∨ (∃ row below k, Stp (up.length + T.length) T.length Tb row below k ∧ ¬ MvFit (up.length + T.length) T.length Tb row k (goal Tb row below)) ∨
    (∃ row below, Tb.wr T.length = some (row, below) ∧ (∀ k, k < up.length + T.length → ¬ Tb.can row below k) ∧ ¬ BndP up T rt ls hs ((mults up.length T.length Tb row).map prQ)))
def RlxR (pv : Nat) (w : World) (x : Hdr × Hdr × Int × Unit) (w' : World) : Prop :=
  (x.2.2.1 = 0 ∧ x.2.1 = (none, 0, 0) ∧ ∃ c Tb, Rch (up.length + T.length) T.length (tb0 up T rt ls hs T.length) c Tb ∧ TbOk (up.length + T.length) T.length Tb ∧ Tb.wr T.length = none ∧ OwnQ w' w.heap.size x.1 (Tb.val.take up.length)) ∨
  (x.2.2.1 = 0 ∧ x.1 = (none, 0, 0) ∧ 1 ≤ T.length ∧ ∃ L, L.length = T.length ∧ OwnQ w' w.heap.size x.2.1 L ∧ (∀ q ∈ L, Fits q) ∧ BndP up T rt ls hs (L.map prQ)) ∨
  (x.2.2.1 = 8 ∧ x.1 = (none, 0, 0) ∧ x.2.1 = (none, 0, 0) ∧ RlxC up T rt ls hs pv)
end
theorem TabAt.xo {w w' : World} {t : Addr} {H : TH} {p : Int} {T : Tb} {b : Nat} (A : TabAt w t H p T) (h : Xb (fun k => k = b) w w') (hb : b < t.block) : TabAt w' t H p T := by
  have hg : w.grownBy w' (some b) := h.grown fun k q _ => by rw [q]
  exact ⟨A.box.grown hg (by intro e; injection e; omega), A.fs.old hg (by omega), own_box A.bs hg (by omega), own_box A.rs hg (by omega)⟩
theorem TabAt.setP {w : World} {t : Addr} {H : TH} {p q : Int} {T : Tb} (A : TabAt w t H p T) {K : World → Prop} (hk : ∀ w', TabAt w' t H q T → w.grownBy w' (some t.block) → K w') :
    wu Try.prog (Instr.storeAt 3 (.pointer (some (t.add 5))) (.int .i64 q)) w K :=
  wu_boxi A.box (by kernel_rfl) (by show 5 < 6; omega) rfl fun w' X hg _ => hk w' ⟨X, A.fs.old hg (Nat.lt_succ_self _), own_box A.bs hg (Nat.lt_succ_self _), own_box A.rs hg (Nat.lt_succ_self _)⟩ hg
end Go.Proofs.Ytajpdnphamomjaa

/- Relax: what it says. -/

namespace Go.Proofs.Ytajpdnphamomjaa
open Go.RowKit Go.Q Go.Q.Num Go.V

abbrev rRX : RS := .many [.one .slice, .one .slice, .one (.int .i64)]
set_option maxHeartbeats 6400000 in
theorem relaxF (u r b lo hi : Hdr) (up : List Int) (T : List (List Int)) (rt ls hs : List Int) (pv : Nat) (w : World) (HS : Sys w u r b up T rt) (hok : sysE up T rt = 0) (HL : Sl w lo.1 lo.2.1 lo.2.2 1 (ints .i64 ls)) (HH : Sl w hi.1 hi.2.1 hi.2.2 1 (ints .i64 hs))
    (hll : ls.length = up.length) (hhl : hs.length = up.length) (hlb : Bg9 ls) (hhb : Bg9 hs) (hn1 : 1 ≤ up.length) (hpv : pv ≤ 1000000) :
    call Try.prog 94 [sysv u r b, .slice lo.1 lo.2.1 lo.2.2, .slice hi.1 hi.2.1 hi.2.2, .int .i64 (pv : Int)] rRX w (fun (x : Hdr × Hdr × Int × Unit) w' => RlxR up T rt ls hs pv w x w' ∧ bel w w') := by
  refine call_of (S94_calls u.1 u.2.1 u.2.2 r.1 r.2.1 r.2.2 b.1 b.2.1 b.2.2 lo.1 lo.2.1 lo.2.2 hi.1 hi.2.1 hi.2.2 (pv : Int) w _ ?_)
  obtain ⟨hul, hTl, hR, hA⟩ := sysE_ok hok
  have hur := HS.u.int
  have hTr := HS.r.len
  have hm11 : ∀ {n : Nat}, n ≤ 1000000 → n ≤ maxLen := fun h => by unfold maxLen; omega
  unfold S94
  refine wr_box fun x1 w2 X1 h2 hx1 hs1 => ?_
  replace X1 : Box w2 x1 (sysc u r b) := X1
  refine wr_alloc (z := .slice none 0 0) (by kernel_rfl) fun x3 w4 X3 h4 hx3 hs3 => ?_
  refine wr_alloc (z := .slice none 0 0) (by kernel_rfl) fun x5 w6 X5 h6 hx5 hs5 => ?_
  refine wr_alloc (z := .int .i64 0) (by kernel_rfl) fun x7 w8 X7 h8 hx7 hs7 => ?_
  replace X1 : Box w8 x1 (sysc u r b) := ((X1.up h4).up h6).up h8
  replace X3 : Box w8 x3 [.slice none 0 0] := (X3.up h6).up h8
  replace X5 : Box w8 x5 [.slice none 0 0] := X5.up h8
  replace X7 : Box w8 x7 [.int .i64 0] := X7
  have b8 : bel w w8 := ((h2.trans h4).trans h6).trans h8
  have s2 := h2.size
  have m1 : w.heap.size ≤ x1.block := by omega
  have m3 : x1.block < x3.block := by omega
  have m5 : x3.block < x5.block := by omega
  have m7 : x5.block < x7.block := by omega
  have m8 : x7.block < w8.heap.size := X7.lt
  -- what is returned
  have out : ∀ (w' : World) (v3 v5 : Hdr) (e : Int), Box w' x3 [.slice v3.1 v3.2.1 v3.2.2] → Box w' x5 [.slice v5.1 v5.2.1 v5.2.2] → Box w' x7 [.int .i64 e] → RlxR up T rt ls hs pv w (v3, v5, e, ()) w' → bel w w' →
      rd Try.prog (loadVar 33 x3) (.one .slice) w' fun (y3 : Hdr) => rd Try.prog (loadVar 33 x5) (.one .slice) w' fun (y5 : Hdr) => rd Try.prog (loadVar 28 x7) (.one (.int .i64)) w' fun (y7 : Int) =>
        ∃ x : Hdr × Hdr × Int × Unit, (Value.tuple #[.slice y3.1 y3.2.1 y3.2.2, .slice y5.1 y5.2.1 y5.2.2, .int .i64 y7]) = rRX.val x ∧ RlxR up T rt ls hs pv w x w' ∧ bel w w' := by
    intro w' v3 v5 e Y3 Y5 Y7 hr hb
    refine rd_boxV1 (by kernel_rfl) Y3 rfl rfl ?_
    refine rd_boxV1 (by kernel_rfl) Y5 rfl rfl ?_
    refine rd_boxV1 (by kernel_rfl) Y7 rfl rfl ?_
    exact ⟨(v3, v5, e, ()), rfl, hr, hb⟩
  refine ⟨fun ch w' => ch = [{ v := failV, recovered := false }] ∧ RlxC up T rt ls hs pv ∧ (∃ v3 v5 v7, Box w' x3 [v3] ∧ Box w' x5 [v5] ∧ Box w' x7 [v7]) ∧ bel w w', fun w' => rlxIdle _ _ _ w', ?_, ?_⟩
  · rintro ch w' ⟨rfl, hC, ⟨v3, v5, v7, Y3, Y5, Y7⟩, hb⟩
    refine rlxCatch x3 x5 x7 v3 v5 v7 w' Y3 Y5 Y7 (by omega) (by omega) (by omega) fun w'' Z3 Z5 Z7 hX => ?_
    exact out w'' (none, 0, 0) (none, 0, 0) 8 Z3 Z5 Z7 (.inr (.inr ⟨rfl, rfl, rfl, hC⟩)) (Xb.bel hb hX (by rintro k (q | q | q) <;> omega))
  generalize hPn : (fun (ch : List PanicEntry) (w' : World) => ch = [{ v := failV, recovered := false }] ∧ RlxC up T rt ls hs pv ∧ (∃ v3 v5 v7, Box w' x3 [v3] ∧ Box w' x5 [v5] ∧ Box w' x7 [v7]) ∧ bel w w') = Pn
  refine rd_box0 (by kernel_rfl) X1 rfl rfl ?_
  refine rd_boxN X1 (by kernel_rfl) rfl ?_
  refine callP_mono (beginF u r b lo hi up T rt ls hs w8 (HS.up b8) hok (HL.up b8) (HH.up b8) hll hhl hlb hhb) (fun (x14 : Option Addr) w15 q => ?_) (fun ch w' q => by
    rw [← hPn]
    exact ⟨q.2.1, .inl q.1, ⟨_, _, _, X3.up q.2.2, X5.up q.2.2, X7.up q.2.2⟩, b8.trans q.2.2⟩)
  obtain ⟨t, H, rfl, nt, A15, ok15, h15⟩ := q
  generalize hN : up.length + T.length = N at ok15
  generalize hT0 : tb0 up T rt ls hs T.length = T0 at A15 ok15
  refine loop_gh (G := Nat) (fun c _ w' => c ≤ pv + 1 ∧ bel w w' ∧ Box w' x1 (sysc u r b) ∧ Box w' x3 [.slice none 0 0] ∧ Box w' x5 [.slice none 0 0] ∧ Box w' x7 [.int .i64 0] ∧ ∃ Tb, Rch N T.length T0 c Tb ∧ TbOk N T.length Tb ∧ TabAt w' t H (c : Int) Tb) (fun c => pv + 2 - c) 0
    ⟨by omega, b8.trans h15, X1.up h15, X3.up h15, X5.up h15, X7.up h15, T0, .zero, ok15, A15⟩ ?_
  clear X1 X3 X5 X7 A15 ok15 h15 h2 h4 h6 h8
  rintro c _ w18 ⟨hc, b18, X1, X3, X5, X7, Tb, hRch, ok, A⟩ again hag _
  have hM := ok.sM
  have hNs := ok.sN
  have s18 := b18.size
  have t18 := A.box.lt
  -- what other things keep, where a tableau is written
  have keep : ∀ {w1 w2 : World}, bel w w1 → Box w1 x1 (sysc u r b) → Box w1 x3 [.slice none 0 0] → Box w1 x5 [.slice none 0 0] → Box w1 x7 [.int .i64 0] → Xa (t.block + 1) w1 w2 → bel w w2 ∧ Box w2 x1 (sysc u r b) ∧ Box w2 x3 [.slice none 0 0] ∧ Box w2 x5 [.slice none 0 0] ∧ Box w2 x7 [.int .i64 0] :=
    fun hb Y1 Y3 Y5 Y7 hX => ⟨Xb.bel hb hX fun k hk => by omega, xa_box Y1 hX (by omega), xa_box Y3 hX (by omega), xa_box Y5 hX (by omega), xa_box Y7 hX (by omega)⟩
  refine join_mk (fun _ w' => c ≤ pv ∧ bel w w' ∧ Box w' x1 (sysc u r b) ∧ Box w' x3 [.slice none 0 0] ∧ Box w' x5 [.slice none 0 0] ∧ Box w' x7 [.int .i64 0] ∧ ∃ Tb, Rch N T.length T0 (c + 1) Tb ∧ TbOk N T.length Tb ∧ TabAt w' t H (c : Int) Tb) (fun K19 hK => ?_) (fun x w2 q => ?_)
  case refine_2 =>
    obtain ⟨hcp, b2, Y1, Y3, Y5, Y7, Tb', hR', ok', A'⟩ := q
    intro _
    refine nn_mk rfl ?_
    refine rd_box (by kernel_rfl) A'.box rfl rfl ?_
    refine z_eq (m := ((c + 1 : Nat) : Int)) (by rw [IntWalk.i64_in _ ⟨by omega, by omega⟩]; omega) ?_
    refine nn_mk rfl ?_
    refine A'.setP fun w26 A26 hg => ?_
    have nb : ∀ {a : Addr}, a.block < w8.heap.size → some a.block ≠ some t.block := fun h e => by injection e; omega
    exact hag (c + 1) _ _ ⟨by omega, b2.grownAt hg (by omega), Y1.grown hg (nb (by omega)), Y3.grown hg (nb (by omega)), Y5.grown hg (nb (by omega)), Y7.grown hg (nb (by omega)), Tb', hR', ok', A26⟩ (by omega)
  refine nn_mk rfl ?_
  refine rd_box (by kernel_rfl) A.box rfl rfl ?_
  -- giving up
  have give : ∀ {w1 : World}, bel w w1 → Box w1 x3 [.slice none 0 0] → (∃ v, Box w1 x5 [v]) → Box w1 x7 [.int .i64 0] → RlxC up T rt ls hs pv → 
      wu Try.prog (Instr.storeAt 33 (.pointer (some x3)) (.slice none 0 0)) w1 fun w2 => wu Try.prog (Instr.storeAt 33 (.pointer (some x5)) (.slice none 0 0)) w2 fun w3 => wu Try.prog (Instr.storeAt 28 (.pointer (some x7)) (.int .i64 8)) w3 fun w' =>
        rd Try.prog (loadVar 33 x3) (.one .slice) w' fun (y3 : Hdr) => rd Try.prog (loadVar 33 x5) (.one .slice) w' fun (y5 : Hdr) => rd Try.prog (loadVar 28 x7) (.one (.int .i64)) w' fun (y7 : Int) =>
          ∃ x : Hdr × Hdr × Int × Unit, (Value.tuple #[.slice y3.1 y3.2.1 y3.2.2, .slice y5.1 y5.2.1 y5.2.2, .int .i64 y7]) = rRX.val x ∧ RlxR up T rt ls hs pv w x w' ∧ bel w w' := by
    intro w1 hb Y3 hY5 Y7 hC
    obtain ⟨v, Y5⟩ := hY5
    refine wu_box Y3 (by kernel_rfl) (Nat.le_refl 1) rfl fun w2 Z3 g2 _ => ?_
    refine wu_box (Y5.grown g2 (by intro e; injection e; omega)) (by kernel_rfl) (Nat.le_refl 1) rfl fun w3 Z5 g3 _ => ?_
    refine wu_box ((Y7.grown g2 (by intro e; injection e; omega)).grown g3 (by intro e; injection e; omega)) (by kernel_rfl) (Nat.le_refl 1) rfl fun w4 Z7 g4 _ => ?_
    exact out w4 (none, 0, 0) (none, 0, 0) 8 ((Z3.grown g3 (by intro e; injection e; omega)).grown g4 (by intro e; injection e; omega)) (Z5.grown g4 (by intro e; injection e; omega)) Z7 (.inr (.inr ⟨rfl, rfl, rfl, hC⟩))
      (((hb.grownAt g2 (by omega)).grownAt g3 (by omega)).grownAt g4 (by omega))
  have mkC : ∀ {Tb' : Go.Proofs.Ytajpdnphamomjaa.Tb}, Rch N T.length T0 c Tb' → TbOk N T.length Tb' → (pv < c ∨ (∃ row below k, Stp N T.length Tb' row below k ∧ ¬ MvFit N T.length Tb' row k (goal Tb' row below)) ∨ (∃ row below, Tb'.wr T.length = some (row, below) ∧ (∀ k, k < N → ¬ Tb'.can row below k) ∧ ¬ BndP up T rt ls hs ((mults up.length T.length Tb' row).map prQ))) → RlxC up T rt ls hs pv := by
    intro Tb' h1 h2 h3
    unfold RlxC
    rw [hN, hT0]
    exact .inr ⟨c, Tb', h1, h2, h3⟩
  refine br_dec (fun hcp => ?_) (fun hcp => ?_)
  · exact give b18 X3 ⟨_, X5⟩ X7 (mkC hRch ok (.inl (by omega)))
  have hcp' : c ≤ pv := by omega
  refine callP_of (call_mono (wrongF A ok) fun x35 w36 q => ?_)
  obtain ⟨rfl, h36⟩ := q
  have A36 := A.up h36
  have b36 := b18.trans h36
  replace X1 := X1.up h36
  replace X3 := X3.up h36
  replace X5 := X5.up h36
  replace X7 := X7.up h36
  have t36 := A36.box.lt
  cases hw : Tb.wr T.length with
  | none =>
    refine br_t rfl ?_
    refine nn_mk rfl ?_
    refine rd_box (by kernel_rfl) A36.box rfl rfl ?_
    have SV := A36.hvl.sl
    have hvn := slQ_len SV
    rw [ok.lv] at hvn
    refine sl_to tyFracs (m := up.length) (by dsimp only; omega) (by have := SV.cap; dsimp only; omega) ?_
    obtain ⟨va, hva⟩ : ∃ a, H.v.1 = some a := by
      cases e : H.v.1 with
      | none => have := (SV.nil' e).1; omega
      | some a => exact ⟨a, rfl⟩
    have ST := sl_take SV (m := up.length) (by omega) hn1
    rw [hva] at ST ⊢
    refine callP_of (call_mono (cloneQ ST hn1 (show up.length ≤ 100000 by omega)) fun (x40 : Hdr) w41 q => ?_)
    obtain ⟨O40, h41⟩ := q
    refine wu_box (X3.up h41) (by kernel_rfl) (Nat.le_refl 1) rfl fun w42 Z3 g2 _ => ?_
    refine wu_box ((X5.up h41).grown g2 (by intro e; injection e; omega)) (by kernel_rfl) (Nat.le_refl 1) rfl fun w43 Z5 g3 _ => ?_
    refine wu_box (((X7.up h41).grown g2 (by intro e; injection e; omega)).grown g3 (by intro e; injection e; omega)) (by kernel_rfl) (Nat.le_refl 1) rfl fun w44 Z7 g4 _ => ?_
    have s36 := b36.size
    refine out w44 x40 (none, 0, 0) 0 ((Z3.grown g3 (by intro e; injection e; omega)).grown g4 (by intro e; injection e; omega)) (Z5.grown g4 (by intro e; injection e; omega)) Z7 (.inl ⟨rfl, rfl, c, Tb, ?_, ?_, hw, ?_⟩)
      ((((b36.trans h41).grownAt g2 (by omega)).grownAt g3 (by omega)).grownAt g4 (by omega))
    · rw [hN, hT0]; exact hRch
    · rw [hN]; exact ok
    · exact own_mono (own_box (own_box (own_box O40 g2 (by omega)) g3 (by omega)) g4 (by omega)) (by omega)
  | some pr =>
    obtain ⟨row, below⟩ := pr
    have hr : row < T.length := wr_lt hw
    refine br_f (decide_eq_false (by show ¬ ((row : Int) < 0); omega)) ?_
    refine A36.bas_at ok (i := wri (some (row, below))) rfl hr ?_
    refine callP_of (call_mono (helperF A36 ok hr below) fun (x52 : Int) w53 q => ?_)
    obtain ⟨hx52, h53⟩ := q
    have A53 := A36.up h53
    have b53 := b36.trans h53
    replace X1 := X1.up h53
    replace X3 := X3.up h53
    replace X5 := X5.up h53
    replace X7 := X7.up h53
    have hbr := ok.b_lt hr
    refine br_dec (fun hge => ?_) (fun hge => ?_)
    · obtain ⟨k, hk, rfl, hcan, hleast⟩ : ∃ k : Nat, k < N ∧ x52 = (k : Int) ∧ Tb.can row below k ∧ ∀ k', k' < k → ¬ Tb.can row below k' := by
        rcases hx52 with ⟨h, _⟩ | h
        · omega
        · exact h
      refine A53.high_at ok rfl hbr ?_
      refine boxF fun x58 w60 h60 X58 n58 => ?_
      have A60 := A53.up h60
      have b60 := b53.trans h60
      replace X58 : Box w60 x58 (encQ (Tb.hi (Tb.b row))) := X58
      have s53 := b53.size
      have t53 := A53.box.lt
      refine join_mk (fun _ w' => Box w' x58 (encQ (goal Tb row below)) ∧ bel w53 w') (fun K61 hK61 => ?_) (fun x w63 q => ?_)
      case refine_2 =>
        obtain ⟨Y58, h63⟩ := q
        intro _
        refine rd_boxN Y58 (by kernel_rfl) rfl ?_
        have A63 := A53.up h63
        have fg : Fits (goal Tb row below) := by
          unfold goal; split
          · exact ok.lo_fit hbr
          · exact ok.hi_fit hbr
        have hst : Stp N T.length Tb row below k := ⟨hw, hk, hcan, hleast⟩
        refine callP_mono (moveF A63 ok hr hk hcan.1 fg) (fun x w66 q => ?_) (fun ch w' q => ?_)
        · obtain ⟨A66, ok66, hX⟩ := q
          obtain ⟨e1, e2, e3, e4, e5⟩ := keep (b53.trans h63) (X1.up h63) (X3.up h63) (X5.up h63) (X7.up h63) hX
          exact hK _ _ ⟨hcp', e1, e2, e3, e4, e5, _, .step hRch ok hst, ok66, A66⟩
        · obtain ⟨hmf, e0, hX⟩ := q
          obtain ⟨e1, e2, e3, e4, e5⟩ := keep (b53.trans h63) (X1.up h63) (X3.up h63) (X5.up h63) (X7.up h63) hX
          rw [← hPn]
          exact ⟨e0, mkC hRch ok (.inr (.inl ⟨row, below, k, hst, hmf⟩)), ⟨_, _, _, e3, e4, e5⟩, e1⟩
      refine br_mk (fun hbl => ?_) (fun hbl => ?_)
      · refine A60.low_at ok rfl hbr ?_
        refine wu_box X58 (by kernel_rfl) (Nat.le_refl 2) rfl fun w71 Y58 hg71 _ => ?_
        refine hK61 _ _ ⟨?_, h60.grownAt hg71 n58⟩
        have hbl' : below = true := hbl
        unfold goal
        rw [if_pos hbl']
        exact Y58
      · refine hK61 _ _ ⟨?_, h60⟩
        have hbl' : below = false := hbl
        unfold goal
        rw [if_neg (by rw [hbl']; exact Bool.false_ne_true)]
        exact X58
    · have hno : ∀ k, k < N → ¬ Tb.can row below k := by
        rcases hx52 with ⟨_, h⟩ | ⟨k, _, h, _⟩
        · exact h
        · omega
      have s53 := b53.size
      have t53 := A53.box.lt
      have hml : (mults up.length T.length Tb row).length = T.length := by simp [mults]
      have hmg : ∀ i, i < T.length → (mults up.length T.length Tb row)[i]? = some (if Tb.b row = up.length + i then 1 else 0 + -(Tb.a row (up.length + i))) := fun i h => by
        unfold mults; rw [List.getElem?_map, List.getElem?_range h]; rfl
      have f0 : Fits (0 : Rat) := fits_of_int (n := 0) ⟨by omega, by omega⟩
      have hmf : ∀ q ∈ mults up.length T.length Tb row, Fits q := by
        intro q hq
        obtain ⟨i, hi, rfl⟩ := List.mem_map.1 hq
        have := List.mem_range.1 hi
        split
        · exact fits_of_int (n := 1) ⟨by omega, by omega⟩
        · exact fits_neg (ok.a_fit hr (by omega))
      refine rd_box (by kernel_rfl) X1 rfl rfl ?_
      refine loop_up T.length (fun i w' => bel w w' ∧ w53.heap.size ≤ w'.heap.size ∧ TabAt w' t H (c : Int) Tb ∧ Box w' x1 (sysc u r b) ∧ Box w' x3 [.slice none 0 0] ∧ Box w' x7 [.int .i64 0] ∧ ∃ mh : Hdr, Box w' x5 [.slice mh.1 mh.2.1 mh.2.2] ∧ OwnQ w' w53.heap.size mh ((mults up.length T.length Tb row).take i))
        ⟨b53, Nat.le_refl _, A53, X1, X3, X7, (none, 0, 0), X5, Own.nil _ _ _ _⟩ ?_
      have ob : ∀ (i : Nat) h k, (H.l :: H.h :: H.v :: H.s)[i]? = some h → blk h.1 = some k → k < w53.heap.size := fun i h k e1 e2 => by
        have hi' := (List.getElem?_eq_some_iff.1 e1).1
        exact ((A53.fs.own i h _ e1 (by rw [List.getElem?_eq_getElem (by rw [← A53.fs.len]; exact hi')])).lt _ e2).2
      have obB : ∀ k, blk H.b.1 = some k → k < w53.heap.size := fun k hk => (A53.bs.lt k hk).2
      have obR : ∀ k, blk H.r.1 = some k → k < w53.heap.size := fun k hk => (A53.rs.lt k hk).2
      clear A53 X1 X3 X5 X7 A36 A
      rintro i w75 hiT' ⟨b75, s75, A75, X1, X3, X7, mh, X5, O75⟩ again2 hag2 _
      refine br_dec (fun hlt => ?_) (fun hge => ?_)
      · have hiM : i < T.length := by dsimp only at hlt; omega
        refine join_mk (fun _ w' => bel w w' ∧ w53.heap.size ≤ w'.heap.size ∧ TabAt w' t H (c : Int) Tb ∧ Box w' x1 (sysc u r b) ∧ Box w' x3 [.slice none 0 0] ∧ Box w' x7 [.int .i64 0] ∧ ∃ mh : Hdr, Box w' x5 [.slice mh.1 mh.2.1 mh.2.2] ∧ OwnQ w' w53.heap.size mh ((mults up.length T.length Tb row).take (i + 1))) (fun K76 hK2 => ?_) (fun x w2 q => ?_)
        case refine_2 =>
          intro _
          refine z_eq (by exact IntWalk.i64_in _ ⟨by dsimp only; omega, by dsimp only; omega⟩) ?_
          exact hag2 _ hiM q
        have hmi := hmg i hiM
        -- one more of them
        have more : ∀ {x : Rat} {ad : Addr} {w' : World}, (if Tb.b row = up.length + i then 1 else 0 + -(Tb.a row (up.length + i))) = x → bel w75 w' → Sl w' (some ad) 1 1 2 (encQ x) →
            wr Try.prog (Builtin.append_ #[33, 33] 33 #[.slice mh.1 mh.2.1 mh.2.2, .slice (some ad) 1 1]) (.one .slice) w' fun (y : Hdr) w1 => wu Try.prog (Instr.storeAt 33 (.pointer (some x5)) (.slice y.1 y.2.1 y.2.2)) w1 fun w2 => K76 () w2 := by
          intro x ad w' hx hb S
          have O := Own.kept O75 hb
          have hml' := slQ_len O.sl
          rw [List.length_take] at hml'
          have s' := hb.size
          refine wr_appX tyFracs O S (by omega) rfl (by omega) rfl (by omega) (hm11 (by omega)) (by omega) fun a' c' w1 O1 hg _ _ => ?_
          rw [app_enc] at O1
          have lo : ∀ k, blk mh.1 = some k → w53.heap.size ≤ k := fun k hk => (O.lt k hk).1
          have nb : ∀ {a : Addr}, a.block < w53.heap.size → some a.block ≠ blk mh.1 := fun h e => by have := lo _ e.symm; omega
          have A1 : TabAt w1 t H (c : Int) Tb := by
            have A' := A75.up hb
            refine ⟨A'.box.grown hg (nb (by omega)), A'.fs.keep hg fun i h k e1 e2 e3 => ?_, A'.bs.keptBy hg ?_, A'.rs.keptBy hg ?_⟩
            · have := ob i h k e1 e2; have := lo k e3; omega
            · cases hb2 : blk H.b.1 with
              | none => exact .inl rfl
              | some k => exact .inr fun e => by have := obB k hb2; have := lo k e.symm; omega
            · cases hb2 : blk H.r.1 with
              | none => exact .inl rfl
              | some k => exact .inr fun e => by have := obR k hb2; have := lo k e.symm; omega
          refine wu_box ((X5.up hb).grown hg (nb (by omega))) (by kernel_rfl) (Nat.le_refl 1) rfl fun w2 Z5 g2 _ => ?_
          have ne : ∀ {a : Addr}, a.block ≠ x5.block → some a.block ≠ some x5.block := fun h e => h (by injection e)
          refine hK2 _ _ ⟨(Xb.bel (b75.trans hb) (Xb.of (S := fun k => w53.heap.size ≤ k) hg lo) (fun k hk => by omega)).grownAt g2 (by omega), by have := hg.size; have := g2.size; omega, A1.xo (Xb.of g2 fun k e => by injection e with e; exact e.symm) (by omega),
            ((X1.up hb).grown hg (nb (by omega))).grown g2 (ne (by omega)), ((X3.up hb).grown hg (nb (by omega))).grown g2 (ne (by omega)), ((X7.up hb).grown hg (nb (by omega))).grown g2 (ne (by omega)), (a', mh.2.1 + 1, c'), Z5, ?_⟩
          rw [List.take_add_one, hmi, hx]
          exact own_box O1 g2 (by omega)
        refine z_eq (m := ((up.length + i : Nat) : Int)) (by rw [IntWalk.i64_in _ ⟨by dsimp only; omega, by dsimp only; omega⟩]; dsimp only; omega) ?_
        refine br_eq (fun hb0 => ?_) (fun hb0 => ?_)
        · refine drw_mk fun w81 h81 _ => ?_
          refine flEx_mk (fun q _ v w' => (q = 1 → v = fracv (1 : Rat).num (1 : Rat).den) ∧ (q = 2 → ∃ ad, v = .slice (some ad) 1 1 ∧ Sl w' (some ad) 1 1 2 (encQ 1))) (fun _ _ _ _ _ q hb => ⟨q.1, fun e => by obtain ⟨ad, h1, h2⟩ := q.2 e; exact ⟨ad, h1, h2.up hb⟩⟩) ?_
          refine rd_box0 (by kernel_rfl) (X5.up h81) rfl rfl ?_
          refine flc_mk (fun w84 h84 _ => ?_) fun x88 => ?_
          · exact callP_of (call_mono (lWhole 1 w84) fun x w' q => ⟨q.2, ⟨fun _ => by rw [q.1]; rfl, fun e => absurd e (by decide)⟩⟩)
          refine flc_mk (fun w89 h89 q => ?_) fun x93 => ?_
          · have ev := agg_qv (q.1.1 rfl)
            subst ev
            refine litQ fun ad w'' S1 hb hbl hs => ?_
            exact ⟨hb, fun e => absurd e (by decide), fun _ => ⟨ad, rfl, S1⟩⟩
          refine flend_mk fun w94 h94 q => ?_
          obtain ⟨ad, ev, S1⟩ := q.1.2 rfl
          obtain rfl : x93 = (some ad, 1, 1) := hv_inj ev
          have eb : Tb.b row = up.length + i := Int.ofNat_inj.1 hb0
          exact more (if_pos eb) (h81.trans h94) S1
        · refine drw_mk fun w99 h99 _ => ?_
          have hnb : ¬ Tb.b row = up.length + i := fun e => hb0 (by rw [e])
          refine flEx_mk (fun q _ v w' => (q = 1 → v = fracv (0 : Rat).num (0 : Rat).den) ∧ (q = 14 → v = fracv (0 + -(Tb.a row (up.length + i))).num (0 + -(Tb.a row (up.length + i))).den) ∧ (q = 15 → ∃ ad, v = .slice (some ad) 1 1 ∧ Sl w' (some ad) 1 1 2 (encQ (0 + -(Tb.a row (up.length + i))))))
            (fun _ _ _ _ _ q hb => ⟨q.1, q.2.1, fun e => by obtain ⟨ad, h1, h2⟩ := q.2.2 e; exact ⟨ad, h1, h2.up hb⟩⟩) ?_
          refine rd_box0 (by kernel_rfl) (X5.up h99) rfl rfl ?_
          refine flc_mk (fun w84 h84 _ => ?_) fun x106 => ?_
          · exact callP_of (call_mono (lWhole 0 w84) fun x w' q => ⟨q.2, ⟨fun _ => by rw [q.1]; rfl, fun e => absurd e (by decide), fun e => absurd e (by decide)⟩⟩)
          refine (A75.up h99).row_at ok (i := wri (some (row, below))) rfl hr fun g hg O110 => ?_
          refine z_eq (m := ((up.length + i : Nat) : Int)) (by rw [IntWalk.i64_in _ ⟨by dsimp only; omega, by dsimp only; omega⟩]; dsimp only; omega) ?_
          refine atQ O110.sl rfl (ok.el_get hr (by omega)) ?_
          refine flc_mk (fun w114 h114 q => ?_) fun x118 => ?_
          · have ev := agg_qv (q.1.1 rfl)
            subst ev
            refine callP_mono (lSub w114 f0 (ok.a_fit hr (by omega))) (fun x w' q => ⟨q.2.2, ⟨fun e => absurd e (by decide), fun _ => by rw [q.1]; rfl, fun e => absurd e (by decide)⟩⟩) (fun ch w' q => absurd (fits_neg (ok.a_fit hr (by omega))) q.1)
          refine flc_mk (fun w119 h119 q => ?_) fun x123 => ?_
          · have ev := agg_qv (q.1.2.1 rfl)
            subst ev
            refine litQ fun ad w'' S1 hb hbl hs => ?_
            exact ⟨hb, fun e => absurd e (by decide), fun e => absurd e (by decide), fun _ => ⟨ad, rfl, S1⟩⟩
          refine flend_mk fun w124 h124 q => ?_
          obtain ⟨ad, ev, S1⟩ := q.1.2.2 rfl
          obtain rfl : x123 = (some ad, 1, 1) := hv_inj ev
          exact more (if_neg hnb) (h99.trans h124) S1
      have hiM : i = T.length := by dsimp only at hge; omega
      rw [hiM, List.take_of_length_le (by rw [hml]; exact Nat.le_refl _)] at O75
      clear hag2 again2 hge
      refine rd_boxN X1 (by kernel_rfl) rfl ?_
      refine rd_box0 (by kernel_rfl) X5 rfl rfl ?_
      have SM := O75.sl
      have eM : (mults up.length T.length Tb row).flatMap encQ = ((mults up.length T.length Tb row).map prQ).flatMap encF := by rw [List.flatMap_map]
      rw [eM] at SM
      refine callP_of (call_mono (bndL u r b lo hi mh up T rt ls hs _ w75 (HS.up b75) SM (fun q hq => by
        obtain ⟨y, hy, rfl⟩ := List.mem_map.1 hq
        exact i64_fits (hmf y hy)) (HL.up b75) (HH.up b75)) fun (x131 : Bool) w132 q => ?_)
      obtain ⟨hbnd, h132⟩ := q
      have b132 := b75.trans h132
      refine br_not (fun hx => ?_) (fun hx => ?_)
      · exact give b132 (X3.up h132) ⟨_, X5.up h132⟩ (X7.up h132) (mkC hRch ok (.inr (.inr ⟨row, below, hw, hno, fun q => by rw [hbnd.2 q] at hx; cases hx⟩)))
      refine drw_mk fun w139 h139 _ => ?_
      have b139 := b132.trans h139
      have Y3 := (X3.up h132).up h139
      have Y5 := (X5.up h132).up h139
      have Y7 := (X7.up h132).up h139
      have OM := (Own.kept O75 h132).kept h139
      have s139 : w53.heap.size ≤ w139.heap.size := by have := h132.size; have := h139.size; omega
      refine flExE_mk (fun w1 w2 => Xb (fun k => k = x3.block) w1 w2 ∧ (Box w1 x3 [.slice none 0 0] → Box w2 x3 [.slice none 0 0])) (fun _ _ _ w' => Box w' x3 [.slice none 0 0]) (fun w1 => ⟨Xb.refl _ w1, id⟩) (fun _ _ _ p q => ⟨p.1.trans q.1, fun z => q.2 (p.2 z)⟩) (fun _ _ _ _ _ p q => q.2 p) ?_
      refine rdE_box0 (by kernel_rfl) (fun w' hE => Y5.xb hE.1 (by omega)) rfl rfl ?_
      refine flc_mk (fun w143 hE _ => ?_) fun _ => ?_
      · refine wu_box (hE.2 Y3) (by kernel_rfl) (Nat.le_refl 1) rfl fun w145 Z3 hg _ => ?_
        exact ⟨⟨Xb.of hg fun k e => by injection e with e; exact e.symm, fun _ => Z3⟩, Z3⟩
      refine flend_mk fun w147 hE q => ?_
      have Z3 : Box w147 x3 [.slice none 0 0] := q.1
      have Z5 := Y5.xb hE.1 (by omega)
      have Z7 := Y7.xb hE.1 (by omega)
      have b147 : bel w w147 := Xb.bel b139 hE.1 fun k hk => by omega
      have OM' := Own_xb OM hE.1 fun k hk q => by have := (OM.lt k hk).1; omega
      refine wu_box Z5 (by kernel_rfl) (Nat.le_refl 1) rfl fun w149 U5 g2 _ => ?_
      refine wu_box (Z7.grown g2 (by intro e; injection e; omega)) (by kernel_rfl) (Nat.le_refl 1) rfl fun w150 U7 g3 _ => ?_
      refine out w150 (none, 0, 0) mh 0 ((Z3.grown g2 (by intro e; injection e; omega)).grown g3 (by intro e; injection e; omega)) (U5.grown g3 (by intro e; injection e; omega)) U7 (.inr (.inl ⟨rfl, rfl, (by omega), mults up.length T.length Tb row, hml, ?_, hmf, hbnd.1 hx⟩)) ((b147.grownAt g2 (by omega)).grownAt g3 (by omega))
      exact own_mono (own_box (own_box OM' g2 (by omega)) g3 (by omega)) (by omega)
end Go.Proofs.Ytajpdnphamomjaa

/- Plain law: the move of a tableau is a pivot. -/

namespace Go.Proofs.Ytajpdnphamomjaa
open Go.RowKit Go.Q Go.Q.Num Go.V

theorem getD_set_in {l : List Rat} {i q : Nat} {x : Rat} (hq : q < l.length) : (l.set i x).getD q 0 = if i = q then x else l.getD q 0 := by
  rw [List.getD_eq_getElem?_getD, List.getD_eq_getElem?_getD]
  by_cases h : i = q
  · subst h; rw [List.getElem?_set_self hq, if_pos rfl]; rfl
  · rw [List.getElem?_set_ne h, if_neg h]
theorem divN_val {r : List Rat} {c : Rat} {q : Nat} (hq : q < r.length) : ∀ j, (divN r c j).getD q 0 = if q < j then 0 + -(r.getD q 0 / c) else r.getD q 0
  | 0 => rfl
  | j + 1 => by
    unfold divN
    split
    · rw [getD_set_in (by rw [divN_len]; exact hq), divN_val hq j]
      by_cases h : j = q
      · subst h; rw [if_pos rfl, if_pos (by omega)]
      · rw [if_neg h]
        by_cases h2 : q < j
        · rw [if_pos h2, if_pos (by omega)]
        · rw [if_neg h2, if_neg (by omega)]
    · rename_i h0
      rw [divN_val hq j]
      by_cases h : j = q
      · subst h
        have h0 : r.getD j 0 = 0 := Classical.not_not.1 h0
        rw [if_neg (by omega), if_pos (by omega), h0]; grind
      · by_cases h2 : q < j
        · rw [if_pos h2, if_pos (by omega)]
        · rw [if_neg h2, if_neg (by omega)]
theorem addN_val {r nr : List Rat} {c : Rat} {q : Nat} (hq : q < r.length) : ∀ j, (addN r c nr j).getD q 0 = if q < j then r.getD q 0 + c * nr.getD q 0 else r.getD q 0
  | 0 => rfl
  | j + 1 => by
    unfold addN
    split
    · rw [getD_set_in (by rw [addN_len]; exact hq), addN_val hq j]
      by_cases h : j = q
      · subst h; rw [if_pos rfl, if_pos (by omega), addN_val hq j, if_neg (by omega)]
      · rw [if_neg h]
        by_cases h2 : q < j
        · rw [if_pos h2, if_pos (by omega)]
        · rw [if_neg h2, if_neg (by omega)]
    · rename_i h0
      rw [addN_val hq j]
      by_cases h : j = q
      · subst h
        have h0 : nr.getD j 0 = 0 := Classical.not_not.1 h0
        rw [if_neg (by omega), if_pos (by omega), h0]; grind
      · by_cases h2 : q < j
        · rw [if_pos h2, if_pos (by omega)]
        · rw [if_neg h2, if_neg (by omega)]
section
variable {T : Tb} {N M row k : Nat} {to : Rat}
theorem nr_val (ok : TbOk N M T) (hr : row < M) {j : Nat} (hj : j < N) : (T.nr row k).getD j 0 = nrow T.a T.b row k j := by
  have hl := ok.row_len hr
  unfold Tb.nr nrow
  rw [hl, getD_set_in (by rw [List.length_set, divN_len, hl]; exact hj), getD_set_in (by rw [divN_len, hl]; exact hj), divN_val (by rw [hl]; exact hj), if_pos hj]
  by_cases h1 : j = T.b row
  · rw [if_pos h1.symm, if_pos h1]
  · rw [if_neg (fun e => h1 e.symm), if_neg h1]
    by_cases h2 : j = k
    · rw [if_pos h2.symm, if_pos h2]
    · rw [if_neg (fun e => h2 e.symm), if_neg h2]; rfl
theorem rN_val (ok : TbOk N M T) (hr : row < M) {q : Nat} (hq : q < M) : ∀ i, (T.rN row k i).getD q [] = if q = row then T.nr row k else if q < i ∧ T.a q k ≠ 0 then addN ((T.rows.getD q []).set k 0) (T.a q k) (T.nr row k) (T.nr row k).length else T.rows.getD q []
  | 0 => by
    show (T.rows.set row (T.nr row k)).getD q [] = _
    by_cases h : q = row
    · subst h; rw [getD_set (by rw [ok.lr]; exact hr), if_pos rfl]
    · rw [getD_set_ne' (fun e => h e.symm), if_neg h, if_neg (by omega)]
  | i + 1 => by
    unfold Tb.rN
    split
    · rename_i h0
      by_cases h : i = q
      · subst h
        rw [getD_set (by rw [rN_len, ok.lr]; exact hq), if_neg h0.1, if_pos ⟨by omega, h0.2⟩]
      · rw [getD_set_ne' h, rN_val ok hr hq i]
        by_cases h1 : q = row
        · rw [if_pos h1, if_pos h1]
        · rw [if_neg h1, if_neg h1]
          by_cases h2 : q < i ∧ T.a q k ≠ 0
          · rw [if_pos h2, if_pos ⟨by omega, h2.2⟩]
          · rw [if_neg h2, if_neg fun q => h2 ⟨by omega, q.2⟩]
    · rename_i h0
      rw [rN_val ok hr hq i]
      by_cases h1 : q = row
      · rw [if_pos h1, if_pos h1]
      · rw [if_neg h1, if_neg h1]
        by_cases h2 : q < i ∧ T.a q k ≠ 0
        · rw [if_pos h2, if_pos ⟨by omega, h2.2⟩]
        · rw [if_neg h2, if_neg fun q' => h2 ⟨by
            rcases Nat.lt_or_ge q i with h | h
            · exact h
            · have : q = i := by omega
              subst this; exact absurd ⟨h1, q'.2⟩ h0, q'.2⟩]
theorem move_a (ok : TbOk N M T) (hr : row < M) {i j : Nat} (hi : i < M) (hj : j < N) : (T.move row k to).a i j = nrows T.a T.b row k i j := by
  have hl := ok.row_len hi
  show ((T.rN row k T.rows.length).getD i []).getD j 0 = _
  rw [rN_val ok hr hi, ok.lr]
  unfold nrows
  by_cases h : i = row
  · rw [if_pos h, if_pos h]; exact nr_val ok hr hj
  · rw [if_neg h, if_neg h, ← nr_val ok hr hj]
    by_cases h2 : T.a i k = 0
    · rw [if_neg fun q => q.2 h2, h2]
      show T.a i j = _
      by_cases h3 : j = k
      · subst h3; rw [if_pos rfl, h2]; grind
      · rw [if_neg h3]; grind
    · rw [if_pos ⟨hi, h2⟩, addN_val (by rw [List.length_set, hl]; exact hj), nr_len, ok.row_len hr, if_pos hj, getD_set_in (by rw [hl]; exact hj)]
      by_cases h3 : j = k
      · rw [if_pos h3.symm, if_pos h3]
      · rw [if_neg (fun e => h3 e.symm), if_neg h3]; rfl
theorem move_b (ok : TbOk N M T) {i : Nat} (hi : i < M) : (T.move row k to).b i = nbas T.b row k i := by
  show (T.bas.set row k).getD i 0 = _
  unfold nbas
  rw [List.getD_eq_getElem?_getD]
  by_cases h : i = row
  · subst h; rw [List.getElem?_set_self (by rw [ok.lb]; exact hi), if_pos rfl]; rfl
  · rw [List.getElem?_set_ne (fun e => h e.symm), if_neg h]; exact (List.getD_eq_getElem?_getD ..).symm
theorem vN_other {q : Nat} : ∀ {i : Nat}, (∀ i', i' < i → i' ≠ row → T.b i' ≠ q) → (T.vN row k to i).getD q 0 = (T.v0 row k to).getD q 0
  | 0, _ => rfl
  | i + 1, h => by
    unfold Tb.vN
    split
    · rename_i h0
      rw [List.getD_eq_getElem?_getD, List.getElem?_set_ne (h i (by omega) h0.1), ← List.getD_eq_getElem?_getD]
      exact vN_other fun i' h1 h2 => h i' (by omega) h2
    · exact vN_other fun i' h1 h2 => h i' (by omega) h2
theorem vN_hit (ok : TbOk N M T) (inj : ∀ i i', i < M → i' < M → T.b i = T.b i' → i = i') {q : Nat} (hq : q ≠ row) : ∀ {i : Nat}, q < i → i ≤ M → (T.vN row k to i).getD (T.b q) 0 = (T.v0 row k to).getD (T.b q) 0 + T.a q k * T.by row k to
  | 0, h, _ => by omega
  | i + 1, h, hM => by
    have hb := ok.b_lt (i := q) (by omega)
    have hl : (T.vN row k to i).length = N := by rw [vN_len, ok.lv]
    by_cases hqi : i = q
    · subst hqi
      have ho : (T.vN row k to i).getD (T.b i) 0 = (T.v0 row k to).getD (T.b i) 0 := vN_other fun i' h1 _ e => by have := inj i' i (by omega) (by omega) e; omega
      unfold Tb.vN
      split
      · rw [getD_set_in (by rw [hl]; exact hb), if_pos rfl, ho]
      · rename_i h0
        have h0 : T.a i k = 0 := Classical.byContradiction fun e => h0 ⟨hq, e⟩
        rw [ho, h0]; grind
    · have ih := vN_hit ok inj hq (i := i) (by omega) (by omega)
      unfold Tb.vN
      split
      · rw [getD_set_in (by rw [hl]; exact hb), if_neg (fun e => hqi (inj i q (by omega) (by omega) e)), ih]
      · exact ih
theorem v0_val (ok : TbOk N M T) {q : Nat} (hq : q < N) : (T.v0 row k to).getD q 0 = if k = q then T.v k + T.by row k to else if T.b row = q then to else T.v q := by
  unfold Tb.v0
  rw [getD_set_in (by rw [List.length_set, ok.lv]; exact hq), getD_set_in (by rw [ok.lv]; exact hq)]; rfl
theorem move_v (ok : TbOk N M T) (inj : ∀ i i', i < M → i' < M → T.b i = T.b i' → i = i') (hr : row < M) (hk : k < N) (hkb : ∀ i, i < M → T.b i ≠ k) : Moved M T.a T.v T.b row k to (T.move row k to).v := by
  have e : ∀ q, (T.move row k to).v q = (T.vN row k to M).getD q 0 := fun q => by
    show (T.vN row k to T.bas.length).getD q 0 = _
    rw [ok.lb]
  refine ⟨?_, ?_, fun i hi hir => ?_, fun j hjk hj => ?_⟩
  · rw [e, vN_other fun i' h1 h2 e => h2 (inj i' row h1 hr e), v0_val ok (ok.b_lt hr), if_neg (fun e => hkb row hr e.symm), if_pos rfl]
  · rw [e, vN_other fun i' h1 _ => hkb i' h1, v0_val ok hk, if_pos rfl]; rfl
  · rw [e, vN_hit ok inj hir hi (Nat.le_refl _), v0_val ok (ok.b_lt hi), if_neg (fun e => hkb i hi e.symm), if_neg (fun e => hir (inj row i hr hi e).symm)]; rfl
  · rw [e, vN_other fun i' h1 _ => hj i' h1]
    by_cases hjN : j < N
    · rw [v0_val ok hjN, if_neg (fun e => hjk e.symm), if_neg (hj row hr)]
    · unfold Tb.v0 Tb.v
      rw [List.getD_eq_getElem?_getD, List.getElem?_eq_none (by simp [ok.lv]; omega), List.getD_eq_getElem?_getD, List.getElem?_eq_none (by rw [ok.lv]; omega)]
end
theorem TI.congr {N M : Nat} {a0 : Nat → Nat → Rat} {b0 : Nat → Nat} {lo hi : Nat → Rat} {a a' : Nat → Nat → Rat} {v : Nat → Rat} {b b' : Nat → Nat} (I : TI N M a0 b0 lo hi a v b)
    (ha : ∀ i j, i < M → j < N → a' i j = a i j) (hb : ∀ i, i < M → b' i = b i) : TI N M a0 b0 lo hi a' v b' := by
  have hs : ∀ y, Sat N M a' b' y ↔ Sat N M a b y := by
    intro y
    have e : ∀ i, i < M → sm (fun j => a' i j * y j) N = sm (fun j => a i j * y j) N := fun i hi => sm_congr fun j hj => by rw [ha i j hi hj]
    constructor
    · intro h i hi; rw [← hb i hi, ← e i hi]; exact h i hi
    · intro h i hi; rw [hb i hi, e i hi]; exact h i hi
  refine ⟨fun i i' hi hi' e => I.inj i i' hi hi' (by rw [← hb i hi, ← hb i' hi']; exact e), fun i hi => by rw [hb i hi]; exact I.lt i hi, fun i i' hi hi' => ?_, fun y => (hs y).trans (I.eqv y), (hs v).2 I.sat, fun j hj h => I.bnd j hj fun i hi => by rw [← hb i hi]; exact h i hi⟩
  rw [hb i' hi', ha i _ hi (I.lt i' hi')]
  exact I.z i i' hi hi'
abbrev TbI (N M : Nat) (a0 : Nat → Nat → Rat) (b0 : Nat → Nat) (T : Tb) : Prop := TI N M a0 b0 T.lo T.hi T.a T.v T.b
theorem TbI.move {N M : Nat} {a0 : Nat → Nat → Rat} {b0 : Nat → Nat} {T : Tb} (I : TbI N M a0 b0 T) (ok : TbOk N M T) {row k : Nat} {to : Rat} (hr : row < M) (hk : k < N) (hc : T.a row k ≠ 0) (hto : T.lo (T.b row) ≤ to ∧ to ≤ T.hi (T.b row)) : TbI N M a0 b0 (T.move row k to) := by
  have hkb : ∀ i, i < M → T.b i ≠ k := fun i hi e => hc (by rw [← e]; exact I.z row i hr hi)
  exact (TI.pivot I hr hk hc (move_v ok I.inj hr hk hkb) hto).congr (fun i j hi hj => move_a ok hr hi hj) fun i hi => move_b ok hi
end Go.Proofs.Ytajpdnphamomjaa

/- Plain law: what Relax finds is a solution. -/


namespace Go.Proofs.Ytajpdnphamomjaa
open Go.RowKit Go.Q Go.Q.Num Go.V

section
variable {up : List Int} {T : List (List Int)} {rt ls hs : List Int}
theorem getD_some {α : Type} {l : List α} {i : Nat} {x d : α} (h : l[i]? = some x) : l.getD i d = x := by rw [List.getD_eq_getElem?_getD, h]; rfl
theorem tb0_a {i j : Nat} {row : List Int} (hrow : T[i]? = some row) (hj : j < row.length + T.length) : (tb0 up T rt ls hs T.length).a i j = ((row.getD j 0 : Int) : Rat) := by
  unfold Tb.a tb0
  dsimp only
  rw [getD_some (x := rowQ T.length row) (by rw [List.take_length, List.getElem?_map, hrow]; rfl)]
  exact getD_some (rowQ_get hj)
theorem tb0_b {i : Nat} (hi : i < T.length) : (tb0 up T rt ls hs T.length).b i = up.length + i := by
  unfold Tb.b tb0
  exact getD_some (by rw [List.getElem?_map, List.getElem?_range hi]; rfl)
theorem q1_get {l : List Int} {j : Nat} {x : Int} (h : l[j]? = some x) : (q1 l)[j]? = some (x : Rat) := by unfold q1; rw [List.getElem?_map, h]; rfl
theorem q1_len (l : List Int) : (q1 l).length = l.length := by simp [q1]
theorem tb0_lo {j : Nat} {x : Int} (h : ls[j]? = some x) : (tb0 up T rt ls hs T.length).lo j = (x : Rat) := by
  unfold Tb.lo tb0
  exact getD_some (by rw [List.getElem?_append_left (by rw [q1_len]; exact (List.getElem?_eq_some_iff.1 h).1), q1_get h])
theorem tb0_hi {j : Nat} {x : Int} (h : hs[j]? = some x) : (tb0 up T rt ls hs T.length).hi j = (x : Rat) := by
  unfold Tb.hi tb0
  exact getD_some (by rw [List.getElem?_append_left (by rw [q1_len]; exact (List.getElem?_eq_some_iff.1 h).1), q1_get h])
theorem tb0_v {j : Nat} {x : Int} (h : ls[j]? = some x) : (tb0 up T rt ls hs T.length).v j = (x : Rat) := by
  unfold Tb.v tb0
  exact getD_some (by rw [List.getElem?_append_left (by rw [q1_len]; exact (List.getElem?_eq_some_iff.1 h).1), q1_get h])
theorem tb0_lob {i : Nat} {y : Int} (hll : ls.length = up.length) (hrt : rt.length = T.length) (h : rt[i]? = some y) : (tb0 up T rt ls hs T.length).lo (up.length + i) = (y : Rat) := by
  unfold Tb.lo tb0
  exact getD_some (by rw [List.getElem?_append_right (by rw [q1_len]; omega), q1_len, hll, Nat.add_sub_cancel_left, ← hrt, List.take_length, q1_get h])
theorem tb0_hib {i : Nat} {y : Int} (hhl : hs.length = up.length) (hrt : rt.length = T.length) (h : rt[i]? = some y) : (tb0 up T rt ls hs T.length).hi (up.length + i) = (y : Rat) := by
  unfold Tb.hi tb0
  exact getD_some (by rw [List.getElem?_append_right (by rw [q1_len]; omega), q1_len, hhl, Nat.add_sub_cancel_left, ← hrt, List.take_length, q1_get h])
theorem tb0_vb {i : Nat} {row : List Int} (hll : ls.length = up.length) (h : T[i]? = some row) : (tb0 up T rt ls hs T.length).v (up.length + i) = sumQ row ls up.length := by
  unfold Tb.v tb0
  exact getD_some (by rw [List.getElem?_append_right (by rw [q1_len]; omega), q1_len, hll, Nat.add_sub_cancel_left, List.take_length, List.getElem?_map, h]; rfl)
theorem sumQ_sm (row ls : List Int) : ∀ k, sumQ row ls k = sm (fun j => ((row.getD j 0 : Int) : Rat) * ((ls.getD j 0 : Int) : Rat)) k
  | 0 => rfl
  | k + 1 => by
    show (if row.getD k 0 ≠ 0 then sumQ row ls k + ((row.getD k 0 : Int) : Rat) * ((ls.getD k 0 : Int) : Rat) else sumQ row ls k) = sm (fun j => ((row.getD j 0 : Int) : Rat) * ((ls.getD j 0 : Int) : Rat)) k + ((row.getD k 0 : Int) : Rat) * ((ls.getD k 0 : Int) : Rat)
    rw [← sumQ_sm row ls k]
    split
    · rfl
    · rename_i h
      have h0 : row.getD k 0 = 0 := Classical.not_not.1 h
      rw [h0]
      show sumQ row ls k = sumQ row ls k + (0 : Rat) * _
      grind
theorem sm_ext {f : Nat → Rat} {n : Nat} : ∀ m, (∀ j, n ≤ j → j < n + m → f j = 0) → sm f (n + m) = sm f n
  | 0, _ => rfl
  | m + 1, h => by
    show sm f (n + m) + f (n + m) = sm f n
    rw [sm_ext m fun j h1 h2 => h j h1 (by omega), h (n + m) (by omega) (by omega)]; grind
theorem tb0_I (hA : SysA up T rt) (hll : ls.length = up.length) (hhl : hs.length = up.length) (hle : ∀ (k : Nat) a b, ls[k]? = some a → hs[k]? = some b → a ≤ b) :
    TbI (up.length + T.length) T.length (tb0 up T rt ls hs T.length).a (tb0 up T rt ls hs T.length).b (tb0 up T rt ls hs T.length) := by
  have row : ∀ i, i < T.length → ∃ row, T[i]? = some row ∧ row.length = up.length := fun i hi => ⟨_, List.getElem?_eq_getElem hi, hA.2 _ (List.getElem_mem hi)⟩
  refine ⟨fun i i' hi hi' e => ?_, fun i hi => ?_, fun i i' hi hi' => ?_, fun _ => Iff.rfl, fun i hi => ?_, fun j hj hn => ?_⟩
  · rw [tb0_b hi, tb0_b hi'] at e; omega
  · rw [tb0_b hi]; omega
  · obtain ⟨r, h1, h2⟩ := row i hi
    rw [tb0_b hi', tb0_a h1 (by omega), List.getD_eq_getElem?_getD, List.getElem?_eq_none (by omega)]; rfl
  · obtain ⟨r, h1, h2⟩ := row i hi
    rw [tb0_b hi, tb0_vb hll h1, sumQ_sm]
    refine (sm_ext (n := up.length) T.length (fun j hj1 hj2 => ?_)).symm.trans (sm_congr fun j hj => ?_) |>.trans rfl
    · rw [List.getD_eq_getElem?_getD (l := r), List.getElem?_eq_none (by omega)]
      show (0 : Rat) * _ = 0
      grind
    · rw [tb0_a h1 (by omega)]
      by_cases hjn : j < up.length
      · obtain ⟨x, hx⟩ : ∃ x, ls[j]? = some x := ⟨_, List.getElem?_eq_getElem (by omega)⟩
        rw [tb0_v hx, getD_some hx]
      · rw [List.getD_eq_getElem?_getD (l := r), List.getElem?_eq_none (by omega)]
        show (0 : Rat) * _ = (0 : Rat) * _
        grind
  · have hjn : j < up.length := by
      rcases Nat.lt_or_ge j up.length with h | h
      · exact h
      · exact absurd (by rw [tb0_b (by omega)]; omega) (hn (j - up.length) (by omega))
    obtain ⟨x, hx⟩ : ∃ x, ls[j]? = some x := ⟨_, List.getElem?_eq_getElem (by omega)⟩
    obtain ⟨y, hy⟩ : ∃ x, hs[j]? = some x := ⟨_, List.getElem?_eq_getElem (by omega)⟩
    rw [tb0_lo hx, tb0_hi hy, tb0_v hx]
    exact ⟨Rat.le_refl, Rat.intCast_le_intCast.2 (hle j x y hx hy)⟩
theorem Rch.inv {N M : Nat} {T0 : Tb} (I0 : TbI N M T0.a T0.b T0) (hlh : ∀ j, j < N → T0.lo j ≤ T0.hi j) {c : Nat} {B : Tb} (h : Rch N M T0 c B) : TbI N M T0.a T0.b B ∧ B.low = T0.low ∧ B.high = T0.high := by
  induction h with
  | zero => exact ⟨I0, rfl, rfl⟩
  | step hR ok hs ih =>
    rename_i c B row k below
    obtain ⟨I, e1, e2⟩ := ih
    have hr : row < M := wr_lt hs.1
    have hb := ok.b_lt hr
    have hl : B.lo (B.b row) ≤ B.hi (B.b row) := by
      have := hlh _ hb
      unfold Tb.lo Tb.hi at *
      rw [e1, e2]; exact this
    refine ⟨TbI.move I ok hr hs.2.1 hs.2.2.1.1 ?_, e1, e2⟩
    unfold goal
    split
    · exact ⟨Rat.le_refl, hl⟩
    · exact ⟨hl, Rat.le_refl⟩
theorem wr_none {T : Tb} : ∀ {M : Nat}, T.wr M = none → ∀ i, i < M → T.lo (T.b i) ≤ T.v (T.b i) ∧ T.v (T.b i) ≤ T.hi (T.b i)
  | 0, _, i, hi => by omega
  | M + 1, h, i, hi => by
    rw [wr_succ] at h
    split at h
    · split at h
      · cases h
      · split at h <;> cases h
    · rename_i hn
      by_cases him : i = M
      · subst him
        exact ⟨Rat.not_lt.1 fun q => hn (.inl q), Rat.not_lt.1 fun q => hn (.inr q)⟩
      · exact wr_none h i (by omega)
theorem rlx_sol (hA : SysA up T rt) (hll : ls.length = up.length) (hhl : hs.length = up.length) (hle : ∀ (k : Nat) a b, ls[k]? = some a → hs[k]? = some b → a ≤ b) {c : Nat} {B : Tb}
    (hR : Rch (up.length + T.length) T.length (tb0 up T rt ls hs T.length) c B) (hw : B.wr T.length = none) :
    (∀ (k : Nat) a b, ls[k]? = some a → hs[k]? = some b → (a : Rat) ≤ B.v k ∧ B.v k ≤ (b : Rat)) ∧ (∀ (i : Nat) row y, T[i]? = some row → rt[i]? = some y → sm (fun j => B.v j * ((row.getD j 0 : Int) : Rat)) up.length = (y : Rat)) := by
  have I0 := tb0_I hA hll hhl hle
  have hlh : ∀ j, j < up.length + T.length → (tb0 up T rt ls hs T.length).lo j ≤ (tb0 up T rt ls hs T.length).hi j := fun j hj => by
    rcases Nat.lt_or_ge j up.length with h | h
    · obtain ⟨x, hx⟩ : ∃ x, ls[j]? = some x := ⟨_, List.getElem?_eq_getElem (by omega)⟩
      obtain ⟨y, hy⟩ : ∃ x, hs[j]? = some x := ⟨_, List.getElem?_eq_getElem (by omega)⟩
      rw [tb0_lo hx, tb0_hi hy]
      exact Rat.intCast_le_intCast.2 (hle j x y hx hy)
    · obtain ⟨y, hy⟩ : ∃ x, rt[j - up.length]? = some x := ⟨_, List.getElem?_eq_getElem (by have := hA.1; omega)⟩
      have e1 := tb0_lob (T := T) (hs := hs) hll hA.1 hy
      have e2 := tb0_hib (T := T) (ls := ls) hhl hA.1 hy
      rw [show up.length + (j - up.length) = j by omega] at e1 e2
      rw [e1, e2]; exact Rat.le_refl
  obtain ⟨I, e1, e2⟩ := Rch.inv I0 hlh hR
  have elo : ∀ j, B.lo j = (tb0 up T rt ls hs T.length).lo j := fun j => by unfold Tb.lo; rw [e1]
  have ehi : ∀ j, B.hi j = (tb0 up T rt ls hs T.length).hi j := fun j => by unfold Tb.hi; rw [e2]
  have inb : ∀ j, j < up.length + T.length → B.lo j ≤ B.v j ∧ B.v j ≤ B.hi j := fun j hj => by
    by_cases h : ∃ i, i < T.length ∧ B.b i = j
    · obtain ⟨i, hi, rfl⟩ := h
      exact wr_none hw i hi
    · exact I.bnd j hj fun i hi e => h ⟨i, hi, e⟩
  refine ⟨fun k a b ha hb => ?_, fun i row y hrow hy => ?_⟩
  · have hk := (List.getElem?_eq_some_iff.1 ha).1
    have := inb k (by omega)
    rw [elo, ehi, tb0_lo ha, tb0_hi hb] at this
    exact this
  · have hi : i < T.length := (List.getElem?_eq_some_iff.1 hrow).1
    have hrl : row.length = up.length := hA.2 row (mem_at hrow)
    have h1 := inb (up.length + i) (by omega)
    rw [elo, ehi, tb0_lob hll hA.1 hy, tb0_hib hhl hA.1 hy] at h1
    have h2 := (I.eqv B.v).1 I.sat i hi
    rw [tb0_b hi] at h2
    have h3 : B.v (up.length + i) = (y : Rat) := by grind
    rw [← h3, h2]
    rw [sm_ext (n := up.length) T.length (fun j hj1 hj2 => ?_)]
    · exact sm_congr fun j hj => by rw [tb0_a hrow (by omega)]; grind
    · rw [tb0_a hrow (by omega), List.getD_eq_getElem?_getD, List.getElem?_eq_none (by omega)]
      show (0 : Rat) * _ = 0
      grind
end
end Go.Proofs.Ytajpdnphamomjaa

/- Relax from zero to the bounds: a solution. -/


namespace Go.Proofs.Ytajpdnphamomjaa
open Go.RowKit Go.Q Go.Q.Num Go.V

section
variable {up : List Int} {T : List (List Int)} {rt : List Int}
theorem take_get {L : List Rat} {n k : Nat} {p : Int × Int} (h : ((L.take n).map prQ)[k]? = some p) : k < n ∧ p = prQ (L.getD k 0) := by
  rw [List.getElem?_map] at h
  obtain ⟨x, hx, rfl⟩ := Option.map_eq_some_iff.1 h
  rw [List.getElem?_take] at hx
  split at hx
  · rename_i hk
    exact ⟨hk, by rw [getD_some hx]⟩
  · cases hx
theorem dotN_sm' (r : List Int) (L : List (Int × Int)) : ∀ n, dotN r L n = sm (dotT r L) n
  | 0 => rfl
  | n + 1 => by show dotN r L n + dotT r L n = sm (dotT r L) n + dotT r L n; rw [dotN_sm' r L n]
theorem rlx_SolP (hok : sysE up T rt = 0) {ls hs : List Int} (hll : ls.length = up.length) (hhl : hs.length = up.length) (hle : ∀ (k : Nat) a b, ls[k]? = some a → hs[k]? = some b → a ≤ b) (h0 : ∀ x ∈ ls, 0 ≤ x) (hu : ∀ (k : Nat) a b, hs[k]? = some a → up[k]? = some b → a ≤ b) {c : Nat} {B : Tb}
    (hR : Rch (up.length + T.length) T.length (tb0 up T rt ls hs T.length) c B) (ok : TbOk (up.length + T.length) T.length B) (hw : B.wr T.length = none) : SolP up T rt ((B.val.take up.length).map prQ) := by
  obtain ⟨hul, hTl, hRr, hA⟩ := sysE_ok hok
  obtain ⟨h1, h2⟩ := rlx_sol hA hll hhl hle hR hw
  refine ⟨hok, by rw [List.length_map, List.length_take, ok.lv]; omega, fun k p u hp hup => ?_, fun i row y hrow hy => ?_⟩
  · obtain ⟨hk, rfl⟩ := take_get hp
    have hf : Fits (B.val.getD k 0) := ok.v_fit (j := k) (by omega)
    obtain ⟨a, ha⟩ : ∃ x, ls[k]? = some x := ⟨_, List.getElem?_eq_getElem (by omega)⟩
    obtain ⟨b, hb⟩ : ∃ x, hs[k]? = some x := ⟨_, List.getElem?_eq_getElem (by omega)⟩
    have hv := h1 k a b ha hb
    have ha0 : (0 : Rat) ≤ (a : Rat) := Rat.intCast_le_intCast.2 (h0 a (mem_at ha))
    have hbu : (b : Rat) ≤ (u : Rat) := Rat.intCast_le_intCast.2 (hu k b u hb hup)
    refine ⟨frac_fits hf, ?_, ?_⟩
    · show ¬ (B.val.getD k 0).num < 0
      rw [num_neg]
      have : B.v k = B.val.getD k 0 := rfl
      rw [← this]
      grind
    · show ¬ ((u : Rat) < ratv (B.val.getD k 0).num (((B.val.getD k 0).den : Nat) : Int))
      rw [ratv_fits]
      have : B.v k = B.val.getD k 0 := rfl
      rw [← this]
      grind
  · rw [dotN_sm', ← h2 i row y hrow hy]
    have hrl : row.length = up.length := hA.2 row (mem_at hrow)
    refine sm_congr fun j hj => ?_
    have hp : ((B.val.take up.length).map prQ)[j]? = some (prQ (B.v j)) := by
      rw [List.getElem?_map, List.getElem?_take, if_pos hj, ok.val_get (by omega)]; rfl
    rw [dotT_at (c := row.getD j 0) (by rw [List.getD_eq_getElem?_getD, List.getElem?_eq_getElem (by omega)]; rfl) hp, ratv_fits]
end
end Go.Proofs.Ytajpdnphamomjaa

/- The conditions of functions, printed by our tool; each is checked against the code by the kernel. -/



namespace Go.Proofs
open Go Go.V Go.RowKit
def S43 (s_0a : Option Addr) (s_0n : Nat) (s_0c : Nat) (s_1a : Option Addr) (s_1n : Nat) (s_1c : Nat) (s_2a : Option Addr) (s_2n : Nat) (s_2c : Nat) (w0 : World) (R : Value → World → Prop) : Prop :=
 wr Try.prog (Instr.box 43 (.agg #[(.slice s_0a s_0n s_0c), (.slice s_1a s_1n s_1c), (.slice s_2a s_2n s_2c)])) (.one .addr) w0 fun (x1 : Addr) w2 =>
 rd Try.prog (Instr.loadAt 43 (.pointer (some x1))) (.agg [.slice, .slice, .slice]) w2 fun (x3 : (Hd3 × Hd3 × Hd3 × Unit)) =>
 call Try.prog 30 [(.agg #[(.slice x3.1.1 x3.1.2.1 x3.1.2.2), (.slice x3.2.1.1 x3.2.1.2.1 x3.2.1.2.2), (.slice x3.2.2.1.1 x3.2.2.1.2.1 x3.2.2.1.2.2)])] (.one (.one (.int .i64))) w2 fun (x4 : Int) w5 =>
 br (x4 != 0) (R (.tuple #[(.slice none 0 0), (.slice none 0 0), (.int .i64 x4)]) w5)
 (drw w5 fun w6 => flEx fun F7 =>
 rd Try.prog (Instr.loadAt 43 (.pointer (some x1))) (.agg [.slice, .slice, .slice]) w6 fun (x8 : (Hd3 × Hd3 × Hd3 × Unit)) =>
 rd Try.prog (Instr.loadAt 40 (.pointer (some x1))) (.one .slice) w6 fun (x9 : Hd3) =>
 flc bel w6 (fun _w11 => True) (fun w10 =>
   wr Try.prog (Instr.makeSlice 40 (.int .i64 ((x9.2.1 : Nat) : Int)) (.int .i64 ((x9.2.1 : Nat) : Int))) (.one .slice) w10 fun (x12 : Hd3) w13 =>
 (bel w10 w13 ∧ F7 4 [] (.slice x12.1 x12.2.1 x12.2.2) w13))
  fun (x14 : Hd3) =>
 rd Try.prog (Instr.loadAt 40 (.pointer (some x1))) (.one .slice) w6 fun (x15 : Hd3) =>
 flend bel w6 (fun w17 => F7 4 [] (.slice x14.1 x14.2.1 x14.2.2) w17 ∧ True) fun w16 =>
 call Try.prog 94 [(.agg #[(.slice x8.1.1 x8.1.2.1 x8.1.2.2), (.slice x8.2.1.1 x8.2.1.2.1 x8.2.1.2.2), (.slice x8.2.2.1.1 x8.2.2.1.2.1 x8.2.2.1.2.2)]), (.slice x14.1 x14.2.1 x14.2.2), (.slice x15.1 x15.2.1 x15.2.2), (.int .i64 2000)] (.many [(.one .slice), (.one .slice), (.one (.int .i64))]) w16 fun (x18 : (Hd3 × Hd3 × Int × Unit)) w19 =>
 R (.tuple #[(.slice x18.1.1 x18.1.2.1 x18.1.2.2), (.slice x18.2.1.1 x18.2.1.2.1 x18.2.1.2.2), (.int .i64 x18.2.2.1)]) w19)
def H43 : Hints := ⟨[], [(4, 7)], [], []⟩
set_option maxRecDepth 100000 in
theorem S43_eq (s_0a : Option Addr) (s_0n : Nat) (s_0c : Nat) (s_1a : Option Addr) (s_1n : Nat) (s_1c : Nat) (s_2a : Option Addr) (s_2n : Nat) (s_2c : Nat) (w0 : World) (R : Value → World → Prop) : vcFn Try.prog H43 Try.f43 [(.agg #[(.slice s_0a s_0n s_0c), (.slice s_1a s_1n s_1c), (.slice s_2a s_2n s_2c)])] w0 R = S43 s_0a s_0n s_0c s_1a s_1n s_1c s_2a s_2n s_2c w0 R := by kernel_rfl
set_option maxRecDepth 100000 in
theorem S43_calls (s_0a : Option Addr) (s_0n : Nat) (s_0c : Nat) (s_1a : Option Addr) (s_1n : Nat) (s_1c : Nat) (s_2a : Option Addr) (s_2n : Nat) (s_2c : Nat) (w0 : World) (R : Value → World → Prop) (h : S43 s_0a s_0n s_0c s_1a s_1n s_1c s_2a s_2n s_2c w0 R) : Calls Try.prog 43 #[(.agg #[(.slice s_0a s_0n s_0c), (.slice s_1a s_1n s_1c), (.slice s_2a s_2n s_2c)])] w0 (ret R) := by
  rw [← S43_eq] at h; exact vcFn_sound follows_ Try.func43 h

end Go.Proofs

/- LinearLarge. -/



namespace Go.Proofs.Ytajpdnphamomjaa
open Go.RowKit Go.Q Go.Q.Num Go.V

theorem made_ok' {up : List Int} {T : List (List Int)} {rt : List Int} {v r m : Nat} (h : MadeS up T rt v r m) (hv : v ≤ 20) (hr : r ≤ 20) (hm : m ≤ 10000) : sysE up T rt = 0 := by
  have h1 := h.n2
  have h2 := h.t
  refine sysE_0 (by omega) (by omega) ⟨fun x hx => ?_, fun x hx => ?_, fun q hq x hx => ?_⟩ ⟨h.r, fun q hq => (h.row q hq).1⟩
  · have := h.up x hx; omega
  · have h3 := h.rt x hx
    have : v * 50000 ≤ 20 * 50000 := Nat.mul_le_mul_right _ hv
    omega
  · have := (h.row q hq).2 x hx; omega
def LRes (up : List Int) (T : List (List Int)) (rt : List Int) (pv : Nat) (w : World) (x : Hdr × Hdr × Int × Unit) (w' : World) : Prop :=
  (x.2.2.1 = 0 ∧ x.2.1 = (none, 0, 0) ∧ ∃ L, L.length = up.length ∧ OwnQ w' w.heap.size x.1 L ∧ (∀ q ∈ L, Fits q) ∧ SolP up T rt (L.map prQ)) ∨
  (x.2.2.1 = 0 ∧ x.1 = (none, 0, 0) ∧ 1 ≤ T.length ∧ ∃ L, L.length = T.length ∧ OwnQ w' w.heap.size x.2.1 L ∧ (∀ q ∈ L, Fits q) ∧ BndP up T rt (List.replicate up.length 0) up (L.map prQ)) ∨
  (x.2.2.1 = 8 ∧ x.1 = (none, 0, 0) ∧ x.2.1 = (none, 0, 0) ∧ RlxC up T rt (List.replicate up.length 0) up pv)
theorem flat_prQ (L : List Rat) : L.flatMap encQ = (L.map prQ).flatMap encF := by rw [List.flatMap_map]
theorem prQ_i64 {L : List Rat} (h : ∀ q ∈ L, Fits q) : ∀ p ∈ L.map prQ, I64 p.1 ∧ I64 p.2 := fun p hp => by
  obtain ⟨y, hy, rfl⟩ := List.mem_map.1 hp
  exact i64_fits (h y hy)
theorem linSolve (u r b : Hdr) (up : List Int) (T : List (List Int)) (rt : List Int) (w : World) (H : Sys w u r b up T rt) (hok : sysE up T rt = 0) (hn1 : 1 ≤ up.length) :
    call Try.prog 43 [sysv u r b] rRX w (fun (x : Hdr × Hdr × Int × Unit) w' => LRes up T rt 2000 w x w' ∧ bel w w') := by
  refine call_of (S43_calls u.1 u.2.1 u.2.2 r.1 r.2.1 r.2.2 b.1 b.2.1 b.2.2 w _ ?_)
  obtain ⟨hul, hTl, hR, hA⟩ := sysE_ok hok
  have hur := H.u.int
  unfold S43
  refine wr_box fun x1 w2 X1 h2 hx1 _ => ?_
  replace X1 : Box w2 x1 (sysc u r b) := X1
  refine rd_boxN X1 (by kernel_rfl) rfl ?_
  refine call_mono (validL u r b up T rt w2 (H.up h2)) fun (x4 : Int) w5 q => ?_
  obtain ⟨h4, h5⟩ := q
  refine br_ne (fun h => absurd (h4.trans hok) h) (fun _ => ?_)
  refine drw_mk fun w6 h6 _ => ?_
  have X6 := (X1.up h5).up h6
  have b6 := (h2.trans h5).trans h6
  refine flEx_mk (fun _ _ v w' => ∃ ad, v = .slice (some ad) up.length up.length ∧ Sl w' (some ad) up.length up.length 1 (ints .i64 (List.replicate up.length 0))) (fun _ _ _ _ _ q hb => by obtain ⟨ad, h1, h2⟩ := q; exact ⟨ad, h1, h2.up hb⟩) ?_
  refine rd_boxN X6 (by kernel_rfl) rfl ?_
  refine rd_box0 (by kernel_rfl) X6 rfl rfl ?_
  refine flc_mk (fun w10 h10 _ => ?_) fun x14 => ?_
  · refine wr_make tyI64 up.length (by dsimp only; omega) (by dsimp only; omega) (by omega) (by unfold maxLen; omega) fun xd w13 OX hb _ _ => ?_
    refine ⟨hb, xd, rfl, ?_⟩
    have := (OX w10.heap.size (Nat.le_refl _)).sl
    rw [Nat.mul_one, show (madeCells (Value.int .i64 0).cells up.length).toList = ints .i64 (List.replicate up.length 0) from made_int .i64 _] at this
    exact this
  refine rd_box0 (by kernel_rfl) X6 rfl rfl ?_
  refine flend_mk fun w16 h16 q => ?_
  obtain ⟨⟨ad, ev, SZ⟩, _⟩ := q
  obtain rfl : x14 = (some ad, up.length, up.length) := hv_inj ev
  have b16 := b6.trans h16
  refine call_mono (relaxF u r b (some ad, up.length, up.length) u up T rt (List.replicate up.length 0) up 2000 w16 (H.up b16) hok SZ (H.up b16).u (by simp) rfl (fun x hx => by rw [(List.mem_replicate.1 hx).2]; omega) (fun x hx => by have := hR.1 x hx; omega) hn1 (by omega)) fun x w19 q => ?_
  obtain ⟨hr, h19⟩ := q
  refine ⟨x, rfl, ?_, b16.trans h19⟩
  rcases hr with ⟨e1, e2, c, B, hR', ok, hw, O⟩ | ⟨e1, e2, e3, L, h1, O, h3, h4⟩ | ⟨e1, e2, e3, h4⟩
  · refine .inl ⟨e1, e2, B.val.take up.length, by rw [List.length_take, ok.lv]; omega, own_mono O b16.size, fun q hq => ok.fv q (List.mem_of_mem_take hq), rlx_SolP hok (by simp) rfl (fun k a b ha hb => ?_) (fun x hx => by rw [(List.mem_replicate.1 hx).2]; omega) (fun k a b ha hb => by rw [ha] at hb; cases hb; omega) hR' ok hw⟩
    have h0 := (List.mem_replicate.1 (mem_at ha)).2
    have := hR.1 b (mem_at hb)
    omega
  · exact .inr (.inl ⟨e1, e2, e3, L, h1, own_mono O b16.size, h3, h4⟩)
  · exact .inr (.inr ⟨e1, e2, e3, h4⟩)

end Go.Proofs.Ytajpdnphamomjaa

/- Plain law: the search of a small system ends soon. -/


namespace Go.Proofs.Ytajpdnphamomjaa
open Go.RowKit Go.Q Go.Q.Num Go.V

theorem wr_spec {T : Tb} : ∀ {M : Nat} {p : Nat × Bool}, T.wr M = some p → p.1 < M ∧ (T.v (T.b p.1) < T.lo (T.b p.1) ∨ T.hi (T.b p.1) < T.v (T.b p.1)) ∧ p.2 = decide (T.v (T.b p.1) < T.lo (T.b p.1)) ∧ ∀ i, i < M → T.v (T.b i) < T.lo (T.b i) ∨ T.hi (T.b i) < T.v (T.b i) → T.b p.1 ≤ T.b i
  | 0, p, h => by cases h
  | M + 1, p, h => by
    rw [wr_succ] at h
    split at h
    · rename_i hv
      split at h
      · rename_i hn
        cases h
        refine ⟨Nat.lt_succ_self _, hv, rfl, fun i hi hvi => ?_⟩
        by_cases e : i = M
        · subst e; exact Nat.le_refl _
        · have := wr_none hn i (by omega)
          rcases hvi with q | q
          · exact absurd q (Rat.not_lt.2 this.1)
          · exact absurd q (Rat.not_lt.2 this.2)
      · rename_i q hq
        obtain ⟨h1, h2, h3, h4⟩ := wr_spec hq
        split at h
        · rename_i hlt
          cases h
          refine ⟨Nat.lt_succ_self _, hv, rfl, fun i hi hvi => ?_⟩
          by_cases e : i = M
          · subst e; exact Nat.le_refl _
          · have := h4 i (by omega) hvi
            show T.b M ≤ T.b i
            omega
        · rename_i hlt
          cases h
          refine ⟨by omega, h2, h3, fun i hi hvi => ?_⟩
          by_cases e : i = M
          · subst e; omega
          · exact h4 i (by omega) hvi
    · rename_i hv
      obtain ⟨h1, h2, h3, h4⟩ := wr_spec h
      refine ⟨by omega, h2, h3, fun i hi hvi => ?_⟩
      by_cases e : i = M
      · subst e; exact absurd hvi hv
      · exact h4 i (by omega) hvi
theorem rch_seq {N M : Nat} {T0 : Tb} {c : Nat} {B : Tb} (h : Rch N M T0 c B) : ∃ τ : Nat → Tb, τ 0 = T0 ∧ τ c = B ∧ (∀ i, i ≤ c → Rch N M T0 i (τ i)) ∧ ∀ i, i < c → TbOk N M (τ i) ∧ ∃ row below k, Stp N M (τ i) row below k ∧ τ (i + 1) = (τ i).move row k (goal (τ i) row below) := by
  induction h with
  | zero =>
    refine ⟨fun _ => T0, rfl, rfl, fun i hi => ?_, fun i hi => by omega⟩
    obtain rfl : i = 0 := by omega
    exact Rch.zero
  | step hR ok hs ih =>
    rename_i c Tb row k below
    obtain ⟨τ, h1, h2, h3, h4⟩ := ih
    refine ⟨fun i => if i ≤ c then τ i else Tb.move row k (goal Tb row below), by simp [h1], by simp; omega, fun i hi => ?_, fun i hi => ?_⟩
    · dsimp only
      by_cases hic : i ≤ c
      · rw [if_pos hic]; exact h3 i hic
      · obtain rfl : i = c + 1 := by omega
        rw [if_neg hic]; exact .step hR ok hs
    · dsimp only
      rw [if_pos (by omega : i ≤ c)]
      by_cases hic : i + 1 ≤ c
      · rw [if_pos hic]; exact h4 i (by omega)
      · obtain rfl : i = c := by omega
        rw [if_neg hic, h2]
        exact ⟨ok, row, below, k, hs, rfl⟩
theorem Rch.atb {N M : Nat} {T0 : Tb} (I0 : TbI N M T0.a T0.b T0) (hlh : ∀ j, j < N → T0.lo j ≤ T0.hi j) (h0 : ∀ j, j < N → (∀ i, i < M → T0.b i ≠ j) → T0.v j = T0.lo j ∨ T0.v j = T0.hi j) {c : Nat} {B : Tb} (h : Rch N M T0 c B) :
    ∀ j, j < N → (∀ i, i < M → B.b i ≠ j) → B.v j = T0.lo j ∨ B.v j = T0.hi j := by
  induction h with
  | zero => exact h0
  | step hR ok hs ih =>
    rename_i c B row k below
    obtain ⟨I, e1, e2⟩ := Rch.inv I0 hlh hR
    have hr : row < M := wr_lt hs.1
    have hkb : ∀ i, i < M → B.b i ≠ k := fun i hi e => hs.2.2.1.1 (by rw [← e]; exact I.z row i hr hi)
    have mv := move_v (to := goal B row below) ok I.inj hr hs.2.1 hkb
    intro j hj hn
    have hnb : ∀ i, i < M → nbas B.b row k i ≠ j := fun i hi => by rw [← move_b (to := goal B row below) ok hi]; exact hn i hi
    have hjk : j ≠ k := fun e => hnb row hr (by unfold nbas; rw [if_pos rfl, e])
    by_cases hjb : j = B.b row
    · rw [hjb, mv.out]
      unfold goal
      have f1 : B.lo (B.b row) = T0.lo (B.b row) := by unfold Tb.lo; rw [e1]
      have f2 : B.hi (B.b row) = T0.hi (B.b row) := by unfold Tb.hi; rw [e2]
      split
      · exact .inl f1
      · exact .inr f2
    · have hn' : ∀ i, i < M → B.b i ≠ j := fun i hi e => by
        by_cases hir : i = row
        · subst hir; exact hjb e.symm
        · exact hnb i hi (by unfold nbas; rw [if_neg hir]; exact e)
      rw [mv.oth j hjk hn']
      exact ih j hj hn'

/-! ### numbers for the states -/
def enc (base d : Nat → Nat) : Nat → Nat
  | 0 => 0
  | k + 1 => enc base d k * base k + d k
def prd (base : Nat → Nat) : Nat → Nat
  | 0 => 1
  | k + 1 => prd base k * base k
theorem enc_lt {base d : Nat → Nat} : ∀ {m : Nat}, (∀ j, j < m → d j < base j) → enc base d m < prd base m
  | 0, _ => Nat.lt_succ_self 0
  | m + 1, h => by
    have h1 := enc_lt (m := m) fun j hj => h j (by omega)
    have h2 := h m (by omega)
    show enc base d m * base m + d m < prd base m * base m
    have h3 : (enc base d m + 1) * base m ≤ prd base m * base m := Nat.mul_le_mul_right _ h1
    rw [Nat.add_mul, Nat.one_mul] at h3
    omega
theorem enc_inj {base d d' : Nat → Nat} : ∀ {m : Nat}, (∀ j, j < m → d j < base j) → (∀ j, j < m → d' j < base j) → enc base d m = enc base d' m → ∀ j, j < m → d j = d' j
  | 0, _, _, _, j, hj => by omega
  | m + 1, h, h', e, j, hj => by
    have h1 := h m (by omega)
    have h2 := h' m (by omega)
    have e' : enc base d m * base m + d m = enc base d' m * base m + d' m := e
    have hd : d m = d' m := by
      have := congrArg (· % base m) e'
      simp only [Nat.add_comm, Nat.add_mul_mod_self_right] at this
      rwa [Nat.mod_eq_of_lt h1, Nat.mod_eq_of_lt h2] at this
    have he : enc base d m = enc base d' m := by
      rw [hd] at e'
      exact Nat.eq_of_mul_eq_mul_right (by omega : 0 < base m) (by omega)
    by_cases hjm : j = m
    · subst hjm; exact hd
    · exact enc_inj (fun j hj => h j (by omega)) (fun j hj => h' j (by omega)) he j (by omega)
def bs32 (n j : Nat) : Nat := if j < n then 3 else 2
theorem prd_648 : ∀ n, n < 5 → ∀ M, M < 4 → prd (bs32 n) (n + M) ≤ 648 := by decide
open Classical in
noncomputable def dig (n M : Nat) (lo : Nat → Rat) (B : Tb) (j : Nat) : Nat := if Bas M B.b j then 0 else if n ≤ j then 1 else if B.v j = lo j then 1 else 2
theorem dig_lt (n M : Nat) (lo : Nat → Rat) (B : Tb) (j : Nat) : dig n M lo B j < bs32 n j := by
  unfold dig bs32
  split
  · split <;> omega
  · split
    · split <;> omega
    · split <;> split <;> omega

section
variable {up : List Int} {T : List (List Int)} {rt ls hs : List Int}
theorem rch_short (hA : SysA up T rt) (hll : ls.length = up.length) (hhl : hs.length = up.length) (hle : ∀ (k : Nat) a b, ls[k]? = some a → hs[k]? = some b → a ≤ b) (hn : up.length ≤ 4) (hm : T.length ≤ 3) {c : Nat} {B : Tb}
    (hR : Rch (up.length + T.length) T.length (tb0 up T rt ls hs T.length) c B) : c ≤ 648 := by
  refine Classical.byContradiction fun hc => ?_
  have I0 := tb0_I hA hll hhl hle
  generalize hT0 : tb0 up T rt ls hs T.length = T0 at hR I0
  have hsl : ∀ j, up.length ≤ j → j < up.length + T.length → T0.lo j = T0.hi j := fun j h1 h2 => by
    obtain ⟨y, hy⟩ : ∃ x, rt[j - up.length]? = some x := ⟨_, List.getElem?_eq_getElem (by have := hA.1; omega)⟩
    have e1 := tb0_lob (T := T) (hs := hs) hll hA.1 hy
    have e2 := tb0_hib (T := T) (ls := ls) hhl hA.1 hy
    rw [show up.length + (j - up.length) = j by omega, hT0] at e1 e2
    rw [e1, e2]
  have hlh : ∀ j, j < up.length + T.length → T0.lo j ≤ T0.hi j := fun j hj => by
    rcases Nat.lt_or_ge j up.length with h | h
    · obtain ⟨x, hx⟩ : ∃ x, ls[j]? = some x := ⟨_, List.getElem?_eq_getElem (by omega)⟩
      obtain ⟨y, hy⟩ : ∃ x, hs[j]? = some x := ⟨_, List.getElem?_eq_getElem (by omega)⟩
      rw [← hT0, tb0_lo hx, tb0_hi hy]
      exact Rat.intCast_le_intCast.2 (hle j x y hx hy)
    · rw [hsl j h hj]; exact Rat.le_refl
  have hv0 : ∀ j, j < up.length + T.length → (∀ i, i < T.length → T0.b i ≠ j) → T0.v j = T0.lo j ∨ T0.v j = T0.hi j := fun j hj hn => by
    rcases Nat.lt_or_ge j up.length with h | h
    · obtain ⟨x, hx⟩ : ∃ x, ls[j]? = some x := ⟨_, List.getElem?_eq_getElem (by omega)⟩
      left; rw [← hT0, tb0_lo hx, tb0_v hx]
    · exact absurd (by rw [← hT0, tb0_b (by omega)]; omega) (hn (j - up.length) (by omega))
  obtain ⟨τ, q0, _, q2, q3⟩ := rch_seq hR
  have hI : ∀ i, i ≤ c → TbI (up.length + T.length) T.length T0.a T0.b (τ i) ∧ (τ i).low = T0.low ∧ (τ i).high = T0.high := fun i hi => Rch.inv I0 hlh (q2 i hi)
  have hlo : ∀ i, i ≤ c → (τ i).lo = T0.lo := fun i hi => by funext j; unfold Tb.lo; rw [(hI i hi).2.1]
  have hhi : ∀ i, i ≤ c → (τ i).hi = T0.hi := fun i hi => by funext j; unfold Tb.hi; rw [(hI i hi).2.2]
  have q3' : ∀ i : Nat, ∃ p : Nat × Bool × Nat, i < c → Stp (up.length + T.length) T.length (τ i) p.1 p.2.1 p.2.2 ∧ τ (i + 1) = (τ i).move p.1 p.2.2 (goal (τ i) p.1 p.2.1) := fun i => by
    by_cases h : i < c
    · obtain ⟨_, row, below, k, h1, h2⟩ := q3 i h
      exact ⟨(row, below, k), fun _ => ⟨h1, h2⟩⟩
    · exact ⟨(0, true, 0), fun h' => absurd h' h⟩
  obtain ⟨f, hf⟩ := Classical.axiomOfChoice q3'
  have S : BSeq (up.length + T.length) T.length T0.a T0.b T0.lo T0.hi c (fun i => (τ i).a) (fun i => (τ i).v) (fun i => (τ i).b) (fun i => (f i).1) (fun i => (f i).2.2) (fun i => (f i).2.1) := by
    refine ⟨fun i hi => ?_, fun i hi => ?_⟩
    · have := (hI i hi).1
      unfold TbI at this
      rw [hlo i hi, hhi i hi] at this
      exact this
    · obtain ⟨⟨h1, h2, h3, h4⟩, h5⟩ := hf i hi
      obtain ⟨ok, _⟩ := q3 i hi
      obtain ⟨s1, s2, s3, s4⟩ := wr_spec h1
      have I := (hI i (by omega)).1
      have hkb : ∀ q, q < T.length → (τ i).b q ≠ (f i).2.2 := fun q hq e => h3.1 (by rw [← e]; exact I.z _ q s1 hq)
      have el := hlo i (by omega)
      have eh := hhi i (by omega)
      rw [el, eh] at s2
      rw [el] at s3
      refine ⟨s1, h2, ?_, fun q hq hv => s4 q hq (by rw [el, eh]; exact hv), h3.1, hkb, ?_, fun k' hk' hz hb hr => h4 k' hk' ⟨hz, hb, ?_⟩, ?_, fun q hq => ?_⟩
      · dsimp only at s3 s2 ⊢
        rw [s3]
        by_cases hv : (τ i).v ((τ i).b (f i).1) < T0.lo ((τ i).b (f i).1)
        · rw [if_pos (by simpa using hv)]; exact hv
        · rw [if_neg (by simpa using hv)]; exact s2.resolve_left hv
      · have := h3.2.2
        rw [el, eh] at this
        exact this
      · rw [el, eh]; exact hr
      · have mv := move_v (to := goal (τ i) (f i).1 (f i).2.1) ok I.inj s1 h2 hkb
        rw [← h5] at mv
        have eg : goal (τ i) (f i).1 (f i).2.1 = aim T0.lo T0.hi ((τ i).b (f i).1) (f i).2.1 := by unfold goal aim; rw [el, eh]
        rw [eg] at mv
        exact mv
      · show (τ (i + 1)).b q = _
        rw [h5]; exact move_b ok hq
  obtain ⟨s, e, hse, he, hcode⟩ := pigeon 648 (fun i => enc (bs32 up.length) (dig up.length T.length T0.lo (τ i)) (up.length + T.length)) (fun i _ => Nat.lt_of_lt_of_le (enc_lt fun j _ => dig_lt _ _ _ _ j) (prd_648 up.length (by omega) T.length (by omega)))
  have hdig := enc_inj (fun j _ => dig_lt _ _ _ _ j) (fun j _ => dig_lt _ _ _ _ j) hcode
  have hbas : ∀ i j, i ≤ c → Bas T.length (τ i).b j → j < up.length + T.length := fun i j hi ⟨q, hq, hqj⟩ => by rw [← hqj]; exact (hI i hi).1.lt q hq
  have dz : ∀ i j, dig up.length T.length T0.lo (τ i) j = 0 ↔ Bas T.length (τ i).b j := fun i j => by
    unfold dig
    split
    · rename_i h; exact ⟨fun _ => h, fun _ => rfl⟩
    · rename_i h
      refine ⟨fun h2 => ?_, fun h2 => absurd h2 h⟩
      split at h2
      · omega
      · split at h2 <;> omega
  have hB : ∀ j, Bas T.length (τ s).b j ↔ Bas T.length (τ e).b j := fun j => by
    by_cases hj : j < up.length + T.length
    · rw [← dz s j, ← dz e j, hdig j hj]
    · exact ⟨fun h => absurd (hbas s j (by omega) h) hj, fun h => absurd (hbas e j (by omega) h) hj⟩
  refine S.never hse (by omega) hB fun j hj hnb => ?_
  have hnb' : ¬ Bas T.length (τ e).b j := fun h => hnb ((hB j).2 h)
  have v1 := (q2 s (by omega)).atb I0 hlh hv0 j hj fun i hi e => hnb ⟨i, hi, e⟩
  have v2 := (q2 e (by omega)).atb I0 hlh hv0 j hj fun i hi e => hnb' ⟨i, hi, e⟩
  show (τ s).v j = (τ e).v j
  rcases Nat.lt_or_ge j up.length with h | h
  · have hd := hdig j hj
    unfold dig at hd
    have hge : ¬ up.length ≤ j := by omega
    rw [if_neg hnb, if_neg hnb', if_neg hge, if_neg hge] at hd
    by_cases c1 : (τ s).v j = T0.lo j <;> by_cases c2 : (τ e).v j = T0.lo j
    · rw [c1, c2]
    · rw [if_pos c1, if_neg c2] at hd; omega
    · rw [if_neg c1, if_pos c2] at hd; omega
    · rw [v1.resolve_left c1, v2.resolve_left c2]
  · have := hsl j h hj
    rcases v1 with v1 | v1 <;> rcases v2 with v2 | v2 <;> rw [v1, v2] <;> first | rfl | exact this | exact this.symm
end
end Go.Proofs.Ytajpdnphamomjaa
