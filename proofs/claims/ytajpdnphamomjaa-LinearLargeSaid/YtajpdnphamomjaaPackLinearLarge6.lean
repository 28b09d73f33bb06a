import Derived.KernelRfl
import Derived.Test.YtajpdnphamomjaaPackLinearLarge5

/- Plain law: what Relax finds is a solution. -/


namespace Go.Proofs.Ytajpdnphamomjaa
open Go.RowKit Go.Q Go.Q.Num Go.V

section
variable {up : List Int} {T : List (List Int)} {rt ls hs : List Int}
theorem getD_some {α : Type} {l : List α} {i : Nat} {x d : α} (h : l[i]? = some x) : l.getD i d = x := by rw [List.getD_eq_getElem?_getD, h]; rfl
theorem tb0_a {i j : Nat} {row : List Int} (hrow : T[i]? = some row) (hj : j < row.length + T.length) : (tb0 up T rt ls hs T.length).a i j = ((row.getD j 0 : Int) : Rat) := by
  unfold Tb.a tb0
  dsimp only
  rw [getD_some (x := rowQ T.length row) (by rw [List.take_length, List.getElem?_map, hrow]; rfl)]
  exact getD_some (rowQ_get hj)
theorem tb0_b {i : Nat} (hi : i < T.length) : (tb0 up T rt ls hs T.length).b i = up.length + i := by
  unfold Tb.b tb0
  exact getD_some (by rw [List.getElem?_map, List.getElem?_range hi]; rfl)
theorem q1_get {l : List Int} {j : Nat} {x : Int} (h : l[j]? = some x) : (q1 l)[j]? = some (x : Rat) := by unfold q1; rw [List.getElem?_map, h]; rfl
theorem q1_len (l : List Int) : (q1 l).length = l.length := by simp [q1]
theorem tb0_lo {j : Nat} {x : Int} (h : ls[j]? = some x) : (tb0 up T rt ls hs T.length).lo j = (x : Rat) := by
  unfold Tb.lo tb0
  exact getD_some (by rw [List.getElem?_append_left (by rw [q1_len]; exact (List.getElem?_eq_some_iff.1 h).1), q1_get h])
theorem tb0_hi {j : Nat} {x : Int} (h : hs[j]? = some x) : (tb0 up T rt ls hs T.length).hi j = (x : Rat) := by
  unfold Tb.hi tb0
  exact getD_some (by rw [List.getElem?_append_left (by rw [q1_len]; exact (List.getElem?_eq_some_iff.1 h).1), q1_get h])
theorem tb0_v {j : Nat} {x : Int} (h : ls[j]? = some x) : (tb0 up T rt ls hs T.length).v j = (x : Rat) := by
  unfold Tb.v tb0
  exact getD_some (by rw [List.getElem?_append_left (by rw [q1_len]; exact (List.getElem?_eq_some_iff.1 h).1), q1_get h])
theorem tb0_lob {i : Nat} {y : Int} (hll : ls.length = up.length) (hrt : rt.length = T.length) (h : rt[i]? = some y) : (tb0 up T rt ls hs T.length).lo (up.length + i) = (y : Rat) := by
  unfold Tb.lo tb0
  exact getD_some (by rw [List.getElem?_append_right (by rw [q1_len]; omega), q1_len, hll, Nat.add_sub_cancel_left, ← hrt, List.take_length, q1_get h])
theorem tb0_hib {i : Nat} {y : Int} (hhl : hs.length = up.length) (hrt : rt.length = T.length) (h : rt[i]? = some y) : (tb0 up T rt ls hs T.length).hi (up.length + i) = (y : Rat) := by
  unfold Tb.hi tb0
  exact getD_some (by rw [List.getElem?_append_right (by rw [q1_len]; omega), q1_len, hhl, Nat.add_sub_cancel_left, ← hrt, List.take_length, q1_get h])
theorem tb0_vb {i : Nat} {row : List Int} (hll : ls.length = up.length) (h : T[i]? = some row) : (tb0 up T rt ls hs T.length).v (up.length + i) = sumQ row ls up.length := by
  unfold Tb.v tb0
  exact getD_some (by rw [List.getElem?_append_right (by rw [q1_len]; omega), q1_len, hll, Nat.add_sub_cancel_left, List.take_length, List.getElem?_map, h]; rfl)
theorem sumQ_sm (row ls : List Int) : ∀ k, sumQ row ls k = sm (fun j => ((row.getD j 0 : Int) : Rat) * ((ls.getD j 0 : Int) : Rat)) k
  | 0 => rfl
  | k + 1 => by
    show (if row.getD k 0 ≠ 0 then sumQ row ls k + ((row.getD k 0 : Int) : Rat) * ((ls.getD k 0 : Int) : Rat) else sumQ row ls k) = sm (fun j => ((row.getD j 0 : Int) : Rat) * ((ls.getD j 0 : Int) : Rat)) k + ((row.getD k 0 : Int) : Rat) * ((ls.getD k 0 : Int) : Rat)
    rw [← sumQ_sm row ls k]
    split
    · rfl
    · rename_i h
      have h0 : row.getD k 0 = 0 := Classical.not_not.1 h
      rw [h0]
      show sumQ row ls k = sumQ row ls k + (0 : Rat) * _
      grind
theorem sm_ext {f : Nat → Rat} {n : Nat} : ∀ m, (∀ j, n ≤ j → j < n + m → f j = 0) → sm f (n + m) = sm f n
  | 0, _ => rfl
  | m + 1, h => by
    show sm f (n + m) + f (n + m) = sm f n
    rw [sm_ext m fun j h1 h2 => h j h1 (by omega), h (n + m) (by omega) (by omega)]; grind
theorem tb0_I (hA : SysA up T rt) (hll : ls.length = up.length) (hhl : hs.length = up.length) (hle : ∀ (k : Nat) a b, ls[k]? = some a → hs[k]? = some b → a ≤ b) :
    TbI (up.length + T.length) T.length (tb0 up T rt ls hs T.length).a (tb0 up T rt ls hs T.length).b (tb0 up T rt ls hs T.length) := by
  have row : ∀ i, i < T.length → ∃ row, T[i]? = some row ∧ row.length = up.length := fun i hi => ⟨_, List.getElem?_eq_getElem hi, hA.2 _ (List.getElem_mem hi)⟩
  refine ⟨fun i i' hi hi' e => ?_, fun i hi => ?_, fun i i' hi hi' => ?_, fun _ => Iff.rfl, fun i hi => ?_, fun j hj hn => ?_⟩
  · rw [tb0_b hi, tb0_b hi'] at e; omega
  · rw [tb0_b hi]; omega
  · obtain ⟨r, h1, h2⟩ := row i hi
    rw [tb0_b hi', tb0_a h1 (by omega), List.getD_eq_getElem?_getD, List.getElem?_eq_none (by omega)]; rfl
  · obtain ⟨r, h1, h2⟩ := row i hi
    rw [tb0_b hi, tb0_vb hll h1, sumQ_sm]
    refine (sm_ext (n := up.length) T.length (fun j hj1 hj2 => ?_)).symm.trans (sm_congr fun j hj => ?_) |>.trans rfl
    · rw [List.getD_eq_getElem?_getD (l := r), List.getElem?_eq_none (by omega)]
      show (0 : Rat) * _ = 0
      grind
    · rw [tb0_a h1 (by omega)]
      by_cases hjn : j < up.length
      · obtain ⟨x, hx⟩ : ∃ x, ls[j]? = some x := ⟨_, List.getElem?_eq_getElem (by omega)⟩
        rw [tb0_v hx, getD_some hx]
      · rw [List.getD_eq_getElem?_getD (l := r), List.getElem?_eq_none (by omega)]
        show (0 : Rat) * _ = (0 : Rat) * _
        grind
  · have hjn : j < up.length := by
      rcases Nat.lt_or_ge j up.length with h | h
      · exact h
      · exact absurd (by rw [tb0_b (by omega)]; omega) (hn (j - up.length) (by omega))
    obtain ⟨x, hx⟩ : ∃ x, ls[j]? = some x := ⟨_, List.getElem?_eq_getElem (by omega)⟩
    obtain ⟨y, hy⟩ : ∃ x, hs[j]? = some x := ⟨_, List.getElem?_eq_getElem (by omega)⟩
    rw [tb0_lo hx, tb0_hi hy, tb0_v hx]
    exact ⟨Rat.le_refl, Rat.intCast_le_intCast.2 (hle j x y hx hy)⟩
theorem Rch.inv {N M : Nat} {T0 : Tb} (I0 : TbI N M T0.a T0.b T0) (hlh : ∀ j, j < N → T0.lo j ≤ T0.hi j) {c : Nat} {B : Tb} (h : Rch N M T0 c B) : TbI N M T0.a T0.b B ∧ B.low = T0.low ∧ B.high = T0.high := by
  induction h with
  | zero => exact ⟨I0, rfl, rfl⟩
  | step hR ok hs ih =>
    rename_i c B row k below
    obtain ⟨I, e1, e2⟩ := ih
    have hr : row < M := wr_lt hs.1
    have hb := ok.b_lt hr
    have hl : B.lo (B.b row) ≤ B.hi (B.b row) := by
      have := hlh _ hb
      unfold Tb.lo Tb.hi at *
      rw [e1, e2]; exact this
    refine ⟨TbI.move I ok hr hs.2.1 hs.2.2.1.1 ?_, e1, e2⟩
    unfold goal
    split
    · exact ⟨Rat.le_refl, hl⟩
    · exact ⟨hl, Rat.le_refl⟩
theorem wr_none {T : Tb} : ∀ {M : Nat}, T.wr M = none → ∀ i, i < M → T.lo (T.b i) ≤ T.v (T.b i) ∧ T.v (T.b i) ≤ T.hi (T.b i)
  | 0, _, i, hi => by omega
  | M + 1, h, i, hi => by
    rw [wr_succ] at h
    split at h
    · split at h
      · cases h
      · split at h <;> cases h
    · rename_i hn
      by_cases him : i = M
      · subst him
        exact ⟨Rat.not_lt.1 fun q => hn (.inl q), Rat.not_lt.1 fun q => hn (.inr q)⟩
      · exact wr_none h i (by omega)
theorem rlx_sol (hA : SysA up T rt) (hll : ls.length = up.length) (hhl : hs.length = up.length) (hle : ∀ (k : Nat) a b, ls[k]? = some a → hs[k]? = some b → a ≤ b) {c : Nat} {B : Tb}
    (hR : Rch (up.length + T.length) T.length (tb0 up T rt ls hs T.length) c B) (hw : B.wr T.length = none) :
    (∀ (k : Nat) a b, ls[k]? = some a → hs[k]? = some b → (a : Rat) ≤ B.v k ∧ B.v k ≤ (b : Rat)) ∧ (∀ (i : Nat) row y, T[i]? = some row → rt[i]? = some y → sm (fun j => B.v j * ((row.getD j 0 : Int) : Rat)) up.length = (y : Rat)) := by
  have I0 := tb0_I hA hll hhl hle
  have hlh : ∀ j, j < up.length + T.length → (tb0 up T rt ls hs T.length).lo j ≤ (tb0 up T rt ls hs T.length).hi j := fun j hj => by
    rcases Nat.lt_or_ge j up.length with h | h
    · obtain ⟨x, hx⟩ : ∃ x, ls[j]? = some x := ⟨_, List.getElem?_eq_getElem (by omega)⟩
      obtain ⟨y, hy⟩ : ∃ x, hs[j]? = some x := ⟨_, List.getElem?_eq_getElem (by omega)⟩
      rw [tb0_lo hx, tb0_hi hy]
      exact Rat.intCast_le_intCast.2 (hle j x y hx hy)
    · obtain ⟨y, hy⟩ : ∃ x, rt[j - up.length]? = some x := ⟨_, List.getElem?_eq_getElem (by have := hA.1; omega)⟩
      have e1 := tb0_lob (T := T) (hs := hs) hll hA.1 hy
      have e2 := tb0_hib (T := T) (ls := ls) hhl hA.1 hy
      rw [show up.length + (j - up.length) = j by omega] at e1 e2
      rw [e1, e2]; exact Rat.le_refl
  obtain ⟨I, e1, e2⟩ := Rch.inv I0 hlh hR
  have elo : ∀ j, B.lo j = (tb0 up T rt ls hs T.length).lo j := fun j => by unfold Tb.lo; rw [e1]
  have ehi : ∀ j, B.hi j = (tb0 up T rt ls hs T.length).hi j := fun j => by unfold Tb.hi; rw [e2]
  have inb : ∀ j, j < up.length + T.length → B.lo j ≤ B.v j ∧ B.v j ≤ B.hi j := fun j hj => by
    by_cases h : ∃ i, i < T.length ∧ B.b i = j
    · obtain ⟨i, hi, rfl⟩ := h
      exact wr_none hw i hi
    · exact I.bnd j hj fun i hi e => h ⟨i, hi, e⟩
  refine ⟨fun k a b ha hb => ?_, fun i row y hrow hy => ?_⟩
  · have hk := (List.getElem?_eq_some_iff.1 ha).1
    have := inb k (by omega)
    rw [elo, ehi, tb0_lo ha, tb0_hi hb] at this
    exact this
  · have hi : i < T.length := (List.getElem?_eq_some_iff.1 hrow).1
    have hrl : row.length = up.length := hA.2 row (mem_at hrow)
    have h1 := inb (up.length + i) (by omega)
    rw [elo, ehi, tb0_lob hll hA.1 hy, tb0_hib hhl hA.1 hy] at h1
    have h2 := (I.eqv B.v).1 I.sat i hi
    rw [tb0_b hi] at h2
    have h3 : B.v (up.length + i) = (y : Rat) := by grind
    rw [← h3, h2]
    rw [sm_ext (n := up.length) T.length (fun j hj1 hj2 => ?_)]
    · exact sm_congr fun j hj => by rw [tb0_a hrow (by omega)]; grind
    · rw [tb0_a hrow (by omega), List.getD_eq_getElem?_getD, List.getElem?_eq_none (by omega)]
      show (0 : Rat) * _ = 0
      grind
end
end Go.Proofs.Ytajpdnphamomjaa

/- Relax from zero to the bounds: a solution. -/


namespace Go.Proofs.Ytajpdnphamomjaa
open Go.RowKit Go.Q Go.Q.Num Go.V

section
variable {up : List Int} {T : List (List Int)} {rt : List Int}
theorem take_get {L : List Rat} {n k : Nat} {p : Int × Int} (h : ((L.take n).map prQ)[k]? = some p) : k < n ∧ p = prQ (L.getD k 0) := by
  rw [List.getElem?_map] at h
  obtain ⟨x, hx, rfl⟩ := Option.map_eq_some_iff.1 h
  rw [List.getElem?_take] at hx
  split at hx
  · rename_i hk
    exact ⟨hk, by rw [getD_some hx]⟩
  · cases hx
theorem dotN_sm' (r : List Int) (L : List (Int × Int)) : ∀ n, dotN r L n = sm (dotT r L) n
  | 0 => rfl
  | n + 1 => by show dotN r L n + dotT r L n = sm (dotT r L) n + dotT r L n; rw [dotN_sm' r L n]
theorem rlx_SolP (hok : sysE up T rt = 0) {ls hs : List Int} (hll : ls.length = up.length) (hhl : hs.length = up.length) (hle : ∀ (k : Nat) a b, ls[k]? = some a → hs[k]? = some b → a ≤ b) (h0 : ∀ x ∈ ls, 0 ≤ x) (hu : ∀ (k : Nat) a b, hs[k]? = some a → up[k]? = some b → a ≤ b) {c : Nat} {B : Tb}
    (hR : Rch (up.length + T.length) T.length (tb0 up T rt ls hs T.length) c B) (ok : TbOk (up.length + T.length) T.length B) (hw : B.wr T.length = none) : SolP up T rt ((B.val.take up.length).map prQ) := by
  obtain ⟨hul, hTl, hRr, hA⟩ := sysE_ok hok
  obtain ⟨h1, h2⟩ := rlx_sol hA hll hhl hle hR hw
  refine ⟨hok, by rw [List.length_map, List.length_take, ok.lv]; omega, fun k p u hp hup => ?_, fun i row y hrow hy => ?_⟩
  · obtain ⟨hk, rfl⟩ := take_get hp
    have hf : Fits (B.val.getD k 0) := ok.v_fit (j := k) (by omega)
    obtain ⟨a, ha⟩ : ∃ x, ls[k]? = some x := ⟨_, List.getElem?_eq_getElem (by omega)⟩
    obtain ⟨b, hb⟩ : ∃ x, hs[k]? = some x := ⟨_, List.getElem?_eq_getElem (by omega)⟩
    have hv := h1 k a b ha hb
    have ha0 : (0 : Rat) ≤ (a : Rat) := Rat.intCast_le_intCast.2 (h0 a (mem_at ha))
    have hbu : (b : Rat) ≤ (u : Rat) := Rat.intCast_le_intCast.2 (hu k b u hb hup)
    refine ⟨frac_fits hf, ?_, ?_⟩
    · show ¬ (B.val.getD k 0).num < 0
      rw [num_neg]
      have : B.v k = B.val.getD k 0 := rfl
      rw [← this]
      grind
    · show ¬ ((u : Rat) < ratv (B.val.getD k 0).num (((B.val.getD k 0).den : Nat) : Int))
      rw [ratv_fits]
      have : B.v k = B.val.getD k 0 := rfl
      rw [← this]
      grind
  · rw [dotN_sm', ← h2 i row y hrow hy]
    have hrl : row.length = up.length := hA.2 row (mem_at hrow)
    refine sm_congr fun j hj => ?_
    have hp : ((B.val.take up.length).map prQ)[j]? = some (prQ (B.v j)) := by
      rw [List.getElem?_map, List.getElem?_take, if_pos hj, ok.val_get (by omega)]; rfl
    rw [dotT_at (c := row.getD j 0) (by rw [List.getD_eq_getElem?_getD, List.getElem?_eq_getElem (by omega)]; rfl) hp, ratv_fits]
end
end Go.Proofs.Ytajpdnphamomjaa

/- The conditions of functions, printed by our tool; each is checked against the code by the kernel. -/



namespace Go.Proofs
open Go Go.V Go.RowKit
/-- querylab/linear.Solve -/
def S43 (s_0a : Option Addr) (s_0n : Nat) (s_0c : Nat) (s_1a : Option Addr) (s_1n : Nat) (s_1c : Nat) (s_2a : Option Addr) (s_2n : Nat) (s_2c : Nat) (w0 : World) (R : Value → World → Prop) : Prop :=
 wr Try.prog (Instr.box 43 (.agg #[(.slice s_0a s_0n s_0c), (.slice s_1a s_1n s_1c), (.slice s_2a s_2n s_2c)])) (.one .addr) w0 fun (x1 : Addr) (w2 : World) =>
 rd Try.prog (Instr.loadAt 43 (.pointer (some x1))) (.agg [.slice, .slice, .slice]) w2 fun (x3 : ((Option Addr × Nat × Nat) × (Option Addr × Nat × Nat) × (Option Addr × Nat × Nat) × Unit)) =>
 call Try.prog 30 [(.agg #[(.slice x3.1.1 x3.1.2.1 x3.1.2.2), (.slice x3.2.1.1 x3.2.1.2.1 x3.2.1.2.2), (.slice x3.2.2.1.1 x3.2.2.1.2.1 x3.2.2.1.2.2)])] (.one (.one (.int .i64))) w2 fun (x4 : Int) (w5 : World) =>
 br (x4 != 0) (R (.tuple #[(.slice none 0 0), (.slice none 0 0), (.int .i64 x4)]) w5)
 (drw w5 fun w6 => flEx fun F7 =>
 rd Try.prog (Instr.loadAt 43 (.pointer (some x1))) (.agg [.slice, .slice, .slice]) w6 fun (x8 : ((Option Addr × Nat × Nat) × (Option Addr × Nat × Nat) × (Option Addr × Nat × Nat) × Unit)) =>
 rd Try.prog (Instr.loadAt 40 (.pointer (some x1))) (.one .slice) w6 fun (x9 : (Option Addr × Nat × Nat)) =>
 flc bel w6 (fun _w11 => True) (fun (w10 : World) =>
   wr Try.prog (Instr.makeSlice 40 (.int .i64 ((x9.2.1 : Nat) : Int)) (.int .i64 ((x9.2.1 : Nat) : Int))) (.one .slice) w10 fun (x12 : (Option Addr × Nat × Nat)) (w13 : World) =>
 (bel w10 w13 ∧ F7 4 [] (.slice x12.1 x12.2.1 x12.2.2) w13))
  fun (x14 : (Option Addr × Nat × Nat)) =>
 rd Try.prog (Instr.loadAt 40 (.pointer (some x1))) (.one .slice) w6 fun (x15 : (Option Addr × Nat × Nat)) =>
 flend bel w6 (fun w17 => F7 4 [] (.slice x14.1 x14.2.1 x14.2.2) w17 ∧ True) fun w16 =>
 call Try.prog 94 [(.agg #[(.slice x8.1.1 x8.1.2.1 x8.1.2.2), (.slice x8.2.1.1 x8.2.1.2.1 x8.2.1.2.2), (.slice x8.2.2.1.1 x8.2.2.1.2.1 x8.2.2.1.2.2)]), (.slice x14.1 x14.2.1 x14.2.2), (.slice x15.1 x15.2.1 x15.2.2), (.int .i64 2000)] (.many [(.one .slice), (.one .slice), (.one (.int .i64))]) w16 fun (x18 : ((Option Addr × Nat × Nat) × (Option Addr × Nat × Nat) × Int × Unit)) (w19 : World) =>
 R (.tuple #[(.slice x18.1.1 x18.1.2.1 x18.1.2.2), (.slice x18.2.1.1 x18.2.1.2.1 x18.2.1.2.2), (.int .i64 x18.2.2.1)]) w19)
def H43 : Hints := ⟨[], [(4, 7)], [], []⟩
set_option maxRecDepth 100000 in
theorem S43_eq (s_0a : Option Addr) (s_0n : Nat) (s_0c : Nat) (s_1a : Option Addr) (s_1n : Nat) (s_1c : Nat) (s_2a : Option Addr) (s_2n : Nat) (s_2c : Nat) (w0 : World) (R : Value → World → Prop) : vcFn Try.prog H43 Try.f43 [(.agg #[(.slice s_0a s_0n s_0c), (.slice s_1a s_1n s_1c), (.slice s_2a s_2n s_2c)])] w0 R = S43 s_0a s_0n s_0c s_1a s_1n s_1c s_2a s_2n s_2c w0 R := by kernel_rfl
set_option maxRecDepth 100000 in
theorem S43_calls (s_0a : Option Addr) (s_0n : Nat) (s_0c : Nat) (s_1a : Option Addr) (s_1n : Nat) (s_1c : Nat) (s_2a : Option Addr) (s_2n : Nat) (s_2c : Nat) (w0 : World) (R : Value → World → Prop) (h : S43 s_0a s_0n s_0c s_1a s_1n s_1c s_2a s_2n s_2c w0 R) : Calls Try.prog 43 #[(.agg #[(.slice s_0a s_0n s_0c), (.slice s_1a s_1n s_1c), (.slice s_2a s_2n s_2c)])] w0 (ret R) := by
  rw [← S43_eq] at h; exact vcFn_sound follows_ Try.func43 h

/-- querylab/querylablaw11.LinearLarge -/
def S11 (l_a : Option Addr) (l_n : Nat) (l_c : Nat) (w0 : World) (R : Value → World → Prop) : Prop :=
 wr Try.prog (Instr.box 50 (.agg #[(.slice l_a l_n l_c), (.int .i64 0)])) (.one .addr) w0 fun (x1 : Addr) (w2 : World) =>
 call Try.prog 34 [(.pointer (some x1)), (.int .i64 9), (.int .i64 6), (.int .i64 1000)] (.one (.agg [.slice, .slice, .slice])) w2 fun (x3 : ((Option Addr × Nat × Nat) × (Option Addr × Nat × Nat) × (Option Addr × Nat × Nat) × Unit)) (w4 : World) =>
 wr Try.prog (Instr.alloc 43 true (.tuple #[])) (.one .addr) w4 fun (x5 : Addr) (w6 : World) =>
 wu Try.prog (Instr.storeAt 43 (.pointer (some x5)) (.agg #[(.slice x3.1.1 x3.1.2.1 x3.1.2.2), (.slice x3.2.1.1 x3.2.1.2.1 x3.2.1.2.2), (.slice x3.2.2.1.1 x3.2.2.1.2.1 x3.2.2.1.2.2)])) w6 fun (w7 : World) =>
 rd Try.prog (Instr.loadAt 43 (.pointer (some x5))) (.agg [.slice, .slice, .slice]) w7 fun (x8 : ((Option Addr × Nat × Nat) × (Option Addr × Nat × Nat) × (Option Addr × Nat × Nat) × Unit)) =>
 call Try.prog 43 [(.agg #[(.slice x8.1.1 x8.1.2.1 x8.1.2.2), (.slice x8.2.1.1 x8.2.1.2.1 x8.2.1.2.2), (.slice x8.2.2.1.1 x8.2.2.1.2.1 x8.2.2.1.2.2)])] (.many [(.one .slice), (.one .slice), (.one (.int .i64))]) w7 fun (x9 : ((Option Addr × Nat × Nat) × (Option Addr × Nat × Nat) × Int × Unit)) (w10 : World) =>
 br (x9.2.2.1 == 8) (br (((x9.1.2.1 : Nat) : Int) == 0) (R (.bool (((x9.2.1.2.1 : Nat) : Int) == 0)) w10)
 (R (.bool false) w10))
 (br (x9.2.2.1 != 0) (R (.bool false) w10)
 (br ((decide (((x9.1.2.1 : Nat) : Int) > 0)) == (decide (((x9.2.1.2.1 : Nat) : Int) > 0))) (R (.bool false) w10)
 (br (decide (((x9.1.2.1 : Nat) : Int) > 0)) (rd Try.prog (Instr.loadAt 43 (.pointer (some x5))) (.agg [.slice, .slice, .slice]) w10 fun (x11 : ((Option Addr × Nat × Nat) × (Option Addr × Nat × Nat) × (Option Addr × Nat × Nat) × Unit)) =>
 call Try.prog 33 [(.agg #[(.slice x11.1.1 x11.1.2.1 x11.1.2.2), (.slice x11.2.1.1 x11.2.1.2.1 x11.2.1.2.2), (.slice x11.2.2.1.1 x11.2.2.1.2.1 x11.2.2.1.2.2)]), (.slice x9.1.1 x9.1.2.1 x9.1.2.2)] (.one (.one .bool)) w10 fun (x12 : Bool) (w13 : World) =>
 R (.bool x12) w13)
 (drw w10 fun w14 => flEx fun F15 =>
 rd Try.prog (Instr.loadAt 43 (.pointer (some x5))) (.agg [.slice, .slice, .slice]) w14 fun (x16 : ((Option Addr × Nat × Nat) × (Option Addr × Nat × Nat) × (Option Addr × Nat × Nat) × Unit)) =>
 rd Try.prog (Instr.loadAt 40 (.pointer (some x5))) (.one .slice) w14 fun (x17 : (Option Addr × Nat × Nat)) =>
 flc bel w14 (fun _w19 => True) (fun (w18 : World) =>
   wr Try.prog (Instr.makeSlice 40 (.int .i64 ((x17.2.1 : Nat) : Int)) (.int .i64 ((x17.2.1 : Nat) : Int))) (.one .slice) w18 fun (x20 : (Option Addr × Nat × Nat)) (w21 : World) =>
 (bel w18 w21 ∧ F15 4 [] (.slice x20.1 x20.2.1 x20.2.2) w21))
  fun (x22 : (Option Addr × Nat × Nat)) =>
 rd Try.prog (Instr.loadAt 40 (.pointer (some x5))) (.one .slice) w14 fun (x23 : (Option Addr × Nat × Nat)) =>
 flend bel w14 (fun w25 => F15 4 [] (.slice x22.1 x22.2.1 x22.2.2) w25 ∧ True) fun w24 =>
 call Try.prog 42 [(.agg #[(.slice x16.1.1 x16.1.2.1 x16.1.2.2), (.slice x16.2.1.1 x16.2.1.2.1 x16.2.1.2.2), (.slice x16.2.2.1.1 x16.2.2.1.2.1 x16.2.2.1.2.2)]), (.slice x22.1 x22.2.1 x22.2.2), (.slice x23.1 x23.2.1 x23.2.2), (.slice x9.2.1.1 x9.2.1.2.1 x9.2.1.2.2)] (.one (.one .bool)) w24 fun (x26 : Bool) (w27 : World) =>
 R (.bool x26) w27))))
def H11 : Hints := ⟨[], [(10, 8)], [], []⟩
set_option maxRecDepth 100000 in
theorem S11_eq (l_a : Option Addr) (l_n : Nat) (l_c : Nat) (w0 : World) (R : Value → World → Prop) : vcFn Try.prog H11 Try.f11 [(.slice l_a l_n l_c)] w0 R = S11 l_a l_n l_c w0 R := by kernel_rfl
set_option maxRecDepth 100000 in
theorem S11_calls (l_a : Option Addr) (l_n : Nat) (l_c : Nat) (w0 : World) (R : Value → World → Prop) (h : S11 l_a l_n l_c w0 R) : Calls Try.prog 11 #[(.slice l_a l_n l_c)] w0 (ret R) := by
  rw [← S11_eq] at h; exact vcFn_sound follows_ Try.func11 h

end Go.Proofs

/- LinearLarge. -/



namespace Go.Proofs.Ytajpdnphamomjaa
open Go.RowKit Go.Q Go.Q.Num Go.V

theorem made_ok' {up : List Int} {T : List (List Int)} {rt : List Int} {v r m : Nat} (h : MadeS up T rt v r m) (hv : v ≤ 20) (hr : r ≤ 20) (hm : m ≤ 10000) : sysE up T rt = 0 := by
  have h1 := h.n2
  have h2 := h.t
  refine sysE_0 (by omega) (by omega) ⟨fun x hx => ?_, fun x hx => ?_, fun q hq x hx => ?_⟩ ⟨h.r, fun q hq => (h.row q hq).1⟩
  · have := h.up x hx; omega
  · have h3 := h.rt x hx
    have : v * 50000 ≤ 20 * 50000 := Nat.mul_le_mul_right _ hv
    omega
  · have := (h.row q hq).2 x hx; omega
/-- what Solve says -/
def LRes (up : List Int) (T : List (List Int)) (rt : List Int) (pv : Nat) (w : World) (x : Hdr × Hdr × Int × Unit) (w' : World) : Prop :=
  (x.2.2.1 = 0 ∧ x.2.1 = (none, 0, 0) ∧ ∃ L, L.length = up.length ∧ OwnQ w' w.heap.size x.1 L ∧ (∀ q ∈ L, Fits q) ∧ SolP up T rt (L.map prQ)) ∨
  (x.2.2.1 = 0 ∧ x.1 = (none, 0, 0) ∧ 1 ≤ T.length ∧ ∃ L, L.length = T.length ∧ OwnQ w' w.heap.size x.2.1 L ∧ (∀ q ∈ L, Fits q) ∧ BndP up T rt (List.replicate up.length 0) up (L.map prQ)) ∨
  (x.2.2.1 = 8 ∧ x.1 = (none, 0, 0) ∧ x.2.1 = (none, 0, 0) ∧ RlxC up T rt (List.replicate up.length 0) up pv)
theorem flat_prQ (L : List Rat) : L.flatMap encQ = (L.map prQ).flatMap encF := by rw [List.flatMap_map]
theorem prQ_i64 {L : List Rat} (h : ∀ q ∈ L, Fits q) : ∀ p ∈ L.map prQ, I64 p.1 ∧ I64 p.2 := fun p hp => by
  obtain ⟨y, hy, rfl⟩ := List.mem_map.1 hp
  exact i64_fits (h y hy)
theorem linSolve (u r b : Hdr) (up : List Int) (T : List (List Int)) (rt : List Int) (w : World) (H : Sys w u r b up T rt) (hok : sysE up T rt = 0) (hn1 : 1 ≤ up.length) :
    call Try.prog 43 [sysv u r b] rRX w (fun (x : Hdr × Hdr × Int × Unit) w' => LRes up T rt 2000 w x w' ∧ bel w w') := by
  refine call_of (S43_calls u.1 u.2.1 u.2.2 r.1 r.2.1 r.2.2 b.1 b.2.1 b.2.2 w _ ?_)
  obtain ⟨hul, hTl, hR, hA⟩ := sysE_ok hok
  have hur := H.u.int
  unfold S43
  refine wr_box fun x1 w2 X1 h2 hx1 _ => ?_
  replace X1 : Box w2 x1 (sysc u r b) := X1
  refine rd_boxN X1 (by kernel_rfl) rfl ?_
  refine call_mono (validL u r b up T rt w2 (H.up h2)) fun (x4 : Int) w5 q => ?_
  obtain ⟨h4, h5⟩ := q
  refine br_ne (fun h => absurd (h4.trans hok) h) (fun _ => ?_)
  refine drw_mk fun w6 h6 _ => ?_
  have X6 := (X1.up h5).up h6
  have b6 := (h2.trans h5).trans h6
  refine flEx_mk (fun _ _ v w' => ∃ ad, v = .slice (some ad) up.length up.length ∧ Sl w' (some ad) up.length up.length 1 (ints .i64 (List.replicate up.length 0))) (fun _ _ _ _ _ q hb => by obtain ⟨ad, h1, h2⟩ := q; exact ⟨ad, h1, h2.up hb⟩) ?_
  refine rd_boxN X6 (by kernel_rfl) rfl ?_
  refine rd_box0 (by kernel_rfl) X6 rfl rfl ?_
  refine flc_mk (fun w10 h10 _ => ?_) fun x14 => ?_
  · refine wr_make tyI64 up.length (by dsimp only; omega) (by dsimp only; omega) (by omega) (by unfold maxLen; omega) fun xd w13 OX hb _ _ => ?_
    refine ⟨hb, xd, rfl, ?_⟩
    have := (OX w10.heap.size (Nat.le_refl _)).sl
    rw [Nat.mul_one, show (madeCells (Value.int .i64 0).cells up.length).toList = ints .i64 (List.replicate up.length 0) from made_int .i64 _] at this
    exact this
  refine rd_box0 (by kernel_rfl) X6 rfl rfl ?_
  refine flend_mk fun w16 h16 q => ?_
  obtain ⟨⟨ad, ev, SZ⟩, _⟩ := q
  obtain rfl : x14 = (some ad, up.length, up.length) := hv_inj ev
  have b16 := b6.trans h16
  refine call_mono (relaxF u r b (some ad, up.length, up.length) u up T rt (List.replicate up.length 0) up 2000 w16 (H.up b16) hok SZ (H.up b16).u (by simp) rfl (fun x hx => by rw [(List.mem_replicate.1 hx).2]; omega) (fun x hx => by have := hR.1 x hx; omega) hn1 (by omega)) fun x w19 q => ?_
  obtain ⟨hr, h19⟩ := q
  refine ⟨x, rfl, ?_, b16.trans h19⟩
  rcases hr with ⟨e1, e2, c, B, hR', ok, hw, O⟩ | ⟨e1, e2, e3, L, h1, O, h3, h4⟩ | ⟨e1, e2, e3, h4⟩
  · refine .inl ⟨e1, e2, B.val.take up.length, by rw [List.length_take, ok.lv]; omega, own_mono O b16.size, fun q hq => ok.fv q (List.mem_of_mem_take hq), rlx_SolP hok (by simp) rfl (fun k a b ha hb => ?_) (fun x hx => by rw [(List.mem_replicate.1 hx).2]; omega) (fun k a b ha hb => by rw [ha] at hb; cases hb; omega) hR' ok hw⟩
    have h0 := (List.mem_replicate.1 (mem_at ha)).2
    have := hR.1 b (mem_at hb)
    omega
  · exact .inr (.inl ⟨e1, e2, e3, L, h1, own_mono O b16.size, h3, h4⟩)
  · exact .inr (.inr ⟨e1, e2, e3, h4⟩)

set_option maxHeartbeats 1600000 in
theorem linLarge (l : Hdr) (L : List Int) (w : World) (HL : Sl w l.1 l.2.1 l.2.2 1 (ints .i64 L)) (hL : ∀ x ∈ L, I64 x) :
    Calls Try.prog 11 #[.slice l.1 l.2.1 l.2.2] w (fun e w' => e = .returned (.bool true) ∧ Below w.heap.size w w') := by
  refine Calls.mono (S11_calls l.1 l.2.1 l.2.2 w (fun v w' => v = .bool true ∧ bel w w') ?_) (by rintro e w' ⟨v, rfl, rfl, hb⟩; exact ⟨rfl, hb⟩)
  unfold S11
  refine wr_box fun x1 w2 TB h2 hx1 _ => ?_
  have ht := tape_new HL hL TB h2 hx1
  refine call_mono (systemF 9 6 1000 ht (by omega) (by omega) (by omega) (by omega) (by omega)) ?_
  rintro ((x3 : Hdr × Hdr × Hdr × Unit)) w4 ⟨up, T, rt, p, MS, HS, _, _, hg4⟩
  obtain ⟨u, r, b, _⟩ := x3
  dsimp only at HS
  have hok := made_ok' MS (by omega) (by omega) (by omega)
  have b4 : bel w w4 := h2.grownAt hg4 (by omega)
  have H4 := HS w4 (grown_refl _ _)
  refine var_mk (v := sysv u r b) (z := .agg #[.slice none 0 0, .slice none 0 0, .slice none 0 0]) (by kernel_rfl) (by kernel_rfl) rfl rfl fun x5 w7 X h7 hx5 => ?_
  replace X : Box w7 x5 (sysc u r b) := X
  have b7 := b4.trans h7
  have H7 := H4.up h7
  refine rd_boxN X (by kernel_rfl) rfl ?_
  refine call_mono (linSolve u r b up T rt w7 H7 hok MS.n1) fun (x9 : Hdr × Hdr × Int × Unit) w10 q => ?_
  obtain ⟨hres, h10⟩ := q
  have b10 := b7.trans h10
  have H10 := H7.up h10
  have X10 := X.up h10
  have n1 := MS.n1
  rcases hres with ⟨e1, e2, M, hM, O, hf, hs⟩ | ⟨e1, e2, e3, M, hM, O, hf, hs⟩ | ⟨e1, e2, e3, _⟩
  · have hl := slQ_len O.sl
    refine br_f (by rw [e1]; rfl) ?_
    refine br_f (by rw [e1]; rfl) ?_
    refine br_f (by rw [e2]; simp; omega) ?_
    refine br_t (by simp; omega) ?_
    refine rd_boxN X10 (by kernel_rfl) rfl ?_
    have SM := O.sl
    rw [flat_prQ] at SM
    refine call_mono (sol11 u r b x9.1 up T rt _ w10 H10 SM (prQ_i64 hf)) fun (x12 : Bool) w13 q => ?_
    exact ⟨by rw [q.1.2 hs], b10.trans q.2⟩
  · have hl := slQ_len O.sl
    refine br_f (by rw [e1]; rfl) ?_
    refine br_f (by rw [e1]; rfl) ?_
    refine br_f (by rw [e2]; simp; omega) ?_
    refine br_f (by rw [e2]; rfl) ?_
    refine drw_mk fun w14 h14 _ => ?_
    have X14 := X10.up h14
    refine flEx_mk (fun _ _ v w' => ∃ ad, v = .slice (some ad) up.length up.length ∧ Sl w' (some ad) up.length up.length 1 (ints .i64 (List.replicate up.length 0))) (fun _ _ _ _ _ q hb => by obtain ⟨ad, h1, h2⟩ := q; exact ⟨ad, h1, h2.up hb⟩) ?_
    refine rd_boxN X14 (by kernel_rfl) rfl ?_
    refine rd_box0 (by kernel_rfl) X14 rfl rfl ?_
    have hur := H10.u.int
    have hu2 := MS.n2
    refine flc_mk (fun w18 h18 _ => ?_) fun x22 => ?_
    · refine wr_make tyI64 up.length (by dsimp only; omega) (by dsimp only; omega) (by omega) (by unfold maxLen; omega) fun xd w13 OX hb _ _ => ?_
      refine ⟨hb, xd, rfl, ?_⟩
      have := (OX w18.heap.size (Nat.le_refl _)).sl
      rw [Nat.mul_one, show (madeCells (Value.int .i64 0).cells up.length).toList = ints .i64 (List.replicate up.length 0) from made_int .i64 _] at this
      exact this
    refine rd_box0 (by kernel_rfl) X14 rfl rfl ?_
    refine flend_mk fun w24 h24 q => ?_
    obtain ⟨⟨ad, ev, SZ⟩, _⟩ := q
    obtain rfl : x22 = (some ad, up.length, up.length) := hv_inj ev
    have b24 := h14.trans h24
    have SM := (O.sl).up b24
    rw [flat_prQ] at SM
    refine call_mono (bnd11 u r b (some ad, up.length, up.length) u x9.2.1 up T rt _ up _ w24 (H10.up b24) SM (prQ_i64 hf) SZ (H10.up b24).u) fun (x26 : Bool) w27 q => ?_
    exact ⟨by rw [q.1.2 hs], (b10.trans b24).trans q.2⟩
  · refine br_t (by rw [e1]; rfl) ?_
    refine br_t (by rw [e2]; rfl) ?_
    exact ⟨by rw [e3]; rfl, b10⟩
end Go.Proofs.Ytajpdnphamomjaa
