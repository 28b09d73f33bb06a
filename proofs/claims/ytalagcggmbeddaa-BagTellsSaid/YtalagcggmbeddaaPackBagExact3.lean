import Derived.KernelRfl
import Derived.Test.YtalagcggmbeddaaOpen
import Derived.Test.YtalagcggmbeddaaPackBagExact2

/- Rows: compared, cloned; tables of rows in memory. -/


namespace Go.Proofs.Ytalagcggmbeddaa
open Go.RowKit Go.Q Go.V Go.Bag

theorem tyV : TyS Try.prog 24 47 (.agg #[.int .i64 0, .int .i64 0, .string ByteArray.empty]) 3 32 := ⟨by kernel_rfl, by kernel_rfl⟩
theorem tyT : TyS Try.prog 22 24 (.slice none 0 0) 1 24 := ⟨by kernel_rfl, by kernel_rfl⟩
theorem encV_len (a : V3) : (encV a).length = 3 := rfl
abbrev RowAt (w : World) (x : Hdr) (r : Rw) : Prop := Sl w x.1 x.2.1 x.2.2 3 (r.flatMap encV)
theorem RowAt.len {w : World} {x : Hdr} {r : Rw} (H : RowAt w x r) : r.length = x.2.1 := by
  have := Sl.len H
  rw [flat_len encV_len] at this; omega
theorem RowAt.le {w : World} {x : Hdr} {r : Rw} (H : RowAt w x r) : r.length ≤ 9223372036854775807 := by
  have := Sl.le H
  have := RowAt.len H
  omega
theorem row_at {w : World} {x : Hdr} {r : Rw} (H : RowAt w x r) {i : Int} {j : Nat} (hj : i = (j : Int)) (hn : j < r.length) {K : (Int × Int × ByteArray × Unit) → Prop} (hk : ∀ p : V3, r[j]? = some p → K (p.1, p.2.1, p.2.2, ())) :
    rdp Try.prog (Instr.indexAt 24 (.slice x.1 x.2.1 x.2.2) (.int .i64 i)) (.one .addr) fun ad => rd Try.prog (Instr.loadAt 47 (.pointer (some ad))) (.agg [.int .i64, .int .i64, .str]) w K := by
  obtain ⟨p, hp⟩ : ∃ p, r[j]? = some p := ⟨_, List.getElem?_eq_getElem hn⟩
  exact at_agg tyV (by kernel_rfl) encV_len (by omega) H hj hp rfl (hk p hp)
theorem lexc_drop {c : V3 → V3 → Int} {r s : Rw} {i : Nat} {p q : V3} (h : r[i]? = some p) (h' : s[i]? = some q) : lexc c (r.drop i) (s.drop i) = if c p q = 0 then lexc c (r.drop (i + 1)) (s.drop (i + 1)) else c p q := by
  rw [List.drop_eq_getElem_cons (List.getElem?_eq_some_iff.1 h).1, List.drop_eq_getElem_cons (List.getElem?_eq_some_iff.1 h').1]
  rw [(List.getElem?_eq_some_iff.1 h).2, (List.getElem?_eq_some_iff.1 h').2]
  rfl
theorem lexc_end1 {c : V3 → V3 → Int} {r s : Rw} {i : Nat} (h : i = r.length) (h' : i < s.length) : lexc c (r.drop i) (s.drop i) = -1 := by
  rw [List.drop_eq_getElem_cons h', List.drop_of_length_le (by omega)]; rfl
theorem lexc_end2 {c : V3 → V3 → Int} {r s : Rw} {i : Nat} (h : i < r.length) (h' : i = s.length) : lexc c (r.drop i) (s.drop i) = 1 := by
  rw [List.drop_eq_getElem_cons h, List.drop_of_length_le (l := s) (by omega)]; rfl
theorem lexc_end0 {c : V3 → V3 → Int} {r s : Rw} {i : Nat} (h : i = r.length) (h' : i = s.length) : lexc c (r.drop i) (s.drop i) = 0 := by
  rw [List.drop_of_length_le (by omega), List.drop_of_length_le (by omega)]; rfl
/-- rows, compared by the program -/
theorem rowsF (x y : Hdr) (r s : Rw) (w : World) (HX : RowAt w x r) (HY : RowAt w y s) :
    call Try.prog 39 [.slice x.1 x.2.1 x.2.2, .slice y.1 y.2.1 y.2.2] (.one (.one (.int .i64))) w (fun (n : Int) w' => n = cmpR r s ∧ bel w w') := by
  refine call_of (S39_calls _ _ _ _ _ _ w _ ?_)
  unfold S39
  refine call_mono (r := .one (.one (.int .i64))) (Q := fun (n : Int) w' => n = cmpR r s ∧ bel w w') (call_of (S47_calls _ _ _ _ _ _ w _ ?_)) (fun n w' h => ⟨n, rfl, h⟩)
  unfold S47
  have lx := RowAt.len HX
  have ly := RowAt.len HY
  have mx := RowAt.le HX
  refine loop_up r.length (fun i w' => bel w w' ∧ cmpR r s = lexc cmpV (r.drop i) (s.drop i) ∧ i ≤ s.length) ⟨bel.refl _, rfl, Nat.zero_le _⟩ fun i w3 hi ⟨hb, he, his⟩ again hag _ => ?_
  refine br_dec (fun e => ?_) (fun e => ?_)
  · dsimp only at e
    refine row_at (HX.up hb) rfl (by omega) fun p hp => ?_
    refine var_mk (z := .agg #[.int .i64 0, .int .i64 0, .string ByteArray.empty]) (v := vv p) (by kernel_rfl) (by kernel_rfl) rfl rfl fun a6 w8 X6 h8 _ => ?_
    replace X6 : Box w8 a6 (encV p) := X6
    replace hb := hb.trans h8
    refine br_dec (fun q => ⟨_, rfl, ?_, hb⟩) (fun q => ?_)
    · dsimp only at q
      rw [he]; exact (lexc_end2 (by omega) (by omega)).symm
    dsimp only at q
    refine row_at (HY.up hb) rfl (by omega) fun p' hp' => ?_
    refine var_mk (z := .agg #[.int .i64 0, .int .i64 0, .string ByteArray.empty]) (v := vv p') (by kernel_rfl) (by kernel_rfl) rfl rfl fun a11 w13 X11 h13 _ => ?_
    replace X11 : Box w13 a11 (encV p') := X11
    replace hb := hb.trans h13
    refine rd_boxN (X6.up h13) (by kernel_rfl) rfl ?_
    refine rd_boxN X11 (by kernel_rfl) rfl ?_
    refine call_mono (compV p p' w13) fun (n : Int) w17 ⟨en, h17⟩ => ?_
    rw [lexc_drop hp hp'] at he
    subst en
    refine br_ne (fun z => ⟨_, rfl, by rw [he, if_neg z], hb.trans h17⟩) (fun z => ?_)
    rw [if_pos z] at he
    refine z_i64 (by dsimp only; omega) ?_
    exact hag _ (by omega) ⟨hb.trans h17, he, by omega⟩
  · dsimp only at e
    have hir : i = r.length := by omega
    refine br_dec (fun q => ⟨_, rfl, by rw [he, lexc_end1 hir (by omega)], hb⟩) (fun q => ⟨_, rfl, by rw [he, lexc_end0 hir (by omega)], hb⟩)
theorem comp01 (a b : V3) (w : World) : call Try.prog 34 [vv a, vv b] (.one (.one (.int .i64))) w (fun (r : Int) w' => r = cmpV a b ∧ bel w w') := by
  refine call_of (S34_calls a.1 a.2.1 a.2.2 b.1 b.2.1 b.2.2 w _ ?_)
  unfold S34
  refine wr_box fun x1 w2 X1 h2 _ _ => ?_
  refine wr_box fun x3 w4 X3 h4 _ _ => ?_
  replace X1 : Box w4 x1 (encV a) := X1.up h4
  replace X3 : Box w4 x3 (encV b) := X3
  replace h2 := h2.trans h4
  unfold cmpV
  refine rd_box0 (by kernel_rfl) X1 rfl rfl ?_
  refine rd_box0 (by kernel_rfl) X3 rfl rfl ?_
  refine br_dec (fun q => ⟨_, rfl, by unfold or2 cmpI; rw [if_pos q]; rfl, h2⟩) (fun q => ?_)
  refine rd_box0 (by kernel_rfl) X1 rfl rfl ?_
  refine rd_box0 (by kernel_rfl) X3 rfl rfl ?_
  refine br_dec (fun q' => ⟨_, rfl, by unfold or2 cmpI; rw [if_neg q, if_pos q']; rfl, h2⟩) (fun q' => ?_)
  have e1 : cmpI a.1 b.1 = 0 := by unfold cmpI; rw [if_neg q, if_neg q']
  rw [e1]
  refine rd_box (by kernel_rfl) X1 (i := 1) rfl rfl ?_
  refine rd_box (by kernel_rfl) X3 (i := 1) rfl rfl ?_
  refine br_dec (fun r => ⟨_, rfl, by unfold or2 cmpI; rw [if_pos rfl, if_pos r]; rfl, h2⟩) (fun r => ?_)
  refine rd_box (by kernel_rfl) X1 (i := 1) rfl rfl ?_
  refine rd_box (by kernel_rfl) X3 (i := 1) rfl rfl ?_
  refine br_dec (fun r' => ⟨_, rfl, by unfold or2 cmpI; rw [if_pos rfl, if_neg r, if_pos r']; rfl, h2⟩) (fun r' => ?_)
  have e2 : cmpI a.2.1 b.2.1 = 0 := by unfold cmpI; rw [if_neg r, if_neg r']
  rw [e2]
  refine rd_box (by kernel_rfl) X1 (i := 2) rfl rfl ?_
  refine rd_box (by kernel_rfl) X3 (i := 2) rfl rfl ?_
  refine lss_mk (br_mk (fun q2 => ⟨_, rfl, ?_, h2⟩) (fun q2 => ?_))
  · unfold or2 cmpS3; rw [if_pos rfl, if_pos rfl, if_pos q2]
  refine rd_box (by kernel_rfl) X1 (i := 2) rfl rfl ?_
  refine rd_box (by kernel_rfl) X3 (i := 2) rfl rfl ?_
  refine gtr_mk (br_mk (fun q3 => ⟨_, rfl, ?_, h2⟩) (fun q3 => ⟨_, rfl, ?_, h2⟩))
  · rw [q2] at q3
    simp at q3
    unfold or2 cmpS3
    rw [if_pos rfl, if_pos rfl, if_neg (by simp [q2]), if_neg q3]
  · rw [q2] at q3
    simp at q3
    unfold or2 cmpS3
    rw [if_pos rfl, if_pos rfl, if_neg (by simp [q2]), if_pos q3]
/-- rows, compared by the specification -/
theorem rows01 (x y : Hdr) (r s : Rw) (w : World) (HX : RowAt w x r) (HY : RowAt w y s) :
    call Try.prog 15 [.slice x.1 x.2.1 x.2.2, .slice y.1 y.2.1 y.2.2] (.one (.one (.int .i64))) w (fun (n : Int) w' => n = cmpR r s ∧ bel w w') := by
  refine call_of (S15_calls _ _ _ _ _ _ w _ ?_)
  unfold S15
  have lx := RowAt.len HX
  have ly := RowAt.len HY
  have mx := RowAt.le HX
  refine join_mk (fun _ w' => bel w w' ∧ ∃ i, i ≤ r.length ∧ i ≤ s.length ∧ (i = r.length ∨ i = s.length) ∧ cmpR r s = lexc cmpV (r.drop i) (s.drop i)) (fun K1 hK => ?_) ?_
  · refine loop_up r.length (fun i w' => bel w w' ∧ cmpR r s = lexc cmpV (r.drop i) (s.drop i) ∧ i ≤ s.length) ⟨bel.refl _, rfl, Nat.zero_le _⟩ fun i w3 hi ⟨hb, he, his⟩ again hag _ => ?_
    refine br_dec (fun e => ?_) (fun e => ?_)
    · refine br_dec (fun e2 => ?_) (fun e2 => ?_)
      · dsimp only at e e2
        refine drw_mk fun w7 h7 _ => ?_
        replace hb := hb.trans h7
        refine row_at (HX.up hb) rfl (by omega) fun p hp => ?_
        refine row_at (HY.up hb) rfl (by omega) fun p' hp' => ?_
        refine call_mono (comp01 p p' w7) fun (n : Int) w17 ⟨en, h17⟩ => ?_
        rw [lexc_drop hp hp'] at he
        subst en
        refine br_ne (fun z => ⟨_, rfl, by rw [he, if_neg z], hb.trans h17⟩) (fun z => ?_)
        rw [if_pos z] at he
        refine z_i64 (by dsimp only; omega) ?_
        exact hag _ (by omega) ⟨hb.trans h17, he, by omega⟩
      · dsimp only at e e2
        exact hK () _ ⟨hb, i, hi, his, .inr (by omega), he⟩
    · dsimp only at e
      exact hK () _ ⟨hb, i, hi, his, .inl (by omega), he⟩
  · rintro _ w3 ⟨hb, i, h1, h2, h3, he⟩ _
    refine br_dec (fun q => ⟨_, rfl, by rw [he, lexc_end1 (by omega) (by omega)], hb⟩) (fun q => ?_)
    refine br_dec (fun q2 => ⟨_, rfl, by rw [he, lexc_end2 (by omega) (by omega)], hb⟩) (fun q2 => ⟨_, rfl, by rw [he, lexc_end0 (by omega) (by omega)], hb⟩)
/-! ### copies -/
abbrev Fresh (w : World) (x : Hdr) (r : Rw) : Prop := r ≠ [] → ∀ ad, x.1 = some ad → w.heap.size ≤ ad.block
theorem plainR (r : Rw) : plainV (r.flatMap encV) = true := by
  unfold plainV
  rw [List.all_eq_true]
  intro u hu
  obtain ⟨p, _, hp⟩ := List.mem_flatMap.1 hu
  simp only [List.mem_cons, List.not_mem_nil, or_false] at hp
  rcases hp with rfl | rfl | rfl <;> rfl
theorem cloneF (s : Hdr) (r : Rw) (w : World) (H : RowAt w s r) (hn : r.length ≤ 1000000) :
    call Try.prog 45 [.slice s.1 s.2.1 s.2.2] (.one (.one .slice)) w (fun (x : Hdr) w' => RowAt w' x r ∧ Fresh w x r ∧ bel w w') := by
  refine call_of (S45_calls s.1 s.2.1 s.2.2 w _ ?_)
  unfold S45
  have hl := RowAt.len H
  refine rd_nil tyV ?_
  obtain ⟨a, n, c⟩ := s
  have hl : r.length = n := hl
  subst hl
  dsimp only
  cases a with
  | none =>
    have h0 : r.length = 0 := (Sl.nil' H rfl).1
    have : r = [] := List.eq_nil_of_length_eq_zero h0
    subst this
    exact br_t rfl ⟨(none, 0, 0), rfl, (Own.nil w 0 47 3).sl, fun q => absurd rfl q, bel.refl _⟩
  | some ad =>
    refine br_f rfl ?_
    refine wr_lit0 tyV fun bd w3 O3 h3 e3 _ => ?_
    have O := O3 w.heap.size (Nat.le_refl _)
    have H3 : RowAt w3 (some ad, r.length, c) r := H.up h3
    refine wr_app tyV O H3 h3.size rfl (by omega) (plainR r) (by omega) (by unfold maxLen; omega) fun a' c' w5 O5 g5 hz _ => ?_
    refine ⟨(a', 0 + r.length, c'), rfl, ?_, fun _ ad' had => ?_, ?_⟩
    · have := O5.sl
      simpa using this
    · have := (O5.lt ad'.block (by rw [show a' = some ad' from had]; rfl)).1
      exact this
    · exact h3.grown g5 fun k hk => (O.lt k hk).1
end Go.Proofs.Ytalagcggmbeddaa

/- The conditions of functions, printed by our tool; each is checked against the code by the kernel. -/



namespace Go.Proofs
open Go Go.V Go.RowKit
/-- slices.SortStableFunc[[][]querylab/api.Value,[]querylab/api.Value] -/
def S46 (x_a : Option Addr) (x_n : Nat) (x_c : Nat) (w0 : World) (R : Value → World → Prop) : Prop :=
 call Try.prog 49 [(.slice x_a x_n x_c), (.int .i64 ((x_n : Nat) : Int)), (.func (.func 39) #[] #[])] (.many []) w0 fun (_x1 : (Unit)) (w2 : World) =>
 R (.tuple #[]) w2
def H46 : Hints := ⟨[], [], [], []⟩
set_option maxRecDepth 100000 in
theorem S46_eq (x_a : Option Addr) (x_n : Nat) (x_c : Nat) (w0 : World) (R : Value → World → Prop) : vcFn Try.prog H46 Try.f46 [(.slice x_a x_n x_c), (.func (.func 39) #[] #[])] w0 R = S46 x_a x_n x_c w0 R := by kernel_rfl
set_option maxRecDepth 100000 in
theorem S46_calls (x_a : Option Addr) (x_n : Nat) (x_c : Nat) (w0 : World) (R : Value → World → Prop) (h : S46 x_a x_n x_c w0 R) : Calls Try.prog 46 #[(.slice x_a x_n x_c), (.func (.func 39) #[] #[])] w0 (ret R) := by
  rw [← S46_eq] at h; exact vcFn_sound follows_ Try.func46 h

/-- slices.stableCmpFunc[[]querylab/api.Value] -/
def S49 (data_a : Option Addr) (data_n : Nat) (data_c : Nat) (n_ : Int) (w0 : World) (R : Value → World → Prop) : Prop :=
 loop (T := (Int × Int × Unit)) (0, 20, ()) w0 fun (again1 : (Int × Int × Unit) → World → Prop) (s2 : (Int × Int × Unit)) w3 => ∀ _ : Nat → Value,
 br (decide (s2.2.1 ≤ n_)) (call Try.prog 54 [(.slice data_a data_n data_c), (.int .i64 s2.1), (.int .i64 s2.2.1), (.func (.func 39) #[] #[])] (.many []) w3 fun (_x4 : (Unit)) (w5 : World) =>
 z (IntKind.wrap .i64 (s2.2.1 + 20)) fun (z6 : Int) =>
 again1 (s2.2.1, z6, ()) w5)
 (call Try.prog 54 [(.slice data_a data_n data_c), (.int .i64 s2.1), (.int .i64 n_), (.func (.func 39) #[] #[])] (.many []) w3 fun (_x7 : (Unit)) (w8 : World) =>
 loop (T := (Int × Unit)) (20, ()) w8 fun (again9 : (Int × Unit) → World → Prop) (s10 : (Int × Unit)) w11 => ∀ _ : Nat → Value,
 br (decide (s10.1 < n_)) (z (IntKind.wrap .i64 (2 * s10.1)) fun (z12 : Int) =>
 loop (T := (Int × Int × Unit)) (0, z12, ()) w11 fun (again13 : (Int × Int × Unit) → World → Prop) (s14 : (Int × Int × Unit)) w15 => ∀ _ : Nat → Value,
 br (decide (s14.2.1 ≤ n_)) (z (IntKind.wrap .i64 (s14.1 + s10.1)) fun (z16 : Int) =>
 call Try.prog 55 [(.slice data_a data_n data_c), (.int .i64 s14.1), (.int .i64 z16), (.int .i64 s14.2.1), (.func (.func 39) #[] #[])] (.many []) w15 fun (_x17 : (Unit)) (w18 : World) =>
 z (IntKind.wrap .i64 (2 * s10.1)) fun (z19 : Int) =>
 z (IntKind.wrap .i64 (s14.2.1 + z19)) fun (z20 : Int) =>
 again13 (s14.2.1, z20, ()) w18)
 (join (T := (Unit)) (fun (_s22 : (Unit)) w23 => ∀ _ : Nat → Value,
 z (IntKind.wrap .i64 (s10.1 * 2)) fun (z24 : Int) =>
 again9 (z24, ()) w23)
  fun (K21 : (Unit) → World → Prop) =>
 z (IntKind.wrap .i64 (s14.1 + s10.1)) fun (z25 : Int) =>
 br (decide (z25 < n_)) (call Try.prog 55 [(.slice data_a data_n data_c), (.int .i64 s14.1), (.int .i64 z25), (.int .i64 n_), (.func (.func 39) #[] #[])] (.many []) w15 fun (_x26 : (Unit)) (w27 : World) =>
 K21 (()) w27)
 (K21 (()) w15)))
 (R (.tuple #[]) w11))
def H49 : Hints := ⟨[(2, 0, [(7, (.one (.int .i64))), (8, (.one (.int .i64)))]), (2, 2, [(6, (.one (.int .i64)))]), (2, 4, [(7, (.one (.int .i64))), (8, (.one (.int .i64)))]), (0, 54, [])], [], [], []⟩
set_option maxRecDepth 100000 in
theorem S49_eq (data_a : Option Addr) (data_n : Nat) (data_c : Nat) (n_ : Int) (w0 : World) (R : Value → World → Prop) : vcFn Try.prog H49 Try.f49 [(.slice data_a data_n data_c), (.int .i64 n_), (.func (.func 39) #[] #[])] w0 R = S49 data_a data_n data_c n_ w0 R := by kernel_rfl
set_option maxRecDepth 100000 in
theorem S49_calls (data_a : Option Addr) (data_n : Nat) (data_c : Nat) (n_ : Int) (w0 : World) (R : Value → World → Prop) (h : S49 data_a data_n data_c n_ w0 R) : Calls Try.prog 49 #[(.slice data_a data_n data_c), (.int .i64 n_), (.func (.func 39) #[] #[])] w0 (ret R) := by
  rw [← S49_eq] at h; exact vcFn_sound follows_ Try.func49 h

/-- slices.insertionSortCmpFunc[[]querylab/api.Value] -/
def S54 (data_a : Option Addr) (data_n : Nat) (data_c : Nat) (a_ : Int) (b_ : Int) (w0 : World) (R : Value → World → Prop) : Prop :=
 z (IntKind.wrap .i64 (a_ + 1)) fun (z1 : Int) =>
 loop (T := (Int × Unit)) (z1, ()) w0 fun (again2 : (Int × Unit) → World → Prop) (s3 : (Int × Unit)) w4 => ∀ _ : Nat → Value,
 br (decide (s3.1 < b_)) (join (T := (Unit)) (fun (_s6 : (Unit)) w7 => ∀ _ : Nat → Value,
 z (IntKind.wrap .i64 (s3.1 + 1)) fun (z8 : Int) =>
 again2 (z8, ()) w7)
  fun (K5 : (Unit) → World → Prop) =>
 loop (T := (Int × Unit)) (s3.1, ()) w4 fun (again9 : (Int × Unit) → World → Prop) (s10 : (Int × Unit)) w11 => ∀ _ : Nat → Value,
 drw w11 fun w12 =>
 br (decide (s10.1 > a_)) (rdp Try.prog (Instr.indexAt 22 (.slice data_a data_n data_c) (.int .i64 s10.1)) (.one .addr) fun (x13 : Addr) =>
 rd Try.prog (Instr.loadAt 24 (.pointer (some x13))) (.one .slice) w12 fun (x14 : (Option Addr × Nat × Nat)) =>
 z (IntKind.wrap .i64 (s10.1 - 1)) fun (z15 : Int) =>
 rdp Try.prog (Instr.indexAt 22 (.slice data_a data_n data_c) (.int .i64 z15)) (.one .addr) fun (x16 : Addr) =>
 rd Try.prog (Instr.loadAt 24 (.pointer (some x16))) (.one .slice) w12 fun (x17 : (Option Addr × Nat × Nat)) =>
 call Try.prog 39 [(.slice x14.1 x14.2.1 x14.2.2), (.slice x17.1 x17.2.1 x17.2.2)] (.one (.one (.int .i64))) w12 fun (x18 : Int) (w19 : World) =>
 br (decide (x18 < 0)) (drw w19 fun w20 =>
 z (IntKind.wrap .i64 (s10.1 - 1)) fun (z21 : Int) =>
 z (IntKind.wrap .i64 (s10.1 - 1)) fun (z22 : Int) =>
 rdp Try.prog (Instr.indexAt 22 (.slice data_a data_n data_c) (.int .i64 z22)) (.one .addr) fun (x23 : Addr) =>
 rd Try.prog (Instr.loadAt 24 (.pointer (some x23))) (.one .slice) w20 fun (x24 : (Option Addr × Nat × Nat)) =>
 rdp Try.prog (Instr.indexAt 22 (.slice data_a data_n data_c) (.int .i64 s10.1)) (.one .addr) fun (x25 : Addr) =>
 rd Try.prog (Instr.loadAt 24 (.pointer (some x25))) (.one .slice) w20 fun (x26 : (Option Addr × Nat × Nat)) =>
 rdp Try.prog (Instr.indexAt 22 (.slice data_a data_n data_c) (.int .i64 s10.1)) (.one .addr) fun (x27 : Addr) =>
 wu Try.prog (Instr.storeAt 24 (.pointer (some x27)) (.slice x24.1 x24.2.1 x24.2.2)) w20 fun (w28 : World) =>
 rdp Try.prog (Instr.indexAt 22 (.slice data_a data_n data_c) (.int .i64 z21)) (.one .addr) fun (x29 : Addr) =>
 wu Try.prog (Instr.storeAt 24 (.pointer (some x29)) (.slice x26.1 x26.2.1 x26.2.2)) w28 fun (w30 : World) =>
 z (IntKind.wrap .i64 (s10.1 - 1)) fun (z31 : Int) =>
 again9 (z31, ()) w30)
 (K5 (()) w19))
 (K5 (()) w12))
 (R (.tuple #[]) w4)
def H54 : Hints := ⟨[(2, 0, [(8, (.one (.int .i64)))]), (2, 2, [(9, (.one (.int .i64)))]), (1, 1, [])], [(4, 14), (6, 14)], [], []⟩
set_option maxRecDepth 100000 in
theorem S54_eq (data_a : Option Addr) (data_n : Nat) (data_c : Nat) (a_ : Int) (b_ : Int) (w0 : World) (R : Value → World → Prop) : vcFn Try.prog H54 Try.f54 [(.slice data_a data_n data_c), (.int .i64 a_), (.int .i64 b_), (.func (.func 39) #[] #[])] w0 R = S54 data_a data_n data_c a_ b_ w0 R := by kernel_rfl
set_option maxRecDepth 100000 in
theorem S54_calls (data_a : Option Addr) (data_n : Nat) (data_c : Nat) (a_ : Int) (b_ : Int) (w0 : World) (R : Value → World → Prop) (h : S54 data_a data_n data_c a_ b_ w0 R) : Calls Try.prog 54 #[(.slice data_a data_n data_c), (.int .i64 a_), (.int .i64 b_), (.func (.func 39) #[] #[])] w0 (ret R) := by
  rw [← S54_eq] at h; exact vcFn_sound follows_ Try.func54 h

/-- slices.symMergeCmpFunc[[]querylab/api.Value] -/
def S55 (data_a : Option Addr) (data_n : Nat) (data_c : Nat) (a_ : Int) (m_ : Int) (b_ : Int) (w0 : World) (R : Value → World → Prop) : Prop :=
 z (IntKind.wrap .i64 (m_ - a_)) fun (z1 : Int) =>
 br (z1 == 1) (loop (T := (Int × Int × Unit)) (m_, b_, ()) w0 fun (again2 : (Int × Int × Unit) → World → Prop) (s3 : (Int × Int × Unit)) w4 => ∀ _ : Nat → Value,
 br (decide (s3.1 < s3.2.1)) (z (IntKind.wrap .i64 (s3.1 + s3.2.1)) fun (z5 : Int) =>
 z (IntKind.wrap .u64 z5) fun (z6 : Int) =>
 rdp Try.prog (cmpS .shr 66 (.tmp 37) (.const (.int .u64 1)) (.int .u64 z6) (.int .u64 1)) (.one (.int .u64)) fun (x7 : Int) =>
 z (IntKind.wrap .i64 x7) fun (z8 : Int) =>
 drw w4 fun w9 =>
 rdp Try.prog (Instr.indexAt 22 (.slice data_a data_n data_c) (.int .i64 z8)) (.one .addr) fun (x10 : Addr) =>
 rd Try.prog (Instr.loadAt 24 (.pointer (some x10))) (.one .slice) w9 fun (x11 : (Option Addr × Nat × Nat)) =>
 rdp Try.prog (Instr.indexAt 22 (.slice data_a data_n data_c) (.int .i64 a_)) (.one .addr) fun (x12 : Addr) =>
 rd Try.prog (Instr.loadAt 24 (.pointer (some x12))) (.one .slice) w9 fun (x13 : (Option Addr × Nat × Nat)) =>
 call Try.prog 39 [(.slice x11.1 x11.2.1 x11.2.2), (.slice x13.1 x13.2.1 x13.2.2)] (.one (.one (.int .i64))) w9 fun (x14 : Int) (w15 : World) =>
 br (decide (x14 < 0)) (z (IntKind.wrap .i64 (z8 + 1)) fun (z16 : Int) =>
 again2 (z16, s3.2.1, ()) w15)
 (again2 (s3.1, z8, ()) w15))
 (loop (T := (Int × Unit)) (a_, ()) w4 fun (again17 : (Int × Unit) → World → Prop) (s18 : (Int × Unit)) w19 => ∀ _ : Nat → Value,
 z (IntKind.wrap .i64 (s3.1 - 1)) fun (z20 : Int) =>
 br (decide (s18.1 < z20)) (drw w19 fun w21 =>
 z (IntKind.wrap .i64 (s18.1 + 1)) fun (z22 : Int) =>
 z (IntKind.wrap .i64 (s18.1 + 1)) fun (z23 : Int) =>
 rdp Try.prog (Instr.indexAt 22 (.slice data_a data_n data_c) (.int .i64 z23)) (.one .addr) fun (x24 : Addr) =>
 rd Try.prog (Instr.loadAt 24 (.pointer (some x24))) (.one .slice) w21 fun (x25 : (Option Addr × Nat × Nat)) =>
 rdp Try.prog (Instr.indexAt 22 (.slice data_a data_n data_c) (.int .i64 s18.1)) (.one .addr) fun (x26 : Addr) =>
 rd Try.prog (Instr.loadAt 24 (.pointer (some x26))) (.one .slice) w21 fun (x27 : (Option Addr × Nat × Nat)) =>
 rdp Try.prog (Instr.indexAt 22 (.slice data_a data_n data_c) (.int .i64 s18.1)) (.one .addr) fun (x28 : Addr) =>
 wu Try.prog (Instr.storeAt 24 (.pointer (some x28)) (.slice x25.1 x25.2.1 x25.2.2)) w21 fun (w29 : World) =>
 rdp Try.prog (Instr.indexAt 22 (.slice data_a data_n data_c) (.int .i64 z22)) (.one .addr) fun (x30 : Addr) =>
 wu Try.prog (Instr.storeAt 24 (.pointer (some x30)) (.slice x27.1 x27.2.1 x27.2.2)) w29 fun (w31 : World) =>
 z (IntKind.wrap .i64 (s18.1 + 1)) fun (z32 : Int) =>
 again17 (z32, ()) w31)
 (R (.tuple #[]) w19)))
 (z (IntKind.wrap .i64 (b_ - m_)) fun (z33 : Int) =>
 br (z33 == 1) (loop (T := (Int × Int × Unit)) (a_, m_, ()) w0 fun (again34 : (Int × Int × Unit) → World → Prop) (s35 : (Int × Int × Unit)) w36 => ∀ _ : Nat → Value,
 br (decide (s35.1 < s35.2.1)) (z (IntKind.wrap .i64 (s35.1 + s35.2.1)) fun (z37 : Int) =>
 z (IntKind.wrap .u64 z37) fun (z38 : Int) =>
 rdp Try.prog (cmpS .shr 66 (.tmp 89) (.const (.int .u64 1)) (.int .u64 z38) (.int .u64 1)) (.one (.int .u64)) fun (x39 : Int) =>
 z (IntKind.wrap .i64 x39) fun (z40 : Int) =>
 drw w36 fun w41 =>
 rdp Try.prog (Instr.indexAt 22 (.slice data_a data_n data_c) (.int .i64 m_)) (.one .addr) fun (x42 : Addr) =>
 rd Try.prog (Instr.loadAt 24 (.pointer (some x42))) (.one .slice) w41 fun (x43 : (Option Addr × Nat × Nat)) =>
 rdp Try.prog (Instr.indexAt 22 (.slice data_a data_n data_c) (.int .i64 z40)) (.one .addr) fun (x44 : Addr) =>
 rd Try.prog (Instr.loadAt 24 (.pointer (some x44))) (.one .slice) w41 fun (x45 : (Option Addr × Nat × Nat)) =>
 call Try.prog 39 [(.slice x43.1 x43.2.1 x43.2.2), (.slice x45.1 x45.2.1 x45.2.2)] (.one (.one (.int .i64))) w41 fun (x46 : Int) (w47 : World) =>
 br (!(decide (x46 < 0))) (z (IntKind.wrap .i64 (z40 + 1)) fun (z48 : Int) =>
 again34 (z48, s35.2.1, ()) w47)
 (again34 (s35.1, z40, ()) w47))
 (loop (T := (Int × Unit)) (m_, ()) w36 fun (again49 : (Int × Unit) → World → Prop) (s50 : (Int × Unit)) w51 => ∀ _ : Nat → Value,
 br (decide (s50.1 > s35.1)) (drw w51 fun w52 =>
 z (IntKind.wrap .i64 (s50.1 - 1)) fun (z53 : Int) =>
 z (IntKind.wrap .i64 (s50.1 - 1)) fun (z54 : Int) =>
 rdp Try.prog (Instr.indexAt 22 (.slice data_a data_n data_c) (.int .i64 z54)) (.one .addr) fun (x55 : Addr) =>
 rd Try.prog (Instr.loadAt 24 (.pointer (some x55))) (.one .slice) w52 fun (x56 : (Option Addr × Nat × Nat)) =>
 rdp Try.prog (Instr.indexAt 22 (.slice data_a data_n data_c) (.int .i64 s50.1)) (.one .addr) fun (x57 : Addr) =>
 rd Try.prog (Instr.loadAt 24 (.pointer (some x57))) (.one .slice) w52 fun (x58 : (Option Addr × Nat × Nat)) =>
 rdp Try.prog (Instr.indexAt 22 (.slice data_a data_n data_c) (.int .i64 s50.1)) (.one .addr) fun (x59 : Addr) =>
 wu Try.prog (Instr.storeAt 24 (.pointer (some x59)) (.slice x56.1 x56.2.1 x56.2.2)) w52 fun (w60 : World) =>
 rdp Try.prog (Instr.indexAt 22 (.slice data_a data_n data_c) (.int .i64 z53)) (.one .addr) fun (x61 : Addr) =>
 wu Try.prog (Instr.storeAt 24 (.pointer (some x61)) (.slice x58.1 x58.2.1 x58.2.2)) w60 fun (w62 : World) =>
 z (IntKind.wrap .i64 (s50.1 - 1)) fun (z63 : Int) =>
 again49 (z63, ()) w62)
 (R (.tuple #[]) w51)))
 (z (IntKind.wrap .i64 (a_ + b_)) fun (z64 : Int) =>
 z (IntKind.wrap .u64 z64) fun (z65 : Int) =>
 rdp Try.prog (cmpS .shr 66 (.tmp 132) (.const (.int .u64 1)) (.int .u64 z65) (.int .u64 1)) (.one (.int .u64)) fun (x66 : Int) =>
 z (IntKind.wrap .i64 x66) fun (z67 : Int) =>
 z (IntKind.wrap .i64 (z67 + m_)) fun (z68 : Int) =>
 join (T := (Int × Int × Unit)) (fun (s70 : (Int × Int × Unit)) w71 => ∀ _ : Nat → Value,
 z (IntKind.wrap .i64 (z68 - 1)) fun (z72 : Int) =>
 loop (T := (Int × Int × Unit)) (s70.1, s70.2.1, ()) w71 fun (again73 : (Int × Int × Unit) → World → Prop) (s74 : (Int × Int × Unit)) w75 => ∀ _ : Nat → Value,
 br (decide (s74.1 < s74.2.1)) (z (IntKind.wrap .i64 (s74.1 + s74.2.1)) fun (z76 : Int) =>
 z (IntKind.wrap .u64 z76) fun (z77 : Int) =>
 rdp Try.prog (cmpS .shr 66 (.tmp 155) (.const (.int .u64 1)) (.int .u64 z77) (.int .u64 1)) (.one (.int .u64)) fun (x78 : Int) =>
 z (IntKind.wrap .i64 x78) fun (z79 : Int) =>
 drw w75 fun w80 =>
 z (IntKind.wrap .i64 (z72 - z79)) fun (z81 : Int) =>
 rdp Try.prog (Instr.indexAt 22 (.slice data_a data_n data_c) (.int .i64 z81)) (.one .addr) fun (x82 : Addr) =>
 rd Try.prog (Instr.loadAt 24 (.pointer (some x82))) (.one .slice) w80 fun (x83 : (Option Addr × Nat × Nat)) =>
 rdp Try.prog (Instr.indexAt 22 (.slice data_a data_n data_c) (.int .i64 z79)) (.one .addr) fun (x84 : Addr) =>
 rd Try.prog (Instr.loadAt 24 (.pointer (some x84))) (.one .slice) w80 fun (x85 : (Option Addr × Nat × Nat)) =>
 call Try.prog 39 [(.slice x83.1 x83.2.1 x83.2.2), (.slice x85.1 x85.2.1 x85.2.2)] (.one (.one (.int .i64))) w80 fun (x86 : Int) (w87 : World) =>
 br (!(decide (x86 < 0))) (z (IntKind.wrap .i64 (z79 + 1)) fun (z88 : Int) =>
 again73 (z88, s74.2.1, ()) w87)
 (again73 (s74.1, z79, ()) w87))
 (z (IntKind.wrap .i64 (z68 - s74.1)) fun (z89 : Int) =>
 join (T := (Unit)) (fun (_s91 : (Unit)) w92 => ∀ _ : Nat → Value,
 join (T := (Unit)) (fun (_s94 : (Unit)) w95 => ∀ _ : Nat → Value,
 br (decide (z67 < z89)) (br (decide (z89 < b_)) (call Try.prog 55 [(.slice data_a data_n data_c), (.int .i64 z67), (.int .i64 z89), (.int .i64 b_), (.func (.func 39) #[] #[])] (.many []) w95 fun (_x96 : (Unit)) (w97 : World) =>
 R (.tuple #[]) w97)
 (R (.tuple #[]) w95))
 (R (.tuple #[]) w95))
  fun (K93 : (Unit) → World → Prop) =>
 br (decide (a_ < s74.1)) (br (decide (s74.1 < z67)) (call Try.prog 55 [(.slice data_a data_n data_c), (.int .i64 a_), (.int .i64 s74.1), (.int .i64 z67), (.func (.func 39) #[] #[])] (.many []) w92 fun (_x98 : (Unit)) (w99 : World) =>
 K93 (()) w99)
 (K93 (()) w92))
 (K93 (()) w92))
  fun (K90 : (Unit) → World → Prop) =>
 br (decide (s74.1 < m_)) (br (decide (m_ < z89)) (call Try.prog 59 [(.slice data_a data_n data_c), (.int .i64 s74.1), (.int .i64 m_), (.int .i64 z89), (.func (.func 39) #[] #[])] (.many []) w75 fun (_x100 : (Unit)) (w101 : World) =>
 K90 (()) w101)
 (K90 (()) w75))
 (K90 (()) w75)))
  fun (K69 : (Int × Int × Unit) → World → Prop) =>
 br (decide (m_ > z67)) (z (IntKind.wrap .i64 (z68 - b_)) fun (z102 : Int) =>
 K69 (z102, z67, ()) w0)
 (K69 (a_, m_, ()) w0)))
def H55 : Hints := ⟨[(2, 0, [(10, (.one (.int .i64))), (11, (.one (.int .i64)))]), (2, 2, [(13, (.one (.int .i64)))]), (2, 4, [(14, (.one (.int .i64))), (15, (.one (.int .i64)))]), (2, 6, [(17, (.one (.int .i64)))]), (0, 140, [(20, (.one (.int .i64))), (21, (.one (.int .i64)))]), (2, 8, [(20, (.one (.int .i64))), (21, (.one (.int .i64)))]), (0, 185, []), (0, 199, [])], [(5, 9), (11, 14), (17, 9), (23, 14), (35, 11)], [], []⟩
set_option maxRecDepth 100000 in
theorem S55_eq (data_a : Option Addr) (data_n : Nat) (data_c : Nat) (a_ : Int) (m_ : Int) (b_ : Int) (w0 : World) (R : Value → World → Prop) : vcFn Try.prog H55 Try.f55 [(.slice data_a data_n data_c), (.int .i64 a_), (.int .i64 m_), (.int .i64 b_), (.func (.func 39) #[] #[])] w0 R = S55 data_a data_n data_c a_ m_ b_ w0 R := by kernel_rfl
set_option maxRecDepth 100000 in
theorem S55_calls (data_a : Option Addr) (data_n : Nat) (data_c : Nat) (a_ : Int) (m_ : Int) (b_ : Int) (w0 : World) (R : Value → World → Prop) (h : S55 data_a data_n data_c a_ m_ b_ w0 R) : Calls Try.prog 55 #[(.slice data_a data_n data_c), (.int .i64 a_), (.int .i64 m_), (.int .i64 b_), (.func (.func 39) #[] #[])] w0 (ret R) := by
  rw [← S55_eq] at h; exact vcFn_sound follows_ Try.func55 h

/-- slices.rotateCmpFunc[[]querylab/api.Value] -/
def S59 (data_a : Option Addr) (data_n : Nat) (data_c : Nat) (a_ : Int) (m_ : Int) (b_ : Int) (w0 : World) (R : Value → World → Prop) : Prop :=
 z (IntKind.wrap .i64 (m_ - a_)) fun (z1 : Int) =>
 z (IntKind.wrap .i64 (b_ - m_)) fun (z2 : Int) =>
 loop (T := (Int × Int × Unit)) (z1, z2, ()) w0 fun (again3 : (Int × Int × Unit) → World → Prop) (s4 : (Int × Int × Unit)) w5 => ∀ _ : Nat → Value,
 br (s4.1 != s4.2.1) (br (decide (s4.1 > s4.2.1)) (z (IntKind.wrap .i64 (m_ - s4.1)) fun (z6 : Int) =>
 call Try.prog 60 [(.slice data_a data_n data_c), (.int .i64 z6), (.int .i64 m_), (.int .i64 s4.2.1), (.func (.func 39) #[] #[])] (.many []) w5 fun (_x7 : (Unit)) (w8 : World) =>
 z (IntKind.wrap .i64 (s4.1 - s4.2.1)) fun (z9 : Int) =>
 again3 (z9, s4.2.1, ()) w8)
 (z (IntKind.wrap .i64 (m_ - s4.1)) fun (z10 : Int) =>
 z (IntKind.wrap .i64 (m_ + s4.2.1)) fun (z11 : Int) =>
 z (IntKind.wrap .i64 (z11 - s4.1)) fun (z12 : Int) =>
 call Try.prog 60 [(.slice data_a data_n data_c), (.int .i64 z10), (.int .i64 z12), (.int .i64 s4.1), (.func (.func 39) #[] #[])] (.many []) w5 fun (_x13 : (Unit)) (w14 : World) =>
 z (IntKind.wrap .i64 (s4.2.1 - s4.1)) fun (z15 : Int) =>
 again3 (s4.1, z15, ()) w14))
 (z (IntKind.wrap .i64 (m_ - s4.1)) fun (z16 : Int) =>
 call Try.prog 60 [(.slice data_a data_n data_c), (.int .i64 z16), (.int .i64 m_), (.int .i64 s4.1), (.func (.func 39) #[] #[])] (.many []) w5 fun (_x17 : (Unit)) (w18 : World) =>
 R (.tuple #[]) w18)
def H59 : Hints := ⟨[(2, 0, [(10, (.one (.int .i64))), (11, (.one (.int .i64)))])], [], [], []⟩
set_option maxRecDepth 100000 in
theorem S59_eq (data_a : Option Addr) (data_n : Nat) (data_c : Nat) (a_ : Int) (m_ : Int) (b_ : Int) (w0 : World) (R : Value → World → Prop) : vcFn Try.prog H59 Try.f59 [(.slice data_a data_n data_c), (.int .i64 a_), (.int .i64 m_), (.int .i64 b_), (.func (.func 39) #[] #[])] w0 R = S59 data_a data_n data_c a_ m_ b_ w0 R := by kernel_rfl
set_option maxRecDepth 100000 in
theorem S59_calls (data_a : Option Addr) (data_n : Nat) (data_c : Nat) (a_ : Int) (m_ : Int) (b_ : Int) (w0 : World) (R : Value → World → Prop) (h : S59 data_a data_n data_c a_ m_ b_ w0 R) : Calls Try.prog 59 #[(.slice data_a data_n data_c), (.int .i64 a_), (.int .i64 m_), (.int .i64 b_), (.func (.func 39) #[] #[])] w0 (ret R) := by
  rw [← S59_eq] at h; exact vcFn_sound follows_ Try.func59 h

/-- slices.swapRangeCmpFunc[[]querylab/api.Value] -/
def S60 (data_a : Option Addr) (data_n : Nat) (data_c : Nat) (a_ : Int) (b_ : Int) (n_ : Int) (w0 : World) (R : Value → World → Prop) : Prop :=
 loop (T := (Int × Unit)) (0, ()) w0 fun (again1 : (Int × Unit) → World → Prop) (s2 : (Int × Unit)) w3 => ∀ _ : Nat → Value,
 br (decide (s2.1 < n_)) (drw w3 fun w4 =>
 z (IntKind.wrap .i64 (a_ + s2.1)) fun (z5 : Int) =>
 z (IntKind.wrap .i64 (b_ + s2.1)) fun (z6 : Int) =>
 z (IntKind.wrap .i64 (b_ + s2.1)) fun (z7 : Int) =>
 rdp Try.prog (Instr.indexAt 22 (.slice data_a data_n data_c) (.int .i64 z7)) (.one .addr) fun (x8 : Addr) =>
 rd Try.prog (Instr.loadAt 24 (.pointer (some x8))) (.one .slice) w4 fun (x9 : (Option Addr × Nat × Nat)) =>
 z (IntKind.wrap .i64 (a_ + s2.1)) fun (z10 : Int) =>
 rdp Try.prog (Instr.indexAt 22 (.slice data_a data_n data_c) (.int .i64 z10)) (.one .addr) fun (x11 : Addr) =>
 rd Try.prog (Instr.loadAt 24 (.pointer (some x11))) (.one .slice) w4 fun (x12 : (Option Addr × Nat × Nat)) =>
 rdp Try.prog (Instr.indexAt 22 (.slice data_a data_n data_c) (.int .i64 z5)) (.one .addr) fun (x13 : Addr) =>
 wu Try.prog (Instr.storeAt 24 (.pointer (some x13)) (.slice x9.1 x9.2.1 x9.2.2)) w4 fun (w14 : World) =>
 rdp Try.prog (Instr.indexAt 22 (.slice data_a data_n data_c) (.int .i64 z6)) (.one .addr) fun (x15 : Addr) =>
 wu Try.prog (Instr.storeAt 24 (.pointer (some x15)) (.slice x12.1 x12.2.1 x12.2.2)) w14 fun (w16 : World) =>
 z (IntKind.wrap .i64 (s2.1 + 1)) fun (z17 : Int) =>
 again1 (z17, ()) w16)
 (R (.tuple #[]) w3)
def H60 : Hints := ⟨[(2, 0, [(10, (.one (.int .i64)))])], [(3, 20)], [], []⟩
set_option maxRecDepth 100000 in
theorem S60_eq (data_a : Option Addr) (data_n : Nat) (data_c : Nat) (a_ : Int) (b_ : Int) (n_ : Int) (w0 : World) (R : Value → World → Prop) : vcFn Try.prog H60 Try.f60 [(.slice data_a data_n data_c), (.int .i64 a_), (.int .i64 b_), (.int .i64 n_), (.func (.func 39) #[] #[])] w0 R = S60 data_a data_n data_c a_ b_ n_ w0 R := by kernel_rfl
set_option maxRecDepth 100000 in
theorem S60_calls (data_a : Option Addr) (data_n : Nat) (data_c : Nat) (a_ : Int) (b_ : Int) (n_ : Int) (w0 : World) (R : Value → World → Prop) (h : S60 data_a data_n data_c a_ b_ n_ w0 R) : Calls Try.prog 60 #[(.slice data_a data_n data_c), (.int .i64 a_), (.int .i64 b_), (.int .i64 n_), (.func (.func 39) #[] #[])] w0 (ret R) := by
  rw [← S60_eq] at h; exact vcFn_sound follows_ Try.func60 h

end Go.Proofs

/- slices.SortStableFunc, walked: printed by wip/sort/gen.py for one use. -/


namespace Go.Proofs.Ytalagcggmbeddaa.Bs
open Go.RowKit Go.Q Go.V Go.Srt

theorem zn {e : Int} (x : Nat) {k : Int → Prop} (h : e = (x : Int)) (hb : x < 9223372036854775808) (hk : k (x : Int)) : z (IntKind.wrap .i64 e) k := by
  subst h; exact z_i64 (by omega) hk
theorem half_mk {t : TypeId} {x y : Operand} {e : Int} (u : Nat) (h : e = (u : Int)) (hb : u < 4611686018427387904) {k : Int → Prop} (hk : k ((u / 2 : Nat) : Int)) :
    z (IntKind.wrap .i64 e) fun z5 => z (IntKind.wrap .u64 z5) fun z6 => rdp Try.prog (cmpS .shr t x y (.int .u64 z6) (.int .u64 1)) (.one (.int .u64)) fun x7 => z (IntKind.wrap .i64 x7) k := by
  refine zn u h (by omega) ?_
  refine z_u64 (by omega) ?_
  refine rdp_shr 1 rfl (by decide) ?_
  refine zn (u / 2) ?_ (by omega) hk
  show (u : Int) / 2 = _
  omega
theorem tyE : TyS Try.prog 22 24 (.slice none 0 0) 1 24 := ⟨by kernel_rfl, by kernel_rfl⟩
abbrev VV (d : Nat → Hdr) : Nat → Value := fun s => .slice (d s).1 (d s).2.1 (d s).2.2
/-- what the comparison tells, whatever was written into the row -/
def Cm (k : Nat → Nat → Prop) (n : Nat) (d : Nat → Hdr) (a : Option Addr)  (w : World) : Prop :=
  ∀ w', w.grownBy w' (blk a) → ∀ s t, s < n → t < n → call Try.prog 39 [VV d s, VV d t] (.one (.one (.int .i64))) w' fun (x : Int) w'' => (x < 0 ↔ k s t) ∧ bel w' w''
abbrev OV (w : World) (B : Nat) (a : Option Addr) (n c : Nat) (d : Nat → Hdr) (f : Nat → Nat) : Prop := Own w B 24 1 a n c (mkV n (VV d) f)
section
variable {k : Nat → Nat → Prop} {w : World} {B : Nat} {a : Option Addr} {n c : Nat} {d : Nat → Hdr} {f : Nat → Nat} 
theorem Cm.up (h : Cm k n d a  w) {w' : World} (hg : w.grownBy w' (blk a)) : Cm k n d a  w' := fun w'' h'' => h w'' (hg.trans h'')
theorem rdV (O : OV w B a n c d f) {i : Int} {j : Nat} (hj : i = (j : Int)) (h : j < n) {K : Hdr → Prop} (hk : K (d (f j))) :
    rdp Try.prog (Instr.indexAt 22 (.slice a n c) (.int .i64 i)) (.one .addr) fun ad => rd Try.prog (Instr.loadAt 24 (.pointer (some ad))) (.one .slice) w K :=
  at_mk tyE (by kernel_rfl) O.sl hj (mkV_at h) rfl hk
theorem setV (O : OV w B a n c d f) {i j : Nat} (hi : i < n) (hj : j < n) {ii jj : Int} (ei : ii = (i : Int)) (ej : jj = (j : Int)) {K : World → Prop} (hK : ∀ w', OV w' B a n c d (sw f i j) → w.grownBy w' (blk a) → K w') :
    rdp Try.prog (Instr.indexAt 22 (.slice a n c) (.int .i64 ii)) (.one .addr) fun x => wu Try.prog (Instr.storeAt 24 (.pointer (some x)) (VV d (f j))) w fun w1 =>
      rdp Try.prog (Instr.indexAt 22 (.slice a n c) (.int .i64 jj)) (.one .addr) fun x => wu Try.prog (Instr.storeAt 24 (.pointer (some x)) (VV d (f i))) w1 K := by
  refine set_mk tyE O ei hi rfl fun w1 O1 g1 _ => ?_
  refine set_mk tyE O1 ej hj rfl fun w2 O2 g2 _ => hK w2 ?_ (g1.trans g2)
  rw [mkV_sw] at O2; exact O2
abbrev fnV  : Value := .func (.func 39) #[] #[]
theorem swapC {lo hi m : Nat} (h1 : lo + m ≤ hi) (h2 : hi + m ≤ n) (hn : n < 1152921504606846976) (O : OV w B a n c d f) :
    call Try.prog 60 [.slice a n c, .int .i64 (lo : Int), .int .i64 (hi : Int), .int .i64 (m : Int), fnV ] (.many []) w fun _ w' => OV w' B a n c d (swp f lo hi m) ∧ w.grownBy w' (blk a) := by
  refine call_of (S60_calls a n c _ _ _  w _ ?_)
  unfold S60
  refine loop_up m (fun i w' => OV w' B a n c d (swp f lo hi i) ∧ w.grownBy w' (blk a)) ⟨by rw [swp_zero]; exact O, grown_refl _ _⟩ fun i w1 hi1 ⟨O1, g1⟩ again hag _ => ?_
  refine br_dec (fun e => ?_) (fun e => ?_)
  · dsimp only at e
    have him : i < m := by omega
    refine drw_mk fun w2 hb2 _ => ?_
    replace O1 : OV w2 B a n c d _ := Own.kept O1 hb2
    refine zn (lo + i) (by dsimp only; omega) (by omega) ?_
    refine zn (hi + i) (by dsimp only; omega) (by omega) ?_
    refine zn (hi + i) (by dsimp only; omega) (by omega) ?_
    refine rdV O1 rfl (by omega) ?_
    refine zn (lo + i) (by dsimp only; omega) (by omega) ?_
    refine rdV O1 rfl (by omega) ?_
    refine setV O1 (i := lo + i) (j := hi + i) (by omega) (by omega) rfl rfl fun w3 O3 g3 => ?_
    rw [swp_step (by omega)] at O3
    refine zn (i + 1) (by dsimp only; omega) (by omega) ?_
    exact hag w3 him ⟨O3, g1.trans ((grown_of_bel hb2 _).trans g3)⟩
  · dsimp only at e
    have : i = m := by omega
    subst this
    exact ⟨(), rfl, O1, g1⟩
theorem rotC {lo m hi : Nat} (h1 : lo < m) (h2 : m < hi) (h3 : hi ≤ n) (hn : n < 1152921504606846976) (O : OV w B a n c d f) :
    call Try.prog 59 [.slice a n c, .int .i64 (lo : Int), .int .i64 (m : Int), .int .i64 (hi : Int), fnV ] (.many []) w fun _ w' => OV w' B a n c d (rot f lo m hi) ∧ w.grownBy w' (blk a) := by
  refine call_of (S59_calls a n c _ _ _  w _ ?_)
  unfold S59
  refine zn (m - lo) (by omega) (by omega) ?_
  refine zn (hi - m) (by omega) (by omega) ?_
  refine loop_gh (G := Nat × Nat) (fun g s w' => s = ((g.1 : Int), (g.2 : Int), ()) ∧ 0 < g.1 ∧ g.1 ≤ m ∧ 0 < g.2 ∧ m + g.2 ≤ n ∧ w.grownBy w' (blk a) ∧ ∃ h, OV w' B a n c d h ∧ rot h (m - g.1) m (m + g.2) = rot f lo m hi) (fun g => g.1 + g.2) (m - lo, hi - m)
    ⟨rfl, by dsimp only; omega, by dsimp only; omega, by dsimp only; omega, by dsimp only; omega, grown_refl _ _, f, O, by
      dsimp only
      have e1 : m - (m - lo) = lo := by omega
      have e2 : m + (hi - m) = hi := by omega
      rw [e1, e2]⟩ ?_
  rintro ⟨i, j⟩ s w1 ⟨rfl, hi0, him, hj0, hjm, g1, h, O1, er⟩ again hag _
  dsimp only at hi0 him hj0 hjm er ⊢
  refine br_ne (fun e => ?_) (fun e => ?_)
  · refine br_dec (fun e2 => ?_) (fun e2 => ?_)
    · refine zn (m - i) (by omega) (by omega) ?_
      refine call_mono (swapC (lo := m - i) (hi := m) (m := j) (by omega) (by omega) hn O1) fun _ w2 ⟨O2, g2⟩ => ?_
      refine zn (i - j) (by omega) (by omega) ?_
      exact hag (i - j, j) _ w2 ⟨rfl, by dsimp only; omega, by dsimp only; omega, hj0, hjm, g1.trans g2, _, O2, by rw [← er]; exact rot_left him (by omega)⟩ (by dsimp only; omega)
    · refine zn (m - i) (by omega) (by omega) ?_
      refine zn (m + j) (by omega) (by omega) ?_
      refine zn (m + j - i) (by omega) (by omega) ?_
      refine call_mono (swapC (lo := m - i) (hi := m + j - i) (m := i) (by omega) (by omega) hn O1) fun _ w2 ⟨O2, g2⟩ => ?_
      refine zn (j - i) (by omega) (by omega) ?_
      exact hag (i, j - i) _ w2 ⟨rfl, hi0, him, by dsimp only; omega, by dsimp only; omega, g1.trans g2, _, O2, by rw [← er]; exact rot_right him (by omega)⟩ (by dsimp only; omega)
  · have : i = j := by omega
    subst this
    refine zn (m - i) (by omega) (by omega) ?_
    refine call_mono (swapC (lo := m - i) (hi := m) (m := i) (by omega) (by omega) hn O1) fun _ w2 ⟨O2, g2⟩ => ?_
    rw [rot_mid him, er] at O2
    exact ⟨(), rfl, O2, g1.trans g2⟩
theorem insC (K : SWO k) (cm : Cm k n d a  w) (R0 : RP 0 n id f) {lo hi : Nat} (h1 : lo ≤ hi) (h2 : hi ≤ n) (hn : n < 1152921504606846976) (tg : ∀ x y, lo ≤ x → x < y → y < hi → f x < f y) (O : OV w B a n c d f) :
    call Try.prog 54 [.slice a n c, .int .i64 (lo : Int), .int .i64 (hi : Int), fnV ] (.many []) w fun _ w' => ∃ g, RP lo hi f g ∧ Srtd k g lo hi ∧ OV w' B a n c d g ∧ w.grownBy w' (blk a) := by
  refine call_of (S54_calls a n c _ _  w _ ?_)
  unfold S54
  refine zn (lo + 1) (by omega) (by omega) ?_
  refine loop_gh (G := Nat) (fun i s w' => s = ((i : Int), ()) ∧ lo + 1 ≤ i ∧ (i ≤ hi ∨ i = lo + 1) ∧ w.grownBy w' (blk a) ∧ ∃ g, OV w' B a n c d g ∧ RP lo i f g ∧ Srtd k g lo i ∧ (i = lo + 1 → g = f)) (fun i => hi - i) (lo + 1)
    ⟨rfl, Nat.le_refl _, .inr rfl, grown_refl _ _, f, O, RP.refl _ _ _, srt_one _ _, fun _ => rfl⟩ ?_
  rintro i s w1 ⟨rfl, hli, hih, g1, g, O1, r1, s1, e1⟩ again hag _
  dsimp only
  refine br_dec (fun e => ?_) (fun e => ?_)
  · have hi' : i < hi := by omega
    have R1 : RP 0 n id g := R0.trans (r1.mono (Nat.zero_le _) (by omega))
    have tgi : ∀ x, lo ≤ x → x < i → g x < g i := fun x q1 q2 => by
      obtain ⟨y, y1, y2, y3⟩ := r1.at q1 q2
      rw [y3, r1.off (show ¬ (lo ≤ i ∧ i < i) by omega)]
      exact tg y i y1 y2 hi'
    refine join_mk (fun _ w' => w.grownBy w' (blk a) ∧ ∃ g', OV w' B a n c d g' ∧ RP lo (i + 1) f g' ∧ Srtd k g' lo (i + 1)) (fun K5 hK5 => ?_) (fun _ w7 ⟨g7, h7, O7, r7, s7⟩ _ => ?_)
    · refine loop_gh (G := Nat) (fun j s w' => s = ((j : Int), ()) ∧ lo ≤ j ∧ j ≤ i ∧ w.grownBy w' (blk a) ∧ OV w' B a n c d (rot g j i (i + 1)) ∧ ∀ x, j ≤ x → x < i → Lt k (g i) (g x)) (fun j => j) i
        ⟨rfl, by omega, Nat.le_refl _, g1, by rw [rot_id (.inl rfl)]; exact O1, fun x q1 q2 => by omega⟩ ?_
      rintro j s w11 ⟨rfl, hlj, hji, g11, O11, hlt⟩ again2 hag2 _
      dsimp only
      have rr : ∀ j, lo ≤ j → j ≤ i → RP lo (i + 1) f (rot g j i (i + 1)) := fun j q1 q2 => (r1.mono (Nat.le_refl _) (by omega)).trans ((rot_RP q2 (by omega)).mono q1 (Nat.le_refl _))
      refine drw_mk fun w12 hb12 _ => ?_
      replace O11 : OV w12 B a n c d _ := Own.kept O11 hb12
      have g12 := g11.trans (grown_of_bel hb12 _)
      refine br_dec (fun e2 => ?_) (fun e2 => ?_)
      · obtain ⟨j', rfl⟩ : ∃ j', j = j' + 1 := ⟨j - 1, by omega⟩
        have q1 : rot g (j' + 1) i (i + 1) (j' + 1) = g i := by rw [rot_1 (Nat.le_refl _) (by omega)]; congr 1; omega
        have q2 : rot g (j' + 1) i (i + 1) j' = g j' := rot_lo (by omega)
        refine rdV O11 (j := j' + 1) rfl (by omega) ?_
        refine zn j' (by omega) (by omega) ?_
        refine rdV O11 (j := j') rfl (by omega) ?_
        refine call_mono (cm w12 g12 (rot g (j' + 1) i (i + 1) (j' + 1)) (rot g (j' + 1) i (i + 1) j') (by rw [q1]; exact R1.lt (by omega)) (by rw [q2]; exact R1.lt (by omega))) fun (x18 : Int) w19 ⟨hk, hb19⟩ => ?_
        rw [q1, q2] at hk
        replace O11 : OV w19 B a n c d _ := Own.kept O11 hb19
        have g19 := g12.trans (grown_of_bel hb19 _)
        refine br_dec (fun e3 => ?_) (fun e3 => ?_)
        · refine drw_mk fun w20 hb20 _ => ?_
          replace O11 : OV w20 B a n c d _ := Own.kept O11 hb20
          refine zn j' (by omega) (by omega) ?_
          refine zn j' (by omega) (by omega) ?_
          refine rdV O11 (j := j') rfl (by omega) ?_
          refine rdV O11 (j := j' + 1) rfl (by omega) ?_
          refine setV O11 (i := j' + 1) (j := j') (by omega) (by omega) rfl rfl fun w3 O3 g3 => ?_
          rw [rot_down (by omega)] at O3
          refine zn j' (by omega) (by omega) ?_
          refine hag2 j' _ w3 ⟨rfl, by omega, by omega, (g19.trans (grown_of_bel hb20 _)).trans g3, O3, fun x p1 p2 => ?_⟩ (by omega)
          by_cases c : x = j'
          · rw [c]; exact .inl (hk.1 e3)
          · exact hlt x (by omega) p2
        · exact hK5 () _ ⟨g19, _, O11, rr _ hlj hji, ins_srt K hlj hji s1 hlt (.inr ((Lt.early K (tgi j' (by omega) (by omega))).1 fun q => e3 (hk.2 q)))⟩
      · have : j = lo := by omega
        subst this
        exact hK5 () _ ⟨g12, _, O11, rr _ hlj hji, ins_srt K hlj hji s1 hlt (.inl rfl)⟩
    · refine zn (i + 1) (by omega) (by omega) ?_
      exact hag (i + 1) _ w7 ⟨rfl, by omega, .inl (by omega), g7, h7, O7, r7, s7, fun q => by omega⟩ (by omega)
  · rcases Nat.lt_or_ge lo hi with q | q
    · have : i = hi := by omega
      subst this
      exact ⟨(), rfl, g, r1, s1, O1, g1⟩
    · have e0 := e1 (by omega)
      subst e0
      exact ⟨(), rfl, g, RP.refl _ _ _, srt_sub s1 (Nat.le_refl _) (by omega), O1, g1⟩
end
end Go.Proofs.Ytalagcggmbeddaa.Bs

/- The symmetric merge and the whole stable sort, walked. -/

namespace Go.Proofs.Ytalagcggmbeddaa.Bs
open Go.RowKit Go.Q Go.V Go.Srt
section
variable {k : Nat → Nat → Prop} {B : Nat} {a : Option Addr} {n c : Nat} {d : Nat → Hdr} 
/-- the cut, brought to the two halves: the calls behind the search -/
theorem symC (K : SWO k) (hn : n < 1152921504606846976) : ∀ (l : Nat) {w : World} {f : Nat → Nat} {lo m hi : Nat}, hi - lo = l → lo < m → m < hi → hi ≤ n → RP 0 n id f → Mrg k f lo m hi → Cm k n d a  w → OV w B a n c d f →
    call Try.prog 55 [.slice a n c, .int .i64 (lo : Int), .int .i64 (m : Int), .int .i64 (hi : Int), fnV ] (.many []) w fun _ w' => ∃ g, RP lo hi f g ∧ Srtd k g lo hi ∧ OV w' B a n c d g ∧ w.grownBy w' (blk a) := by
  intro l
  induction l using Nat.strongRecOn with
  | ind l IH =>
  intro w f lo m hi hl h1 h2 h3 R0 M cm O
  have flt : ∀ x, x < hi → f x < n := fun x hx => R0.lt (by omega)
  refine call_of (S55_calls a n c _ _ _  w _ ?_)
  unfold S55
  refine zn (m - lo) (by omega) (by omega) ?_
  refine br_eq (fun e1 => ?_) (fun e1 => ?_)
  · -- one element to the left
    have em : m = lo + 1 := by omega
    subst em
    refine loop_gh (G := Nat × Nat) (fun g s w' => s = ((g.1 : Int), (g.2 : Int), ()) ∧ lo + 1 ≤ g.1 ∧ g.1 ≤ g.2 ∧ g.2 ≤ hi ∧ (∀ x, lo + 1 ≤ x → x < g.1 → k (f x) (f lo)) ∧ (∀ y, g.2 ≤ y → y < hi → ¬ k (f y) (f lo)) ∧ OV w' B a n c d f ∧ w.grownBy w' (blk a)) (fun g => g.2 - g.1) (lo + 1, hi)
      ⟨rfl, Nat.le_refl _, by dsimp only; omega, Nat.le_refl _, fun x q1 q2 => by dsimp only at q2; omega, fun x q1 q2 => by dsimp only at q1; omega, O, grown_refl _ _⟩ ?_
    rintro ⟨i, j⟩ s w4 ⟨rfl, q1, q2, q3, lt, ge, O4, g4⟩ again hag _
    dsimp only at q1 q2 q3 lt ge ⊢
    refine br_dec (fun e => ?_) (fun e => ?_)
    · have hc1 : i ≤ (i + j) / 2 := by omega
      have hc2 : (i + j) / 2 < j := by omega
      refine half_mk (i + j) (by omega) (by omega) ?_
      generalize (i + j) / 2 = h at hc1 hc2
      refine drw_mk fun w9 hb9 _ => ?_
      replace O4 : OV w9 B a n c d _ := Own.kept O4 hb9
      have g9 := g4.trans (grown_of_bel hb9 _)
      refine rdV O4 (j := h) rfl (by omega) ?_
      refine rdV O4 (j := lo) rfl (by omega) ?_
      refine call_mono (cm w9 g9 (f h) (f lo) (flt h (by omega)) (flt lo (by omega))) fun (x : Int) w15 ⟨hk, hb15⟩ => ?_
      replace O4 : OV w15 B a n c d _ := Own.kept O4 hb15
      have g15 := g9.trans (grown_of_bel hb15 _)
      refine br_dec (fun e3 => ?_) (fun e3 => ?_)
      · refine zn (h + 1) (by omega) (by omega) ?_
        refine hag (h + 1, j) _ w15 ⟨rfl, by dsimp only; omega, by dsimp only; omega, q3, fun x p1 p2 => ?_, ge, O4, g15⟩ (by dsimp only; omega)
        dsimp only at p2
        by_cases c : x = h
        · rw [c]; exact hk.1 e3
        · exact Lt.k_left K (M.r x h p1 (by omega) (by omega)) (hk.1 e3)
      · refine hag (i, h) _ w15 ⟨rfl, q1, hc1, by dsimp only; omega, lt, fun y p1 p2 => ?_, O4, g15⟩ (by dsimp only; omega)
        dsimp only at p1
        by_cases c : y = h
        · rw [c]; exact fun q => e3 (hk.2 q)
        · exact fun q => e3 (hk.2 (Lt.k_left K (M.r h y (by omega) (by omega) p2) q))
    · have : i = j := by omega
      subst this
      refine loop_gh (G := Nat) (fun g s w' => s = ((g : Int), ()) ∧ lo ≤ g ∧ g + 1 ≤ i ∧ OV w' B a n c d (rot f lo (lo + 1) (g + 1)) ∧ w.grownBy w' (blk a)) (fun g => i - g) lo
        ⟨rfl, Nat.le_refl _, q1, by rw [rot_id (.inr rfl)]; exact O4, g4⟩ ?_
      rintro u s w19 ⟨rfl, p1, p2, O19, g19⟩ again2 hag2 _
      dsimp only
      refine zn (i - 1) (by omega) (by omega) ?_
      refine br_dec (fun e5 => ?_) (fun e5 => ?_)
      · refine drw_mk fun w21 hb21 _ => ?_
        replace O19 : OV w21 B a n c d _ := Own.kept O19 hb21
        refine zn (u + 1) (by omega) (by omega) ?_
        refine zn (u + 1) (by omega) (by omega) ?_
        refine rdV O19 (j := u + 1) rfl (by omega) ?_
        refine rdV O19 (j := u) rfl (by omega) ?_
        refine setV O19 (i := u) (j := u + 1) (by omega) (by omega) rfl rfl fun w3 O3 g3 => ?_
        rw [rot_up p1] at O3
        refine zn (u + 1) (by omega) (by omega) ?_
        exact hag2 (u + 1) _ w3 ⟨rfl, by omega, by omega, O3, (g19.trans (grown_of_bel hb21 _)).trans g3⟩ (by omega)
      · have : u + 1 = i := by omega
        rw [this] at O19
        exact ⟨(), rfl, _, (rot_RP (by omega) q1).mono (Nat.le_refl _) q3, up_srt q1 q3 M.r (fun x z1 z2 => .inl (lt x z1 z2)) (fun y z1 z2 => (Lt.early K (M.tags lo y (Nat.le_refl _) (by omega) (by omega) z2)).1 (ge y z1 z2)), O19, g19⟩
  refine zn (hi - m) (by omega) (by omega) ?_
  refine br_eq (fun e2 => ?_) (fun e2 => ?_)
  · -- one element to the right
    have em : hi = m + 1 := by omega
    subst em
    refine loop_gh (G := Nat × Nat) (fun g s w' => s = ((g.1 : Int), (g.2 : Int), ()) ∧ lo ≤ g.1 ∧ g.1 ≤ g.2 ∧ g.2 ≤ m ∧ (∀ x, lo ≤ x → x < g.1 → ¬ k (f m) (f x)) ∧ (∀ y, g.2 ≤ y → y < m → k (f m) (f y)) ∧ OV w' B a n c d f ∧ w.grownBy w' (blk a)) (fun g => g.2 - g.1) (lo, m)
      ⟨rfl, Nat.le_refl _, by dsimp only; omega, Nat.le_refl _, fun x q1 q2 => by dsimp only at q2; omega, fun x q1 q2 => by dsimp only at q1; omega, O, grown_refl _ _⟩ ?_
    rintro ⟨i, j⟩ s w4 ⟨rfl, q1, q2, q3, lt, ge, O4, g4⟩ again hag _
    dsimp only at q1 q2 q3 lt ge ⊢
    refine br_dec (fun e => ?_) (fun e => ?_)
    · have hc1 : i ≤ (i + j) / 2 := by omega
      have hc2 : (i + j) / 2 < j := by omega
      refine half_mk (i + j) (by omega) (by omega) ?_
      generalize (i + j) / 2 = h at hc1 hc2
      refine drw_mk fun w9 hb9 _ => ?_
      replace O4 : OV w9 B a n c d _ := Own.kept O4 hb9
      have g9 := g4.trans (grown_of_bel hb9 _)
      refine rdV O4 (j := m) rfl (by omega) ?_
      refine rdV O4 (j := h) rfl (by omega) ?_
      refine call_mono (cm w9 g9 (f m) (f h) (flt m (by omega)) (flt h (by omega))) fun (x : Int) w15 ⟨hk, hb15⟩ => ?_
      replace O4 : OV w15 B a n c d _ := Own.kept O4 hb15
      have g15 := g9.trans (grown_of_bel hb15 _)
      refine br_not (fun e3 => ?_) (fun e3 => ?_)
      · have e3 : ¬ k (f m) (f h) := fun q => by have := hk.2 q; simp at e3; omega
        refine zn (h + 1) (by omega) (by omega) ?_
        refine hag (h + 1, j) _ w15 ⟨rfl, by dsimp only; omega, by dsimp only; omega, q3, fun x p1 p2 => ?_, ge, O4, g15⟩ (by dsimp only; omega)
        dsimp only at p2
        by_cases c : x = h
        · rw [c]; exact e3
        · exact fun q => e3 (Lt.k_right K (M.l x h p1 (by omega) (by omega)) q)
      · have e3 : k (f m) (f h) := hk.1 (of_decide_eq_true e3)
        refine hag (i, h) _ w15 ⟨rfl, q1, hc1, by dsimp only; omega, lt, fun y p1 p2 => ?_, O4, g15⟩ (by dsimp only; omega)
        dsimp only at p1
        by_cases c : y = h
        · rw [c]; exact e3
        · exact Lt.k_right K (M.l h y (by omega) (by omega) p2) e3
    · have : i = j := by omega
      subst this
      refine loop_gh (G := Nat) (fun g s w' => s = ((g : Int), ()) ∧ i ≤ g ∧ g ≤ m ∧ OV w' B a n c d (rot f g m (m + 1)) ∧ w.grownBy w' (blk a)) (fun g => g) m
        ⟨rfl, q3, Nat.le_refl _, by rw [rot_id (.inl rfl)]; exact O4, g4⟩ ?_
      rintro u s w19 ⟨rfl, p1, p2, O19, g19⟩ again2 hag2 _
      dsimp only
      refine br_dec (fun e5 => ?_) (fun e5 => ?_)
      · obtain ⟨v, rfl⟩ : ∃ v, u = v + 1 := ⟨u - 1, by omega⟩
        refine drw_mk fun w21 hb21 _ => ?_
        replace O19 : OV w21 B a n c d _ := Own.kept O19 hb21
        refine zn v (by omega) (by omega) ?_
        refine zn v (by omega) (by omega) ?_
        refine rdV O19 (j := v) rfl (by omega) ?_
        refine rdV O19 (j := v + 1) rfl (by omega) ?_
        refine setV O19 (i := v + 1) (j := v) (by omega) (by omega) rfl rfl fun w3 O3 g3 => ?_
        rw [rot_down (by omega)] at O3
        refine zn v (by omega) (by omega) ?_
        exact hag2 v _ w3 ⟨rfl, by omega, by omega, O3, (g19.trans (grown_of_bel hb21 _)).trans g3⟩ (by omega)
      · have : u = i := by omega
        rw [this] at O19
        exact ⟨(), rfl, _, (rot_RP q3 (by omega)).mono q1 (Nat.le_refl _), ins_srt K q1 q3 M.l (fun x z1 z2 => .inl (ge x z1 z2)) (by
          by_cases c : i = lo
          · exact .inl c
          · exact .inr ((Lt.early K (M.tags (i - 1) m (by omega) (by omega) (Nat.le_refl _) (by omega))).1 (lt (i - 1) (by omega) (by omega)))), O19, g19⟩
  -- the search for the cut
  have hm1 : lo ≤ (lo + hi) / 2 := by omega
  have hm2 : lo + hi ≤ 2 * ((lo + hi) / 2) + 1 := by omega
  have hm3 : 2 * ((lo + hi) / 2) ≤ lo + hi := by omega
  refine half_mk (lo + hi) (by omega) (by omega) ?_
  generalize (lo + hi) / 2 = mid at hm1 hm2 hm3
  refine zn (mid + m) (by omega) (by omega) ?_
  refine join_mk (fun s w' => w' = w ∧ ∃ L H : Nat, s = ((L : Int), (H : Int), ()) ∧ lo ≤ L ∧ L ≤ H ∧ H ≤ m ∧ H ≤ mid ∧ mid + m ≤ L + hi ∧ (L = lo ∨ L + hi = mid + m) ∧ (H = m ∨ H = mid)) (fun K69 hK69 => ?_) ?_
  · refine br_dec (fun e => ?_) (fun e => ?_)
    · refine zn (mid + m - hi) (by omega) (by omega) ?_
      exact hK69 _ _ ⟨rfl, mid + m - hi, mid, rfl, by omega, by omega, by omega, by omega, by omega, .inr (by omega), .inr rfl⟩
    · exact hK69 _ _ ⟨rfl, lo, m, rfl, by omega, by omega, by omega, by omega, by omega, .inl rfl, .inl rfl⟩
  rintro s w71 ⟨rfl, L, H, rfl, b1, b2, b3, b4, b5, b6, b7⟩ _
  have hb : ∀ x, L ≤ x → x < H → lo ≤ x ∧ x < m ∧ m ≤ mid + m - 1 - x ∧ mid + m - 1 - x < hi := fun x p1 p2 => by omega
  dsimp only
  refine zn (mid + m - 1) (by omega) (by omega) ?_
  refine loop_gh (G := Nat × Nat) (fun g s w' => s = ((g.1 : Int), (g.2 : Int), ()) ∧ Cut k f (mid + m - 1) L g.1 g.2 H ∧ OV w' B a n c d f ∧ w71.grownBy w' (blk a)) (fun g => g.2 - g.1) (L, H)
    ⟨rfl, ⟨Nat.le_refl _, b2, Nat.le_refl _, fun x q1 q2 => by dsimp only at q2; omega, fun x q1 q2 => by dsimp only at q1; omega⟩, O, grown_refl _ _⟩ ?_
  rintro ⟨s, r⟩ s' w75 ⟨rfl, C, O75, g75⟩ again hag _
  dsimp only at C ⊢
  have c1 := C.h1
  have c2 := C.h2
  have c3 := C.h3
  refine br_dec (fun e => ?_) (fun e => ?_)
  · have hc1 : s ≤ (s + r) / 2 := by omega
    have hc2 : (s + r) / 2 < r := by omega
    refine half_mk (s + r) (by omega) (by omega) ?_
    generalize (s + r) / 2 = h at hc1 hc2
    refine drw_mk fun w80 hb80 _ => ?_
    replace O75 : OV w80 B a n c d _ := Own.kept O75 hb80
    have g80 := g75.trans (grown_of_bel hb80 _)
    have bh := hb h (by omega) (by omega)
    refine zn (mid + m - 1 - h) (by omega) (by omega) ?_
    refine rdV O75 (j := mid + m - 1 - h) rfl (by omega) ?_
    refine rdV O75 (j := h) rfl (by omega) ?_
    refine call_mono (cm w80 g80 (f (mid + m - 1 - h)) (f h) (flt _ (by omega)) (flt h (by omega))) fun (x : Int) w87 ⟨hk, hb87⟩ => ?_
    replace O75 : OV w87 B a n c d _ := Own.kept O75 hb87
    have g87 := g80.trans (grown_of_bel hb87 _)
    refine br_not (fun e3 => ?_) (fun e3 => ?_)
    · have e3 : ¬ k (f (mid + m - 1 - h)) (f h) := fun q => by have := hk.2 q; simp at e3; omega
      refine zn (h + 1) (by omega) (by omega) ?_
      exact hag (h + 1, r) _ w87 ⟨rfl, C.step1 K M hb hc1 hc2 e3, O75, g87⟩ (by dsimp only; omega)
    · have e3 : k (f (mid + m - 1 - h)) (f h) := hk.1 (of_decide_eq_true e3)
      exact hag (s, h) _ w87 ⟨rfl, C.step2 K M hb hc1 hc2 e3, O75, g87⟩ (by dsimp only; omega)
  have : s = r := by omega
  subst this
  have F : Go.Srt.Found k f lo m hi s (mid + m - s) := C.found K M hb (n := mid + m) (by omega) rfl (by omega) (by omega) (by omega) (by omega) (fun q => by omega) (fun q => by omega)
  obtain ⟨M1, M2, cross, r1⟩ := sym_split M F
  have e0 : s + (mid + m - s - m) = mid := by omega
  rw [e0] at M1 M2 cross
  refine zn (mid + m - s) (by omega) (by omega) ?_
  generalize he : mid + m - s = e at M1 M2 cross r1 F
  have f1 := F.las; have f2 := F.sm; have f3 := F.me; have f4 := F.eb
  refine join_mk (fun _ w' => OV w' B a n c d (rot f s m e) ∧ w71.grownBy w' (blk a)) (fun K90 hK90 => ?_) (fun _ w92 ⟨O92, g92⟩ _ => ?_)
  · refine br_dec (fun u1 => ?_) (fun u1 => ?_)
    · refine br_dec (fun u2 => ?_) (fun u2 => ?_)
      · refine call_mono (rotC (lo := s) (m := m) (hi := e) (by omega) (by omega) (by omega) hn O75) fun _ w' ⟨O', g'⟩ => ?_
        exact hK90 () _ ⟨O', g75.trans g'⟩
      · exact hK90 () _ ⟨by rw [rot_id (.inr (by omega))]; exact O75, g75⟩
    · exact hK90 () _ ⟨by rw [rot_id (.inl (by omega))]; exact O75, g75⟩
  generalize rot f s m e = g at M1 M2 cross r1 O92
  have R1 : RP 0 n id g := R0.trans (r1.mono (Nat.zero_le _) h3)
  refine join_mk (fun _ w' => ∃ g1, RP lo mid g g1 ∧ Srtd k g1 lo mid ∧ OV w' B a n c d g1 ∧ w71.grownBy w' (blk a)) (fun K93 hK93 => ?_) ?_
  · refine br_dec (fun u1 => ?_) (fun u1 => ?_)
    · refine br_dec (fun u2 => ?_) (fun u2 => ?_)
      · refine call_mono (@IH (mid - lo) (by omega) w92 g lo s mid rfl (by omega) (by omega) (by omega) R1 M1 (cm.up g92) O92) fun _ w' ⟨g1, p1, p2, p3, p4⟩ => ?_
        exact hK93 () _ ⟨g1, p1, p2, p3, g92.trans p4⟩
      · exact hK93 () _ ⟨g, RP.refl _ _ _, srt_sub M1.l (Nat.le_refl _) (by omega), O92, g92⟩
    · exact hK93 () _ ⟨g, RP.refl _ _ _, srt_sub M1.r (by omega) (Nat.le_refl _), O92, g92⟩
  rintro _ w95 ⟨g1, p1, p2, p3, p4⟩ _
  have M2' : Mrg k g1 mid e hi := ⟨M2.am, M2.mb, srt_congr M2.l fun x q1 q2 => p1.off (by omega), srt_congr M2.r fun x q1 q2 => p1.off (by omega), fun x y q1 q2 q3 q4 => by
    rw [p1.off (show ¬ (lo ≤ x ∧ x < mid) by omega), p1.off (show ¬ (lo ≤ y ∧ y < mid) by omega)]; exact M2.tags x y q1 q2 q3 q4⟩
  have R2 : RP 0 n id g1 := R1.trans (p1.mono (Nat.zero_le _) (by omega))
  have fin : ∀ w' g2, RP mid hi g1 g2 → Srtd k g2 mid hi → OV w' B a n c d g2 → w71.grownBy w' (blk a) → ∃ x, (Value.tuple #[]) = RS.val (.many []) x ∧ ∃ g, RP lo hi f g ∧ Srtd k g lo hi ∧ OV w' B a n c d g ∧ w71.grownBy w' (blk a) := fun w' g2 z1 z2 z3 z4 => by
    obtain ⟨y1, y2⟩ := sym_join (by omega) (by omega) r1 p1 p2 z1 z2 cross
    exact ⟨(), rfl, g2, y1, y2, z3, z4⟩
  refine br_dec (fun u1 => ?_) (fun u1 => ?_)
  · refine br_dec (fun u2 => ?_) (fun u2 => ?_)
    · refine call_mono (@IH (hi - mid) (by omega) w95 g1 mid e hi rfl (by omega) (by omega) (by omega) R2 M2' (cm.up p4) p3) fun _ w' ⟨g2, z1, z2, z3, z4⟩ => ?_
      exact fin w' g2 z1 z2 z3 (p4.trans z4)
    · exact fin w95 g1 (RP.refl _ _ _) (srt_sub M2'.l (Nat.le_refl _) (by omega)) p3 p4
  · exact fin w95 g1 (RP.refl _ _ _) (srt_sub M2'.r (by omega) (Nat.le_refl _)) p3 p4
end
end Go.Proofs.Ytalagcggmbeddaa.Bs

/- slices.SortStableFunc, whole. -/

namespace Go.Proofs.Ytalagcggmbeddaa.Bs
open Go.RowKit Go.Q Go.V Go.Srt
section
variable {k : Nat → Nat → Prop} {w : World} {B : Nat} {a : Option Addr} {n c : Nat} {d : Nat → Hdr} 
theorem stC (K : SWO k) (hn : n < 1152921504606846976) (cm : Cm k n d a  w) (O : OV w B a n c d id) :
    call Try.prog 49 [.slice a n c, .int .i64 (n : Int), fnV ] (.many []) w fun _ w' => ∃ g, RP 0 n id g ∧ Srtd k g 0 n ∧ OV w' B a n c d g ∧ w.grownBy w' (blk a) := by
  refine call_of (S49_calls a n c _  w _ ?_)
  unfold S49
  refine loop_gh (G := Nat) (fun q s w' => s = (((q * 20 : Nat) : Int), ((q * 20 + 20 : Nat) : Int), ()) ∧ q * 20 ≤ n ∧ ∃ g, Firsts k n g q ∧ RP 0 n id g ∧ OV w' B a n c d g ∧ w.grownBy w' (blk a)) (fun q => n - q) 0
    ⟨rfl, by omega, id, ⟨fun i hi => by omega, fun x _ => rfl⟩, RP.refl _ _ _, O, grown_refl _ _⟩ ?_
  rintro q s w3 ⟨rfl, hq, g, F, R0, O3, g3⟩ again hag _
  dsimp only
  refine br_dec (fun e => ?_) (fun e => ?_)
  · refine call_mono (insC K (cm.up g3) R0 (lo := q * 20) (hi := q * 20 + 20) (by omega) (by omega) hn (fun x y p1 p2 p3 => by rw [F.todo x p1, F.todo y (by omega)]; exact p2) O3) fun _ w5 ⟨g', r1, s1, O5, g5⟩ => ?_
    refine zn ((q + 1) * 20 + 20) (by omega) (by omega) ?_
    refine hag (q + 1) _ w5 ⟨?_, by omega, g', F.step (by omega) (.inl rfl) (by omega) r1 s1, R0.trans (r1.mono (by omega) (by omega)), O5, g3.trans g5⟩ (by omega)
    have : (q + 1) * 20 = q * 20 + 20 := by omega
    rw [this]
  · refine call_mono (insC K (cm.up g3) R0 (lo := q * 20) (hi := n) (by omega) (by omega) hn (fun x y p1 p2 p3 => by rw [F.todo x p1, F.todo y (by omega)]; exact p2) O3) fun _ w8 ⟨g', r1, s1, O8, g8⟩ => ?_
    have F' := F.step (b := n) (by omega) (.inr rfl) (Nat.le_refl _) r1 s1
    have R8 := R0.trans (r1.mono (Nat.zero_le _) (Nat.le_refl _))
    replace g8 := g3.trans g8
    clear F R0 O3 g3 r1 s1 hag
    refine loop_gh (G := Nat) (fun D s w' => s = ((D : Int), ()) ∧ 0 < D ∧ ∃ g, (∀ i, Go.Srt.Good k n g (i * D) D) ∧ RP 0 n id g ∧ OV w' B a n c d g ∧ w.grownBy w' (blk a)) (fun D => n - D) 20
      ⟨rfl, by omega, g', F'.fin (by omega), R8, O8, g8⟩ ?_
    rintro D s w11 ⟨rfl, hD, g1, G1, R1, O1, g11⟩ again2 hag2 _
    dsimp only
    refine br_dec (fun e2 => ?_) (fun e2 => ?_)
    · refine zn (2 * D) (by omega) (by omega) ?_
      refine loop_gh (G := Nat) (fun q s w' => s = (((q * (2 * D) : Nat) : Int), ((q * (2 * D) + 2 * D : Nat) : Int), ()) ∧ q * (2 * D) ≤ n ∧ ∃ g, Half k n g D q ∧ RP 0 n id g ∧ OV w' B a n c d g ∧ w.grownBy w' (blk a)) (fun q => n - q * (2 * D)) 0
        ⟨by rw [Nat.zero_mul, Nat.zero_add]; rfl, by rw [Nat.zero_mul]; omega, g1, Half.start G1, R1, O1, g11⟩ ?_
      rintro q s w15 ⟨rfl, hq, g2, H, R2, O2, g15⟩ again3 hag3 _
      dsimp only
      have es := mul_suc q (2 * D)
      have ho : ∃ o, o = q * (2 * D) := ⟨_, rfl⟩
      obtain ⟨o, ho⟩ := ho
      have X1 := H.g1
      have X2 := H.g2
      rw [← ho] at hq X1 X2 es ⊢
      refine br_dec (fun e3 => ?_) (fun e3 => ?_)
      · refine zn (o + D) (by omega) (by omega) ?_
        refine call_mono (symC K hn (2 * D) (lo := o) (m := o + D) (hi := o + 2 * D) (by omega) (by omega) (by omega) (by omega) R2 (Go.Srt.Good.mrg X1 X2 (by omega) (by omega) (by omega)) (cm.up g15) O2) fun _ w18 ⟨g', r1, s1, O18, g18⟩ => ?_
        refine zn (2 * D) (by omega) (by omega) ?_
        refine zn ((q + 1) * (2 * D) + 2 * D) (by rw [es]; omega) (by rw [es]; omega) ?_
        refine hag3 (q + 1) _ w18 ⟨by rw [es], by rw [es]; omega, g', ?_, R2.trans (r1.mono (Nat.zero_le _) (by omega)), O18, g15.trans g18⟩ (by rw [es, ← ho]; omega)
        have gg := Go.Srt.Good.two X1 X2 (Nat.le_refl _) (.inl rfl) (by omega) r1 s1
        rw [ho] at r1 gg
        exact H.step (Nat.le_refl _) r1 gg
      · refine join_mk (fun _ w' => ∃ g, (∀ i, Go.Srt.Good k n g (i * (2 * D)) (2 * D)) ∧ RP 0 n id g ∧ OV w' B a n c d g ∧ w.grownBy w' (blk a)) (fun K21 hK21 => ?_) (fun _ w23 ⟨g', G', R', O', g23⟩ _ => ?_)
        · refine zn (o + D) (by omega) (by omega) ?_
          refine br_dec (fun e4 => ?_) (fun e4 => ?_)
          · refine call_mono (symC K hn (n - o) (lo := o) (m := o + D) (hi := n) rfl (by omega) (by omega) (Nat.le_refl _) R2 (Go.Srt.Good.mrg X1 X2 (by omega) (by omega) (Nat.le_refl _)) (cm.up g15) O2) fun _ w27 ⟨g', r1, s1, O27, g27⟩ => ?_
            have gg := Go.Srt.Good.two X1 X2 (b := n) (by omega) (.inr rfl) (Nat.le_refl _) r1 s1
            rw [ho] at r1 gg
            exact hK21 () _ ⟨g', (H.step (b := n) (by rw [← ho]; omega) r1 gg).fin (by rw [es]; omega), R2.trans (r1.mono (Nat.zero_le _) (Nat.le_refl _)), O27, g15.trans g27⟩
          · have gg := Go.Srt.Good.one X1 (by omega)
            have r0 : RP (q * (2 * D)) (q * (2 * D)) g2 g2 := RP.refl _ _ _
            rw [ho] at gg
            exact hK21 () _ ⟨g2, (H.step (by omega) r0 gg).fin (by rw [es]; omega), R2, O2, g15⟩
        · refine zn (2 * D) (by omega) (by omega) ?_
          exact hag2 (2 * D) _ w23 ⟨rfl, by omega, g', G', R', O', g23⟩ (by omega)
    · exact ⟨(), rfl, g1, R1, Go.Srt.Good.all G1 (by omega), O1, g11⟩
theorem sortC (K : SWO k) (hn : n < 1152921504606846976) (cm : Cm k n d a  w) (O : OV w B a n c d id) :
    call Try.prog 46 [.slice a n c, fnV ] (.many []) w fun _ w' => ∃ g, RP 0 n id g ∧ Srtd k g 0 n ∧ OV w' B a n c d g ∧ w.grownBy w' (blk a) := by
  refine call_of (S46_calls a n c  w _ ?_)
  unfold S46
  refine call_mono (stC K hn cm O) fun _ w' ⟨g, h⟩ => ?_
  exact ⟨(), rfl, g, h⟩
end
end Go.Proofs.Ytalagcggmbeddaa.Bs

/- Tables of rows in memory; sorted. -/



namespace Go.Proofs.Ytalagcggmbeddaa
open Go.RowKit Go.Q Go.V Go.Bag

theorem _root_.Go.Q.Sl.gr {w w' : World} {a : Option Addr} {n c sz : Nat} {xs : List Value} (H : Sl w a n c sz xs) {o : Option Nat} (g : w.grownBy w' o) (hne : ∀ ad, a = some ad → xs ≠ [] → o ≠ some ad.block) : Sl w' a n c sz xs :=
  H.xb (Xb.of (S := fun k => o = some k) g (fun _ h => h)) (fun ad h1 h2 h3 => hne ad h1 h2 h3)
theorem flat_nil {r : Rw} : r.flatMap encV ≠ [] → r ≠ [] := fun h e => h (by subst e; rfl)
theorem RowAt.gr {w w' : World} {x : Hdr} {r : Rw} (H : RowAt w x r) {o : Option Nat} (g : w.grownBy w' o) (hne : r ≠ [] → ∀ ad, x.1 = some ad → o ≠ some ad.block) : RowAt w' x r :=
  Sl.gr H g fun ad h1 h2 => hne (flat_nil h2) ad h1
theorem RowAt.lt {w : World} {x : Hdr} {r : Rw} (H : RowAt w x r) (h : r ≠ []) {ad : Addr} (ha : x.1 = some ad) : ad.block < w.heap.size := by
  cases r with
  | nil => exact absurd rfl h
  | cons p r =>
    obtain ⟨ad', q1, _, q3⟩ := H.at' 0 (.int .i64 p.1) rfl
    rw [ha] at q1; cases q1; exact q3
structure TabW (w : World) (h : Hdr) (T : List Rw) : Prop where
  ex : ∃ hs : List Hdr, hs.length = T.length ∧ Sl w h.1 h.2.1 h.2.2 1 (hs.map hv) ∧ ∀ (j : Nat) (x : Hdr) (r : Rw), hs[j]? = some x → T[j]? = some r → RowAt w x r
theorem TabW.up {w w' : World} {h : Hdr} {T : List Rw} (H : TabW w h T) (hb : bel w w') : TabW w' h T := by
  obtain ⟨hs, h1, h2, h3⟩ := H.ex
  exact ⟨hs, h1, h2.up hb, fun j x r q1 q2 => (h3 j x r q1 q2).up hb⟩
theorem TabW.len {w : World} {h : Hdr} {T : List Rw} (H : TabW w h T) : T.length = h.2.1 := by
  obtain ⟨hs, h1, h2, _⟩ := H.ex
  have := h2.len
  rw [List.length_map] at this
  omega
theorem TabW.nil (w : World) : TabW w (none, 0, 0) [] := ⟨[], rfl, (Own.nil w 0 24 1).sl, fun j x r q => by simp at q⟩
theorem TabW.at {w : World} {h : Hdr} {T : List Rw} (H : TabW w h T) {i : Int} {j : Nat} (hj : i = (j : Int)) (hn : j < T.length) {K : Hdr → Prop} (hk : ∀ (x : Hdr) r, T[j]? = some r → RowAt w x r → K x) :
    rdp Try.prog (Instr.indexAt 22 (.slice h.1 h.2.1 h.2.2) (.int .i64 i)) (.one .addr) fun ad => rd Try.prog (Instr.loadAt 24 (.pointer (some ad))) (.one .slice) w K := by
  have hl := H.len
  obtain ⟨hs, h1, h2, h3⟩ := H.ex
  refine at_hdr tyT (by kernel_rfl) h2 hj (by omega) fun x hx => ?_
  have hr : T[j]? = some T[j] := List.getElem?_eq_getElem hn
  exact hk x _ hr (h3 j x _ hx hr)
theorem sl_from {t e : TypeId} {z : Value} {bytes : Nat} (T : TyS Try.prog t e z 1 bytes) {a : Option Addr} {n c m : Nat} {i : Int} {K : Hdr → Prop} (hi : i = (m : Int)) (hm : m ≤ n) (hk : ∀ h' : Hdr, h'.2.1 = n - m → (∀ w xs, Sl w a n c 1 xs → Sl w h'.1 h'.2.1 h'.2.2 1 (xs.drop m)) → K h') :
    rdp Try.prog (Instr.sliceAt t (.slice a n c) (some (.int .i64 i)) none none) (.one .slice) K := by
  subst hi
  refine ⟨((if c = m then a else a.map (·.add (m * 1))), n - m, c - m), fun w => ?_, hk _ rfl fun w xs S => ?_⟩
  · have ht : Try.prog.underlying t = some (.slice (Try.prog.elem t)) := by rw [T.elem]; exact T.ht
    rw [run_sliceAt_slice _ _ _ _ _ _ ht, run_slice_l _ _ _ _ _ ht _ _ (by omega) (by omega), T.elem, T.size]
    simp only [Result.andThen_ok, Int.toNat_natCast]
    rfl
  · have hl := S.len
    have hc := S.cap
    refine ⟨by dsimp only; rw [List.length_drop]; omega, by dsimp only; omega, by have := S.most; dsimp only; omega, fun e => ?_, fun j u hu => ?_⟩
    · dsimp only at e
      have : a = none := by
        split at e
        · exact e
        · cases a <;> simp_all
      have := S.nil' this
      dsimp only; omega
    · rw [List.getElem?_drop] at hu
      obtain ⟨ad, q1, q2, q3⟩ := S.at' (m + j) u hu
      have hj : j < n - m := by
        have := (List.getElem?_eq_some_iff.1 hu).1
        omega
      refine ⟨ad.add (m * 1), ?_, ?_, ?_⟩
      · dsimp only
        rw [if_neg (by omega), q1]; rfl
      · rw [add_add, Nat.mul_one]; exact q2
      · rw [add_block]; exact q3
/-- 'x[m:]' of a table -/
theorem TabW.from {h : Hdr} {i : Int} {m : Nat} (hi : i = (m : Int)) (hm : m ≤ h.2.1) {K : Hdr → Prop} (hk : ∀ h' : Hdr, (∀ w T, TabW w h T → TabW w h' (T.drop m)) → K h') :
    rdp Try.prog (Instr.sliceAt 22 (.slice h.1 h.2.1 h.2.2) (some (.int .i64 i)) none none) (.one .slice) K := by
  refine sl_from tyT hi hm fun h' _ hS => hk h' fun w T H => ?_
  obtain ⟨hs, h1, h2, h3⟩ := H.ex
  refine ⟨hs.drop m, by rw [List.length_drop, List.length_drop, h1], by rw [List.map_drop]; exact hS w _ h2, fun j x r q1 q2 => ?_⟩
  rw [List.getElem?_drop] at q1 q2
  exact h3 _ x r q1 q2
/-- 'x[:m]' of a table -/
theorem TabW.to {h : Hdr} {i : Int} {m : Nat} (hi : i = (m : Int)) (hc : m ≤ h.2.2) {K : Hdr → Prop} (hk : ∀ h' : Hdr, (∀ w T, TabW w h T → m ≤ h.2.1 → TabW w h' (T.take m)) → K h') :
    rdp Try.prog (Instr.sliceAt 22 (.slice h.1 h.2.1 h.2.2) none (some (.int .i64 i)) none) (.one .slice) K := by
  refine Go.V.sl_to tyT hi hc (hk (h.1, m, h.2.2) fun w T H hm => ?_)
  have hl := H.len
  obtain ⟨hs, h1, h2, h3⟩ := H.ex
  refine ⟨hs.take m, by rw [List.length_take, List.length_take, h1], ⟨?_, hc, h2.most, fun e => ?_, fun j u hu => ?_⟩, fun j x r q1 q2 => ?_⟩
  · rw [List.length_map, List.length_take]; dsimp only; omega
  · have := h2.nil' e; dsimp only; omega
  · rw [List.map_take] at hu
    have hj : j < m := by
      have := (List.getElem?_eq_some_iff.1 hu).1
      rw [List.length_take] at this; omega
    rw [List.getElem?_take_of_lt hj] at hu
    exact h2.at' j u hu
  · have hj : j < m := by
      have := (List.getElem?_eq_some_iff.1 q1).1
      rw [List.length_take] at this; omega
    rw [List.getElem?_take_of_lt hj] at q1 q2
    exact h3 j x r q1 q2
/-- a table that is being built -/
structure TB (w : World) (B : Nat) (h : Hdr) (T : List Rw) : Prop where
  ex : ∃ hs : List Hdr, hs.length = T.length ∧ Own w B 24 1 h.1 h.2.1 h.2.2 (hs.map hv) ∧ ∀ (j : Nat) (x : Hdr) (r : Rw), hs[j]? = some x → T[j]? = some r → RowAt w x r ∧ (r ≠ [] → ∀ ad, x.1 = some ad → blk h.1 ≠ some ad.block)
theorem TB.nil (w : World) (B : Nat) : TB w B (none, 0, 0) [] := ⟨[], rfl, Own.nil w B 24 1, fun j x r q => by simp at q⟩
theorem TB.tab {w : World} {B : Nat} {h : Hdr} {T : List Rw} (H : TB w B h T) : TabW w h T := by
  obtain ⟨hs, h1, h2, h3⟩ := H.ex
  exact ⟨hs, h1, h2.sl, fun j x r q1 q2 => (h3 j x r q1 q2).1⟩
theorem TB.up {w w' : World} {B : Nat} {h : Hdr} {T : List Rw} (H : TB w B h T) (hb : bel w w') : TB w' B h T := by
  obtain ⟨hs, h1, h2, h3⟩ := H.ex
  exact ⟨hs, h1, h2.kept hb, fun j x r q1 q2 => ⟨(h3 j x r q1 q2).1.up hb, (h3 j x r q1 q2).2⟩⟩
theorem TB.blk {w : World} {B : Nat} {h : Hdr} {T : List Rw} (H : TB w B h T) : ∀ k, blk h.1 = some k → B ≤ k ∧ k < w.heap.size := by
  obtain ⟨hs, _, h2, _⟩ := H.ex
  exact fun k hk => h2.lt k hk
theorem TB.bel {a w w' : World} {B : Nat} {h : Hdr} {T : List Rw} (H : TB w B h T) (hb : bel a w) (g : w.grownBy w' (Go.Q.blk h.1)) (hB : a.heap.size ≤ B) : Go.V.bel a w' := by
  obtain ⟨hs, _, h2, _⟩ := H.ex
  exact hb.own h2 g hB
theorem TB.app {w : World} {B : Nat} {h : Hdr} {T : List Rw} {x : Hdr} {r : Rw} (H : TB w B h T) (X : RowAt w x r) (ha : r ≠ [] → ∀ ad, x.1 = some ad → Go.Q.blk h.1 ≠ some ad.block) (hB : B ≤ w.heap.size) (hn : T.length ≤ 1000000) {k : Hdr → World → Prop}
    (hk : ∀ (h' : Hdr) w', TB w' B h' (T ++ [r]) → w.grownBy w' (Go.Q.blk h.1) → (Go.Q.blk h'.1 = Go.Q.blk h.1 ∨ ∀ b, Go.Q.blk h'.1 = some b → w.heap.size ≤ b) → k h' w') :
    wr Try.prog (Instr.buildSlice 22 1 #[(0, .slice x.1 x.2.1 x.2.2)]) (.one .slice) w fun y w1 => wr Try.prog (Builtin.append_ #[22, 22] 22 #[.slice h.1 h.2.1 h.2.2, .slice y.1 y.2.1 y.2.2]) (.one .slice) w1 k := by
  have hl := H.tab.len
  obtain ⟨hs, h1, h2, h3⟩ := H.ex
  refine wr_app1 tyT h2 hB rfl (by decide) (by decide) rfl rfl (by omega) (by unfold maxLen; omega) fun a' c' w' O' g' hz _ => hk _ w' ⟨hs ++ [x], by simp [h1], by rw [List.map_append]; exact O', fun j y s q1 q2 => ?_⟩ g' hz
  have old : ∀ (y : Hdr) (s : Rw), RowAt w y s → (s ≠ [] → ∀ ad, y.1 = some ad → Go.Q.blk h.1 ≠ some ad.block) → RowAt w' y s ∧ (s ≠ [] → ∀ ad, y.1 = some ad → Go.Q.blk a' ≠ some ad.block) := by
    intro y s hy hne
    refine ⟨hy.gr g' hne, fun hs ad e => ?_⟩
    rcases hz with q | q
    · rw [q]; exact hne hs ad e
    · intro q2
      have := q _ q2
      have := hy.lt hs e
      omega
  by_cases hj : j < hs.length
  · rw [List.getElem?_append_left hj] at q1
    rw [List.getElem?_append_left (by omega)] at q2
    exact old y s (h3 j y s q1 q2).1 (h3 j y s q1 q2).2
  · have hj' : j = hs.length := by
      have := (List.getElem?_eq_some_iff.1 q1).1
      simp at this; omega
    subst hj'
    rw [List.getElem?_append_right (Nat.le_refl _), Nat.sub_self] at q1
    rw [h1, List.getElem?_append_right (Nat.le_refl _), Nat.sub_self] at q2
    cases q1; cases q2
    exact old x r X ha
theorem TB.fresh {w : World} {B : Nat} {h : Hdr} {T : List Rw} (H : TB w B h T) {x : Hdr} {r : Rw} (F : Fresh w x r) : r ≠ [] → ∀ ad, x.1 = some ad → Go.Q.blk h.1 ≠ some ad.block := fun hr ad e q => by
  have := F hr ad e
  have := (H.blk _ q).2
  omega
theorem TB.elder {a w : World} {B : Nat} {h : Hdr} {T : List Rw} (H : TB w B h T) {x : Hdr} {r : Rw} (X : RowAt a x r) (hB : a.heap.size ≤ B) : r ≠ [] → ∀ ad, x.1 = some ad → Go.Q.blk h.1 ≠ some ad.block := fun hr ad e q => by
  have := X.lt hr e
  have := (H.blk _ q).1
  omega
/-- rows that are not too many, nor too wide -/
def Wd (k : Nat) (A : List Rw) : Prop := A.length ≤ k ∧ ∀ r ∈ A, r.length ≤ 1000000
theorem take_suc {α : Type} {l : List α} {i : Nat} {x : α} (h : l[i]? = some x) : l.take i ++ [x] = l.take (i + 1) := by
  rw [List.take_add_one, h]; rfl
theorem sortedF (h : Hdr) (A : List Rw) (w : World) (H : TabW w h A) (hA : Wd 1000000 A) :
    call Try.prog 35 [.slice h.1 h.2.1 h.2.2] (.one (.one .slice)) w (fun (x : Hdr) w' => TabW w' x (sortR cmpR A) ∧ bel w w') := by
  refine call_of (S35_calls h.1 h.2.1 h.2.2 w _ ?_)
  unfold S35
  have hl := H.len
  have hm := hA.1
  refine loop_upA A.length (fun i (x : Hdr) w' => bel w w' ∧ TB w' w.heap.size x (A.take i)) ⟨bel.refl _, TB.nil _ _⟩ fun i x w3 hi ⟨hb, hT⟩ again hag _ => ?_
  refine br_dec (fun e => ?_) (fun e => ?_)
  · dsimp only at e
    refine (H.up hb).at rfl (by omega) fun y r hr hy => ?_
    refine call_mono (cloneF y r w3 hy (hA.2 r (List.mem_of_getElem? hr))) fun (y' : Hdr) w7 ⟨hy', hf, h7⟩ => ?_
    have F := hT.fresh hf
    replace hT := hT.up h7
    replace hb := hb.trans h7
    refine hT.app hy' F hb.size (by rw [List.length_take]; omega) fun x' w11 hT' g _ => ?_
    rw [take_suc hr] at hT'
    refine z_i64 (by dsimp only; omega) ?_
    exact hag x' w11 (by omega) ⟨hT.bel hb g (Nat.le_refl _), hT'⟩
  · dsimp only at e
    have hi' : i = A.length := by omega
    subst hi'
    rw [List.take_length] at hT
    obtain ⟨hs, h1, h2, h3⟩ := hT.ex
    have hn : x.2.1 = A.length := hT.tab.len.symm
    obtain ⟨a, n, c⟩ := x
    dsimp only at hn h2 h3 ⊢
    subst hn
    let d : Nat → Hdr := fun s => hs.getD s (none, 0, 0)
    have hd : ∀ s, s < A.length → hs[s]? = some (d s) := fun s q => by
      show hs[s]? = some (hs.getD s (none, 0, 0))
      rw [List.getD_eq_getElem?_getD, List.getElem?_eq_getElem (by omega)]; rfl
    have hr : ∀ s, s < A.length → A[s]? = some (A.getD s []) := fun s q => by
      rw [List.getD_eq_getElem?_getD, List.getElem?_eq_getElem q]; rfl
    have em : hs.map hv = Go.Srt.mkV A.length (Bs.VV d) id := by
      refine List.ext_getElem? fun s => ?_
      by_cases q : s < A.length
      · rw [Go.Srt.mkV_at q, List.getElem?_map, hd s q]; rfl
      · rw [List.getElem?_eq_none (by simp; omega), List.getElem?_eq_none (by rw [Go.Srt.mkV_len]; omega)]
    rw [em] at h2
    have row : ∀ s, s < A.length → ∀ w', w3.grownBy w' (blk a) → RowAt w' (d s) (A.getD s []) := fun s q w' g =>
      (h3 s _ _ (hd s q) (hr s q)).1.gr g (h3 s _ _ (hd s q) (hr s q)).2
    have K := key_swo cmpR_to fun s => A.getD s []
    refine call_mono (Bs.sortC (k := fun s t => cmpR (A.getD s []) (A.getD t []) < 0) K (by omega) (fun w' g s t q1 q2 => ?_) h2) ?_
    · refine call_mono (rowsF (d s) (d t) _ _ w' (row s q1 w' g) (row t q2 w' g)) fun n w'' ⟨e1, e2⟩ => ?_
      subst e1
      exact ⟨Iff.rfl, e2⟩
    rintro _ w14 ⟨g, R, S, O, gw⟩
    have e := sort_of_rp cmpR_to R K S
    have hp := perm_of_rp K R S
    have gl : ∀ j, j < A.length → g j < A.length := fun j q => by
      have : g j ∈ (List.range A.length).map g := List.mem_map.2 ⟨j, List.mem_range.2 q, rfl⟩
      exact List.mem_range.1 (hp.mem_iff.1 this)
    refine ⟨(a, A.length, c), rfl, ⟨(List.range A.length).map fun j => d (g j), ?_, ?_, fun j y r q1 q2 => ?_⟩, hb.own h2 gw (Nat.le_refl _)⟩
    · rw [← e]; simp
    · have := O.sl
      unfold Go.Srt.mkV at this
      rw [List.map_map]
      exact this
    · rw [← e] at q2
      have hj : j < A.length := by
        have := (List.getElem?_eq_some_iff.1 q1).1
        simpa using this
      rw [List.getElem?_map, List.getElem?_range hj] at q1 q2
      cases q1; cases q2
      exact row (g j) (gl j hj) w14 gw
end Go.Proofs.Ytalagcggmbeddaa

/- Runs: rows with two counts; merged. -/

namespace Go.Bag
section
variable {α : Type} {c : α → α → Int} [DecidableEq α]
omit [DecidableEq α] in
theorem hd_r (X : List α) : hd c X [] = X[0]? := by cases X <;> rfl
omit [DecidableEq α] in
theorem hd_l (Y : List α) : hd c [] Y = Y[0]? := by cases Y <;> rfl
omit [DecidableEq α] in
theorem hd_b {X Y : List α} {p q : α} (h : X[0]? = some p) (h' : Y[0]? = some q) : hd c X Y = if decide (c p q ≤ 0) then X[0]? else Y[0]? := by
  cases X with
  | nil => cases h
  | cons a X => cases Y with
    | nil => cases h'
    | cons b Y =>
      cases h; cases h'
      by_cases z : c p q ≤ 0 <;> simp [hd, z]
theorem tw_yes {r : α} {g : List α} (h : g[0]? = some r) : tw r g = tw r (g.drop 1) + 1 ∧ dw r g = dw r (g.drop 1) := by
  cases g with
  | nil => cases h
  | cons a g => cases h; simp [tw, dw]
theorem tw_no {r : α} {g : List α} (h : ∀ p, g[0]? = some p → p ≠ r) : tw r g = 0 ∧ dw r g = g := by
  cases g with
  | nil => simp [tw, dw]
  | cons a g =>
    have := h a rfl
    simp [tw, dw, this]
end
end Go.Bag
namespace Go.Proofs.Ytalagcggmbeddaa
open Go.RowKit Go.Q Go.V Go.Bag

abbrev Rn := Rw × Nat × Nat
abbrev Cg := Hdr × Int × Int
def encG (p : Cg) : List Value := [.slice p.1.1 p.1.2.1 p.1.2.2, .int .i64 p.2.1, .int .i64 p.2.2]
theorem encG_len (p : Cg) : (encG p).length = 3 := rfl
abbrev zG : Value := .agg #[.slice none 0 0, .int .i64 0, .int .i64 0]
theorem tyR : TyS Try.prog 34 37 zG 3 40 := ⟨by kernel_rfl, by kernel_rfl⟩
theorem tyG : TyS Try.prog 40 43 zG 3 40 := ⟨by kernel_rfl, by kernel_rfl⟩
theorem TabW.atE {a w : World} (hb : bel a w) {h : Hdr} {T : List Rw} (H : TabW a h T) {i : Int} {j : Nat} (hj : i = (j : Int)) (hn : j < T.length) {K : Hdr → Prop} (hk : ∀ (x : Hdr) r, T[j]? = some r → RowAt a x r → K x) :
    rdp Try.prog (Instr.indexAt 22 (.slice h.1 h.2.1 h.2.2) (.int .i64 i)) (.one .addr) fun ad => rd Try.prog (Instr.loadAt 24 (.pointer (some ad))) (.one .slice) w K := by
  have hl := H.len
  obtain ⟨hs, h1, h2, h3⟩ := H.ex
  refine at_hdr tyT (by kernel_rfl) (h2.up hb) hj (by omega) fun x hx => ?_
  have hr : T[j]? = some T[j] := List.getElem?_eq_getElem hn
  exact hk x _ hr (h3 j x _ hx hr)
structure Runs (w : World) (h : Hdr) (M : List Rn) : Prop where
  ex : ∃ hs : List Cg, hs.length = M.length ∧ Sl w h.1 h.2.1 h.2.2 3 (hs.flatMap encG) ∧ ∀ (j : Nat) (x : Cg) (p : Rn), hs[j]? = some x → M[j]? = some p → x.2.1 = (p.2.1 : Int) ∧ x.2.2 = (p.2.2 : Int) ∧ RowAt w x.1 p.1
theorem Runs.up {w w' : World} {h : Hdr} {M : List Rn} (H : Runs w h M) (hb : bel w w') : Runs w' h M := by
  obtain ⟨hs, h1, h2, h3⟩ := H.ex
  exact ⟨hs, h1, h2.up hb, fun j x p q1 q2 => ⟨(h3 j x p q1 q2).1, (h3 j x p q1 q2).2.1, (h3 j x p q1 q2).2.2.up hb⟩⟩
theorem Runs.len {w : World} {h : Hdr} {M : List Rn} (H : Runs w h M) : M.length = h.2.1 := by
  obtain ⟨hs, h1, h2, _⟩ := H.ex
  have := h2.len
  rw [flat_len encG_len] at this
  omega
theorem Runs.at {t e : TypeId} {z : Value} {bytes : Nat} (T : TyS Try.prog t e z 3 bytes) (he : aggOf Try.prog e 3 = true) {w : World} {h : Hdr} {M : List Rn} (H : Runs w h M) {i : Int} {j : Nat} (hj : i = (j : Int)) (hn : j < M.length) {K : (Hdr × Int × Int × Unit) → Prop} (hk : ∀ (x : Hdr) (p : Rn), M[j]? = some p → RowAt w x p.1 → K (x, (p.2.1 : Int), (p.2.2 : Int), ())) :
    rdp Try.prog (Instr.indexAt t (.slice h.1 h.2.1 h.2.2) (.int .i64 i)) (.one .addr) fun ad => rd Try.prog (Instr.loadAt e (.pointer (some ad))) (.agg [.slice, .int .i64, .int .i64]) w K := by
  obtain ⟨hs, h1, h2, h3⟩ := H.ex
  obtain ⟨x, hx⟩ : ∃ x, hs[j]? = some x := ⟨_, List.getElem?_eq_getElem (by omega)⟩
  have hr : M[j]? = some M[j] := List.getElem?_eq_getElem hn
  obtain ⟨e1, e2, hR⟩ := h3 j x _ hx hr
  obtain ⟨x, m, n⟩ := x
  dsimp only at e1 e2
  subst e1 e2
  exact at_agg T he encG_len (by omega) h2 hj hx rfl (hk x _ hr hR)
/-- one field of an element -/
theorem Runs.fld {t e : TypeId} {z : Value} {bytes : Nat} (T : TyS Try.prog t e z 3 bytes) {w : World} {h : Hdr} {M : List Rn} (H : Runs w h M) {i : Int} {j : Nat} (hj : i = (j : Int)) (hn : j < M.length) {K : Addr → Prop} (hk : ∀ (ad : Addr) (x : Hdr) (p : Rn), M[j]? = some p → RowAt w x p.1 → (∀ o v, [hv x, .int .i64 (p.2.1 : Int), .int .i64 (p.2.2 : Int)][o]? = some v → w.cell? (ad.add o) = some v) → K ad) :
    rdp Try.prog (Instr.indexAt t (.slice h.1 h.2.1 h.2.2) (.int .i64 i)) (.one .addr) K := by
  obtain ⟨hs, h1, h2, h3⟩ := H.ex
  obtain ⟨x, hx⟩ : ∃ x, hs[j]? = some x := ⟨_, List.getElem?_eq_getElem (by omega)⟩
  have hr : M[j]? = some M[j] := List.getElem?_eq_getElem hn
  obtain ⟨e1, e2, hR⟩ := h3 j x _ hx hr
  obtain ⟨x, m, n⟩ := x
  dsimp only at e1 e2
  subst e1 e2
  exact idx_agg T encG_len (by omega) h2 hj hx fun ad hc => hk ad x _ hr hR hc
/-- runs that are being built; their rows lie in an elder world -/
structure RB (a w : World) (e : TypeId) (B : Nat) (h : Hdr) (M : List Rn) : Prop where
  ex : ∃ hs : List Cg, hs.length = M.length ∧ Own w B e 3 h.1 h.2.1 h.2.2 (hs.flatMap encG) ∧ ∀ (j : Nat) (x : Cg) (p : Rn), hs[j]? = some x → M[j]? = some p → x.2.1 = (p.2.1 : Int) ∧ x.2.2 = (p.2.2 : Int) ∧ RowAt a x.1 p.1
theorem RB.nil (a w : World) (e : TypeId) (B : Nat) : RB a w e B (none, 0, 0) [] := ⟨[], rfl, Own.nil w B e 3, fun j x p q => by simp at q⟩
theorem RB.up {a w w' : World} {e : TypeId} {B : Nat} {h : Hdr} {M : List Rn} (H : RB a w e B h M) (hb : bel w w') : RB a w' e B h M := by
  obtain ⟨hs, h1, h2, h3⟩ := H.ex
  exact ⟨hs, h1, h2.kept hb, h3⟩
theorem RB.runs {a w : World} {e : TypeId} {B : Nat} {h : Hdr} {M : List Rn} (H : RB a w e B h M) (hb : bel a w) : Runs w h M := by
  obtain ⟨hs, h1, h2, h3⟩ := H.ex
  exact ⟨hs, h1, h2.sl, fun j x p q1 q2 => ⟨(h3 j x p q1 q2).1, (h3 j x p q1 q2).2.1, (h3 j x p q1 q2).2.2.up hb⟩⟩
theorem RB.app {t e : TypeId} {bytes : Nat} (T : TyS Try.prog t e zG 3 bytes) (hbytes : bytes ≤ 64) {a w : World} {B : Nat} {h : Hdr} {M : List Rn} {x : Hdr} {p : Rn} {m n : Int} (H : RB a w e B h M) (hb : bel a w) (X : RowAt a x p.1) (hm : m = (p.2.1 : Int)) (hn : n = (p.2.2 : Int)) (haB : a.heap.size ≤ B) (hB : B ≤ w.heap.size) (hl : M.length ≤ 1000000) {k : Hdr → World → Prop}
    (hk : ∀ (h' : Hdr) w', RB a w' e B h' (M ++ [p]) → bel a w' → k h' w') :
    wr Try.prog (Instr.buildSlice t 1 #[(0, .agg #[.slice x.1 x.2.1 x.2.2, .int .i64 m, .int .i64 n])]) (.one .slice) w fun y w1 => wr Try.prog (Builtin.append_ #[t, t] t #[.slice h.1 h.2.1 h.2.2, .slice y.1 y.2.1 y.2.2]) (.one .slice) w1 k := by
  have hll := (H.runs hb).len
  obtain ⟨hs, h1, h2, h3⟩ := H.ex
  subst hm hn
  have hmul : (h.2.1 + 1) * bytes ≤ 140737488355328 := Nat.le_trans (Nat.mul_le_mul (show h.2.1 + 1 ≤ 1000001 by omega) hbytes) (by decide)
  refine wr_app1 T h2 hB rfl (by decide) (by decide) rfl rfl hmul (by unfold maxLen; omega) fun a' c' w' O' g' _ _ => hk _ w' ⟨hs ++ [(x, (p.2.1 : Int), (p.2.2 : Int))], by simp [h1], by rw [List.flatMap_append]; exact O', fun j y s q1 q2 => ?_⟩ (hb.own h2 g' haB)
  by_cases hj : j < hs.length
  · rw [List.getElem?_append_left hj] at q1
    rw [List.getElem?_append_left (by omega)] at q2
    exact h3 j y s q1 q2
  · have hj' : j = hs.length := by
      have := (List.getElem?_eq_some_iff.1 q1).1
      simp at this; omega
    subst hj'
    rw [List.getElem?_append_right (Nat.le_refl _), Nat.sub_self] at q1
    rw [h1, List.getElem?_append_right (Nat.le_refl _), Nat.sub_self] at q2
    cases q1; cases q2
    exact ⟨rfl, rfl, X⟩
theorem ne_get0 {α : Type} {X : List α} (h : 0 < X.length) : ∃ p, X[0]? = some p := ⟨_, List.getElem?_eq_getElem h⟩
theorem mergedF (a b : Hdr) (A B : List Rw) (w : World) (HA : TabW w a A) (HB : TabW w b B) (wa : Wd 100000 A) (wb : Wd 100000 B) :
    call Try.prog 28 [.slice a.1 a.2.1 a.2.2, .slice b.1 b.2.1 b.2.2] (.one (.one .slice)) w (fun (x : Hdr) w' => Runs w' x (G cmpR A B) ∧ bel w w') := by
  refine call_of (S28_calls a.1 a.2.1 a.2.2 b.1 b.2.1 b.2.2 w _ ?_)
  unfold S28
  have la := wa.1
  have lb := wb.1
  refine call_mono (sortedF a A w HA ⟨by omega, wa.2⟩) fun (x1 : Hdr) w2 ⟨H1, b1⟩ => ?_
  refine call_mono (sortedF b B w2 (HB.up b1) ⟨by omega, wb.2⟩) fun (x3 : Hdr) w4 ⟨H3, b3⟩ => ?_
  replace H1 := H1.up b3
  replace b3 := b1.trans b3
  have hG : (G cmpR A B).length ≤ A.length + B.length := (combG_len (c := cmpR) (t := tU true) (fun m n h => (t_le true m n h).1) A B).2
  have lX : (sortR cmpR A).length = A.length := (sortR_perm cmpR A).length_eq
  have lY : (sortR cmpR B).length = B.length := (sortR_perm cmpR B).length_eq
  have eG : mrg cmpR (sortR cmpR A) (sortR cmpR B) = G cmpR A B := rfl
  refine loop_gh (G := List Rw × List Rw × List Rn) (fun g s w' => TabW w4 s.1 g.1 ∧ TabW w4 s.2.1 g.2.1 ∧ RB w4 w' 37 w4.heap.size s.2.2.1 g.2.2 ∧ bel w4 w' ∧ g.2.2 ++ mrg cmpR g.1 g.2.1 = G cmpR A B ∧ g.1.length ≤ 100000 ∧ g.2.1.length ≤ 100000)
    (fun g => g.1.length + g.2.1.length) (sortR cmpR A, sortR cmpR B, []) ⟨H1, H3, RB.nil _ _ _ _, bel.refl _, eG, by dsimp only; omega, by dsimp only; omega⟩ ?_
  rintro ⟨X, Y, M⟩ ⟨x, y, out, ⟨⟩⟩ w7 ⟨hX, hY, hM, b7, eM, lx, ly⟩ again hag _
  dsimp only at hX hY hM eM lx ly ⊢
  have nx := hX.len
  have ny := hY.len
  clear eG lX lY H1 H3
  refine join_mk (fun _ w' => w' = w7 ∧ (0 < X.length ∨ 0 < Y.length)) (fun K8 hK8 => ?_) ?_
  · refine br_dec (fun e => hK8 () _ ⟨rfl, .inl (by omega)⟩) (fun e => ?_)
    refine br_dec (fun e2 => hK8 () _ ⟨rfl, .inr (by omega)⟩) (fun e2 => ?_)
    have x0 : X = [] := List.eq_nil_of_length_eq_zero (by omega)
    have y0 : Y = [] := List.eq_nil_of_length_eq_zero (by omega)
    subst x0 y0
    rw [mrg_none rfl, List.append_nil] at eM
    exact ⟨out, rfl, eM ▸ hM.runs b7, b3.trans b7⟩
  rintro _ w10 ⟨rfl, hpos⟩ _
  refine wr_alloc (z := zG) (by kernel_rfl) fun x11 w12 Z h12 hx11 _ => ?_
  replace Z : Box w12 x11 [hv (none, 0, 0), .int .i64 0, .int .i64 0] := Z
  refine join_mk (fun _ w' => bel w10 w' ∧ ∃ (xr : Hdr) (r : Rw), hd cmpR X Y = some r ∧ RowAt w4 xr r ∧ Box w' x11 [hv xr, .int .i64 0, .int .i64 0]) (fun K13 hK13 => ?_) ?_
  · refine join_mk (fun s w' => bel w10 w' ∧ Box w' x11 [hv (none, 0, 0), .int .i64 0, .int .i64 0] ∧ hd cmpR X Y = (if s.1 then X[0]? else Y[0]?) ∧ (if s.1 then 0 < X.length else 0 < Y.length)) (fun K53 hK53 => ?_) ?_
    · refine drw_mk fun w62 h62 _ => ?_
      replace Z := Z.up h62
      replace h62 := h12.trans h62
      refine br_eq (fun e => hK53 (true, ()) _ ⟨h62, Z, ?_, ?_⟩) (fun e => ?_)
      · have y0 : Y = [] := List.eq_nil_of_length_eq_zero (by omega)
        subst y0
        exact hd_r X
      · show 0 < X.length
        omega
      refine br_dec (fun e2 => ?_) (fun e2 => hK53 (false, ()) _ ⟨h62, Z, ?_, ?_⟩)
      · refine TabW.atE (b7.trans h62) hX (j := 0) rfl (by omega) fun h1 p hp R1 => ?_
        refine TabW.atE (b7.trans h62) hY (j := 0) rfl (by omega) fun h2 q hq R2 => ?_
        refine call_mono (rowsF h1 h2 p q w62 (R1.up (b7.trans h62)) (R2.up (b7.trans h62))) fun (n : Int) w68 ⟨en, h68⟩ => ?_
        subst en
        refine hK53 _ _ ⟨h62.trans h68, Z.up h68, hd_b hp hq, ?_⟩
        dsimp only
        split <;> omega
      · have x0 : X = [] := List.eq_nil_of_length_eq_zero (by omega)
        subst x0
        exact hd_l Y
      · show 0 < Y.length
        omega
    · rintro ⟨s, ⟨⟩⟩ w55 ⟨h55, Z55, eh, hl⟩ _
      dsimp only at eh hl ⊢
      refine br_mk (fun e => ?_) (fun e => ?_)
      · rw [e] at eh hl
        replace hl : 0 < X.length := hl
        refine TabW.atE (b7.trans h55) hX (j := 0) rfl hl fun h1 p hp R1 => ?_
        refine wu_box Z55 (by kernel_rfl) (by show 1 ≤ 3; omega) rfl fun w58 Z58 g58 _ => ?_
        exact hK13 () _ ⟨h55.grownAt g58 (by omega), h1, p, eh.trans hp, R1, Z58⟩
      · rw [e] at eh hl
        replace hl : 0 < Y.length := hl
        refine TabW.atE (b7.trans h55) hY (j := 0) rfl hl fun h1 p hp R1 => ?_
        refine wu_box Z55 (by kernel_rfl) (by show 1 ≤ 3; omega) rfl fun w58 Z58 g58 _ => ?_
        exact hK13 () _ ⟨h55.grownAt g58 (by omega), h1, p, eh.trans hp, R1, Z58⟩
  rintro _ w15 ⟨h15, xr, r, hr, Rr, Z15⟩ _
  have em := mrg_some hr
  have sx := dw_tw r X
  have sy := dw_tw r Y
  refine join_mk (fun s w' => bel w10 w' ∧ TabW w4 s.1 (dw r X) ∧ Box w' x11 [hv xr, .int .i64 (tw r X : Int), .int .i64 0]) (fun K16 hK16 => ?_) ?_
  · refine loop_gh (G := List Rw × Nat) (fun g s w' => TabW w4 s.1 g.1 ∧ tw r X = g.2 + tw r g.1 ∧ dw r X = dw r g.1 ∧ bel w10 w' ∧ Box w' x11 [hv xr, .int .i64 (g.2 : Int), .int .i64 0]) (fun g => g.1.length) (X, 0) ⟨hX, (Nat.zero_add _).symm, rfl, h15, Z15⟩ ?_
    rintro ⟨g, k⟩ ⟨s, ⟨⟩⟩ w42 ⟨hg, e1, e2, b42, Z42⟩ again2 hag2 _
    dsimp only at hg e1 e2 Z42 ⊢
    have lg := hg.len
    refine drw_mk fun w43 h43 _ => ?_
    replace Z42 := Z42.up h43
    replace b42 := b42.trans h43
    refine br_dec (fun e => ?_) (fun e => ?_)
    · refine TabW.atE (b7.trans b42) hg (j := 0) rfl (by omega) fun h1 p hp R1 => ?_
      refine rd_box0 (by kernel_rfl) Z42 rfl rfl ?_
      refine call_mono (rowsF h1 xr p r w43 (R1.up (b7.trans b42)) (Rr.up (b7.trans b42))) fun (n : Int) w48 ⟨en, h48⟩ => ?_
      replace Z42 := Z42.up h48
      replace b42 := b42.trans h48
      subst en
      refine br_eq (fun q => ?_) (fun q => ?_)
      · have pr : p = r := (cmpR_to.eq p r).1 q
        subst pr
        obtain ⟨t1, t2⟩ := tw_yes hp
        refine rd_box (by kernel_rfl) Z42 (i := 1) rfl rfl ?_
        refine z_i64 (by omega) ?_
        refine wu_boxi Z42 (by kernel_rfl) (by show _ < 3; omega) rfl fun w51 Z51 g51 _ => ?_
        refine TabW.from (m := 1) rfl (by omega) fun h' hh => ?_
        refine hag2 (g.drop 1, k + 1) _ _ ⟨hh _ _ hg, by dsimp only; omega, by dsimp only; rw [e2, t2], b42.grownAt g51 (by omega), ?_⟩ (by dsimp only; rw [List.length_drop]; omega)
        exact Z51
      · obtain ⟨t1, t2⟩ := tw_no (r := r) (g := g) fun p' hp' => by
          rw [hp] at hp'; cases hp'
          intro e; exact q ((cmpR_to.eq p r).2 e)
        refine hK16 _ _ ⟨b42, ?_, ?_⟩
        · rw [e2, t2]; exact hg
        · rw [e1, t1]; exact Z42
    · have g0 : g = [] := List.eq_nil_of_length_eq_zero (by omega)
      subst g0
      refine hK16 _ _ ⟨b42, ?_, ?_⟩
      · rw [e2]; exact hg
      · rw [e1]; exact Z42
  rintro ⟨s17, ⟨⟩⟩ w18 ⟨h18, hX', Z18⟩ _
  refine join_mk (fun s w' => bel w10 w' ∧ TabW w4 s.1 (dw r Y) ∧ Box w' x11 [hv xr, .int .i64 (tw r X : Int), .int .i64 (tw r Y : Int)]) (fun K19 hK19 => ?_) ?_
  · refine loop_gh (G := List Rw × Nat) (fun g s w' => TabW w4 s.1 g.1 ∧ tw r Y = g.2 + tw r g.1 ∧ dw r Y = dw r g.1 ∧ bel w10 w' ∧ Box w' x11 [hv xr, .int .i64 (tw r X : Int), .int .i64 (g.2 : Int)]) (fun g => g.1.length) (Y, 0) ⟨hY, (Nat.zero_add _).symm, rfl, h18, Z18⟩ ?_
    rintro ⟨g, k⟩ ⟨s, ⟨⟩⟩ w42 ⟨hg, e1, e2, b42, Z42⟩ again2 hag2 _
    dsimp only at hg e1 e2 Z42 ⊢
    have lg := hg.len
    refine drw_mk fun w43 h43 _ => ?_
    replace Z42 := Z42.up h43
    replace b42 := b42.trans h43
    refine br_dec (fun e => ?_) (fun e => ?_)
    · refine TabW.atE (b7.trans b42) hg (j := 0) rfl (by omega) fun h1 p hp R1 => ?_
      refine rd_box0 (by kernel_rfl) Z42 rfl rfl ?_
      refine call_mono (rowsF h1 xr p r w43 (R1.up (b7.trans b42)) (Rr.up (b7.trans b42))) fun (n : Int) w48 ⟨en, h48⟩ => ?_
      replace Z42 := Z42.up h48
      replace b42 := b42.trans h48
      subst en
      refine br_eq (fun q => ?_) (fun q => ?_)
      · have pr : p = r := (cmpR_to.eq p r).1 q
        subst pr
        obtain ⟨t1, t2⟩ := tw_yes hp
        refine rd_box (by kernel_rfl) Z42 (i := 2) rfl rfl ?_
        refine z_i64 (by omega) ?_
        refine wu_boxi Z42 (by kernel_rfl) (by show _ < 3; omega) rfl fun w51 Z51 g51 _ => ?_
        refine TabW.from (m := 1) rfl (by omega) fun h' hh => ?_
        refine hag2 (g.drop 1, k + 1) _ _ ⟨hh _ _ hg, by dsimp only; omega, by dsimp only; rw [e2, t2], b42.grownAt g51 (by omega), ?_⟩ (by dsimp only; rw [List.length_drop]; omega)
        exact Z51
      · obtain ⟨t1, t2⟩ := tw_no (r := r) (g := g) fun p' hp' => by
          rw [hp] at hp'; cases hp'
          intro e; exact q ((cmpR_to.eq p r).2 e)
        refine hK19 _ _ ⟨b42, ?_, ?_⟩
        · rw [e2, t2]; exact hg
        · rw [e1, t1]; exact Z42
    · have g0 : g = [] := List.eq_nil_of_length_eq_zero (by omega)
      subst g0
      refine hK19 _ _ ⟨b42, ?_, ?_⟩
      · rw [e2]; exact hg
      · rw [e1]; exact Z42
  rintro ⟨s20, ⟨⟩⟩ w21 ⟨h21, hY', Z21⟩ _
  have ll := congrArg List.length eM
  rw [List.length_append] at ll
  refine rd_boxN Z21 (by kernel_rfl) rfl ?_
  refine RB.app (p := (r, tw r X, tw r Y)) tyR (by decide) (hM.up h21) (b7.trans h21) Rr rfl rfl (Nat.le_refl _) (b7.trans h21).size (by omega) fun h' w26 hM' b26 => ?_
  refine hag (dw r X, dw r Y, M ++ [(r, tw r X, tw r Y)]) _ _ ⟨hX', hY', hM', b26, ?_, by dsimp only; omega, by dsimp only; omega⟩ (dw_sum hr)
  dsimp only
  rw [List.append_assoc, List.singleton_append, ← em]; exact eM
end Go.Proofs.Ytalagcggmbeddaa

/- The operations on bags. -/

namespace Go.Bag
section
variable {α : Type} [DecidableEq α]
/-- how often a row occurs -/
def cn (A : List α) (r : α) : Nat := A.count r
theorem cn_le (A : List α) (r : α) : cn A r ≤ A.length := List.count_le_length
theorem cn_suc {A : List α} {i : Nat} {r : α} (h : A[i]? = some r) (s : α) : cn (A.take (i + 1)) s = cn (A.take i) s + if r = s then 1 else 0 := by
  unfold cn
  rw [List.take_add_one, h, List.count_append]
  by_cases z : r = s <;> simp [z]
end
end Go.Bag
namespace Go.Proofs.Ytalagcggmbeddaa
open Go.RowKit Go.Q Go.V Go.Bag

theorem G_cnt {A B : List Rw} {i : Nat} {p : Rn} (h : (G cmpR A B)[i]? = some p) : p.2.1 ≤ A.length ∧ p.2.2 ≤ B.length ∧ 0 < p.2.1 + p.2.2 := by
  obtain ⟨h1, h2, h3⟩ := (G_grp cmpR_to A B).cnt p (List.mem_of_getElem? h)
  change p.2.1 = cn A p.1 at h1
  change p.2.2 = cn B p.1 at h2
  have := cn_le A p.1
  have := cn_le B p.1
  omega
theorem G_wide {k k' : Nat} {A B : List Rw} {i : Nat} {p : Rn} (wa : Wd k A) (wb : Wd k' B) (h : (G cmpR A B)[i]? = some p) : p.1.length ≤ 1000000 :=
  (G_mem cmpR_to (List.mem_of_getElem? h)).elim (wa.2 _) (wb.2 _)
theorem comb_take (t : Nat → Nat → Nat) {M : List Rn} {i : Nat} {p : Rn} (h : M[i]? = some p) : comb t (M.take (i + 1)) = comb t (M.take i) ++ List.replicate (t p.2.1 p.2.2) p.1 := by
  rw [← take_suc h]
  unfold comb
  rw [List.flatMap_append]; simp
theorem comb_le (t : Nat → Nat → Nat) (M : List Rn) (i : Nat) : (comb t (M.take i)).length ≤ (comb t M).length := by
  have : comb t M = comb t (M.take i) ++ comb t (M.drop i) := by
    unfold comb
    rw [← List.flatMap_append, List.take_append_drop]
  rw [this, List.length_append]; omega
theorem Runs.atE {t e : TypeId} {z : Value} {bytes : Nat} (T : TyS Try.prog t e z 3 bytes) (he : aggOf Try.prog e 3 = true) {a w : World} (hb : bel a w) {h : Hdr} {M : List Rn} (H : Runs a h M) {i : Int} {j : Nat} (hj : i = (j : Int)) (hn : j < M.length) {K : (Hdr × Int × Int × Unit) → Prop} (hk : ∀ (x : Hdr) (p : Rn), M[j]? = some p → RowAt a x p.1 → K (x, (p.2.1 : Int), (p.2.2 : Int), ())) :
    rdp Try.prog (Instr.indexAt t (.slice h.1 h.2.1 h.2.2) (.int .i64 i)) (.one .addr) fun ad => rd Try.prog (Instr.loadAt e (.pointer (some ad))) (.agg [.slice, .int .i64, .int .i64]) w K := by
  obtain ⟨hs, h1, h2, h3⟩ := H.ex
  obtain ⟨x, hx⟩ : ∃ x, hs[j]? = some x := ⟨_, List.getElem?_eq_getElem (by omega)⟩
  have hr : M[j]? = some M[j] := List.getElem?_eq_getElem hn
  obtain ⟨e1, e2, hR⟩ := h3 j x _ hx hr
  obtain ⟨x, m, n⟩ := x
  dsimp only at e1 e2
  subst e1 e2
  exact at_agg T he encG_len (by omega) (h2.up hb) hj hx rfl (hk x _ hr hR)
theorem tE_f (m n : Nat) : tE false m n = if m > 0 ∧ n = 0 then 1 else 0 := rfl
theorem tI_f (m n : Nat) : tI false m n = if m > 0 ∧ n > 0 then 1 else 0 := rfl
theorem onceF (b : Bool) (w : World) : call Try.prog 38 [.bool b] (.one (.one (.int .i64))) w (fun (n : Int) w' => n = (if b then 1 else 0) ∧ bel w w') := by
  refine call_of (S38_calls b w _ ?_)
  unfold S38
  refine br_mk (fun e => ⟨_, rfl, by rw [e]; rfl, bel.refl _⟩) (fun e => ⟨_, rfl, by rw [e]; rfl, bel.refl _⟩)
theorem clou (x : Hdr) (m n : Nat) (cap : Addr) (all : Bool) (w : World) (C : Box w cap [.bool all]) (hm : m ≤ 1000000) (hn : n ≤ 1000000) :
    call Try.prog 40 [.agg #[.slice x.1 x.2.1 x.2.2, .int .i64 (m : Int), .int .i64 (n : Int)], .pointer (some cap)] (.one (.one (.int .i64))) w (fun (t : Int) w' => t = (tU all m n : Nat) ∧ bel w w') := by
  refine call_of (S40_calls x.1 x.2.1 x.2.2 _ _ cap w _ ?_)
  unfold S40
  refine wr_box fun x1 w2 X1 h2 _ _ => ?_
  replace X1 : Box w2 x1 [hv x, .int .i64 (m : Int), .int .i64 (n : Int)] := X1
  refine rd_box0 (by kernel_rfl) (C.up h2) rfl rfl ?_
  refine br_mk (fun e => ?_) (fun e => ⟨_, rfl, by rw [e]; rfl, h2⟩)
  refine rd_box (by kernel_rfl) X1 (i := 1) rfl rfl ?_
  refine rd_box (by kernel_rfl) X1 (i := 2) rfl rfl ?_
  refine z_i64 (by omega) ?_
  exact ⟨_, rfl, by rw [e]; unfold tU; simp, h2⟩
theorem cloe (x : Hdr) (m n : Nat) (cap : Addr) (all : Bool) (w : World) (C : Box w cap [.bool all]) (hm : m ≤ 1000000) (hn : n ≤ 1000000) :
    call Try.prog 37 [.agg #[.slice x.1 x.2.1 x.2.2, .int .i64 (m : Int), .int .i64 (n : Int)], .pointer (some cap)] (.one (.one (.int .i64))) w (fun (t : Int) w' => t = (tE all m n : Nat) ∧ bel w w') := by
  refine call_of (S37_calls x.1 x.2.1 x.2.2 _ _ cap w _ ?_)
  unfold S37
  refine wr_box fun x1 w2 X1 h2 _ _ => ?_
  replace X1 : Box w2 x1 [hv x, .int .i64 (m : Int), .int .i64 (n : Int)] := X1
  refine rd_box0 (by kernel_rfl) (C.up h2) rfl rfl ?_
  refine br_mk (fun e => ?_) (fun e => ?_)
  · refine rd_box (by kernel_rfl) X1 (i := 1) rfl rfl ?_
    refine rd_box (by kernel_rfl) X1 (i := 2) rfl rfl ?_
    refine z_i64 (by omega) ?_
    unfold z
    refine ⟨_, rfl, ?_, h2⟩
    rw [e]; unfold tE
    rw [if_pos rfl]
    split <;> omega
  · refine rd_box (by kernel_rfl) X1 (i := 1) rfl rfl ?_
    refine br_dec (fun e2 => ?_) (fun e2 => ?_)
    · refine rd_box (by kernel_rfl) X1 (i := 2) rfl rfl ?_
      refine call_mono (onceF _ w2) fun (t : Int) w11 ⟨et, h11⟩ => ⟨_, rfl, ?_, h2.trans h11⟩
      rw [et, e, tE_f]
      by_cases z : n = 0
      · subst z
        rw [if_pos (by rfl), if_pos ⟨by omega, rfl⟩]; rfl
      · rw [if_neg (by simp; omega), if_neg (fun q => z q.2)]; rfl
    · refine call_mono (onceF _ w2) fun (t : Int) w11 ⟨et, h11⟩ => ⟨_, rfl, ?_, h2.trans h11⟩
      rw [et, e, tE_f, if_neg (by simp), if_neg (fun q => e2 (by have := q.1; omega))]; rfl
theorem cloi (x : Hdr) (m n : Nat) (cap : Addr) (all : Bool) (w : World) (C : Box w cap [.bool all]) (hm : m ≤ 1000000) (hn : n ≤ 1000000) :
    call Try.prog 41 [.agg #[.slice x.1 x.2.1 x.2.2, .int .i64 (m : Int), .int .i64 (n : Int)], .pointer (some cap)] (.one (.one (.int .i64))) w (fun (t : Int) w' => t = (tI all m n : Nat) ∧ bel w w') := by
  have _ := hm
  have _ := hn
  refine call_of (S41_calls x.1 x.2.1 x.2.2 _ _ cap w _ ?_)
  unfold S41
  refine wr_box fun x1 w2 X1 h2 _ _ => ?_
  replace X1 : Box w2 x1 [hv x, .int .i64 (m : Int), .int .i64 (n : Int)] := X1
  refine rd_box0 (by kernel_rfl) (C.up h2) rfl rfl ?_
  refine br_mk (fun e => ?_) (fun e => ?_)
  · refine rd_box (by kernel_rfl) X1 (i := 1) rfl rfl ?_
    refine rd_box (by kernel_rfl) X1 (i := 2) rfl rfl ?_
    unfold z
    refine ⟨_, rfl, ?_, h2⟩
    rw [e]; unfold tI
    rw [if_pos rfl]
    split <;> omega
  · refine rd_box (by kernel_rfl) X1 (i := 1) rfl rfl ?_
    refine br_dec (fun e2 => ?_) (fun e2 => ?_)
    · refine rd_box (by kernel_rfl) X1 (i := 2) rfl rfl ?_
      refine call_mono (onceF _ w2) fun (t : Int) w11 ⟨et, h11⟩ => ⟨_, rfl, ?_, h2.trans h11⟩
      rw [et, e, tI_f]
      by_cases z : n > 0
      · rw [if_pos (by simp; omega), if_pos ⟨by omega, z⟩]; rfl
      · rw [if_neg (by simp; omega), if_neg (fun q => z q.2)]; rfl
    · refine call_mono (onceF _ w2) fun (t : Int) w11 ⟨et, h11⟩ => ⟨_, rfl, ?_, h2.trans h11⟩
      rw [et, e, tI_f, if_neg (by simp), if_neg (fun q => e2 (by have := q.1; omega))]; rfl

theorem combuF (a b : Hdr) (A B : List Rw) (cap : Addr) (all : Bool) (w : World) (HA : TabW w a A) (HB : TabW w b B) (wa : Wd 100000 A) (wb : Wd 100000 B) (C : Box w cap [.bool all]) :
    call Try.prog 36 [.slice a.1 a.2.1 a.2.2, .slice b.1 b.2.1 b.2.2, .func (.func 40) #[] #[.pointer (some cap)]] (.one (.one .slice)) w (fun (x : Hdr) w' => TabW w' x (comb (tU all) (G cmpR A B)) ∧ bel w w') := by
  refine call_of (S36u_calls a.1 a.2.1 a.2.2 b.1 b.2.1 b.2.2 cap w _ ?_)
  unfold S36u
  have la := wa.1
  have lb := wb.1
  refine call_mono (mergedF a b A B w HA HB wa wb) fun (x1 : Hdr) w2 ⟨HM, b2⟩ => ?_
  have hcl := combG_len (c := cmpR) (t := tU all) (fun m n h => (t_le all m n h).1) A B
  have lM := HM.len
  refine loop_upA (G cmpR A B).length (fun i (h : Hdr) w' => bel w2 w' ∧ TB w' w2.heap.size h (comb (tU all) ((G cmpR A B).take i))) ⟨bel.refl _, TB.nil _ _⟩ fun i h w5 hi ⟨b5, hT⟩ again hag _ => ?_
  refine br_dec (fun e => ?_) (fun e => ?_)
  · dsimp only at e
    refine Runs.atE tyR (by kernel_rfl) b5 HM (j := i) rfl (by omega) fun x p hp R => ?_
    obtain ⟨c1, c2, c3⟩ := G_cnt hp
    have hlr := G_wide wa wb hp
    refine var_mk (z := zG) (v := .agg #[.slice x.1 x.2.1 x.2.2, .int .i64 (p.2.1 : Int), .int .i64 (p.2.2 : Int)]) (by kernel_rfl) (by kernel_rfl) rfl rfl fun x8 w10 X8 h10 _ => ?_
    replace X8 : Box w10 x8 [hv x, .int .i64 (p.2.1 : Int), .int .i64 (p.2.2 : Int)] := X8
    refine rd_boxN X8 (by kernel_rfl) rfl ?_
    refine call_mono (clou x p.2.1 p.2.2 cap all w10 (C.up (b2.trans (b5.trans h10))) (by omega) (by omega)) fun (t : Int) w13 ⟨et, h13⟩ => ?_
    subst et
    have b13 := b5.trans (h10.trans h13)
    have htk := comb_take (tU all) hp
    have hle := comb_le (tU all) (G cmpR A B) (i + 1)
    rw [htk, List.length_append, List.length_replicate] at hle
    have hx8 : ∀ k, Go.Q.blk h.1 = some k → k ≠ x8.block := fun k hk => by have := (hT.blk k hk).2; omega
    refine loop_upA (tU all p.2.1 p.2.2) (fun k (h' : Hdr) w' => bel w2 w' ∧ Box w' x8 [hv x, .int .i64 (p.2.1 : Int), .int .i64 (p.2.2 : Int)] ∧ (∀ k, Go.Q.blk h'.1 = some k → k ≠ x8.block) ∧ TB w' w2.heap.size h' (comb (tU all) ((G cmpR A B).take i) ++ List.replicate k p.1)) ⟨b13, X8.up h13, hx8, by rw [List.replicate_zero, List.append_nil]; exact hT.up (h10.trans h13)⟩ fun k h' w16 hk ⟨b16, X16, hne, hT'⟩ again2 hag2 _ => ?_
    refine br_dec (fun e2 => ?_) (fun e2 => ?_)
    · dsimp only at e2
      refine rd_box0 (by kernel_rfl) X16 rfl rfl ?_
      refine call_mono (cloneF x p.1 w16 (R.up b16) hlr) fun (y : Hdr) w19 ⟨hy, hf, h19⟩ => ?_
      have F := hT'.fresh hf
      have b19 := b16.trans h19
      have s19 := X16.lt
      have z19 := h19.size
      refine (hT'.up h19).app hy F b19.size (by rw [List.length_append, List.length_replicate]; omega) fun h'' w23 hT3 g hz => ?_
      refine z_i64 (by dsimp only; omega) ?_
      refine hag2 h'' w23 (by omega) ⟨(hT'.up h19).bel b19 g (Nat.le_refl _), (X16.up h19).grown g (fun q => hne _ q.symm rfl), fun q hq => ?_, ?_⟩
      · rcases hz with z | z
        · exact hne q (z ▸ hq)
        · have := z q hq
          omega
      · rw [List.append_assoc, ← List.replicate_succ'] at hT3; exact hT3
    · dsimp only at e2
      have : k = tU all p.2.1 p.2.2 := by omega
      subst this
      refine z_i64 (by dsimp only; omega) ?_
      refine hag h' w16 (by omega) ⟨b16, ?_⟩
      rw [htk]; exact hT'
  · dsimp only at e
    have : i = (G cmpR A B).length := by omega
    subst this
    rw [List.take_length] at hT
    exact ⟨h, rfl, hT.tab, b2.trans b5⟩
theorem UnionF (a b : Hdr) (A B : List Rw) (all : Bool) (w : World) (HA : TabW w a A) (HB : TabW w b B) (wa : Wd 100000 A) (wb : Wd 100000 B) :
    call Try.prog 20 [.slice a.1 a.2.1 a.2.2, .slice b.1 b.2.1 b.2.2, .bool all] (.one (.one .slice)) w (fun (x : Hdr) w' => TabW w' x (comb (tU all) (G cmpR A B)) ∧ bel w w') := by
  refine call_of (S20_calls a.1 a.2.1 a.2.2 b.1 b.2.1 b.2.2 all w _ ?_)
  unfold S20
  refine wr_box fun x1 w2 X1 h2 _ _ => ?_
  refine call_mono (combuF a b A B x1 all w2 (HA.up h2) (HB.up h2) wa wb X1) fun (x : Hdr) w4 ⟨H, h4⟩ => ?_
  exact ⟨x, rfl, H, h2.trans h4⟩

theorem combeF (a b : Hdr) (A B : List Rw) (cap : Addr) (all : Bool) (w : World) (HA : TabW w a A) (HB : TabW w b B) (wa : Wd 100000 A) (wb : Wd 100000 B) (C : Box w cap [.bool all]) :
    call Try.prog 36 [.slice a.1 a.2.1 a.2.2, .slice b.1 b.2.1 b.2.2, .func (.func 37) #[] #[.pointer (some cap)]] (.one (.one .slice)) w (fun (x : Hdr) w' => TabW w' x (comb (tE all) (G cmpR A B)) ∧ bel w w') := by
  refine call_of (S36e_calls a.1 a.2.1 a.2.2 b.1 b.2.1 b.2.2 cap w _ ?_)
  unfold S36e
  have la := wa.1
  have lb := wb.1
  refine call_mono (mergedF a b A B w HA HB wa wb) fun (x1 : Hdr) w2 ⟨HM, b2⟩ => ?_
  have hcl := combG_len (c := cmpR) (t := tE all) (fun m n h => (t_le all m n h).2.1) A B
  have lM := HM.len
  refine loop_upA (G cmpR A B).length (fun i (h : Hdr) w' => bel w2 w' ∧ TB w' w2.heap.size h (comb (tE all) ((G cmpR A B).take i))) ⟨bel.refl _, TB.nil _ _⟩ fun i h w5 hi ⟨b5, hT⟩ again hag _ => ?_
  refine br_dec (fun e => ?_) (fun e => ?_)
  · dsimp only at e
    refine Runs.atE tyR (by kernel_rfl) b5 HM (j := i) rfl (by omega) fun x p hp R => ?_
    obtain ⟨c1, c2, c3⟩ := G_cnt hp
    have hlr := G_wide wa wb hp
    refine var_mk (z := zG) (v := .agg #[.slice x.1 x.2.1 x.2.2, .int .i64 (p.2.1 : Int), .int .i64 (p.2.2 : Int)]) (by kernel_rfl) (by kernel_rfl) rfl rfl fun x8 w10 X8 h10 _ => ?_
    replace X8 : Box w10 x8 [hv x, .int .i64 (p.2.1 : Int), .int .i64 (p.2.2 : Int)] := X8
    refine rd_boxN X8 (by kernel_rfl) rfl ?_
    refine call_mono (cloe x p.2.1 p.2.2 cap all w10 (C.up (b2.trans (b5.trans h10))) (by omega) (by omega)) fun (t : Int) w13 ⟨et, h13⟩ => ?_
    subst et
    have b13 := b5.trans (h10.trans h13)
    have htk := comb_take (tE all) hp
    have hle := comb_le (tE all) (G cmpR A B) (i + 1)
    rw [htk, List.length_append, List.length_replicate] at hle
    have hx8 : ∀ k, Go.Q.blk h.1 = some k → k ≠ x8.block := fun k hk => by have := (hT.blk k hk).2; omega
    refine loop_upA (tE all p.2.1 p.2.2) (fun k (h' : Hdr) w' => bel w2 w' ∧ Box w' x8 [hv x, .int .i64 (p.2.1 : Int), .int .i64 (p.2.2 : Int)] ∧ (∀ k, Go.Q.blk h'.1 = some k → k ≠ x8.block) ∧ TB w' w2.heap.size h' (comb (tE all) ((G cmpR A B).take i) ++ List.replicate k p.1)) ⟨b13, X8.up h13, hx8, by rw [List.replicate_zero, List.append_nil]; exact hT.up (h10.trans h13)⟩ fun k h' w16 hk ⟨b16, X16, hne, hT'⟩ again2 hag2 _ => ?_
    refine br_dec (fun e2 => ?_) (fun e2 => ?_)
    · dsimp only at e2
      refine rd_box0 (by kernel_rfl) X16 rfl rfl ?_
      refine call_mono (cloneF x p.1 w16 (R.up b16) hlr) fun (y : Hdr) w19 ⟨hy, hf, h19⟩ => ?_
      have F := hT'.fresh hf
      have b19 := b16.trans h19
      have s19 := X16.lt
      have z19 := h19.size
      refine (hT'.up h19).app hy F b19.size (by rw [List.length_append, List.length_replicate]; omega) fun h'' w23 hT3 g hz => ?_
      refine z_i64 (by dsimp only; omega) ?_
      refine hag2 h'' w23 (by omega) ⟨(hT'.up h19).bel b19 g (Nat.le_refl _), (X16.up h19).grown g (fun q => hne _ q.symm rfl), fun q hq => ?_, ?_⟩
      · rcases hz with z | z
        · exact hne q (z ▸ hq)
        · have := z q hq
          omega
      · rw [List.append_assoc, ← List.replicate_succ'] at hT3; exact hT3
    · dsimp only at e2
      have : k = tE all p.2.1 p.2.2 := by omega
      subst this
      refine z_i64 (by dsimp only; omega) ?_
      refine hag h' w16 (by omega) ⟨b16, ?_⟩
      rw [htk]; exact hT'
  · dsimp only at e
    have : i = (G cmpR A B).length := by omega
    subst this
    rw [List.take_length] at hT
    exact ⟨h, rfl, hT.tab, b2.trans b5⟩
theorem ExceptF (a b : Hdr) (A B : List Rw) (all : Bool) (w : World) (HA : TabW w a A) (HB : TabW w b B) (wa : Wd 100000 A) (wb : Wd 100000 B) :
    call Try.prog 18 [.slice a.1 a.2.1 a.2.2, .slice b.1 b.2.1 b.2.2, .bool all] (.one (.one .slice)) w (fun (x : Hdr) w' => TabW w' x (comb (tE all) (G cmpR A B)) ∧ bel w w') := by
  refine call_of (S18_calls a.1 a.2.1 a.2.2 b.1 b.2.1 b.2.2 all w _ ?_)
  unfold S18
  refine wr_box fun x1 w2 X1 h2 _ _ => ?_
  refine call_mono (combeF a b A B x1 all w2 (HA.up h2) (HB.up h2) wa wb X1) fun (x : Hdr) w4 ⟨H, h4⟩ => ?_
  exact ⟨x, rfl, H, h2.trans h4⟩

theorem combiF (a b : Hdr) (A B : List Rw) (cap : Addr) (all : Bool) (w : World) (HA : TabW w a A) (HB : TabW w b B) (wa : Wd 100000 A) (wb : Wd 100000 B) (C : Box w cap [.bool all]) :
    call Try.prog 36 [.slice a.1 a.2.1 a.2.2, .slice b.1 b.2.1 b.2.2, .func (.func 41) #[] #[.pointer (some cap)]] (.one (.one .slice)) w (fun (x : Hdr) w' => TabW w' x (comb (tI all) (G cmpR A B)) ∧ bel w w') := by
  refine call_of (S36i_calls a.1 a.2.1 a.2.2 b.1 b.2.1 b.2.2 cap w _ ?_)
  unfold S36i
  have la := wa.1
  have lb := wb.1
  refine call_mono (mergedF a b A B w HA HB wa wb) fun (x1 : Hdr) w2 ⟨HM, b2⟩ => ?_
  have hcl := combG_len (c := cmpR) (t := tI all) (fun m n h => (t_le all m n h).2.2) A B
  have lM := HM.len
  refine loop_upA (G cmpR A B).length (fun i (h : Hdr) w' => bel w2 w' ∧ TB w' w2.heap.size h (comb (tI all) ((G cmpR A B).take i))) ⟨bel.refl _, TB.nil _ _⟩ fun i h w5 hi ⟨b5, hT⟩ again hag _ => ?_
  refine br_dec (fun e => ?_) (fun e => ?_)
  · dsimp only at e
    refine Runs.atE tyR (by kernel_rfl) b5 HM (j := i) rfl (by omega) fun x p hp R => ?_
    obtain ⟨c1, c2, c3⟩ := G_cnt hp
    have hlr := G_wide wa wb hp
    refine var_mk (z := zG) (v := .agg #[.slice x.1 x.2.1 x.2.2, .int .i64 (p.2.1 : Int), .int .i64 (p.2.2 : Int)]) (by kernel_rfl) (by kernel_rfl) rfl rfl fun x8 w10 X8 h10 _ => ?_
    replace X8 : Box w10 x8 [hv x, .int .i64 (p.2.1 : Int), .int .i64 (p.2.2 : Int)] := X8
    refine rd_boxN X8 (by kernel_rfl) rfl ?_
    refine call_mono (cloi x p.2.1 p.2.2 cap all w10 (C.up (b2.trans (b5.trans h10))) (by omega) (by omega)) fun (t : Int) w13 ⟨et, h13⟩ => ?_
    subst et
    have b13 := b5.trans (h10.trans h13)
    have htk := comb_take (tI all) hp
    have hle := comb_le (tI all) (G cmpR A B) (i + 1)
    rw [htk, List.length_append, List.length_replicate] at hle
    have hx8 : ∀ k, Go.Q.blk h.1 = some k → k ≠ x8.block := fun k hk => by have := (hT.blk k hk).2; omega
    refine loop_upA (tI all p.2.1 p.2.2) (fun k (h' : Hdr) w' => bel w2 w' ∧ Box w' x8 [hv x, .int .i64 (p.2.1 : Int), .int .i64 (p.2.2 : Int)] ∧ (∀ k, Go.Q.blk h'.1 = some k → k ≠ x8.block) ∧ TB w' w2.heap.size h' (comb (tI all) ((G cmpR A B).take i) ++ List.replicate k p.1)) ⟨b13, X8.up h13, hx8, by rw [List.replicate_zero, List.append_nil]; exact hT.up (h10.trans h13)⟩ fun k h' w16 hk ⟨b16, X16, hne, hT'⟩ again2 hag2 _ => ?_
    refine br_dec (fun e2 => ?_) (fun e2 => ?_)
    · dsimp only at e2
      refine rd_box0 (by kernel_rfl) X16 rfl rfl ?_
      refine call_mono (cloneF x p.1 w16 (R.up b16) hlr) fun (y : Hdr) w19 ⟨hy, hf, h19⟩ => ?_
      have F := hT'.fresh hf
      have b19 := b16.trans h19
      have s19 := X16.lt
      have z19 := h19.size
      refine (hT'.up h19).app hy F b19.size (by rw [List.length_append, List.length_replicate]; omega) fun h'' w23 hT3 g hz => ?_
      refine z_i64 (by dsimp only; omega) ?_
      refine hag2 h'' w23 (by omega) ⟨(hT'.up h19).bel b19 g (Nat.le_refl _), (X16.up h19).grown g (fun q => hne _ q.symm rfl), fun q hq => ?_, ?_⟩
      · rcases hz with z | z
        · exact hne q (z ▸ hq)
        · have := z q hq
          omega
      · rw [List.append_assoc, ← List.replicate_succ'] at hT3; exact hT3
    · dsimp only at e2
      have : k = tI all p.2.1 p.2.2 := by omega
      subst this
      refine z_i64 (by dsimp only; omega) ?_
      refine hag h' w16 (by omega) ⟨b16, ?_⟩
      rw [htk]; exact hT'
  · dsimp only at e
    have : i = (G cmpR A B).length := by omega
    subst this
    rw [List.take_length] at hT
    exact ⟨h, rfl, hT.tab, b2.trans b5⟩
theorem IntersectF (a b : Hdr) (A B : List Rw) (all : Bool) (w : World) (HA : TabW w a A) (HB : TabW w b B) (wa : Wd 100000 A) (wb : Wd 100000 B) :
    call Try.prog 21 [.slice a.1 a.2.1 a.2.2, .slice b.1 b.2.1 b.2.2, .bool all] (.one (.one .slice)) w (fun (x : Hdr) w' => TabW w' x (comb (tI all) (G cmpR A B)) ∧ bel w w') := by
  refine call_of (S21_calls a.1 a.2.1 a.2.2 b.1 b.2.1 b.2.2 all w _ ?_)
  unfold S21
  refine wr_box fun x1 w2 X1 h2 _ _ => ?_
  refine call_mono (combiF a b A B x1 all w2 (HA.up h2) (HB.up h2) wa wb X1) fun (x : Hdr) w4 ⟨H, h4⟩ => ?_
  exact ⟨x, rfl, H, h2.trans h4⟩
theorem DistinctF (a : Hdr) (A : List Rw) (w : World) (HA : TabW w a A) (wa : Wd 100000 A) :
    call Try.prog 22 [.slice a.1 a.2.1 a.2.2] (.one (.one .slice)) w (fun (x : Hdr) w' => TabW w' x (comb (tU false) (G cmpR A [])) ∧ bel w w') := by
  refine call_of (S22_calls a.1 a.2.1 a.2.2 w _ ?_)
  unfold S22
  refine call_mono (UnionF a (none, 0, 0) A [] false w HA (TabW.nil w) wa ⟨Nat.zero_le _, fun r h => by cases h⟩) fun (x : Hdr) w2 ⟨H, h2⟩ => ⟨x, rfl, H, h2⟩
theorem CanonicalF (a : Hdr) (A : List Rw) (w : World) (HA : TabW w a A) (wa : Wd 100000 A) :
    call Try.prog 17 [.slice a.1 a.2.1 a.2.2] (.one (.one .slice)) w (fun (x : Hdr) w' => TabW w' x (sortR cmpR A) ∧ bel w w') := by
  refine call_of (S17_calls a.1 a.2.1 a.2.2 w _ ?_)
  unfold S17
  have := wa.1
  refine call_mono (sortedF a A w HA ⟨by omega, wa.2⟩) fun (x : Hdr) w2 ⟨H, h2⟩ => ⟨x, rfl, H, h2⟩
theorem cmp0 (r s : Rw) : (cmpR r s == 0) = decide (r = s) := by
  by_cases z : r = s
  · subst z; simp [(cmpR_to.eq r r).2 rfl]
  · have h : cmpR r s ≠ 0 := fun q => z ((cmpR_to.eq r s).1 q)
    rw [decide_eq_false z]; exact beq_eq_false_iff_ne.2 h
theorem CountF (a x : Hdr) (A : List Rw) (s : Rw) (w : World) (HA : TabW w a A) (HR : RowAt w x s) (hl : A.length ≤ 1000000) :
    call Try.prog 19 [.slice a.1 a.2.1 a.2.2, .slice x.1 x.2.1 x.2.2] (.one (.one (.int .i64))) w (fun (n : Int) w' => n = (cn A s : Nat) ∧ bel w w') := by
  refine call_of (S19_calls a.1 a.2.1 a.2.2 x.1 x.2.1 x.2.2 w _ ?_)
  unfold S19
  have la := HA.len
  refine loop_upA A.length (fun i (n : Int) w' => bel w w' ∧ n = (cn (A.take i) s : Nat)) ⟨bel.refl _, rfl⟩ fun i n w3 hi ⟨hb, hn⟩ again hag _ => ?_
  subst hn
  refine br_dec (fun e => ?_) (fun e => ?_)
  · dsimp only at e
    refine TabW.atE hb HA (j := i) rfl (by omega) fun y r hr R => ?_
    refine call_mono (rowsF y x r s w3 (R.up hb) (HR.up hb)) fun (n : Int) w7 ⟨en, h7⟩ => ?_
    subst en
    refine call_mono (onceF _ w7) fun (t : Int) w9 ⟨et, h9⟩ => ?_
    rw [cmp0] at et
    have hc := cn_suc hr s
    have hle := cn_le (A.take (i + 1)) s
    rw [List.length_take] at hle
    have ht : t = ((if r = s then 1 else 0 : Nat) : Int) := by
      rw [et]
      by_cases z : r = s <;> simp [z]
    have h1 : (if r = s then 1 else 0 : Nat) ≤ 1 := by split <;> omega
    subst ht
    dsimp only
    refine z_i64 (by omega) ?_
    refine z_i64 (by omega) ?_
    exact hag _ _ (by omega) ⟨hb.trans (h7.trans h9), by rw [hc]; omega⟩
  · dsimp only at e
    have : i = A.length := by omega
    subst this
    rw [List.take_length]
    exact ⟨_, rfl, rfl, hb⟩
end Go.Proofs.Ytalagcggmbeddaa

/- Same, Contains, Difference. -/

namespace Go.Proofs.Ytalagcggmbeddaa
open Go.RowKit Go.Q Go.V Go.Bag

def pNe (p : Rn) : Bool := p.2.1 != p.2.2
def pLt (p : Rn) : Bool := decide (p.2.1 < p.2.2)
theorem drop_at {α : Type} {M : List α} {i : Nat} {p : α} (h : M[i]? = some p) : M.drop i = p :: M.drop (i + 1) := by
  obtain ⟨h1, h2⟩ := List.getElem?_eq_some_iff.1 h
  rw [List.drop_eq_getElem_cons h1, h2]
/-- the first row in which two bags differ -/
def difD (M : List Rn) : Rn := (M.find? pNe).getD ([], 0, 0)
theorem sameF' (x : Hdr) (m n : Int) (w : World) :
    call Try.prog 30 [.agg #[.slice x.1 x.2.1 x.2.2, .int .i64 m, .int .i64 n]] (.one (.one .bool)) w (fun (t : Bool) w' => t = (m != n) ∧ bel w w') := by
  refine call_of (S30_calls x.1 x.2.1 x.2.2 m n w _ ?_)
  unfold S30
  refine wr_box fun x1 w2 X1 h2 _ _ => ?_
  replace X1 : Box w2 x1 [hv x, .int .i64 m, .int .i64 n] := X1
  refine rd_box (by kernel_rfl) X1 (i := 1) rfl rfl ?_
  refine rd_box (by kernel_rfl) X1 (i := 2) rfl rfl ?_
  exact ⟨_, rfl, rfl, h2⟩
theorem contF' (x : Hdr) (m n : Int) (w : World) :
    call Try.prog 31 [.agg #[.slice x.1 x.2.1 x.2.2, .int .i64 m, .int .i64 n]] (.one (.one .bool)) w (fun (t : Bool) w' => t = decide (m < n) ∧ bel w w') := by
  refine call_of (S31_calls x.1 x.2.1 x.2.2 m n w _ ?_)
  unfold S31
  refine wr_box fun x1 w2 X1 h2 _ _ => ?_
  replace X1 : Box w2 x1 [hv x, .int .i64 m, .int .i64 n] := X1
  refine rd_box (by kernel_rfl) X1 (i := 1) rfl rfl ?_
  refine rd_box (by kernel_rfl) X1 (i := 2) rfl rfl ?_
  exact ⟨_, rfl, rfl, h2⟩
theorem any_runs {M : List Rn} {hs : List Cg} (hl : hs.length = M.length) {f : Cg → Bool} {g : Rn → Bool} (h : ∀ (j : Nat) x p, hs[j]? = some x → M[j]? = some p → f x = g p) : hs.any f = M.any g := by
  induction hs generalizing M with
  | nil => cases M with
    | nil => rfl
    | cons p M => cases hl
  | cons x hs ih => cases M with
    | nil => cases hl
    | cons p M =>
      rw [List.any_cons, List.any_cons, h 0 x p rfl rfl, ih (by simpa using hl) fun j x p q1 q2 => h (j + 1) x p q1 q2]
theorem anysF (h : Hdr) (M : List Rn) (w : World) (H : Runs w h M) :
    call Try.prog 29 [.slice h.1 h.2.1 h.2.2, .func (.func 30) #[] #[]] (.one (.one .bool)) w (fun (t : Bool) w' => t = M.any pNe ∧ bel w w') := by
  refine call_of (S29s_calls h.1 h.2.1 h.2.2 w _ ?_)
  unfold S29s
  obtain ⟨hs, h1, h2, h3⟩ := H.ex
  refine call_mono (r := .one (.one (.int .i64))) (Q := fun (n : Int) w' => n = idxI (fun x : Cg => x.2.1 != x.2.2) hs ∧ bel w w') (call_of (S44s_calls h.1 h.2.1 h.2.2 w _ ?_)) fun n w2 ⟨en, b2⟩ => ⟨_, rfl, ?_, b2⟩
  · unfold S44s
    exact idx_aggs tyR (by kernel_rfl) encG_len (by omega) (l := [.slice, .int .i64, .int .i64]) (dec := fun p : Cg => (p.1, p.2.1, p.2.2, ())) (fun a => rfl) (fargs := fun x => [.agg #[.slice x.1.1 x.1.2.1 x.1.2.2, .int .i64 x.2.1, .int .i64 x.2.2.1]]) h2 (fun x : Cg => x.2.1 != x.2.2) fun j x _ w' _ => sameF' x.1 x.2.1 x.2.2 w'
  · subst en
    rw [idxI_any]
    exact any_runs h1 fun j x p q1 q2 => by
      obtain ⟨e1, e2, _⟩ := h3 j x p q1 q2
      unfold pNe
      rw [e1, e2]
      by_cases z : p.2.1 = p.2.2
      · rw [z]; simp
      · rw [bne_iff_ne.2 z]; exact bne_iff_ne.2 (by omega)
theorem anycF (h : Hdr) (M : List Rn) (w : World) (H : Runs w h M) :
    call Try.prog 29 [.slice h.1 h.2.1 h.2.2, .func (.func 31) #[] #[]] (.one (.one .bool)) w (fun (t : Bool) w' => t = M.any pLt ∧ bel w w') := by
  refine call_of (S29c_calls h.1 h.2.1 h.2.2 w _ ?_)
  unfold S29c
  obtain ⟨hs, h1, h2, h3⟩ := H.ex
  refine call_mono (r := .one (.one (.int .i64))) (Q := fun (n : Int) w' => n = idxI (fun x : Cg => decide (x.2.1 < x.2.2)) hs ∧ bel w w') (call_of (S44c_calls h.1 h.2.1 h.2.2 w _ ?_)) fun n w2 ⟨en, b2⟩ => ⟨_, rfl, ?_, b2⟩
  · unfold S44c
    exact idx_aggs tyR (by kernel_rfl) encG_len (by omega) (l := [.slice, .int .i64, .int .i64]) (dec := fun p : Cg => (p.1, p.2.1, p.2.2, ())) (fun a => rfl) (fargs := fun x => [.agg #[.slice x.1.1 x.1.2.1 x.1.2.2, .int .i64 x.2.1, .int .i64 x.2.2.1]]) h2 (fun x : Cg => decide (x.2.1 < x.2.2)) fun j x _ w' _ => contF' x.1 x.2.1 x.2.2 w'
  · subst en
    rw [idxI_any]
    exact any_runs h1 fun j x p q1 q2 => by
      obtain ⟨e1, e2, _⟩ := h3 j x p q1 q2
      unfold pLt
      rw [e1, e2]
      exact decide_eq_decide.2 (by omega)
theorem SameF (a b : Hdr) (A B : List Rw) (w : World) (HA : TabW w a A) (HB : TabW w b B) (wa : Wd 100000 A) (wb : Wd 100000 B) :
    call Try.prog 10 [.slice a.1 a.2.1 a.2.2, .slice b.1 b.2.1 b.2.2] (.one (.one .bool)) w (fun (t : Bool) w' => t = !(G cmpR A B).any pNe ∧ bel w w') := by
  refine call_of (S10_calls a.1 a.2.1 a.2.2 b.1 b.2.1 b.2.2 w _ ?_)
  unfold S10
  refine call_mono (mergedF a b A B w HA HB wa wb) fun (x1 : Hdr) w2 ⟨HM, b2⟩ => ?_
  refine call_mono (anysF x1 _ w2 HM) fun (t : Bool) w4 ⟨et, b4⟩ => ⟨_, rfl, by rw [et], b2.trans b4⟩
theorem ContainsF (a b : Hdr) (A B : List Rw) (w : World) (HA : TabW w a A) (HB : TabW w b B) (wa : Wd 100000 A) (wb : Wd 100000 B) :
    call Try.prog 11 [.slice a.1 a.2.1 a.2.2, .slice b.1 b.2.1 b.2.2] (.one (.one .bool)) w (fun (t : Bool) w' => t = !(G cmpR A B).any pLt ∧ bel w w') := by
  refine call_of (S11_calls a.1 a.2.1 a.2.2 b.1 b.2.1 b.2.2 w _ ?_)
  unfold S11
  refine call_mono (mergedF a b A B w HA HB wa wb) fun (x1 : Hdr) w2 ⟨HM, b2⟩ => ?_
  refine call_mono (anycF x1 _ w2 HM) fun (t : Bool) w4 ⟨et, b4⟩ => ⟨_, rfl, by rw [et], b2.trans b4⟩
theorem find_at {M : List Rn} {i : Nat} {p : Rn} (h : M[i]? = some p) : difD (M.drop i) = if pNe p then p else difD (M.drop (i + 1)) := by
  unfold difD
  rw [drop_at h, List.find?_cons]
  cases pNe p <;> rfl
theorem DifferenceF (a b : Hdr) (A B : List Rw) (w : World) (HA : TabW w a A) (HB : TabW w b B) (wa : Wd 100000 A) (wb : Wd 100000 B) :
    call Try.prog 9 [.slice a.1 a.2.1 a.2.2, .slice b.1 b.2.1 b.2.2] (.many [(.one .slice), (.one (.int .i64)), (.one (.int .i64))]) w (fun (x : Hdr × Int × Int × Unit) w' => (RowAt w' x.1 (difD (G cmpR A B)).1 ∧ x.2.1 = ((difD (G cmpR A B)).2.1 : Int) ∧ x.2.2.1 = ((difD (G cmpR A B)).2.2 : Int)) ∧ bel w w') := by
  refine call_of (S9_calls a.1 a.2.1 a.2.2 b.1 b.2.1 b.2.2 w _ ?_)
  unfold S9
  have la := wa.1
  have lb := wb.1
  refine call_mono (mergedF a b A B w HA HB wa wb) fun (x1 : Hdr) w2 ⟨HM, b2⟩ => ?_
  have hcl := combG_len (c := cmpR) (t := tU true) (fun m n h => (t_le true m n h).1) A B
  have lM := HM.len
  refine loop_up (G cmpR A B).length (fun i w' => bel w2 w' ∧ difD (G cmpR A B) = difD ((G cmpR A B).drop i)) ⟨bel.refl _, rfl⟩ fun i w5 hi ⟨b5, hd⟩ again hag _ => ?_
  refine br_dec (fun e => ?_) (fun e => ?_)
  · dsimp only at e
    refine Runs.atE tyR (by kernel_rfl) b5 HM (j := i) rfl (by omega) fun x p hp R => ?_
    rw [find_at hp] at hd
    refine var_mk (z := zG) (v := .agg #[.slice x.1 x.2.1 x.2.2, .int .i64 (p.2.1 : Int), .int .i64 (p.2.2 : Int)]) (by kernel_rfl) (by kernel_rfl) rfl rfl fun x8 w10 X8 h10 _ => ?_
    replace X8 : Box w10 x8 [hv x, .int .i64 (p.2.1 : Int), .int .i64 (p.2.2 : Int)] := X8
    refine rd_box (by kernel_rfl) X8 (i := 1) rfl rfl ?_
    refine rd_box (by kernel_rfl) X8 (i := 2) rfl rfl ?_
    refine br_ne (fun q => ?_) (fun q => ?_)
    · refine drw_mk fun w13 h13 _ => ?_
      replace X8 := X8.up h13
      refine rd_box0 (by kernel_rfl) X8 rfl rfl ?_
      refine rd_box (by kernel_rfl) X8 (i := 1) rfl rfl ?_
      refine rd_box (by kernel_rfl) X8 (i := 2) rfl rfl ?_
      rw [if_pos (show pNe p = true from bne_iff_ne.2 (by omega))] at hd
      rw [hd]
      exact ⟨(x, (p.2.1 : Int), (p.2.2 : Int), ()), rfl, ⟨R.up (b5.trans (h10.trans h13)), rfl, rfl⟩, b2.trans (b5.trans (h10.trans h13))⟩
    · rw [if_neg (show ¬ pNe p = true from fun q' => bne_iff_ne.1 q' (by omega))] at hd
      refine z_i64 (by dsimp only; omega) ?_
      exact hag _ (by omega) ⟨b5.trans h10, hd⟩
  · dsimp only at e
    rw [List.drop_of_length_le (by omega)] at hd
    rw [hd]
    exact ⟨((none, 0, 0), (0 : Int), (0 : Int), ()), rfl, ⟨(Own.nil w5 0 47 3).sl, rfl, rfl⟩, b2.trans b5⟩
end Go.Proofs.Ytalagcggmbeddaa

/- The specification: rows copied, put in order. -/

namespace Go.V
open Go Go.RowKit Go.Q
theorem run_storeOwnN {P : Program} {B : Nat} {e : TypeId} {sz : Nat} {ad : Addr} {n c : Nat} : ∀ (vs : List Value) (i : Nat) (w : World) (xs : List Value), Own w B e sz (some ad) n c xs → i + vs.length ≤ xs.length → plainV vs = true →
    ∃ w', (storeCells ad vs i).run P w = .ok () w' ∧ Own w' B e sz (some ad) n c (putAt xs i vs) ∧ w.grownBy w' (some ad.block) ∧ w'.heap.size = w.heap.size
  | [], i, w, xs, hb, _, _ => ⟨w, rfl, hb, grown_refl _ _, rfl⟩
  | v :: vs, i, w, xs, hb, hl, hp => by
    simp only [plainV, List.all_cons, Bool.and_eq_true] at hp
    simp only [List.length_cons] at hl
    obtain ⟨u, hu⟩ : ∃ u, xs[i]? = some u := ⟨_, List.getElem?_eq_getElem (by omega)⟩
    obtain ⟨ad', h1, hc, hfz, _⟩ := hb.cell (j := i) hu
    cases h1
    obtain ⟨w', h1, h2, h3, h4⟩ := run_storeOwnN (P := P) vs (i + 1) (w.setCell (ad.add i) v) (xs.set i v) (hb.set i v) (by simp; omega) hp.2
    refine ⟨w', ?_, h2, ?_, by rw [h4, setCell_size]⟩
    · simp only [storeCells, Sem.run_bind]
      rw [run_store P w (ad.add i) v .plain hp.1, hc]
      simp only [hfz, Bool.false_eq_true, if_false, Result.andThen_ok, h1]
    · refine World.grownBy.trans ?_ h3
      have := setCell_grown w (ad.add i) v
      rwa [add_block] at this
/-- copy of as many elements into a slice of one's own -/
theorem wr_copyN {P : Program} {t e : TypeId} {z : Value} {sz bytes : Nat} (T : TyS P t e z sz bytes) {w : World} {B : Nat} {ad : Addr} {b : Option Addr} {n c c' : Nat} {xs ys : List Value} {ty : TypeId} {k : Int → World → Prop}
    (O : Own w B e sz (some ad) n c xs) (S : Sl w b n c' sz ys) (hp : plainV ys = true)
    (hk : ∀ w', Own w' B e sz (some ad) n c ys → w.grownBy w' (some ad.block) → w'.heap.size = w.heap.size → k (n : Int) w') :
    wr P (Builtin.copy_ #[t, t] ty #[.slice (some ad) n c, .slice b n c']) (.one (.int .i64)) w k := by
  obtain ⟨i, h1, _, h2, _⟩ := info_parts T.hi
  have hxs : xs.length = n * sz := O.1
  have hys : ys.length = n * sz := S.len
  have hi : i.size = sz := h2
  have key : putAt xs 0 ys = ys := by
    have := putAt_at ys [] xs (by omega)
    simp only [List.nil_append, List.length_nil] at this
    rw [this, List.drop_of_length_le (by omega), List.append_nil]
  obtain ⟨w', r1, r2, r3, r4⟩ := run_storeOwnN (P := P) ys 0 w xs O (by omega) hp
  rw [key] at r2
  refine ⟨(n : Int), w', ?_, hk w' r2 r3 r4⟩
  cases b with
  | none =>
    have hm0 : n = 0 := (S.nil' rfl).1
    subst hm0
    have hy0 : ys = [] := List.eq_nil_of_length_eq_zero (by omega)
    subst hy0
    have hg : (Builtin.copy_ #[t, t] ty #[.slice (some ad) 0 c, .slice none 0 c']).run P w = .ok (goInt 0) w' := by
      simp [Builtin.copy_, run_underlying T.ht, Builtin.lenOf, Builtin.firstCells, sizeOf, typeInfo, h1, goInt, r1]
    exact hg
  | some b =>
    have hl := run_loadCells_list (P := P) w b ys (fun j v h => by
      obtain ⟨ad', q1, q2, _⟩ := S.at' j v h
      cases q1; exact q2)
    rw [hys] at hl
    simp [Builtin.copy_, run_underlying T.ht, Builtin.lenOf, Builtin.firstCells, sizeOf, typeInfo, h1, hi, hl, r1, goInt]; rfl
end Go.V
namespace Go.Proofs.Ytalagcggmbeddaa
open Go.RowKit Go.Q Go.V Go.Bag
theorem copiedF (s : Hdr) (r : Rw) (w : World) (H : RowAt w s r) (hn : r.length ≤ 1000000) :
    call Try.prog 42 [.slice s.1 s.2.1 s.2.2] (.one (.one .slice)) w (fun (x : Hdr) w' => RowAt w' x r ∧ Fresh w x r ∧ bel w w') := by
  refine call_of (S42_calls s.1 s.2.1 s.2.2 w _ ?_)
  unfold S42
  have hl := RowAt.len H
  obtain ⟨a, n, c⟩ := s
  dsimp only at hl ⊢
  subst hl
  refine wr_make tyV r.length rfl rfl (by omega) (by unfold maxLen; omega) fun ad w2 O h2 e2 _ => ?_
  refine wr_copyN tyV (O w.heap.size (Nat.le_refl _)) (Sl.up H h2) (plainR r) fun w4 O4 g4 _ => ?_
  refine ⟨(some ad, r.length, r.length), rfl, O4.sl, fun _ ad' had => ?_, h2.grownAt g4 (by omega)⟩
  injection had with had
  subst had
  omega
end Go.Proofs.Ytalagcggmbeddaa

/- The specification: Canonical. -/

namespace Go.Bag
section
variable {α : Type} {c : α → α → Int}
theorem mr_b {X Y : List α} {i k : Nat} {p q : α} (h : X[i]? = some p) (h' : Y[k]? = some q) : mergeR c (X.drop i) (Y.drop k) = if c p q ≤ 0 then p :: mergeR c (X.drop (i + 1)) (Y.drop k) else q :: mergeR c (X.drop i) (Y.drop (k + 1)) := by
  obtain ⟨h1, h2⟩ := List.getElem?_eq_some_iff.1 h
  obtain ⟨h3, h4⟩ := List.getElem?_eq_some_iff.1 h'
  rw [List.drop_eq_getElem_cons h1, List.drop_eq_getElem_cons h3, h2, h4, mergeR]
theorem mr_l {X Y : List α} {i k : Nat} {p : α} (h : X[i]? = some p) (h' : k = Y.length) : mergeR c (X.drop i) (Y.drop k) = p :: mergeR c (X.drop (i + 1)) (Y.drop k) := by
  obtain ⟨h1, h2⟩ := List.getElem?_eq_some_iff.1 h
  rw [List.drop_eq_getElem_cons h1, List.drop_of_length_le (l := Y) (by omega), h2, mergeR_nil, mergeR_nil]
theorem mr_r {X Y : List α} {i k : Nat} {q : α} (h : i = X.length) (h' : Y[k]? = some q) : mergeR c (X.drop i) (Y.drop k) = q :: mergeR c (X.drop i) (Y.drop (k + 1)) := by
  obtain ⟨h1, h2⟩ := List.getElem?_eq_some_iff.1 h'
  rw [List.drop_eq_getElem_cons h1, List.drop_of_length_le (l := X) (by omega), h2]
  simp [mergeR]
theorem sort_small (H : TO c) {A : List α} (h : A.length < 2) : sortR c A = A := by
  refine (sortR_eq H ?_ (List.Perm.refl A)).symm
  match A, h with
  | [], _ => exact List.Pairwise.nil
  | [a], _ => exact List.pairwise_singleton _ _
end
end Go.Bag
namespace Go.Proofs.Ytalagcggmbeddaa
open Go.RowKit Go.Q Go.V Go.Bag
theorem TabW.cap {w : World} {h : Hdr} {T : List Rw} (H : TabW w h T) : h.2.1 ≤ h.2.2 := by
  obtain ⟨hs, _, h2, _⟩ := H.ex
  exact h2.cap
theorem Wd.take {k : Nat} {A : List Rw} (h : Wd k A) (i : Nat) : Wd k (A.take i) := ⟨by have := h.1; rw [List.length_take]; omega, fun r hr => h.2 r (List.mem_of_mem_take hr)⟩
theorem Wd.drop {k : Nat} {A : List Rw} (h : Wd k A) (i : Nat) : Wd k (A.drop i) := ⟨by have := h.1; rw [List.length_drop]; omega, fun r hr => h.2 r (List.mem_of_mem_drop hr)⟩
theorem half2 {n : Nat} {t : TypeId} {x y : Operand} {K : Int → Prop} (hn : n ≤ 1000000) (hk : K ((n / 2 : Nat) : Int)) : rdp Try.prog (cmpS .quo t x y (.int .i64 (n : Int)) (.int .i64 2)) (.one (.int .i64)) K := by
  refine rdp_quo (by omega) ?_
  rw [Int.tdiv_eq_ediv_of_nonneg (by omega), IntWalk.i64_in _ (by omega)]
  exact hk
theorem CanF : ∀ (m : Nat) (h : Hdr) (A : List Rw) (w : World), A.length = m → TabW w h A → Wd 1000000 A →
    call Try.prog 25 [.slice h.1 h.2.1 h.2.2] (.one (.one .slice)) w (fun (x : Hdr) w' => TabW w' x (sortR cmpR A) ∧ bel w w') := by
  intro m
  induction m using Nat.strongRecOn with
  | ind m ih =>
  intro h A w em H hA
  refine call_of (S25_calls h.1 h.2.1 h.2.2 w _ ?_)
  unfold S25
  have hl := H.len
  have hm := hA.1
  refine br_dec (fun e0 => ?_) (fun e0 => ?_)
  · have es := sort_small cmpR_to (A := A) (by omega)
    refine loop_upA A.length (fun i (x : Hdr) w' => bel w w' ∧ TB w' w.heap.size x (A.take i)) ⟨bel.refl _, TB.nil _ _⟩ fun i x w3 hi ⟨hb, hT⟩ again hag _ => ?_
    refine br_dec (fun e => ?_) (fun e => ?_)
    · dsimp only at e
      refine (H.up hb).at (j := i) rfl (by omega) fun y r hr hy => ?_
      refine call_mono (copiedF y r w3 hy (hA.2 r (List.mem_of_getElem? hr))) fun (y' : Hdr) w7 ⟨hy', hf, h7⟩ => ?_
      have F := hT.fresh hf
      replace hT := hT.up h7
      replace hb := hb.trans h7
      refine hT.app hy' F hb.size (by rw [List.length_take]; omega) fun x' w11 hT' g _ => ?_
      rw [take_suc hr] at hT'
      refine z_i64 (by dsimp only; omega) ?_
      exact hag x' w11 (by omega) ⟨hT.bel hb g (Nat.le_refl _), hT'⟩
    · dsimp only at e
      have hi' : i = A.length := by omega
      subst hi'
      rw [List.take_length] at hT
      exact ⟨x, rfl, by rw [es]; exact hT.tab, hb⟩
  · refine drw_mk fun w13 h13 _ => ?_
    replace H := H.up h13
    refine flEx_mk (fun _ _ v w' => ∃ x : Hdr, v = .slice x.1 x.2.1 x.2.2 ∧ TabW w' x (sortR cmpR (A.take (h.2.1 / 2)))) (fun _ _ _ _ _ ⟨x, e, hx⟩ hb => ⟨x, e, hx.up hb⟩) ?_
    refine half2 (by omega) ?_
    refine TabW.to (m := h.2.1 / 2) rfl (by have := H.cap; omega) fun h16 k16 => ?_
    refine flc_mk (fun w17 b17 _ => ?_) fun (x21 : Hdr) => ?_
    · refine call_mono (ih (h.2.1 / 2) (by omega) h16 (A.take (h.2.1 / 2)) w17 (by rw [List.length_take]; omega) (k16 _ _ (H.up b17) (by omega)) (hA.take _)) fun (x : Hdr) w20 ⟨hx, hb⟩ => ⟨hb, x, rfl, hx⟩
    refine half2 (by omega) ?_
    refine TabW.from (m := h.2.1 / 2) rfl (by omega) fun h23 k23 => ?_
    refine flend_mk fun w24 b24 hp => ?_
    obtain ⟨x, hv, HX⟩ := hp.1
    have ex : x21 = x := by
      obtain ⟨x1, x2, x3⟩ := x21
      obtain ⟨y1, y2, y3⟩ := x
      dsimp only at hv
      injection hv with v1 v2 v3
      rw [v1, v2, v3]
    subst ex
    clear hp hv
    refine call_mono (ih (A.length - h.2.1 / 2) (by omega) h23 (A.drop (h.2.1 / 2)) w24 (by rw [List.length_drop]) (k23 _ _ (H.up b24)) (hA.drop _)) fun (x26 : Hdr) w27 ⟨HY, b27⟩ => ?_
    replace HX := HX.up b27
    have eS := mergeR_sort cmpR_to (A.take (h.2.1 / 2)) (A.drop (h.2.1 / 2))
    rw [List.take_append_drop] at eS
    have lX : (sortR cmpR (A.take (h.2.1 / 2))).length + (sortR cmpR (A.drop (h.2.1 / 2))).length = A.length := by
      rw [(sortR_perm cmpR _).length_eq, (sortR_perm cmpR _).length_eq, List.length_take, List.length_drop]; omega
    have lS : (sortR cmpR A).length = A.length := (sortR_perm cmpR A).length_eq
    rw [← eS] at lS
    rw [← eS]
    generalize sortR cmpR (A.take (h.2.1 / 2)) = X at HX lX lS ⊢
    generalize sortR cmpR (A.drop (h.2.1 / 2)) = Y at HY lX lS ⊢
    have nx := HX.len
    have ny := HY.len
    have b0 := h13.trans (b24.trans b27)
    refine loop_gh (G := Nat × Nat × List Rw) (fun g s w' => s.2 = ((g.1 : Int), (g.2.1 : Int), ()) ∧ g.1 ≤ X.length ∧ g.2.1 ≤ Y.length ∧ bel w27 w' ∧ TB w' w27.heap.size s.1 g.2.2 ∧ g.2.2 ++ mergeR cmpR (X.drop g.1) (Y.drop g.2.1) = mergeR cmpR X Y) (fun g => (X.length - g.1) + (Y.length - g.2.1)) (0, 0, []) ⟨rfl, Nat.zero_le _, Nat.zero_le _, bel.refl _, TB.nil _ _, rfl⟩ ?_
    rintro ⟨i, k, T⟩ ⟨out, s⟩ w30 ⟨es, hi, hk, b30, hT, eT⟩ again hag _
    dsimp only at es hi hk hT eT
    subst es
    dsimp only
    have lT : T.length ≤ A.length := by
      have := congrArg List.length eT
      rw [List.length_append, lS] at this
      omega
    refine join_mk (fun _ w' => w' = w30 ∧ (i < X.length ∨ k < Y.length)) (fun K31 hK31 => ?_) ?_
    · refine br_dec (fun e => hK31 () _ ⟨rfl, .inl (by omega)⟩) (fun e => ?_)
      refine br_dec (fun e2 => hK31 () _ ⟨rfl, .inr (by omega)⟩) (fun e2 => ?_)
      rw [List.drop_of_length_le (by omega), List.drop_of_length_le (by omega), mergeR_nil, List.append_nil] at eT
      exact ⟨out, rfl, eT ▸ hT.tab, b0.trans b30⟩
    rintro _ w33 ⟨rfl, hpos⟩ _
    refine join_mk (fun s w' => bel w33 w' ∧ (if s.1 then i < X.length ∧ ∀ p, X[i]? = some p → mergeR cmpR (X.drop i) (Y.drop k) = p :: mergeR cmpR (X.drop (i + 1)) (Y.drop k) else k < Y.length ∧ ∀ q, Y[k]? = some q → mergeR cmpR (X.drop i) (Y.drop k) = q :: mergeR cmpR (X.drop i) (Y.drop (k + 1)))) (fun K34 hK34 => ?_) ?_
    · refine drw_mk fun w51 h51 _ => ?_
      refine br_eq (fun e => hK34 (true, ()) _ ⟨h51, ?_, fun p hp => mr_l hp (by omega)⟩) (fun e => ?_)
      · omega
      refine br_dec (fun e2 => ?_) (fun e2 => hK34 (false, ()) _ ⟨h51, ?_, fun q hq => mr_r (by omega) hq⟩)
      · refine TabW.atE (b30.trans h51) HX (j := i) rfl (by omega) fun h1 p hp R1 => ?_
        refine TabW.atE (b30.trans h51) HY (j := k) rfl (by omega) fun h2 q hq R2 => ?_
        refine call_mono (rows01 h1 h2 p q w51 (R1.up (b30.trans h51)) (R2.up (b30.trans h51))) fun (n : Int) w57 ⟨en, h57⟩ => ?_
        subst en
        refine hK34 _ _ ⟨h51.trans h57, ?_⟩
        have hb := mr_b (c := cmpR) hp hq
        by_cases z : cmpR p q ≤ 0
        · rw [if_pos z] at hb
          dsimp only
          rw [decide_eq_true z, if_pos rfl]
          exact ⟨by omega, fun p' hp' => by rw [hp] at hp'; cases hp'; exact hb⟩
        · rw [if_neg z] at hb
          dsimp only
          rw [decide_eq_false z, if_neg (by simp)]
          exact ⟨by omega, fun q' hq' => by rw [hq] at hq'; cases hq'; exact hb⟩
      · omega
    rintro ⟨s, ⟨⟩⟩ w36 ⟨h36, hs⟩ _
    dsimp only at hs ⊢
    refine br_mk (fun e => ?_) (fun e => ?_)
    · rw [e, if_pos rfl] at hs
      refine TabW.atE (b30.trans h36) HX (j := i) rfl hs.1 fun h1 p hp R1 => ?_
      replace hT := hT.up h36
      refine hT.app (R1.up (b30.trans h36)) (hT.elder R1 (Nat.le_refl _)) (b30.trans h36).size (by omega) fun out' w42 hT' g _ => ?_
      refine z_i64 (by omega) ?_
      refine hag (i + 1, k, T ++ [p]) _ _ ⟨rfl, hs.1, hk, hT.bel (b30.trans h36) g (Nat.le_refl _), hT', ?_⟩ (by dsimp only; omega)
      rw [← eT, hs.2 p hp, List.append_assoc, List.singleton_append]
    · rw [e, if_neg (by simp)] at hs
      refine TabW.atE (b30.trans h36) HY (j := k) rfl hs.1 fun h1 p hp R1 => ?_
      replace hT := hT.up h36
      refine hT.app (R1.up (b30.trans h36)) (hT.elder R1 (Nat.le_refl _)) (b30.trans h36).size (by omega) fun out' w42 hT' g _ => ?_
      refine z_i64 (by omega) ?_
      refine hag (i, k + 1, T ++ [p]) _ _ ⟨rfl, hi, hs.1, hT.bel (b30.trans h36) g (Nat.le_refl _), hT', ?_⟩ (by dsimp only; omega)
      rw [← eT, hs.2 p hp, List.append_assoc, List.singleton_append]
end Go.Proofs.Ytalagcggmbeddaa

/- The specification: groups. -/

namespace Go.Bag
section
variable {α : Type} {c : α → α → Int} [DecidableEq α]
theorem tw_yes' {r : α} {X : List α} {i : Nat} (h : X[i]? = some r) : tw r (X.drop i) = tw r (X.drop (i + 1)) + 1 ∧ dw r (X.drop i) = dw r (X.drop (i + 1)) := by
  have := tw_yes (r := r) (g := X.drop i) (by rw [List.getElem?_drop, Nat.add_zero]; exact h)
  rwa [List.drop_drop] at this
theorem tw_no' {r : α} {X : List α} {i : Nat} (h : ∀ p, X[i]? = some p → p ≠ r) : tw r (X.drop i) = 0 ∧ dw r (X.drop i) = X.drop i :=
  tw_no fun p hp => h p (by rw [List.getElem?_drop, Nat.add_zero] at hp; exact hp)
omit [DecidableEq α] in
theorem hd_r' {X Y : List α} {i k : Nat} (h : k = Y.length) : hd c (X.drop i) (Y.drop k) = X[i]? := by
  rw [List.drop_of_length_le (l := Y) (by omega), hd_r, List.getElem?_drop, Nat.add_zero]
omit [DecidableEq α] in
theorem hd_l' {X Y : List α} {i k : Nat} (h : i = X.length) : hd c (X.drop i) (Y.drop k) = Y[k]? := by
  rw [List.drop_of_length_le (l := X) (by omega), hd_l, List.getElem?_drop, Nat.add_zero]
omit [DecidableEq α] in
theorem hd_b' {X Y : List α} {i k : Nat} {p q : α} (h : X[i]? = some p) (h' : Y[k]? = some q) : hd c (X.drop i) (Y.drop k) = if c p q ≤ 0 then some p else some q := by
  have := hd_b (c := c) (X := X.drop i) (Y := Y.drop k) (p := p) (q := q) (by rw [List.getElem?_drop, Nat.add_zero]; exact h) (by rw [List.getElem?_drop, Nat.add_zero]; exact h')
  rw [this, List.getElem?_drop, Nat.add_zero, List.getElem?_drop, Nat.add_zero, h, h']
  by_cases z : c p q ≤ 0 <;> simp [z]
end
end Go.Bag
namespace Go.Proofs.Ytalagcggmbeddaa
open Go.RowKit Go.Q Go.V Go.Bag
theorem groupsF (a b : Hdr) (A B : List Rw) (w : World) (HA : TabW w a A) (HB : TabW w b B) (wa : Wd 100000 A) (wb : Wd 100000 B) :
    call Try.prog 32 [.slice a.1 a.2.1 a.2.2, .slice b.1 b.2.1 b.2.2] (.one (.one .slice)) w (fun (x : Hdr) w' => Runs w' x (G cmpR A B) ∧ bel w w') := by
  refine call_of (S32_calls a.1 a.2.1 a.2.2 b.1 b.2.1 b.2.2 w _ ?_)
  unfold S32
  have la := wa.1
  have lb := wb.1
  refine call_mono (CanF A.length a A w rfl HA ⟨by omega, wa.2⟩) fun (x1 : Hdr) w2 ⟨H1, b1⟩ => ?_
  refine call_mono (CanF B.length b B w2 rfl (HB.up b1) ⟨by omega, wb.2⟩) fun (x3 : Hdr) w4 ⟨HY, b3⟩ => ?_
  have HX := H1.up b3
  replace b3 := b1.trans b3
  clear H1
  have hG : (G cmpR A B).length ≤ A.length + B.length := (combG_len (c := cmpR) (t := tU true) (fun m n h => (t_le true m n h).1) A B).2
  have lX : (sortR cmpR A).length = A.length := (sortR_perm cmpR A).length_eq
  have lY : (sortR cmpR B).length = B.length := (sortR_perm cmpR B).length_eq
  have eG : G cmpR A B = mrg cmpR (sortR cmpR A) (sortR cmpR B) := rfl
  rw [eG] at hG ⊢
  clear eG
  generalize sortR cmpR A = X at HX lX hG ⊢
  generalize sortR cmpR B = Y at HY lY hG ⊢
  have nx := HX.len
  have ny := HY.len
  refine loop_gh (G := Nat × Nat × List Rn) (fun g s w' => s.2 = ((g.1 : Int), (g.2.1 : Int), ()) ∧ g.1 ≤ X.length ∧ g.2.1 ≤ Y.length ∧ RB w4 w' 43 w4.heap.size s.1 g.2.2 ∧ bel w4 w' ∧ g.2.2 ++ mrg cmpR (X.drop g.1) (Y.drop g.2.1) = mrg cmpR X Y)
    (fun g => (X.length - g.1) + (Y.length - g.2.1)) (0, 0, []) ⟨rfl, Nat.zero_le _, Nat.zero_le _, RB.nil _ _ _ _, bel.refl _, rfl⟩ ?_
  rintro ⟨i, k, M⟩ ⟨out, s⟩ w7 ⟨es, hi, hk, hM, b7, eM⟩ again hag _
  dsimp only at es hi hk hM eM
  subst es
  dsimp only
  refine join_mk (fun _ w' => w' = w7 ∧ (i < X.length ∨ k < Y.length)) (fun K8 hK8 => ?_) ?_
  · refine br_dec (fun e => hK8 () _ ⟨rfl, .inl (by omega)⟩) (fun e => ?_)
    refine br_dec (fun e2 => hK8 () _ ⟨rfl, .inr (by omega)⟩) (fun e2 => ?_)
    rw [List.drop_of_length_le (by omega), List.drop_of_length_le (by omega), mrg_none rfl, List.append_nil] at eM
    exact ⟨out, rfl, eM ▸ hM.runs b7, b3.trans b7⟩
  rintro _ w10 ⟨rfl, hpos⟩ _
  refine join_mk (fun s w' => bel w10 w' ∧ ∃ r : Rw, hd cmpR (X.drop i) (Y.drop k) = some r ∧ RowAt w4 s.1 r) (fun K11 hK11 => ?_) ?_
  · refine drw_mk fun w50 h50 _ => ?_
    refine br_eq (fun e => ?_) (fun e => ?_)
    · refine TabW.atE (b7.trans h50) HX (j := i) rfl (by omega) fun h1 p hp R1 => ?_
      exact hK11 _ _ ⟨h50, p, (hd_r' (by omega)).trans hp, R1⟩
    refine br_dec (fun e2 => ?_) (fun e2 => ?_)
    · refine TabW.atE (b7.trans h50) HX (j := i) rfl (by omega) fun h1 p hp R1 => ?_
      refine TabW.atE (b7.trans h50) HY (j := k) rfl (by omega) fun h2 q hq R2 => ?_
      refine call_mono (rows01 h1 h2 p q w50 (R1.up (b7.trans h50)) (R2.up (b7.trans h50))) fun (n : Int) w58 ⟨en, h58⟩ => ?_
      subst en
      have hb := hd_b' (c := cmpR) hp hq
      refine br_dec (fun z => ?_) (fun z => ?_)
      · rw [if_pos z] at hb
        refine TabW.atE (b7.trans (h50.trans h58)) HX (j := i) rfl (by omega) fun h1 p' hp' R1 => ?_
        rw [hp] at hp'; cases hp'
        exact hK11 _ _ ⟨h50.trans h58, p, hb, R1⟩
      · rw [if_neg z] at hb
        refine TabW.atE (b7.trans (h50.trans h58)) HY (j := k) rfl (by omega) fun h1 p' hp' R1 => ?_
        rw [hq] at hp'; cases hp'
        exact hK11 _ _ ⟨h50.trans h58, q, hb, R1⟩
    · refine TabW.atE (b7.trans h50) HY (j := k) rfl (by omega) fun h1 p hp R1 => ?_
      exact hK11 _ _ ⟨h50, p, (hd_l' (by omega)).trans hp, R1⟩
  rintro ⟨xr, ⟨⟩⟩ w13 ⟨h13, r, hr, Rr⟩ _
  dsimp only at Rr ⊢
  refine var_mk (z := zG) (v := .agg #[.slice xr.1 xr.2.1 xr.2.2, .int .i64 0, .int .i64 0]) (by kernel_rfl) (by kernel_rfl) rfl rfl fun x14 w16 Z16 h16 hx14 => ?_
  replace Z16 : Box w16 x14 [hv xr, .int .i64 ((0 : Nat) : Int), .int .i64 0] := Z16
  have z13 := h13.size
  have h16' := h13.trans h16
  have em := mrg_some hr
  have sx := dw_tw r (X.drop i)
  have sy := dw_tw r (Y.drop k)
  rw [List.length_drop] at sx sy
  refine join_mk (fun s w' => bel w10 w' ∧ ∃ j : Nat, s = ((j : Int), ()) ∧ j ≤ X.length ∧ dw r (X.drop i) = X.drop j ∧ Box w' x14 [hv xr, .int .i64 (tw r (X.drop i) : Int), .int .i64 0]) (fun K17 hK17 => ?_) ?_
  · refine loop_gh (G := Nat × Nat) (fun g s w' => s = ((g.1 : Int), ()) ∧ g.1 ≤ X.length ∧ tw r (X.drop i) = g.2 + tw r (X.drop g.1) ∧ dw r (X.drop i) = dw r (X.drop g.1) ∧ bel w10 w' ∧ Box w' x14 [hv xr, .int .i64 (g.2 : Int), .int .i64 0]) (fun g => X.length - g.1) (i, 0) ⟨rfl, hi, (Nat.zero_add _).symm, rfl, h16', Z16⟩ ?_
    rintro ⟨j, n⟩ s w41 ⟨es, hj, e1, e2, b41, Z41⟩ again2 hag2 _
    dsimp only at es hj e1 e2 Z41
    subst es
    dsimp only
    refine br_dec (fun e => ?_) (fun e => ?_)
    · refine TabW.atE (b7.trans b41) HX (j := j) rfl (by omega) fun h1 p hp R1 => ?_
      refine call_mono (rows01 h1 xr p r w41 (R1.up (b7.trans b41)) (Rr.up (b7.trans b41))) fun (n' : Int) w45 ⟨en, h45⟩ => ?_
      replace Z41 := Z41.up h45
      replace b41 := b41.trans h45
      subst en
      refine br_eq (fun q => ?_) (fun q => ?_)
      · have pr : p = r := (cmpR_to.eq p r).1 q
        subst pr
        obtain ⟨t1, t2⟩ := tw_yes' hp
        refine rd_box (by kernel_rfl) Z41 (i := 1) rfl rfl ?_
        refine z_i64 (by omega) ?_
        refine wu_boxi Z41 (by kernel_rfl) (by show _ < 3; omega) rfl fun w48 Z48 g48 _ => ?_
        refine z_i64 (by omega) ?_
        refine hag2 (j + 1, n + 1) _ _ ⟨rfl, by dsimp only; omega, by dsimp only; omega, by dsimp only; rw [e2, t2], b41.grownAt g48 (by omega), ?_⟩ (by dsimp only; omega)
        exact Z48
      · obtain ⟨t1, t2⟩ := tw_no' (r := r) (X := X) (i := j) fun p' hp' => by
          rw [hp] at hp'; cases hp'
          intro e; exact q ((cmpR_to.eq p r).2 e)
        exact hK17 _ _ ⟨b41, j, rfl, hj, by rw [e2, t2], by rw [e1, t1]; exact Z41⟩
    · obtain ⟨t1, t2⟩ := tw_no' (r := r) (X := X) (i := j) fun p' hp' => by
        have := (List.getElem?_eq_some_iff.1 hp').1
        omega
      exact hK17 _ _ ⟨b41, j, rfl, hj, by rw [e2, t2], by rw [e1, t1]; exact Z41⟩
  rintro s18 w19 ⟨h19, jx, es, hjx, dX, Z19⟩ _
  subst es
  dsimp only
  refine join_mk (fun s w' => bel w10 w' ∧ ∃ j : Nat, s = ((j : Int), ()) ∧ j ≤ Y.length ∧ dw r (Y.drop k) = Y.drop j ∧ Box w' x14 [hv xr, .int .i64 (tw r (X.drop i) : Int), .int .i64 (tw r (Y.drop k) : Int)]) (fun K20 hK20 => ?_) ?_
  · refine loop_gh (G := Nat × Nat) (fun g s w' => s = ((g.1 : Int), ()) ∧ g.1 ≤ Y.length ∧ tw r (Y.drop k) = g.2 + tw r (Y.drop g.1) ∧ dw r (Y.drop k) = dw r (Y.drop g.1) ∧ bel w10 w' ∧ Box w' x14 [hv xr, .int .i64 (tw r (X.drop i) : Int), .int .i64 (g.2 : Int)]) (fun g => Y.length - g.1) (k, 0) ⟨rfl, hk, (Nat.zero_add _).symm, rfl, h19, Z19⟩ ?_
    rintro ⟨j, n⟩ s w41 ⟨es, hj, e1, e2, b41, Z41⟩ again2 hag2 _
    dsimp only at es hj e1 e2 Z41
    subst es
    dsimp only
    refine br_dec (fun e => ?_) (fun e => ?_)
    · refine TabW.atE (b7.trans b41) HY (j := j) rfl (by omega) fun h1 p hp R1 => ?_
      refine call_mono (rows01 h1 xr p r w41 (R1.up (b7.trans b41)) (Rr.up (b7.trans b41))) fun (n' : Int) w45 ⟨en, h45⟩ => ?_
      replace Z41 := Z41.up h45
      replace b41 := b41.trans h45
      subst en
      refine br_eq (fun q => ?_) (fun q => ?_)
      · have pr : p = r := (cmpR_to.eq p r).1 q
        subst pr
        obtain ⟨t1, t2⟩ := tw_yes' hp
        refine rd_box (by kernel_rfl) Z41 (i := 2) rfl rfl ?_
        refine z_i64 (by omega) ?_
        refine wu_boxi Z41 (by kernel_rfl) (by show _ < 3; omega) rfl fun w48 Z48 g48 _ => ?_
        refine z_i64 (by omega) ?_
        refine hag2 (j + 1, n + 1) _ _ ⟨rfl, by dsimp only; omega, by dsimp only; omega, by dsimp only; rw [e2, t2], b41.grownAt g48 (by omega), ?_⟩ (by dsimp only; omega)
        exact Z48
      · obtain ⟨t1, t2⟩ := tw_no' (r := r) (X := Y) (i := j) fun p' hp' => by
          rw [hp] at hp'; cases hp'
          intro e; exact q ((cmpR_to.eq p r).2 e)
        exact hK20 _ _ ⟨b41, j, rfl, hj, by rw [e2, t2], by rw [e1, t1]; exact Z41⟩
    · obtain ⟨t1, t2⟩ := tw_no' (r := r) (X := Y) (i := j) fun p' hp' => by
        have := (List.getElem?_eq_some_iff.1 hp').1
        omega
      exact hK20 _ _ ⟨b41, j, rfl, hj, by rw [e2, t2], by rw [e1, t1]; exact Z41⟩
  rintro s21 w22 ⟨h22, jy, es, hjy, dY, Z22⟩ _
  subst es
  dsimp only
  have ll := congrArg List.length eM
  rw [List.length_append] at ll
  have lt := dw_sum hr
  have lx' := congrArg List.length dX
  have ly' := congrArg List.length dY
  rw [List.length_drop] at lx' ly'
  rw [List.length_drop, List.length_drop] at lt
  refine rd_boxN Z22 (by kernel_rfl) rfl ?_
  refine RB.app (p := (r, tw r (X.drop i), tw r (Y.drop k))) tyG (by decide) (hM.up h22) (b7.trans h22) Rr rfl rfl (Nat.le_refl _) (b7.trans h22).size (by omega) fun h' w27 hM' b27 => ?_
  refine hag (jx, jy, M ++ [(r, tw r (X.drop i), tw r (Y.drop k))]) _ _ ⟨rfl, hjx, hjy, hM', b27, ?_⟩ (by dsimp only; omega)
  dsimp only
  rw [List.append_assoc, List.singleton_append, ← dX, ← dY, ← em]; exact eM
end Go.Proofs.Ytalagcggmbeddaa

/- The specification: the operations on bags. -/

namespace Go.Proofs.Ytalagcggmbeddaa
open Go.RowKit Go.Q Go.V Go.Bag
theorem ad0 (ad : Addr) : ad.add 0 = ad := by unfold Addr.add; split <;> simp_all
section
variable {a w : World} {h : Hdr} {M : List Rn}
theorem Runs.fldE (hb : bel a w) (H : Runs a h M) {i : Int} {j : Nat} {p : Rn} (hj : i = (j : Int)) (hp : M[j]? = some p) {K : Addr → Prop} (hk : ∀ (ad : Addr) (x : Hdr), RowAt a x p.1 → (∀ o v, [hv x, .int .i64 (p.2.1 : Int), .int .i64 (p.2.2 : Int)][o]? = some v → w.cell? (ad.add o) = some v) → K ad) :
    rdp Try.prog (Instr.indexAt 40 (.slice h.1 h.2.1 h.2.2) (.int .i64 i)) (.one .addr) K := by
  obtain ⟨hs, h1, h2, h3⟩ := H.ex
  have hjl := (List.getElem?_eq_some_iff.1 hp).1
  obtain ⟨x, hx⟩ : ∃ x, hs[j]? = some x := ⟨_, List.getElem?_eq_getElem (by omega)⟩
  obtain ⟨e1, e2, hR⟩ := h3 j x _ hx hp
  obtain ⟨x, m, n⟩ := x
  dsimp only at e1 e2
  subst e1 e2
  exact idx_agg tyG encG_len (by omega) (h2.up hb) hj hx fun ad hc => hk ad x hR hc
theorem Runs.row (hb : bel a w) (H : Runs a h M) {i : Int} {j : Nat} {p : Rn} (hj : i = (j : Int)) (hp : M[j]? = some p) {K : Hdr → Prop} (hk : ∀ x : Hdr, RowAt a x p.1 → K x) :
    rdp Try.prog (Instr.indexAt 40 (.slice h.1 h.2.1 h.2.2) (.int .i64 i)) (.one .addr) fun ad => rd Try.prog (Instr.loadAt 24 (.pointer (some ad))) (.one .slice) w K :=
  Runs.fldE hb H hj hp fun ad x R hc => rd_cell (by kernel_rfl) (by have := hc 0 (hv x) rfl; rwa [ad0] at this) rfl (hk x R)
theorem Runs.m1 (hb : bel a w) (H : Runs a h M) {i : Int} {j : Nat} {p : Rn} (hj : i = (j : Int)) (hp : M[j]? = some p) {K : Int → Prop} (hk : K (p.2.1 : Int)) :
    rdp Try.prog (Instr.indexAt 40 (.slice h.1 h.2.1 h.2.2) (.int .i64 i)) (.one .addr) fun ad => rd Try.prog (Instr.loadAt 3 (.pointer (some (ad.add 1)))) (.one (.int .i64)) w K :=
  Runs.fldE hb H hj hp fun _ _ _ hc => rd_cell (by kernel_rfl) (hc 1 _ rfl) rfl hk
theorem Runs.m2 (hb : bel a w) (H : Runs a h M) {i : Int} {j : Nat} {p : Rn} (hj : i = (j : Int)) (hp : M[j]? = some p) {K : Int → Prop} (hk : K (p.2.2 : Int)) :
    rdp Try.prog (Instr.indexAt 40 (.slice h.1 h.2.1 h.2.2) (.int .i64 i)) (.one .addr) fun ad => rd Try.prog (Instr.loadAt 3 (.pointer (some (ad.add 2)))) (.one (.int .i64)) w K :=
  Runs.fldE hb H hj hp fun _ _ _ hc => rd_cell (by kernel_rfl) (hc 2 _ rfl) rfl hk
theorem timesF {T : List Rw} {x : Hdr} {r : Rw} (hb : bel a w) (H : TB w a.heap.size h T) (R : RowAt a x r) (n : Int) (m : Nat) (hm : n.toNat = m) (hl : T.length + m ≤ 1000000) (hr : r.length ≤ 1000000) :
    call Try.prog 33 [.slice h.1 h.2.1 h.2.2, .slice x.1 x.2.1 x.2.2, .int .i64 n] (.one (.one .slice)) w (fun (h' : Hdr) w' => TB w' a.heap.size h' (T ++ List.replicate m r) ∧ bel a w') := by
  refine call_of (S33_calls h.1 h.2.1 h.2.2 x.1 x.2.1 x.2.2 n w _ ?_)
  unfold S33
  refine loop_upA m (fun k (h' : Hdr) w' => bel a w' ∧ TB w' a.heap.size h' (T ++ List.replicate k r)) ⟨hb, by rw [List.replicate_zero, List.append_nil]; exact H⟩ fun k h' w3 hk ⟨b3, H3⟩ again hag _ => ?_
  refine br_dec (fun e => ?_) (fun e => ?_)
  · dsimp only at e
    refine call_mono (copiedF x r w3 (R.up b3) hr) fun (y : Hdr) w5 ⟨hy, hf, h5⟩ => ?_
    have F := H3.fresh hf
    have b5 := b3.trans h5
    refine (H3.up h5).app hy F b5.size (by rw [List.length_append, List.length_replicate]; omega) fun h'' w9 H9 g _ => ?_
    refine z_i64 (by dsimp only; omega) ?_
    refine hag h'' w9 (by omega) ⟨(H3.up h5).bel b5 g (Nat.le_refl _), ?_⟩
    rw [List.append_assoc, ← List.replicate_succ'] at H9; exact H9
  · dsimp only at e
    have : k = m := by omega
    subst this
    exact ⟨h', rfl, H3, b3⟩
end
theorem oneF (b : Bool) (w : World) : call Try.prog 43 [.bool b] (.one (.one (.int .i64))) w (fun (n : Int) w' => n = (if b then 1 else 0) ∧ bel w w') := by
  refine call_of (S43_calls b w _ ?_)
  unfold S43
  refine br_mk (fun e => ⟨_, rfl, by rw [e]; rfl, bel.refl _⟩) (fun e => ⟨_, rfl, by rw [e]; rfl, bel.refl _⟩)
theorem RUnionF (a b : Hdr) (A B : List Rw) (all : Bool) (w : World) (HA : TabW w a A) (HB : TabW w b B) (wa : Wd 100000 A) (wb : Wd 100000 B) :
    call Try.prog 14 [.slice a.1 a.2.1 a.2.2, .slice b.1 b.2.1 b.2.2, .bool all] (.one (.one .slice)) w (fun (x : Hdr) w' => TabW w' x (comb (tU all) (G cmpR A B)) ∧ bel w w') := by
  refine call_of (S14_calls a.1 a.2.1 a.2.2 b.1 b.2.1 b.2.2 all w _ ?_)
  unfold S14
  have la := wa.1
  have lb := wb.1
  refine call_mono (groupsF a b A B w HA HB wa wb) fun (x1 : Hdr) w2 ⟨HM, b2⟩ => ?_
  have hcl := combG_len (c := cmpR) (t := tU all) (fun m n h => (t_le all m n h).1) A B
  have lM := HM.len
  refine loop_upA (G cmpR A B).length (fun i (h : Hdr) w' => bel w2 w' ∧ TB w' w2.heap.size h (comb (tU all) ((G cmpR A B).take i))) ⟨bel.refl _, TB.nil _ _⟩ fun i h w5 hi ⟨b5, hT⟩ again hag _ => ?_
  refine br_dec (fun e => ?_) (fun e => ?_)
  · dsimp only at e
    obtain ⟨p, hp⟩ : ∃ p, (G cmpR A B)[i]? = some p := ⟨_, List.getElem?_eq_getElem (by omega)⟩
    obtain ⟨c1, c2, c3⟩ := G_cnt hp
    have hlr := G_wide wa wb hp
    have htk := comb_take (tU all) hp
    have hle := comb_le (tU all) (G cmpR A B) (i + 1)
    rw [htk, List.length_append, List.length_replicate] at hle
    refine join_mk (fun (s : Hdr × Unit) w' => bel w2 w' ∧ TB w' w2.heap.size s.1 (comb (tU all) ((G cmpR A B).take (i + 1)))) (fun K6 hK6 => ?_) ?_
    · refine join_mk (fun s w' => bel w5 w' ∧ s.1 = ((tU all p.2.1 p.2.2 : Nat) : Int)) (fun K10 hK10 => ?_) ?_
      · refine br_mk (fun ea => ?_) (fun ea => hK10 _ _ ⟨bel.refl _, by rw [ea]; rfl⟩)
        refine drw_mk fun w17 h17 _ => ?_
        refine Runs.m1 (b5.trans h17) HM rfl hp ?_
        refine Runs.m2 (b5.trans h17) HM rfl hp ?_
        refine z_i64 (by omega) ?_
        exact hK10 _ _ ⟨h17, by rw [ea]; unfold tU; simp⟩
      · rintro ⟨s, ⟨⟩⟩ w12 ⟨h12, es⟩ _
        dsimp only at es ⊢
        refine Runs.row (b5.trans h12) HM rfl hp fun x R => ?_
        refine call_mono (timesF (b5.trans h12) (hT.up h12) R s (tU all p.2.1 p.2.2) (by omega) (by omega) hlr) fun (h' : Hdr) w16 ⟨hT', b16⟩ => ?_
        exact hK6 _ _ ⟨b16, by rw [htk]; exact hT'⟩
    · rintro ⟨s, ⟨⟩⟩ w8 ⟨b8, hT8⟩ _
      refine z_i64 (by dsimp only; omega) ?_
      exact hag s w8 (by omega) ⟨b8, hT8⟩
  · dsimp only at e
    have : i = (G cmpR A B).length := by omega
    subst this
    rw [List.take_length] at hT
    exact ⟨h, rfl, hT.tab, b2.trans b5⟩
theorem RExceptF (a b : Hdr) (A B : List Rw) (all : Bool) (w : World) (HA : TabW w a A) (HB : TabW w b B) (wa : Wd 100000 A) (wb : Wd 100000 B) :
    call Try.prog 26 [.slice a.1 a.2.1 a.2.2, .slice b.1 b.2.1 b.2.2, .bool all] (.one (.one .slice)) w (fun (x : Hdr) w' => TabW w' x (comb (tE all) (G cmpR A B)) ∧ bel w w') := by
  refine call_of (S26_calls a.1 a.2.1 a.2.2 b.1 b.2.1 b.2.2 all w _ ?_)
  unfold S26
  have la := wa.1
  have lb := wb.1
  refine call_mono (groupsF a b A B w HA HB wa wb) fun (x1 : Hdr) w2 ⟨HM, b2⟩ => ?_
  have hcl := combG_len (c := cmpR) (t := tE all) (fun m n h => (t_le all m n h).2.1) A B
  have lM := HM.len
  refine loop_upA (G cmpR A B).length (fun i (h : Hdr) w' => bel w2 w' ∧ TB w' w2.heap.size h (comb (tE all) ((G cmpR A B).take i))) ⟨bel.refl _, TB.nil _ _⟩ fun i h w5 hi ⟨b5, hT⟩ again hag _ => ?_
  refine br_dec (fun e => ?_) (fun e => ?_)
  · dsimp only at e
    obtain ⟨p, hp⟩ : ∃ p, (G cmpR A B)[i]? = some p := ⟨_, List.getElem?_eq_getElem (by omega)⟩
    obtain ⟨c1, c2, c3⟩ := G_cnt hp
    have hlr := G_wide wa wb hp
    have htk := comb_take (tE all) hp
    have hle := comb_le (tE all) (G cmpR A B) (i + 1)
    rw [htk, List.length_append, List.length_replicate] at hle
    refine join_mk (fun (s : Hdr × Unit) w' => bel w2 w' ∧ TB w' w2.heap.size s.1 (comb (tE all) ((G cmpR A B).take (i + 1)))) (fun K6 hK6 => ?_) ?_
    · refine join_mk (fun s w' => bel w5 w' ∧ s.1 = ((tE false p.2.1 p.2.2 : Nat) : Int)) (fun K10 hK10 => ?_) ?_
      · refine Runs.m1 b5 HM rfl hp ?_
        refine br_dec (fun e2 => ?_) (fun e2 => ?_)
        · refine Runs.m2 b5 HM rfl hp ?_
          refine call_mono (oneF _ w5) fun (t : Int) w31 ⟨et, h31⟩ => hK10 _ _ ⟨h31, ?_⟩
          dsimp only
          rw [et, tE_f]
          by_cases z : p.2.2 = 0
          · rw [z, if_pos (by rfl), if_pos ⟨by omega, rfl⟩]; rfl
          · rw [if_neg (by simp; omega), if_neg (fun q => z q.2)]; rfl
        · refine call_mono (oneF _ w5) fun (t : Int) w31 ⟨et, h31⟩ => hK10 _ _ ⟨h31, ?_⟩
          dsimp only
          rw [et, tE_f, if_neg (by simp), if_neg (fun q => e2 (by have := q.1; omega))]; rfl
      · rintro ⟨s11, ⟨⟩⟩ w12 ⟨h12, es⟩ _
        dsimp only at es ⊢
        subst es
        refine join_mk (fun (s : Int × Unit) w' => bel w5 w' ∧ s.1.toNat = tE all p.2.1 p.2.2) (fun K13 hK13 => ?_) ?_
        · refine br_mk (fun ea => ?_) (fun ea => hK13 _ _ ⟨h12, by rw [ea]; rfl⟩)
          refine drw_mk fun w20 h20 _ => ?_
          have b20 := h12.trans h20
          refine Runs.m1 (b5.trans b20) HM rfl hp ?_
          refine Runs.m2 (b5.trans b20) HM rfl hp ?_
          refine z_i64 (by omega) ?_
          refine hK13 _ _ ⟨b20, ?_⟩
          rw [ea]; unfold tE; rw [if_pos rfl]; dsimp only; omega
        · rintro ⟨s, ⟨⟩⟩ w15 ⟨h15, es⟩ _
          dsimp only at es ⊢
          refine Runs.row (b5.trans h15) HM rfl hp fun x R => ?_
          refine call_mono (timesF (b5.trans h15) (hT.up h15) R s (tE all p.2.1 p.2.2) es (by omega) hlr) fun (h' : Hdr) w16 ⟨hT', b16⟩ => ?_
          exact hK6 _ _ ⟨b16, by rw [htk]; exact hT'⟩
    · rintro ⟨s, ⟨⟩⟩ w8 ⟨b8, hT8⟩ _
      refine z_i64 (by dsimp only; omega) ?_
      exact hag s w8 (by omega) ⟨b8, hT8⟩
  · dsimp only at e
    have : i = (G cmpR A B).length := by omega
    subst this
    rw [List.take_length] at hT
    exact ⟨h, rfl, hT.tab, b2.trans b5⟩
theorem RIntersectF (a b : Hdr) (A B : List Rw) (all : Bool) (w : World) (HA : TabW w a A) (HB : TabW w b B) (wa : Wd 100000 A) (wb : Wd 100000 B) :
    call Try.prog 27 [.slice a.1 a.2.1 a.2.2, .slice b.1 b.2.1 b.2.2, .bool all] (.one (.one .slice)) w (fun (x : Hdr) w' => TabW w' x (comb (tI all) (G cmpR A B)) ∧ bel w w') := by
  refine call_of (S27_calls a.1 a.2.1 a.2.2 b.1 b.2.1 b.2.2 all w _ ?_)
  unfold S27
  have la := wa.1
  have lb := wb.1
  refine call_mono (groupsF a b A B w HA HB wa wb) fun (x1 : Hdr) w2 ⟨HM, b2⟩ => ?_
  have hcl := combG_len (c := cmpR) (t := tI all) (fun m n h => (t_le all m n h).2.2) A B
  have lM := HM.len
  refine loop_upA (G cmpR A B).length (fun i (h : Hdr) w' => bel w2 w' ∧ TB w' w2.heap.size h (comb (tI all) ((G cmpR A B).take i))) ⟨bel.refl _, TB.nil _ _⟩ fun i h w5 hi ⟨b5, hT⟩ again hag _ => ?_
  refine br_dec (fun e => ?_) (fun e => ?_)
  · dsimp only at e
    obtain ⟨p, hp⟩ : ∃ p, (G cmpR A B)[i]? = some p := ⟨_, List.getElem?_eq_getElem (by omega)⟩
    obtain ⟨c1, c2, c3⟩ := G_cnt hp
    have hlr := G_wide wa wb hp
    have htk := comb_take (tI all) hp
    have hle := comb_le (tI all) (G cmpR A B) (i + 1)
    rw [htk, List.length_append, List.length_replicate] at hle
    refine join_mk (fun (s : Hdr × Unit) w' => bel w2 w' ∧ TB w' w2.heap.size s.1 (comb (tI all) ((G cmpR A B).take (i + 1)))) (fun K6 hK6 => ?_) ?_
    · refine drw_mk fun w10 h10 _ => ?_
      refine Runs.m1 (b5.trans h10) HM rfl hp ?_
      refine Runs.m2 (b5.trans h10) HM rfl hp ?_
      have emin : (if (p.2.2 : Int) < p.2.1 then (p.2.2 : Int) else p.2.1) = ((min p.2.1 p.2.2 : Nat) : Int) := by split <;> omega
      rw [emin]
      unfold z
      refine join_mk (fun (s : Int × Unit) w' => bel w5 w' ∧ s.1.toNat = tI all p.2.1 p.2.2) (fun K16 hK16 => ?_) ?_
      · refine br_not (fun ea => ?_) (fun ea => hK16 _ _ ⟨h10, by rw [ea]; unfold tI; rw [if_pos rfl]; dsimp only; omega⟩)
        refine call_mono (oneF _ w10) fun (t : Int) w24 ⟨et, h24⟩ => hK16 _ _ ⟨h10.trans h24, ?_⟩
        dsimp only
        rw [et, ea, tI_f]
        by_cases z : p.2.1 > 0 ∧ p.2.2 > 0
        · rw [if_pos (by simp; omega), if_pos z]; rfl
        · rw [if_neg (by simp; omega), if_neg z]; rfl
      · rintro ⟨s, ⟨⟩⟩ w18 ⟨h18, es⟩ _
        dsimp only at es ⊢
        refine Runs.row (b5.trans h18) HM rfl hp fun x R => ?_
        refine call_mono (timesF (b5.trans h18) (hT.up h18) R s (tI all p.2.1 p.2.2) es (by omega) hlr) fun (h' : Hdr) w16 ⟨hT', b16⟩ => ?_
        exact hK6 _ _ ⟨b16, by rw [htk]; exact hT'⟩
    · rintro ⟨s, ⟨⟩⟩ w8 ⟨b8, hT8⟩ _
      refine z_i64 (by dsimp only; omega) ?_
      exact hag s w8 (by omega) ⟨b8, hT8⟩
  · dsimp only at e
    have : i = (G cmpR A B).length := by omega
    subst this
    rw [List.take_length] at hT
    exact ⟨h, rfl, hT.tab, b2.trans b5⟩
theorem RDistinctF (a : Hdr) (A : List Rw) (w : World) (HA : TabW w a A) (wa : Wd 100000 A) :
    call Try.prog 13 [.slice a.1 a.2.1 a.2.2] (.one (.one .slice)) w (fun (x : Hdr) w' => TabW w' x (comb (tU false) (G cmpR A [])) ∧ bel w w') := by
  refine call_of (S13_calls a.1 a.2.1 a.2.2 w _ ?_)
  unfold S13
  refine call_mono (RUnionF a (none, 0, 0) A [] false w HA (TabW.nil w) wa ⟨Nat.zero_le _, fun r h => by cases h⟩) fun (x : Hdr) w2 ⟨H, h2⟩ => ⟨x, rfl, H, h2⟩
theorem any_at {M : List Rn} {i : Nat} {p : Rn} (f : Rn → Bool) (h : M[i]? = some p) : (M.drop i).any f = (f p || (M.drop (i + 1)).any f) := by
  rw [drop_at h, List.any_cons]
theorem RContainsF (a b : Hdr) (A B : List Rw) (w : World) (HA : TabW w a A) (HB : TabW w b B) (wa : Wd 100000 A) (wb : Wd 100000 B) :
    call Try.prog 24 [.slice a.1 a.2.1 a.2.2, .slice b.1 b.2.1 b.2.2] (.one (.one .bool)) w (fun (t : Bool) w' => t = !(G cmpR A B).any pLt ∧ bel w w') := by
  refine call_of (S24_calls a.1 a.2.1 a.2.2 b.1 b.2.1 b.2.2 w _ ?_)
  unfold S24
  have la := wa.1
  have lb := wb.1
  refine call_mono (groupsF a b A B w HA HB wa wb) fun (x1 : Hdr) w2 ⟨HM, b2⟩ => ?_
  have hcl := combG_len (c := cmpR) (t := tU true) (fun m n h => (t_le true m n h).1) A B
  have lM := HM.len
  refine loop_up (G cmpR A B).length (fun i w' => bel w2 w' ∧ (G cmpR A B).any pLt = ((G cmpR A B).drop i).any pLt) ⟨bel.refl _, rfl⟩ fun i w5 hi ⟨b5, hd⟩ again hag _ => ?_
  refine br_dec (fun e => ?_) (fun e => ?_)
  · dsimp only at e
    obtain ⟨p, hp⟩ : ∃ p, (G cmpR A B)[i]? = some p := ⟨_, List.getElem?_eq_getElem (by omega)⟩
    rw [any_at pLt hp] at hd
    refine drw_mk fun w6 h6 _ => ?_
    refine Runs.m1 (b5.trans h6) HM rfl hp ?_
    refine Runs.m2 (b5.trans h6) HM rfl hp ?_
    refine br_dec (fun q => ⟨_, rfl, ?_, b2.trans (b5.trans h6)⟩) (fun q => ?_)
    · rw [hd, show pLt p = true from decide_eq_true (by omega)]; rfl
    · rw [show pLt p = false from decide_eq_false (by omega), Bool.false_or] at hd
      refine z_i64 (by dsimp only; omega) ?_
      exact hag _ (by omega) ⟨b5.trans h6, hd⟩
  · dsimp only at e
    rw [List.drop_of_length_le (by omega)] at hd
    exact ⟨_, rfl, by rw [hd]; rfl, b2.trans b5⟩
theorem RDifferenceF (a b : Hdr) (A B : List Rw) (w : World) (HA : TabW w a A) (HB : TabW w b B) (wa : Wd 100000 A) (wb : Wd 100000 B) :
    call Try.prog 23 [.slice a.1 a.2.1 a.2.2, .slice b.1 b.2.1 b.2.2] (.many [(.one .slice), (.one (.int .i64)), (.one (.int .i64))]) w (fun (x : Hdr × Int × Int × Unit) w' => (RowAt w' x.1 (difD (G cmpR A B)).1 ∧ x.2.1 = ((difD (G cmpR A B)).2.1 : Int) ∧ x.2.2.1 = ((difD (G cmpR A B)).2.2 : Int)) ∧ bel w w') := by
  refine call_of (S23_calls a.1 a.2.1 a.2.2 b.1 b.2.1 b.2.2 w _ ?_)
  unfold S23
  have la := wa.1
  have lb := wb.1
  refine call_mono (groupsF a b A B w HA HB wa wb) fun (x1 : Hdr) w2 ⟨HM, b2⟩ => ?_
  have hcl := combG_len (c := cmpR) (t := tU true) (fun m n h => (t_le true m n h).1) A B
  have lM := HM.len
  refine loop_up (G cmpR A B).length (fun i w' => bel w2 w' ∧ difD (G cmpR A B) = difD ((G cmpR A B).drop i)) ⟨bel.refl _, rfl⟩ fun i w5 hi ⟨b5, hd⟩ again hag _ => ?_
  refine br_dec (fun e => ?_) (fun e => ?_)
  · dsimp only at e
    obtain ⟨p, hp⟩ : ∃ p, (G cmpR A B)[i]? = some p := ⟨_, List.getElem?_eq_getElem (by omega)⟩
    rw [find_at hp] at hd
    refine drw_mk fun w6 h6 _ => ?_
    refine Runs.m1 (b5.trans h6) HM rfl hp ?_
    refine Runs.m2 (b5.trans h6) HM rfl hp ?_
    refine br_ne (fun q => ?_) (fun q => ?_)
    · refine drw_mk fun w11 h11 _ => ?_
      have b11 := b5.trans (h6.trans h11)
      refine Runs.row b11 HM rfl hp fun x R => ?_
      refine Runs.m1 b11 HM rfl hp ?_
      refine Runs.m2 b11 HM rfl hp ?_
      rw [if_pos (show pNe p = true from bne_iff_ne.2 (by omega))] at hd
      rw [hd]
      exact ⟨(x, (p.2.1 : Int), (p.2.2 : Int), ()), rfl, ⟨R.up b11, rfl, rfl⟩, b2.trans b11⟩
    · rw [if_neg (show ¬ pNe p = true from fun q' => bne_iff_ne.1 q' (by omega))] at hd
      refine z_i64 (by dsimp only; omega) ?_
      exact hag _ (by omega) ⟨b5.trans h6, hd⟩
  · dsimp only at e
    rw [List.drop_of_length_le (by omega)] at hd
    rw [hd]
    exact ⟨((none, 0, 0), (0 : Int), (0 : Int), ()), rfl, ⟨(Own.nil w5 0 47 3).sl, rfl, rfl⟩, b2.trans b5⟩
theorem RCountF (a x : Hdr) (A : List Rw) (s : Rw) (w : World) (HA : TabW w a A) (HR : RowAt w x s) (hl : A.length ≤ 1000000) :
    call Try.prog 12 [.slice a.1 a.2.1 a.2.2, .slice x.1 x.2.1 x.2.2] (.one (.one (.int .i64))) w (fun (n : Int) w' => n = (cn A s : Nat) ∧ bel w w') := by
  refine call_of (S12_calls a.1 a.2.1 a.2.2 x.1 x.2.1 x.2.2 w _ ?_)
  unfold S12
  have la := HA.len
  refine loop_upA A.length (fun i (n : Int) w' => bel w w' ∧ n = (cn (A.take i) s : Nat)) ⟨bel.refl _, rfl⟩ fun i n w3 hi ⟨hb, hn⟩ again hag _ => ?_
  subst hn
  refine br_dec (fun e => ?_) (fun e => ?_)
  · dsimp only at e
    obtain ⟨r, hr⟩ : ∃ r, A[i]? = some r := ⟨_, List.getElem?_eq_getElem (by omega)⟩
    have hc := cn_suc hr s
    have hle := cn_le (A.take (i + 1)) s
    rw [List.length_take] at hle
    refine join_mk (fun (v : Int × Unit) w' => bel w w' ∧ v.1 = ((cn (A.take (i + 1)) s : Nat) : Int)) (fun K4 hK4 => ?_) ?_
    · refine TabW.atE hb HA (j := i) rfl (by omega) fun y r' hr' R => ?_
      rw [hr] at hr'; cases hr'
      refine call_mono (rows01 y x r s w3 (R.up hb) (HR.up hb)) fun (n : Int) w7 ⟨en, h7⟩ => ?_
      subst en
      refine br_eq (fun q => ?_) (fun q => ?_)
      · rw [if_pos ((cmpR_to.eq r s).1 q)] at hc
        refine z_i64 (by dsimp only; omega) ?_
        exact hK4 _ _ ⟨hb.trans h7, by dsimp only; omega⟩
      · rw [if_neg (fun z => q ((cmpR_to.eq r s).2 z))] at hc
        exact hK4 _ _ ⟨hb.trans h7, by dsimp only; omega⟩
    · rintro ⟨v, ⟨⟩⟩ w6 ⟨b6, ev⟩ _
      refine z_i64 (by dsimp only; omega) ?_
      exact hag _ _ (by omega) ⟨b6, ev⟩
  · dsimp only at e
    have : i = A.length := by omega
    subst this
    rw [List.take_length]
    exact ⟨_, rfl, rfl, hb⟩
theorem EqualF (a b : Hdr) (A B : List Rw) (w : World) (HA : TabW w a A) (HB : TabW w b B) (hl : A.length ≤ 1000000) :
    call Try.prog 16 [.slice a.1 a.2.1 a.2.2, .slice b.1 b.2.1 b.2.2] (.one (.one .bool)) w (fun (t : Bool) w' => (A = B → t = true) ∧ bel w w') := by
  refine call_of (S16_calls a.1 a.2.1 a.2.2 b.1 b.2.1 b.2.2 w _ ?_)
  unfold S16
  have la := HA.len
  have lb := HB.len
  refine br_ne (fun q => ⟨_, rfl, fun e => (by subst e; omega), bel.refl _⟩) (fun q => ?_)
  refine loop_up A.length (fun i w' => bel w w') (bel.refl _) fun i w3 hi b3 again hag _ => ?_
  refine br_dec (fun e => ?_) (fun e => ⟨_, rfl, fun _ => rfl, b3⟩)
  dsimp only at e
  refine drw_mk fun w4 h4 _ => ?_
  have b4 := b3.trans h4
  refine TabW.atE b4 HA (j := i) rfl (by omega) fun y r hr R => ?_
  refine TabW.atE b4 HB (j := i) rfl (by omega) fun y' r' hr' R' => ?_
  refine call_mono (rows01 y y' r r' w4 (R.up b4) (R'.up b4)) fun (n : Int) w10 ⟨en, h10⟩ => ?_
  subst en
  refine br_ne (fun q => ⟨_, rfl, fun e' => ?_, b4.trans h10⟩) (fun q => ?_)
  · subst e'
    rw [hr] at hr'; cases hr'
    exact absurd ((cmpR_to.eq r r).2 rfl) q
  · refine z_i64 (by dsimp only; omega) ?_
    exact hag _ (by omega) (b4.trans h10)
/-- few rows -/
theorem FewF (a : Hdr) (A : List Rw) (w : World) (HA : TabW w a A) :
    call Try.prog 8 [.slice a.1 a.2.1 a.2.2] (.one (.one .bool)) w (fun (t : Bool) w' => (t = true → A.length ≤ 80 ∧ ∀ r ∈ A, r.length ≤ 20) ∧ bel w w') := by
  refine call_of (S8_calls a.1 a.2.1 a.2.2 w _ ?_)
  unfold S8
  have la := HA.len
  refine br_dec (fun q => ⟨_, rfl, fun e => (by cases e), bel.refl _⟩) (fun q => ?_)
  refine loop_up A.length (fun i w' => bel w w' ∧ ∀ j, j < i → ∀ r, A[j]? = some r → r.length ≤ 20) ⟨bel.refl _, pre_zero⟩ fun i w3 hi ⟨b3, h3⟩ again hag _ => ?_
  refine br_dec (fun e => ?_) (fun e => ⟨_, rfl, fun _ => ⟨by omega, pre_all h3 (by dsimp only at e; omega)⟩, b3⟩)
  dsimp only at e
  refine TabW.atE b3 HA (j := i) rfl (by omega) fun y r hr R => ?_
  have lr := RowAt.len R
  refine br_dec (fun q => ⟨_, rfl, fun e => (by cases e), b3⟩) (fun q => ?_)
  refine z_i64 (by dsimp only; omega) ?_
  exact hag _ (by omega) ⟨b3, pre_step h3 hr (by omega)⟩
end Go.Proofs.Ytalagcggmbeddaa

/- Bags counted; the arguments; the statements Exact and Tells. -/


namespace Go.Bag
section
variable {α : Type} {c : α → α → Int} [DecidableEq α]
theorem perm_cn {A B : List α} : A.Perm B ↔ ∀ r, cn A r = cn B r := List.perm_iff_count
theorem cn_app (A B : List α) (r : α) : cn (A ++ B) r = cn A r + cn B r := List.count_append ..
theorem comb_cn (H : TO c) (t : Nat → Nat → Nat) (A B : List α) (r : α) : cn (comb t (G c A B)) r = if 0 < cn A r + cn B r then t (cn A r) (cn B r) else 0 := comb_G H t A B r
theorem cU (H : TO c) (A B : List α) (r : α) : cn (comb (tU true) (G c A B)) r = cn A r + cn B r := by
  rw [comb_cn H]; unfold tU
  split
  · rfl
  · omega
theorem cE (H : TO c) (A B : List α) (r : α) : cn (comb (tE true) (G c A B)) r = cn A r - cn B r := by
  rw [comb_cn H]; unfold tE
  split
  · rfl
  · omega
theorem cI (H : TO c) (A B : List α) (r : α) : cn (comb (tI true) (G c A B)) r = min (cn A r) (cn B r) := by
  rw [comb_cn H]; unfold tI
  split
  · rfl
  · omega
theorem cD (H : TO c) (A B : List α) (r : α) : cn (comb (tU false) (G c A B)) r = if 0 < cn A r + cn B r then 1 else 0 := by
  rw [comb_cn H]; unfold tU
  split <;> simp
omit [DecidableEq α] in
theorem find_first {M : List (α × Nat × Nat)} {f : α × Nat × Nat → Bool} {D : α × Nat × Nat} (hp : M.Pairwise fun p q => c p.1 q.1 < 0) (h : M.find? f = some D) : ∀ p ∈ M, f p = true → p = D ∨ c D.1 p.1 < 0 := by
  induction M with
  | nil => cases h
  | cons q M ih =>
    have hp' := List.pairwise_cons.1 hp
    intro p hm hf
    rw [List.find?_cons] at h
    cases hq : f q with
    | true =>
      rw [hq] at h
      cases h
      rcases List.mem_cons.1 hm with e | e
      · exact .inl e
      · exact .inr (hp'.1 p e)
    | false =>
      rw [hq] at h
      rcases List.mem_cons.1 hm with e | e
      · subst e; rw [hq] at hf; cases hf
      · exact ih hp'.2 h p e hf
end
end Go.Bag
namespace Go.Proofs.Ytalagcggmbeddaa
open Go.RowKit Go.Q Go.V Go.Bag
theorem same_iff (A B : List Rw) : (!(G cmpR A B).any pNe) = true ↔ A.Perm B := by
  rw [Bool.not_eq_true', perm_cn]
  exact any_ne cmpR_to A B
theorem cont_iff (A B : List Rw) : (!(G cmpR A B).any pLt) = true ↔ ∀ r, cn B r ≤ cn A r := by
  rw [Bool.not_eq_true']
  exact any_lt cmpR_to A B
theorem wd_comb {k k' : Nat} {A B : List Rw} (t : Nat → Nat → Nat) (ht : ∀ m n, 0 < m + n → t m n ≤ m + n) (wa : Wd k A) (wb : Wd k' B) : Wd (k + k') (comb t (G cmpR A B)) := by
  refine ⟨Nat.le_trans (combG_len ht A B).1 (Nat.add_le_add wa.1 wb.1), fun r hr => ?_⟩
  unfold comb at hr
  obtain ⟨p, hp, hq⟩ := List.mem_flatMap.1 hr
  rw [(List.mem_replicate.1 hq).2]
  exact (G_mem cmpR_to hp).elim (wa.2 _) (wb.2 _)
theorem wdU {k k' : Nat} {A B : List Rw} (all : Bool) (wa : Wd k A) (wb : Wd k' B) : Wd (k + k') (comb (tU all) (G cmpR A B)) := wd_comb _ (fun m n h => (t_le all m n h).1) wa wb
theorem wdE {k k' : Nat} {A B : List Rw} (all : Bool) (wa : Wd k A) (wb : Wd k' B) : Wd (k + k') (comb (tE all) (G cmpR A B)) := wd_comb _ (fun m n h => (t_le all m n h).2.1) wa wb
theorem wdI {k k' : Nat} {A B : List Rw} (all : Bool) (wa : Wd k A) (wb : Wd k' B) : Wd (k + k') (comb (tI all) (G cmpR A B)) := wd_comb _ (fun m n h => (t_le all m n h).2.2) wa wb
theorem Wd.up {k k' : Nat} {A : List Rw} (h : Wd k A) (hk : k ≤ k') : Wd k' A := ⟨Nat.le_trans h.1 hk, h.2⟩
theorem Wd.nil (k : Nat) : Wd k [] := ⟨Nat.zero_le _, fun r h => by cases h⟩
theorem wd_few {A : List Rw} (h : A.length ≤ 80 ∧ ∀ r ∈ A, r.length ≤ 20) : Wd 80 A := ⟨h.1, fun r hr => by have := h.2 r hr; omega⟩
/-! ### arguments -/
set_option maxRecDepth 100000 in
theorem readV {w : World} {ch : List Value} (h : Go.Q.Read Try.prog w 47 ch) : ∃ p : V3, ch = encV p ∧ True := by
  obtain ⟨hl, h⟩ := Go.Q.Read.struct Try.underlying47 h
  have hsz' : ch.length = 3 := by rw [hl]; kernel_rfl
  obtain ⟨x, y, z, rfl⟩ : ∃ x y z, ch = [x, y, z] := by
    rcases ch with _ | ⟨x, _ | ⟨y, _ | ⟨z, _ | ⟨u, l⟩⟩⟩⟩ <;> simp at hsz'
    exact ⟨x, y, z, rfl⟩
  have e1 : Go.Q.Read Try.prog w 3 [x] := h _ (List.mem_cons_self ..)
  have e2 : Go.Q.Read Try.prog w 2 [y] := h _ (List.mem_cons_of_mem _ (List.mem_cons_self ..))
  have e3 : Go.Q.Read Try.prog w 9 [z] := h _ (List.mem_cons_of_mem _ (List.mem_cons_of_mem _ (List.mem_cons_self ..)))
  obtain ⟨n, hn, _⟩ := Go.Q.Read.int Try.underlying3 e1
  obtain ⟨d, hd, _⟩ := Go.Q.Read.int Try.underlying2 e2
  obtain ⟨s, hs, _⟩ := Go.Q.Read.string Try.underlying9 e3
  cases hn; cases hd; cases hs
  exact ⟨(n, d, s), rfl, trivial⟩
set_option maxRecDepth 100000 in
theorem readRow {w : World} {ch : List Value} (h : Go.Q.Read Try.prog w 24 ch) : ∃ x : Hdr, ch = [hv x] ∧ ∃ r : Rw, RowAt w x r := by
  obtain ⟨a, n, c, L, h1, _, h3, _⟩ := Go.V.Read.elems (enc := encV) (R := fun _ => True) encV_len (by omega) (fun _ h => readV h) Try.underlying24 (by kernel_rfl) h
  exact ⟨(a, n, c), h1, L, h3⟩
theorem argRow {w : World} {v : Value} (h : Go.Q.Arg Try.prog w 24 v) : ∃ (x : Hdr) (r : Rw), v = .slice x.1 x.2.1 x.2.2 ∧ RowAt w x r := by
  obtain ⟨a, n, c, rfl, h⟩ := Go.V.Arg.slice Try.underlying24 h
  obtain ⟨x, hx, r, hr⟩ := readRow h
  cases hx
  exact ⟨x, r, rfl, hr⟩
set_option maxRecDepth 100000 in
theorem argRows {w : World} {v : Value} (h : Go.Q.Arg Try.prog w 22 v) : ∃ (x : Hdr) (A : List Rw), v = .slice x.1 x.2.1 x.2.2 ∧ TabW w x A := by
  obtain ⟨a, n, c, rfl, h⟩ := Go.V.Arg.slice Try.underlying22 h
  obtain ⟨a1, n1, c1, L, q1, _, s1, h4⟩ := Go.V.Read.ones (g := hv) (R := fun x : Hdr => ∃ r : Rw, RowAt w x r) (fun _ h => readRow h) Try.underlying22 (by kernel_rfl) h
  cases q1
  have key : ∀ L : List Hdr, (∀ x ∈ L, ∃ r : Rw, RowAt w x r) → ∃ T : List Rw, L.length = T.length ∧ ∀ (i : Nat) (x : Hdr) (r : Rw), L[i]? = some x → T[i]? = some r → RowAt w x r := by
    intro L
    induction L with
    | nil => intro _; exact ⟨[], rfl, fun i x r h => by simp at h⟩
    | cons x L ih =>
      intro h
      obtain ⟨r, hr⟩ := h x (List.mem_cons_self ..)
      obtain ⟨T, t1, t2⟩ := ih fun y hy => h y (List.mem_cons_of_mem _ hy)
      refine ⟨r :: T, by simp [t1], fun i y s q1 q2 => ?_⟩
      cases i with
      | zero => simp at q1 q2; subst q1 q2; exact hr
      | succ i => simp at q1 q2; exact t2 i y s q1 q2
  obtain ⟨T, t1, t2⟩ := key L h4
  exact ⟨(a, n, c), T, rfl, L, t1, s1, t2⟩
/-! ### Exact -/
theorem dif_pNe (M : List Rn) : ((difD M).2.1 = (difD M).2.2 ∧ M.any pNe = false ∧ difD M = ([], 0, 0)) ∨ ((difD M).2.1 ≠ (difD M).2.2 ∧ M.any pNe = true ∧ M.find? pNe = some (difD M)) := by
  unfold difD
  cases h : M.find? pNe with
  | none =>
    refine .inl ⟨rfl, ?_, rfl⟩
    rw [List.find?_eq_none] at h
    exact List.any_eq_false.2 h
  | some p =>
    have hp := List.find?_some h
    exact .inr ⟨bne_iff_ne.1 hp, List.any_eq_true.2 ⟨p, List.mem_of_find?_eq_some h, hp⟩, rfl⟩
theorem bagExact (a b : Hdr) (A B : List Rw) (all : Bool) (w : World) (HA : TabW w a A) (HB : TabW w b B) :
    Calls Try.prog 7 #[.slice a.1 a.2.1 a.2.2, .slice b.1 b.2.1 b.2.2, .bool all] w (fun e w' => e = .returned (.bool true) ∧ Below w.heap.size w w') := by
  refine Calls.mono (S7_calls a.1 a.2.1 a.2.2 b.1 b.2.1 b.2.2 all w (fun v w' => v = .bool true ∧ bel w w') ?_) (by rintro e w' ⟨v, rfl, rfl, hb⟩; exact ⟨rfl, hb⟩)
  unfold S7
  refine call_mono (FewF a A w HA) fun (x1 : Bool) w2 ⟨f1, h⟩ => ?_
  refine br_not (fun _ => ⟨rfl, h⟩) (fun e1 => ?_)
  refine call_mono (FewF b B w2 (HB.up h)) fun (x3 : Bool) w4 ⟨f3, h'⟩ => ?_
  replace h := h.trans h'
  refine br_not (fun _ => ⟨rfl, h⟩) (fun e3 => ?_)
  have wa := (wd_few (f1 e1)).up (k' := 100000) (by omega)
  have wb := (wd_few (f3 e3)).up (k' := 100000) (by omega)
  have l1 : ∀ (all : Bool), (comb (tU all) (G cmpR A B)).length ≤ 1000000 ∧ (comb (tE all) (G cmpR A B)).length ≤ 1000000 ∧ (comb (tI all) (G cmpR A B)).length ≤ 1000000 := fun all =>
    ⟨Nat.le_trans (wdU all wa wb).1 (by omega), Nat.le_trans (wdE all wa wb).1 (by omega), Nat.le_trans (wdI all wa wb).1 (by omega)⟩
  refine call_mono (DifferenceF a b A B w4 (HA.up h) (HB.up h) wa wb) ?_
  rintro (x5 : Hdr × Int × Int × Unit) w6 ⟨⟨R5, m5, n5⟩, h'⟩
  replace h := h.trans h'
  refine call_mono (RDifferenceF a b A B w6 (HA.up h) (HB.up h) wa wb) ?_
  rintro (x7 : Hdr × Int × Int × Unit) w8 ⟨⟨R7, m7, n7⟩, h'⟩
  replace h := h.trans h'
  refine call_mono (rows01 x5.1 x7.1 _ _ w8 (R5.up h') R7) fun (x9 : Int) w10 ⟨e9, h'⟩ => ?_
  replace h := h.trans h'
  refine br_ne (fun q => absurd (e9.trans ((cmpR_to.eq _ _).2 rfl)) q) (fun _ => ?_)
  refine br_ne (fun q => absurd (m5.trans m7.symm) q) (fun _ => ?_)
  refine br_ne (fun q => absurd (n5.trans n7.symm) q) (fun _ => ?_)
  refine call_mono (SameF a b A B w10 (HA.up h) (HB.up h) wa wb) fun (x11 : Bool) w12 ⟨e11, h'⟩ => ?_
  replace h := h.trans h'
  have es : (x11 == (x7.2.1 == x7.2.2.1)) = true := by
    rw [e11, m7, n7]
    rcases dif_pNe (G cmpR A B) with ⟨q1, q2, _⟩ | ⟨q1, q2, _⟩
    · rw [q1, q2]; simp
    · have z : ¬ (((difD (G cmpR A B)).2.1 : Int) = ((difD (G cmpR A B)).2.2 : Int)) := by omega
      rw [q2, beq_eq_false_iff_ne.2 z]; rfl
  refine br_not (fun q => by rw [es] at q; cases q) (fun _ => ?_)
  refine call_mono (ContainsF a b A B w12 (HA.up h) (HB.up h) wa wb) fun (x13 : Bool) w14 ⟨e13, h'⟩ => ?_
  replace h := h.trans h'
  refine call_mono (RContainsF a b A B w14 (HA.up h) (HB.up h) wa wb) fun (x15 : Bool) w16 ⟨e15, h'⟩ => ?_
  replace h := h.trans h'
  refine br_not (fun q => by rw [e13, e15] at q; simp at q) (fun _ => ?_)
  refine call_mono (CanonicalF a A w16 (HA.up h) wa) fun (x17 : Hdr) w18 ⟨H17, h'⟩ => ?_
  replace h := h.trans h'
  refine call_mono (CanF A.length a A w18 rfl (HA.up h) (wa.up (by omega))) fun (x19 : Hdr) w20 ⟨H19, h'⟩ => ?_
  replace h := h.trans h'
  have lS : (sortR cmpR A).length = A.length := (sortR_perm cmpR A).length_eq
  have lA := wa.1
  refine call_mono (EqualF x17 x19 _ _ w20 (H17.up h') H19 (by omega)) fun (x21 : Bool) w22 ⟨e21, h'⟩ => ?_
  replace h := h.trans h'
  refine br_t (e21 rfl) ?_
  refine call_mono (UnionF a b A B all w22 (HA.up h) (HB.up h) wa wb) fun (x23 : Hdr) w24 ⟨H23, h'⟩ => ?_
  replace h := h.trans h'
  refine call_mono (RUnionF a b A B all w24 (HA.up h) (HB.up h) wa wb) fun (x25 : Hdr) w26 ⟨H25, h'⟩ => ?_
  replace h := h.trans h'
  refine call_mono (EqualF x23 x25 _ _ w26 (H23.up h') H25 (l1 all).1) fun (x27 : Bool) w28 ⟨e27, h'⟩ => ?_
  replace h := h.trans h'
  refine br_t (e27 rfl) ?_
  refine call_mono (ExceptF a b A B all w28 (HA.up h) (HB.up h) wa wb) fun (x29 : Hdr) w30 ⟨H29, h'⟩ => ?_
  replace h := h.trans h'
  refine call_mono (RExceptF a b A B all w30 (HA.up h) (HB.up h) wa wb) fun (x31 : Hdr) w32 ⟨H31, h'⟩ => ?_
  replace h := h.trans h'
  refine call_mono (EqualF x29 x31 _ _ w32 (H29.up h') H31 (l1 all).2.1) fun (x33 : Bool) w34 ⟨e33, h'⟩ => ?_
  replace h := h.trans h'
  refine br_t (e33 rfl) ?_
  refine call_mono (IntersectF a b A B all w34 (HA.up h) (HB.up h) wa wb) fun (x35 : Hdr) w36 ⟨H35, h'⟩ => ?_
  replace h := h.trans h'
  refine call_mono (RIntersectF a b A B all w36 (HA.up h) (HB.up h) wa wb) fun (x37 : Hdr) w38 ⟨H37, h'⟩ => ?_
  replace h := h.trans h'
  refine call_mono (EqualF x35 x37 _ _ w38 (H35.up h') H37 (l1 all).2.2) fun (x39 : Bool) w40 ⟨e39, h'⟩ => ?_
  replace h := h.trans h'
  refine br_t (e39 rfl) ?_
  refine call_mono (DistinctF a A w40 (HA.up h) wa) fun (x41 : Hdr) w42 ⟨H41, h'⟩ => ?_
  replace h := h.trans h'
  refine call_mono (RDistinctF a A w42 (HA.up h) wa) fun (x43 : Hdr) w44 ⟨H43, h'⟩ => ?_
  replace h := h.trans h'
  refine call_mono (EqualF x41 x43 _ _ w44 (H41.up h') H43 (Nat.le_trans (wdU false wa (Wd.nil 0)).1 (by omega))) fun (x45 : Bool) w46 ⟨e45, h'⟩ => ?_
  exact ⟨by rw [e45 rfl], h.trans h'⟩
/-! ### Tells -/
theorem dif_before {A B : List Rw} (h : (G cmpR A B).find? pNe = some (difD (G cmpR A B))) {s : Rw} (hs : cmpR s (difD (G cmpR A B)).1 < 0) : cn A s = cn B s := by
  have g := G_grp cmpR_to A B
  by_cases z : 0 < cn A s + cn B s
  · obtain ⟨p, hp, e⟩ := g.all s z
    obtain ⟨c1, c2, _⟩ := g.cnt p hp
    change p.2.1 = cn A p.1 at c1
    change p.2.2 = cn B p.1 at c2
    cases hf : pNe p with
    | true =>
      exfalso
      rcases find_first g.lt h p hp hf with q | q
      · rw [← q, e, (cmpR_to.eq s s).2 rfl] at hs
        omega
      · rw [e] at q
        have := (cmpR_to.sym s (difD (G cmpR A B)).1).1 hs
        omega
    | false =>
      have : p.2.1 = p.2.2 := by
        unfold pNe at hf
        simpa using hf
      rw [e] at c1 c2
      omega
  · omega
theorem bagTells (a b : Hdr) (A B : List Rw) (w : World) (HA : TabW w a A) (HB : TabW w b B) :
    Calls Try.prog 3 #[.slice a.1 a.2.1 a.2.2, .slice b.1 b.2.1 b.2.2] w (fun e w' => e = .returned (.bool true) ∧ Below w.heap.size w w') := by
  refine Calls.mono (S3_calls a.1 a.2.1 a.2.2 b.1 b.2.1 b.2.2 w (fun v w' => v = .bool true ∧ bel w w') ?_) (by rintro e w' ⟨v, rfl, rfl, hb⟩; exact ⟨rfl, hb⟩)
  unfold S3
  refine call_mono (FewF a A w HA) fun (x1 : Bool) w2 ⟨f1, h⟩ => ?_
  refine br_not (fun _ => ⟨rfl, h⟩) (fun e1 => ?_)
  refine call_mono (FewF b B w2 (HB.up h)) fun (x3 : Bool) w4 ⟨f3, h'⟩ => ?_
  replace h := h.trans h'
  refine br_not (fun _ => ⟨rfl, h⟩) (fun e3 => ?_)
  have wa := (wd_few (f1 e1)).up (k' := 100000) (by omega)
  have wb := (wd_few (f3 e3)).up (k' := 100000) (by omega)
  have la := HA.len
  have lb := HB.len
  have la' := wa.1
  have lb' := wb.1
  refine call_mono (DifferenceF a b A B w4 (HA.up h) (HB.up h) wa wb) ?_
  rintro (x5 : Hdr × Int × Int × Unit) w6 ⟨⟨R5, m5, n5⟩, h'⟩
  replace h := h.trans h'
  rcases dif_pNe (G cmpR A B) with ⟨q1, q2, q3⟩ | ⟨q1, q2, q3⟩
  · have hp : A.Perm B := (same_iff A B).1 (by rw [q2]; rfl)
    refine br_eq (fun _ => ?_) (fun q => absurd (by rw [m5, n5, q1]) q)
    refine call_mono (SameF a b A B w6 (HA.up h) (HB.up h) wa wb) fun (x7 : Bool) w8 ⟨e7, h'⟩ => ?_
    replace h := h.trans h'
    refine br_t (by rw [e7, q2]; rfl) ?_
    refine br_eq (fun _ => ?_) (fun q => absurd (by rw [m5, q3]; rfl) q)
    have l5 := RowAt.len R5
    rw [q3] at l5
    refine br_eq (fun _ => ?_) (fun q => absurd (by rw [← l5]; rfl) q)
    have lp := hp.length_eq
    refine br_eq (fun _ => ?_) (fun q => absurd (by omega) q)
    have hc := perm_cn.1 hp
    refine call_mono (ContainsF a b A B w8 (HA.up h) (HB.up h) wa wb) fun (x9 : Bool) w10 ⟨e9, h'⟩ => ?_
    replace h := h.trans h'
    refine br_t (by rw [e9]; exact (cont_iff A B).2 fun r => by rw [hc r]; exact Nat.le_refl _) ?_
    refine call_mono (ContainsF b a B A w10 (HB.up h) (HA.up h) wb wa) fun (x11 : Bool) w12 ⟨e11, h'⟩ => ?_
    exact ⟨by rw [e11, (cont_iff B A).2 fun r => by rw [hc r]; exact Nat.le_refl _], h.trans h'⟩
  · refine br_eq (fun q => absurd (by rw [m5, n5] at q; omega) q1) (fun _ => ?_)
    have hD := List.mem_of_find?_eq_some q3
    obtain ⟨c1, c2, _⟩ := (G_grp cmpR_to A B).cnt _ hD
    change _ = cn A _ at c1
    change _ = cn B _ at c2
    refine call_mono (SameF a b A B w6 (HA.up h) (HB.up h) wa wb) fun (x13 : Bool) w14 ⟨e13, h'⟩ => ?_
    replace h := h.trans h'
    replace R5 := R5.up h'
    refine br_f (by rw [e13, q2]; rfl) ?_
    refine call_mono (RCountF a x5.1 A _ w14 (HA.up h) R5 (by omega)) fun (x15 : Int) w16 ⟨e15, h'⟩ => ?_
    replace h := h.trans h'
    replace R5 := R5.up h'
    refine br_ne (fun q => absurd (by rw [e15, m5, c1]) q) (fun _ => ?_)
    refine call_mono (RCountF b x5.1 B _ w16 (HB.up h) R5 (by omega)) fun (x17 : Int) w18 ⟨e17, h'⟩ => ?_
    replace h := h.trans h'
    replace R5 := R5.up h'
    refine br_ne (fun q => absurd (by rw [e17, n5, c2]) q) (fun _ => ?_)
    refine call_mono (RUnionF a b A B true w18 (HA.up h) (HB.up h) wa wb) fun (x19 : Hdr) w20 ⟨H19, h'⟩ => ?_
    replace h := h.trans h'
    replace R5 := R5.up h'
    have wu := (wdU true (wd_few (f1 e1)) (wd_few (f3 e3))).up (k' := 100000) (by omega)
    refine call_mono (RDistinctF x19 _ w20 H19 wu) fun (x21 : Hdr) w22 ⟨H21, h'⟩ => ?_
    replace h := h.trans h'
    replace R5 := R5.up h'
    have l21 := H21.len
    have hl := (wdU false wu (Wd.nil 0)).1
    generalize comb (tU false) (G cmpR (comb (tU true) (G cmpR A B)) []) = U at H21 l21 hl
    refine loop_up U.length (fun _ w' => bel w22 w') (bel.refl _) fun i w25 hi b25 again hag _ => ?_
    refine br_dec (fun e => ?_) (fun e => ⟨rfl, h.trans b25⟩)
    dsimp only at e
    refine TabW.atE b25 H21 (j := i) rfl (by omega) fun y s hs R => ?_
    refine call_mono (rows01 y x5.1 s _ w25 (R.up b25) (R5.up b25)) fun (n : Int) w29 ⟨en, h29⟩ => ?_
    subst en
    have b29 := b25.trans h29
    refine br_dec (fun q => ?_) (fun q => ⟨rfl, h.trans b29⟩)
    have heq := dif_before q3 q
    refine drw_mk fun w30 h30 _ => ?_
    have b30 := b29.trans h30
    refine flEx_mk (fun _ _ v _ => v = .int .i64 (cn A s : Nat)) (fun _ _ _ _ _ h _ => h) ?_
    refine TabW.atE b30 H21 (j := i) rfl (by omega) fun y' s' hs' R' => ?_
    rw [hs] at hs'; cases hs'
    refine flc_mk (fun w34 b34 _ => ?_) fun (x38 : Int) => ?_
    · refine call_mono (RCountF a y' A s w34 (HA.up (h.trans (b30.trans b34))) (R'.up (b30.trans b34)) (by omega)) fun (x36 : Int) w37 ⟨e36, h37⟩ => ⟨h37, by rw [e36]⟩
    refine TabW.atE b30 H21 (j := i) rfl (by omega) fun y2 s2 hs2 R2 => ?_
    rw [hs] at hs2; cases hs2
    refine flend_mk fun w41 b41 hp => ?_
    have e38 : x38 = (cn A s : Nat) := by
      have := hp.1
      injection this
    have b41' := b30.trans b41
    refine call_mono (RCountF b y2 B s w41 (HB.up (h.trans b41')) (R2.up b41') (by omega)) fun (x43 : Int) w44 ⟨e43, h44⟩ => ?_
    refine br_ne (fun q' => absurd (by rw [e38, e43, heq]) q') (fun _ => ?_)
    refine z_i64 (by dsimp only; omega) ?_
    exact hag _ (by omega) (b41'.trans h44)
end Go.Proofs.Ytalagcggmbeddaa

/- The statements Orders, Counts, Laws about bags. -/

namespace Go.Proofs.Ytalagcggmbeddaa
open Go.RowKit Go.Q Go.V Go.Bag
theorem bagOrders (a b : Hdr) (A B : List Rw) (w : World) (HA : TabW w a A) (HB : TabW w b B) :
    Calls Try.prog 4 #[.slice a.1 a.2.1 a.2.2, .slice b.1 b.2.1 b.2.2] w (fun e w' => e = .returned (.bool true) ∧ Below w.heap.size w w') := by
  refine Calls.mono (S4_calls a.1 a.2.1 a.2.2 b.1 b.2.1 b.2.2 w (fun v w' => v = .bool true ∧ bel w w') ?_) (by rintro e w' ⟨v, rfl, rfl, hb⟩; exact ⟨rfl, hb⟩)
  unfold S4
  refine call_mono (FewF a A w HA) fun (x1 : Bool) w2 ⟨f1, h⟩ => ?_
  refine br_not (fun _ => ⟨rfl, h⟩) (fun e1 => ?_)
  refine call_mono (FewF b B w2 (HB.up h)) fun (x3 : Bool) w4 ⟨f3, h'⟩ => ?_
  replace h := h.trans h'
  refine br_not (fun _ => ⟨rfl, h⟩) (fun e3 => ?_)
  have wa := (wd_few (f1 e1)).up (k' := 100000) (by omega)
  have wb := (wd_few (f3 e3)).up (k' := 100000) (by omega)
  have la := HA.len
  have la' := wa.1
  have hrev : A.reverse.length = A.length := List.length_reverse
  have HA4 := HA.up h
  refine z_i64 (by omega) ?_
  refine loop_gh (G := Nat) (fun k s w' => s.2 = (((a.2.1 : Nat) : Int) - 1 - (k : Int), ()) ∧ k ≤ A.length ∧ bel w4 w' ∧ TB w' w4.heap.size s.1 (A.reverse.take k)) (fun k => A.length - k) 0 ⟨by rw [show ((a.2.1 : Nat) : Int) - 1 - ((0 : Nat) : Int) = ((a.2.1 : Nat) : Int) - 1 by omega], Nat.zero_le _, bel.refl _, TB.nil _ _⟩ ?_
  rintro k ⟨c, s⟩ w8 ⟨es, hk, b8, hT⟩ again hag _
  dsimp only at es hT
  subst es
  dsimp only
  refine br_dec (fun e => ?_) (fun e => ?_)
  · refine TabW.atE b8 HA4 (j := A.length - 1 - k) (by omega) (by omega) fun y r hr R => ?_
    have hr' : A.reverse[k]? = some r := by rw [List.getElem?_reverse (by omega)]; exact hr
    refine hT.app (R.up b8) (hT.elder R (Nat.le_refl _)) b8.size (by rw [List.length_take]; omega) fun c' w14 hT' g _ => ?_
    rw [take_suc hr'] at hT'
    refine z_i64 (by omega) ?_
    exact hag (k + 1) _ _ ⟨by dsimp only; congr 1; omega, by omega, hT.bel b8 g (Nat.le_refl _), hT'⟩ (by omega)
  have : k = A.length := by omega
  subst this
  rw [List.take_of_length_le (by omega)] at hT
  have HC := hT.tab
  have hp : A.Perm A.reverse := (List.reverse_perm A).symm
  have wc : Wd 100000 A.reverse := ⟨by omega, fun r hr => wa.2 r (List.mem_reverse.1 hr)⟩
  replace h := h.trans b8
  have HA := HA4.up b8
  have HB := HB.up h
  clear HA4 b8 hag hT e
  generalize A.reverse = C at HC hp wc
  refine call_mono (SameF a c A C w8 HA HC wa wc) fun (x16 : Bool) w17 ⟨e16, h'⟩ => ?_
  replace h := h.trans h'
  replace HA := HA.up h'
  replace HC := HC.up h'
  replace HB := HB.up h'
  refine br_t (by rw [e16]; exact (same_iff A C).2 hp) ?_
  refine call_mono (CanonicalF a A w17 HA wa) fun (x18 : Hdr) w19 ⟨H18, h'⟩ => ?_
  replace h := h.trans h'
  replace HA := HA.up h'
  replace HC := HC.up h'
  replace HB := HB.up h'
  refine call_mono (CanonicalF c C w19 HC wc) fun (x20 : Hdr) w21 ⟨H20, h'⟩ => ?_
  replace h := h.trans h'
  replace HA := HA.up h'
  replace HC := HC.up h'
  replace HB := HB.up h'
  have lS : (sortR cmpR A).length = A.length := (sortR_perm cmpR A).length_eq
  refine call_mono (EqualF x18 x20 _ _ w21 (H18.up h') H20 (by omega)) fun (x22 : Bool) w23 ⟨e22, h'⟩ => ?_
  replace h := h.trans h'
  replace HA := HA.up h'
  replace HC := HC.up h'
  replace HB := HB.up h'
  refine br_t (e22 (sortR_congr cmpR_to hp)) ?_
  refine call_mono (CanonicalF a A w23 HA wa) fun (x24 : Hdr) w25 ⟨H24, h'⟩ => ?_
  replace h := h.trans h'
  replace HA := HA.up h'
  replace HC := HC.up h'
  replace HB := HB.up h'
  have l24 := H24.len
  refine br_eq (fun _ => ?_) (fun q => absurd (by omega) q)
  refine call_mono (ExceptF a b A B true w25 HA HB wa wb) fun (x26 : Hdr) w27 ⟨H26, h'⟩ => ?_
  replace h := h.trans h'
  replace HA := HA.up h'
  replace HC := HC.up h'
  replace HB := HB.up h'
  refine call_mono (ExceptF c b C B true w27 HC HB wc wb) fun (x28 : Hdr) w29 ⟨H28, h'⟩ => ?_
  replace h := h.trans h'
  replace HA := HA.up h'
  replace HC := HC.up h'
  refine call_mono (EqualF x26 x28 _ _ w29 (H26.up h') H28 (Nat.le_trans (wdE true wa wb).1 (by omega))) fun (x30 : Bool) w31 ⟨e30, h'⟩ => ?_
  replace h := h.trans h'
  replace HA := HA.up h'
  replace HC := HC.up h'
  refine br_t (e30 (by rw [G_congr cmpR_to hp (List.Perm.refl B)])) ?_
  refine call_mono (ContainsF a c A C w31 HA HC wa wc) fun (x32 : Bool) w33 ⟨e32, h'⟩ => ?_
  exact ⟨by rw [e32, (cont_iff A C).2 fun r => by rw [perm_cn.1 hp r]; exact Nat.le_refl _], h.trans h'⟩
theorem bagLaws (a b : Hdr) (A B : List Rw) (w : World) (HA : TabW w a A) (HB : TabW w b B) :
    Calls Try.prog 6 #[.slice a.1 a.2.1 a.2.2, .slice b.1 b.2.1 b.2.2] w (fun e w' => e = .returned (.bool true) ∧ Below w.heap.size w w') := by
  refine Calls.mono (S6_calls a.1 a.2.1 a.2.2 b.1 b.2.1 b.2.2 w (fun v w' => v = .bool true ∧ bel w w') ?_) (by rintro e w' ⟨v, rfl, rfl, hb⟩; exact ⟨rfl, hb⟩)
  unfold S6
  refine call_mono (FewF a A w HA) fun (x1 : Bool) w2 ⟨f1, h⟩ => ?_
  refine br_not (fun _ => ⟨rfl, h⟩) (fun e1 => ?_)
  refine call_mono (FewF b B w2 (HB.up h)) fun (x3 : Bool) w4 ⟨f3, h'⟩ => ?_
  replace h := h.trans h'
  refine br_not (fun _ => ⟨rfl, h⟩) (fun e3 => ?_)
  have a80 := wd_few (f1 e1)
  have b80 := wd_few (f3 e3)
  have wa := a80.up (k' := 100000) (by omega)
  have wb := b80.up (k' := 100000) (by omega)
  have la := HA.len
  have lb := HB.len
  have la' := a80.1
  have lb' := b80.1
  have pu : (comb (tU true) (G cmpR A B)).Perm (A ++ B) := perm_cn.2 fun r => by rw [cU cmpR_to, cn_app]
  have lu := pu.length_eq
  rw [List.length_append] at lu
  have wu := (wdU true a80 b80).up (k' := 100000) (by omega)
  refine call_mono (UnionF a b A B true w4 (HA.up h) (HB.up h) wa wb) fun (x5 : Hdr) w6 ⟨H5, h'⟩ => ?_
  replace h := h.trans h'
  have l5 := H5.len
  refine z_i64 (by omega) ?_
  refine br_ne (fun q => absurd (by omega) q) (fun _ => ?_)
  refine call_mono (UnionF b a B A true w6 (HB.up h) (HA.up h) wb wa) fun (x8 : Hdr) w9 ⟨H8, h'⟩ => ?_
  replace h := h.trans h'
  replace H5 := H5.up h'
  refine call_mono (SameF x5 x8 _ _ w9 H5 H8 wu ((wdU true b80 a80).up (by omega))) fun (x10 : Bool) w11 ⟨e10, h'⟩ => ?_
  replace h := h.trans h'
  replace H5 := H5.up h'
  have e10' : x10 = true := by rw [e10]; exact (same_iff _ _).2 (perm_cn.2 fun r => by rw [cU cmpR_to, cU cmpR_to, Nat.add_comm])
  refine br_not (fun q => by rw [e10'] at q; cases q) (fun _ => ?_)
  refine call_mono (IntersectF a b A B true w11 (HA.up h) (HB.up h) wa wb) fun (x12 : Hdr) w13 ⟨H12, h'⟩ => ?_
  replace h := h.trans h'
  replace H5 := H5.up h'
  refine call_mono (IntersectF b a B A true w13 (HB.up h) (HA.up h) wb wa) fun (x14 : Hdr) w15 ⟨H14, h'⟩ => ?_
  replace h := h.trans h'
  replace H5 := H5.up h'
  refine call_mono (SameF x12 x14 _ _ w15 (H12.up h') H14 ((wdI true a80 b80).up (by omega)) ((wdI true b80 a80).up (by omega))) fun (x16 : Bool) w17 ⟨e16, h'⟩ => ?_
  replace h := h.trans h'
  replace H5 := H5.up h'
  have e16' : x16 = true := by rw [e16]; exact (same_iff _ _).2 (perm_cn.2 fun r => by rw [cI cmpR_to, cI cmpR_to, Nat.min_comm])
  refine br_not (fun q => by rw [e16'] at q; cases q) (fun _ => ?_)
  refine call_mono (IntersectF a b A B true w17 (HA.up h) (HB.up h) wa wb) fun (x18 : Hdr) w19 ⟨H18, h'⟩ => ?_
  replace h := h.trans h'
  replace H5 := H5.up h'
  refine call_mono (ExceptF a b A B true w19 (HA.up h) (HB.up h) wa wb) fun (x20 : Hdr) w21 ⟨H20, h'⟩ => ?_
  replace h := h.trans h'
  replace H5 := H5.up h'
  have w18 := wdI true a80 b80
  have w20 := wdE true a80 b80
  refine call_mono (UnionF x18 x20 _ _ true w21 (H18.up h') H20 (w18.up (by omega)) (w20.up (by omega))) fun (x22 : Hdr) w23 ⟨H22, h'⟩ => ?_
  replace h := h.trans h'
  replace H5 := H5.up h'
  refine call_mono (SameF x22 a _ A w23 H22 (HA.up h) ((wdU true w18 w20).up (by omega)) wa) fun (x24 : Bool) w25 ⟨e24, h'⟩ => ?_
  replace h := h.trans h'
  replace H5 := H5.up h'
  refine br_t (by rw [e24]; exact (same_iff _ _).2 (perm_cn.2 fun r => by rw [cU cmpR_to, cI cmpR_to, cE cmpR_to]; omega)) ?_
  refine call_mono (ExceptF x5 b _ B true w25 H5 (HB.up h) wu wb) fun (x26 : Hdr) w27 ⟨H26, h'⟩ => ?_
  replace h := h.trans h'
  replace H5 := H5.up h'
  refine call_mono (SameF x26 a _ A w27 H26 (HA.up h) ((wdE true (wdU true a80 b80) b80).up (by omega)) wa) fun (x28 : Bool) w29 ⟨e28, h'⟩ => ?_
  replace h := h.trans h'
  replace H5 := H5.up h'
  refine br_t (by rw [e28]; exact (same_iff _ _).2 (perm_cn.2 fun r => by rw [cE cmpR_to, cU cmpR_to]; omega)) ?_
  refine call_mono (DistinctF x5 _ w29 H5 wu) fun (x30 : Hdr) w31 ⟨H30, h'⟩ => ?_
  replace h := h.trans h'
  replace H5 := H5.up h'
  refine call_mono (UnionF a b A B false w31 (HA.up h) (HB.up h) wa wb) fun (x32 : Hdr) w33 ⟨H32, h'⟩ => ?_
  replace h := h.trans h'
  replace H5 := H5.up h'
  refine call_mono (SameF x30 x32 _ _ w33 (H30.up h') H32 ((wdU false (wdU true a80 b80) (Wd.nil 0)).up (by omega)) ((wdU false a80 b80).up (by omega))) fun (x34 : Bool) w35 ⟨e34, h'⟩ => ?_
  replace h := h.trans h'
  replace H5 := H5.up h'
  refine br_t (by rw [e34]; exact (same_iff _ _).2 (perm_cn.2 fun r => by rw [cD cmpR_to, cU cmpR_to, cD cmpR_to]; rfl)) ?_
  refine call_mono (ContainsF x5 a _ A w35 H5 (HA.up h) wu wa) fun (x36 : Bool) w37 ⟨e36, h'⟩ => ?_
  replace h := h.trans h'
  refine br_t (by rw [e36]; exact (cont_iff _ _).2 fun r => by rw [cU cmpR_to]; omega) ?_
  refine call_mono (CanonicalF a A w37 (HA.up h) wa) fun (x38 : Hdr) w39 ⟨H38, h'⟩ => ?_
  replace h := h.trans h'
  refine call_mono (SameF a x38 A _ w39 (HA.up h) H38 wa ⟨by rw [(sortR_perm cmpR A).length_eq]; omega, fun r hr => wa.2 r ((sortR_perm cmpR A).mem_iff.1 hr)⟩) fun (x40 : Bool) w41 ⟨e40, h'⟩ => ?_
  exact ⟨by rw [e40, (same_iff _ _).2 (sortR_perm cmpR A).symm], h.trans h'⟩
/-- nothing is laid behind -/
theorem wr_app0 {t e : TypeId} {z : Value} {bytes : Nat} (T : TyS Try.prog t e z 1 bytes) {w : World} {sa : Option Addr} {n c : Nat} {ty : TypeId} {k : (Option Addr × Nat × Nat) → World → Prop} (hc : n ≤ c) (hk : k (sa, n, c) w) :
    wr Try.prog (Builtin.append_ #[t, t] ty #[.slice sa n c, .slice none 0 0]) (.one .slice) w k := by
  obtain ⟨i, hi0, hz0, hz1, hz2⟩ := info_parts T.hi
  refine ⟨(sa, n, c), w, ?_, hk⟩
  cases sa <;> simp [Builtin.append_, run_underlying T.ht, sizeOf, typeInfo, hi0, Builtin.lenOf, Builtin.firstCells, hc, storeCells] <;> rfl
theorem plainH : ∀ hs : List Hdr, plainV (hs.map hv) = true := fun hs => by
  unfold plainV
  rw [List.all_eq_true]
  intro u hu
  obtain ⟨p, _, hp⟩ := List.mem_map.1 hu
  subst hp; rfl
/-- a copy of a table -/
theorem copyTab {h : Hdr} {T : List Rw} {w : World} (H : TabW w h T) (hl : T.length ≤ 1000000) {k : Hdr → World → Prop} (hk : ∀ h' w', TB w' w.heap.size h' T → bel w w' → k h' w') :
    wr Try.prog (Builtin.append_ #[22, 22] 22 #[.slice none 0 0, .slice h.1 h.2.1 h.2.2]) (.one .slice) w k := by
  have hn := H.len
  obtain ⟨hs, h1, h2, h3⟩ := H.ex
  obtain ⟨a, n, c⟩ := h
  dsimp only at h2 hn ⊢
  cases a with
  | none =>
    obtain ⟨n0, c0⟩ := h2.nil' rfl
    subst n0 c0
    have : T = [] := List.eq_nil_of_length_eq_zero hn
    subst this
    exact wr_app0 tyT (Nat.le_refl _) (hk _ _ (TB.nil _ _) (bel.refl _))
  | some ad =>
    refine wr_app tyT (Own.nil w w.heap.size 24 1) h2 (Nat.le_refl _) rfl (by decide) (plainH hs) (by omega) (by unfold maxLen; omega) fun a' c' w' O g _ _ => ?_
    have hb : bel w w' := (bel.refl w).own (Own.nil w w.heap.size 24 1) g (Nat.le_refl _)
    refine hk (a', 0 + n, c') w' ⟨hs, h1, O, fun j x r q1 q2 => ⟨(h3 j x r q1 q2).up hb, fun hr ad' e q => ?_⟩⟩ hb
    have := (h3 j x r q1 q2).lt hr e
    have := (O.lt _ q).1
    omega
theorem bagCounts (a b c : Hdr) (A B : List Rw) (r : Rw) (w : World) (HA : TabW w a A) (HB : TabW w b B) (HR : RowAt w c r) :
    Calls Try.prog 5 #[.slice a.1 a.2.1 a.2.2, .slice b.1 b.2.1 b.2.2, .slice c.1 c.2.1 c.2.2] w (fun e w' => e = .returned (.bool true) ∧ Below w.heap.size w w') := by
  refine Calls.mono (S5_calls a.1 a.2.1 a.2.2 b.1 b.2.1 b.2.2 c.1 c.2.1 c.2.2 w (fun v w' => v = .bool true ∧ bel w w') ?_) (by rintro e w' ⟨v, rfl, rfl, hb⟩; exact ⟨rfl, hb⟩)
  unfold S5
  refine call_mono (FewF a A w HA) fun (x1 : Bool) w2 ⟨f1, h⟩ => ?_
  refine br_not (fun _ => ⟨rfl, h⟩) (fun e1 => ?_)
  refine call_mono (FewF b B w2 (HB.up h)) fun (x3 : Bool) w4 ⟨f3, h'⟩ => ?_
  replace h := h.trans h'
  refine br_not (fun _ => ⟨rfl, h⟩) (fun e3 => ?_)
  have lr := RowAt.len HR
  refine br_dec (fun _ => ⟨rfl, h⟩) (fun e20 => ?_)
  have a80 := wd_few (f1 e1)
  have b80 := wd_few (f3 e3)
  have wb := b80.up (k' := 100000) (by omega)
  have la' := a80.1
  have lb' := b80.1
  have HR4 := HR.up h
  refine copyTab (HA.up h) (by omega) fun x5 w6 hT h6 => ?_
  refine hT.app (HR4.up h6) (hT.elder HR4 (Nat.le_refl _)) h6.size (by omega) fun x9 w10 hT' g _ => ?_
  have h10 := hT.bel h6 g (Nat.le_refl _)
  have HM := hT'.tab
  replace h := h.trans h10
  clear HR4 hT hT' g h6 h10
  have m80 : Wd 81 (A ++ [r]) := ⟨by rw [List.length_append, List.length_singleton]; omega, fun s hs => by
    rcases List.mem_append.1 hs with q | q
    · exact a80.2 s q
    · rw [List.mem_singleton.1 q]; omega⟩
  have wm := m80.up (k' := 100000) (by omega)
  have cm : cn (A ++ [r]) r = cn A r + 1 := by
    rw [cn_app]; unfold cn; simp
  have lm := m80.1
  generalize A ++ [r] = M at HM m80 wm cm lm
  have c1 := cn_le M r
  have c2 := cn_le B r
  refine call_mono (CountF x9 c M r w10 HM (HR.up h) (by omega)) fun (x11 : Int) w12 ⟨e11, h'⟩ => ?_
  replace h := h.trans h'
  replace HM := HM.up h'
  refine call_mono (CountF b c B r w12 (HB.up h) (HR.up h) (by omega)) fun (x13 : Int) w14 ⟨e13, h'⟩ => ?_
  replace h := h.trans h'
  replace HM := HM.up h'
  refine call_mono (RCountF a c A r w14 (HA.up h) (HR.up h) (by omega)) fun (x15 : Int) w16 ⟨e15, h'⟩ => ?_
  replace h := h.trans h'
  replace HM := HM.up h'
  refine z_i64 (by omega) ?_
  refine br_ne (fun q => absurd (by omega) q) (fun _ => ?_)
  refine call_mono (RCountF b c B r w16 (HB.up h) (HR.up h) (by omega)) fun (x18 : Int) w19 ⟨e18, h'⟩ => ?_
  replace h := h.trans h'
  replace HM := HM.up h'
  refine br_ne (fun q => absurd (by omega) q) (fun _ => ?_)
  refine call_mono (UnionF x9 b M B true w19 HM (HB.up h) wm wb) fun (x20 : Hdr) w21 ⟨H20, h'⟩ => ?_
  replace h := h.trans h'
  replace HM := HM.up h'
  refine call_mono (CountF x20 c _ r w21 H20 (HR.up h) (Nat.le_trans (wdU true m80 b80).1 (by omega))) fun (x22 : Int) w23 ⟨e22, h'⟩ => ?_
  replace h := h.trans h'
  replace HM := HM.up h'
  rw [cU cmpR_to] at e22
  refine z_i64 (by omega) ?_
  refine br_eq (fun _ => ?_) (fun q => absurd (by omega) q)
  refine call_mono (ExceptF x9 b M B true w23 HM (HB.up h) wm wb) fun (x25 : Hdr) w26 ⟨H25, h'⟩ => ?_
  replace h := h.trans h'
  replace HM := HM.up h'
  refine call_mono (CountF x25 c _ r w26 H25 (HR.up h) (Nat.le_trans (wdE true m80 b80).1 (by omega))) fun (x27 : Int) w28 ⟨e27, h'⟩ => ?_
  replace h := h.trans h'
  replace HM := HM.up h'
  rw [cE cmpR_to] at e27
  refine z_i64 (by omega) ?_
  unfold z
  refine br_eq (fun _ => ?_) (fun q => absurd (by split <;> omega) q)
  refine call_mono (IntersectF x9 b M B true w28 HM (HB.up h) wm wb) fun (x31 : Hdr) w32 ⟨H31, h'⟩ => ?_
  replace h := h.trans h'
  replace HM := HM.up h'
  refine call_mono (CountF x31 c _ r w32 H31 (HR.up h) (Nat.le_trans (wdI true m80 b80).1 (by omega))) fun (x33 : Int) w34 ⟨e33, h'⟩ => ?_
  replace h := h.trans h'
  replace HM := HM.up h'
  rw [cI cmpR_to] at e33
  refine br_eq (fun _ => ?_) (fun q => absurd (by split <;> omega) q)
  refine call_mono (DistinctF x9 M w34 HM wm) fun (x36 : Hdr) w37 ⟨H36, h'⟩ => ?_
  replace h := h.trans h'
  refine call_mono (CountF x36 c _ r w37 H36 (HR.up h) (Nat.le_trans (wdU false m80 (Wd.nil 0)).1 (by omega))) fun (x38 : Int) w39 ⟨e38, h'⟩ => ?_
  rw [cD cmpR_to, if_pos (by omega)] at e38
  exact ⟨by rw [e38]; rfl, h.trans h'⟩
end Go.Proofs.Ytalagcggmbeddaa
