import Derived.Test.YtajpdnphamomjaaPackLinearNever5

/- LinearNever. -/




namespace Go.Proofs.Ytajpdnphamomjaa
open Go.RowKit Go.Q Go.Q.Num Go.V

set_option maxHeartbeats 4000000 in
theorem systemN {w : World} {tb : Addr} {l : Hdr} {L : List Int} {p : Nat} (vars rows most : Nat) (h : Tape w tb l L p) (hp : p ≤ 100000) (hv1 : 1 ≤ vars) (hv2 : vars ≤ 20) (hr : rows ≤ 20) (hm : most ≤ 10000) :
    call Try.prog 34 [.pointer (some tb), .int .i64 (vars : Int), .int .i64 (rows : Int), .int .i64 (most : Int)] (.one (.agg [.slice, .slice, .slice])) w (fun (x : Hdr × Hdr × Hdr × Unit) w' =>
      ∃ up T rt p', MadeS up T rt vars rows most ∧ (∀ w2, w'.grownBy w2 (some tb.block) → Sys w2 x.1 x.2.1 x.2.2.1 up T rt) ∧ Tape w' tb l L p' ∧ p' ≤ p + 1000 ∧ w.grownBy w' (some tb.block) ∧ (rows = 0 → x.2.1 = (none, 0, 0) ∧ x.2.2.1 = (none, 0, 0))) := by
  refine call_of (S34_calls (some tb) vars rows most w _ ?_)
  unfold S34
  have htb := h.box.lt
  refine wr_alloc (z := .agg #[.slice none 0 0, .slice none 0 0, .slice none 0 0]) (by kernel_rfl) fun x1 w2 A h1 hx1 _ => ?_
  refine wr_alloc (z := .agg #[.slice none 0 0, .slice none 0 0, .slice none 0 0]) (by kernel_rfl) fun x3 w4 V h2 hx3 _ => ?_
  replace A : Box w4 x1 nil3 := A.up h2
  replace V : Box w4 x3 nil3 := V
  have l1 := A.lt
  have l3 := V.lt
  have hb4 := h1.trans h2
  have hsz4 : w.heap.size ≤ w4.heap.size := hb4.size
  have n13 : x1.block < x3.block := by have := h1.size; omega
  have hw1 : w.heap.size ≤ x1.block := by omega
  have hw3 : w.heap.size ≤ x3.block := by omega
  refine call_mono (nextF (vars : Int) (h.up hb4) (by omega) ⟨by omega, by omega⟩) ?_
  rintro (x5 : Int) w6 ⟨hx5, ht, hg⟩
  obtain ⟨n, hn⟩ : ∃ n : Nat, 1 + x5 = (n : Int) := ⟨(1 + x5).toNat, by have := hx5.1; omega⟩
  have hn1 : 1 ≤ n := by have := hx5.1; omega
  have hn2 : n ≤ vars := by have := hx5.2; omega
  refine z_eq (m := (n : Int)) (by rw [IntWalk.i64_in _ ⟨by omega, by omega⟩]; exact hn) ?_
  have hf6 : w.grownBy w6 (some tb.block) := (grown_of_bel hb4 _).trans hg
  replace A := A.xg hg (by omega)
  replace V := V.xg hg (by omega)
  -- the bounds
  refine loop_up n (fun i w' => w.grownBy w' (some tb.block) ∧ Box w' x1 nil3 ∧ w4.heap.size ≤ w'.heap.size ∧ ∃ p' uh up, Tape w' tb l L p' ∧ p' ≤ p + 1 + i ∧ Box w' x3 [.slice (uh : Hdr).1 uh.2.1 uh.2.2, .slice none 0 0, .slice none 0 0] ∧ OwnI w' w4.heap.size uh up ∧ up.length = i ∧ ∀ x ∈ up, 0 ≤ x ∧ x ≤ (most : Int))
    ⟨hf6, A, hg.size, p + 1, (none, 0, 0), [], ht, by omega, V, Own.nil _ _ _ _, rfl, by simp⟩ fun i w10 hi ⟨hf, A, hs4, p', uh, up, ht, hp', V, O, hul, hub⟩ again hag _ => ?_
  have hol := O.len
  refine br_dec (fun e => ?_) (fun e => ?_)
  · dsimp only at e
    refine drw_mk fun w11 h11 _ => ?_
    replace A := A.up h11; replace V := V.up h11; replace ht := ht.up h11
    have O : OwnI w11 w4.heap.size uh up := O.kept h11
    replace hf := hf.trans (grown_of_bel h11 _)
    have hs11 : w4.heap.size ≤ w11.heap.size := by have := h11.size; omega
    refine flExC_mk (Xg tb.block) (fun _ _ _ => True) (fun D w' => ∃ q, Tape w' tb l L q ∧ q ≤ p' + (if D 5 = true then 1 else 0)) (fun i _ v w' => (i = 5 → ∃ x, v = .int .i64 x ∧ 0 ≤ x ∧ x ≤ (most : Int)) ∧ (i = 6 → ∃ ad x, v = .slice (some ad) 1 1 ∧ (0 ≤ x ∧ x ≤ (most : Int)) ∧ Sl w' (some ad) 1 1 1 (ints .i64 [x]) ∧ w11.heap.size ≤ ad.block))
      (fun w => grown_refl w _) (fun _ _ _ a b => grown_trans a b) (fun i j ags v w w' _ hΦ hE _ => ⟨hΦ.1, fun e => by
        obtain ⟨ad, x, q1, q2, q3, q4⟩ := hΦ.2 e
        exact ⟨ad, x, q1, q2, q3.xg hE (fun ad' ha _ => by cases ha; omega), q4⟩⟩) ⟨p', ht, by simp⟩ ?_
    refine rdE_box0 (by kernel_rfl) (fun w' hE => V.xg hE.1 (by omega)) rfl rfl ?_
    refine z_i64 (by omega) ?_
    refine flcC_mk (fun D w' hD hE hS _ => ?_) (fun x23 => ?_)
    · obtain ⟨q, hq1, hq2⟩ := hS
      rw [hD] at hq2
      refine call_mono (nextF ((most : Int) + 1) hq1 (by simp at hq2; omega) ⟨by omega, by omega⟩) ?_
      rintro (x : Int) w'' ⟨hx, ht', hg⟩
      exact ⟨hg, trivial, ⟨q + 1, ht', by rw [setD_self]; simp at hq2 ⊢; omega⟩, ⟨fun _ => ⟨x, rfl, hx.1, by have := hx.2; omega⟩, fun e => by omega⟩⟩
    refine flcC_mk (fun D w' hD hE hS hf => ?_) (fun x29 => ?_)
    · obtain ⟨q, hq1, hq2⟩ := hS
      obtain ⟨x', hx', hx2⟩ := hf.1.1 rfl
      injection hx' with _ hx'
      rw [← hx'] at hx2
      refine wr_lit tyI64 #[.int .i64 x23] (fill_one 1 (.int .i64 x23) _ rfl (by simp)) (by omega) (by omega) rfl (by unfold maxLen; omega) fun ad w'' O' hb hbl _ => ?_
      exact ⟨hb.xg _, trivial, ⟨q, hq1.up hb, by rw [setD_ne (by decide)]; exact hq2⟩, ⟨fun e => by omega, fun _ => ⟨ad, x23, rfl, hx2, (O' w'.heap.size (Nat.le_refl _)).sl, by have := hE.size; omega⟩⟩⟩
    refine flendC_mk fun w30 hE hS hfa => ?_
    obtain ⟨q, hq1, hq2⟩ := hS
    obtain ⟨ad, xv, ev, hxv, S, hS11⟩ := hfa.1.2 rfl
    have hq3 : q ≤ p' + 1 := hq2
    simp only [Value.slice.injEq] at ev
    obtain ⟨ev1, ev2, ev3⟩ := ev
    rw [ev1, ev2, ev3]
    have O30 : OwnI w30 w4.heap.size uh up := Own.xg O hE (by omega)
    replace A := A.xg hE (by omega); replace V := V.xg hE (by omega)
    replace hf := hf.trans hE
    refine wr_app tyI64 O30 S (by have := hE.size; omega) rfl (by omega) rfl (by omega) (by unfold maxLen; omega) fun a' c' w33 O33 hg33 _ _ => ?_
    have ho : ∀ k, blk uh.1 = some k → w4.heap.size ≤ k := fun k hk => (O30.lt k hk).1
    have hne1 : some x1.block ≠ blk uh.1 := fun e => by have := ho _ e.symm; omega
    have hne3 : some x3.block ≠ blk uh.1 := fun e => by have := ho _ e.symm; omega
    have htt : Tape w33 tb l L q := ⟨hq1.box.grown hg33 (fun e => by have := ho _ e.symm; omega), hq1.sl.grown hg33 (fun ad ha hx e => by have := hq1.old ad ha (by rintro rfl; exact hx rfl); have := ho _ e.symm; omega), hq1.old, hq1.i64⟩
    refine wu_box (V.grown hg33 hne3) (by kernel_rfl) (show 1 ≤ 3 by omega) rfl fun w34 V' hg34 _ => ?_
    refine z_i64 (by dsimp only; omega) ?_
    refine hag _ (by omega) ⟨xg_put (xg_put hf hg33 fun k hk => .inl (by have := ho k hk; have := hb4.size; omega)) hg34 (fun k hk => .inl (by injection hk; omega)), (A.grown hg33 hne1).xg hg34 (by omega), by have := hg33.size; have := hg34.size; have := hE.size; omega, q, (a', uh.2.1 + 1, c'), up ++ [xv], htt.grown hg34 (by omega), by omega, V', ?_, by simp [hul], ?_⟩
    · have : OwnI w33 w4.heap.size (a', uh.2.1 + 1, c') (up ++ [xv]) := by
        show Own w33 _ _ 1 a' (uh.2.1 + 1) c' (ints .i64 (up ++ [xv]))
        rw [ints_app]; exact O33
      exact Own.xg this hg34 l3
    · intro x hx
      rcases List.mem_append.1 hx with hx | hx
      · exact hub x hx
      · simp at hx; subst hx; exact hxv
  -- all bounds are there
  dsimp only at e
  have hin : i = n := by omega
  subst hin
  clear hag again
  have hol' := O.len
  have SU := O.sl
  have lu : ∀ ad, uh.1 = some ad → ints .i64 up ≠ [] → w4.heap.size ≤ ad.block ∧ ad.block < w10.heap.size := fun ad ha hx => ⟨(O.lt ad.block (by rw [ha]; rfl)).1, SU.lt ad ha hx⟩
  have l10 : w4.heap.size ≤ w10.heap.size := hs4
  refine wr_make tyI64 i rfl rfl (by omega) (by unfold maxLen; omega) fun xd w37 OX h37 hxd _ => ?_
  have OX' : OwnI w37 w10.heap.size (some xd, i, i) (List.replicate i 0) := by
    have := OX w10.heap.size (Nat.le_refl _)
    have hq : (madeCells (Value.int .i64 0).cells (i * 1)).toList = ints .i64 (List.replicate i 0) := by rw [Nat.mul_one]; exact made_int .i64 i
    rw [hq] at this
    exact this
  -- frames from here on: the tape, the system's variable, and what is new
  refine loop_up i (fun j w' => w10.grownBy w' (some tb.block) ∧ ∃ p' xs, Tape w' tb l L p' ∧ p' ≤ p + 1 + i + j ∧ OwnI w' w10.heap.size (some xd, i, i) xs ∧ ∀ x ∈ xs, 0 ≤ x ∧ x ≤ (most : Int))
    ⟨h37.xg _, p', List.replicate i 0, ht.up h37, by omega, OX', fun x hx => by rw [List.eq_of_mem_replicate hx]; omega⟩ fun j w40 hj ⟨hf40, p2, xs, ht, hp2, OX, hxb⟩ again hag _ => ?_
  have hxl := OX.len
  have V40 := V.xg hf40 (by omega)
  have SU40 := SU.xg hf40 (fun ad ha hx => by have := lu ad ha hx; omega)
  refine br_dec (fun e2 => ?_) (fun e2 => ?_)
  · dsimp only at e2
    refine rd_box0 (by kernel_rfl) V40 rfl rfl ?_
    refine at_int tyI64 (by kernel_rfl) SU40 rfl (by omega) fun u hu => ?_
    have hub' := hub u (mem_at hu)
    refine z_i64 (by omega) ?_
    refine call_mono (nextF (u + 1) ht (by omega) ⟨by omega, by omega⟩) ?_
    rintro (x45 : Int) w46 ⟨hx45, ht2, hg46⟩
    have OX46 : OwnI w46 w10.heap.size (some xd, i, i) xs := Own.xg OX hg46 (by omega)
    refine set_mk tyI64 OX46 rfl (show j < i by omega) rfl fun w48 OX48 hg48 _ => ?_
    rw [ints_set] at OX48
    refine z_i64 (by dsimp only; omega) ?_
    have hxd' : w10.heap.size ≤ xd.block := by omega
    refine hag _ (by omega) ⟨xg_put (hf40.trans hg46) hg48 (fun k hk => .inl (by simp [blk] at hk; omega)), p2 + 1, xs.set j x45, Tape.grown (b := xd.block) ht2 hg48 (by omega), by omega, OX48, fun x hx => ?_⟩
    rcases List.mem_or_eq_of_mem_set hx with hx | rfl
    · exact hxb x hx
    · exact ⟨hx45.1, by have := hx45.2; omega⟩
  dsimp only at e2
  clear hag again
  have hji : j = i := by omega
  subst hji
  have SX := OX.sl
  have lx : w10.heap.size ≤ xd.block ∧ xd.block < w40.heap.size := ⟨by omega, (OX.lt xd.block rfl).2⟩
  refine call_mono (nextF 2 ht (by omega) ⟨by omega, by omega⟩) ?_
  rintro (x50 : Int) w51 ⟨_, ht, hg51⟩
  refine z_i64 (by omega) ?_
  refine call_mono (nextF ((rows : Int) + 1) ht (by omega) ⟨by omega, by omega⟩) ?_
  rintro (x53 : Int) w54 ⟨hx53, ht, hg54⟩
  have hf54 := hg51.trans hg54
  have hsz54 := hf54.size
  have hsz40 := hf40.size
  obtain ⟨K, hK⟩ : ∃ K : Nat, x53 = (K : Int) := ⟨x53.toNat, by have := hx53.1; omega⟩
  subst hK
  have hKr : K ≤ rows := by have := hx53.2; omega
  have V54 := V40.xg hf54 (by omega)
  have A54 := (A.xg hf40 (by omega)).xg hf54 (by omega)
  have SU54 := SU40.xg hf54 (fun ad ha hx => by have := lu ad ha hx; omega)
  have SX54 := Sl.xg SX hf54 (fun ad ha _ => by cases ha; omega)
  have hfw54 : w.grownBy w54 (some tb.block) := (hf.trans hf40).trans hf54
  have hA1 : x1.block ≠ tb.block ∧ x1.block ≠ x3.block := ⟨by omega, by omega⟩
  -- what stays while rows are made
  have Kx : ∀ {w' : World}, Xb (fun k => k = tb.block ∨ k = x3.block) w54 w' → Sl w' (some xd) j j 1 (ints .i64 xs) := fun hX => by
    refine ⟨SX54.len, SX54.cap, SX54.most, SX54.nil', fun k u hu => ?_⟩
    obtain ⟨ad, q1, q2, q3⟩ := SX54.at' k u hu
    cases q1
    refine ⟨xd, rfl, ?_, by have := hX.size; omega⟩
    have := hX.block xd.block q3 (by omega)
    unfold World.cell? at q2 ⊢
    rw [add_block] at q2 ⊢
    rw [this]; exact q2
  have Ku : ∀ {w' : World}, Xb (fun k => k = tb.block ∨ k = x3.block) w54 w' → Sl w' uh.1 uh.2.1 uh.2.2 1 (ints .i64 up) := fun hX => by
    refine ⟨SU54.len, SU54.cap, SU54.most, SU54.nil', fun k u hu => ?_⟩
    obtain ⟨ad, q1, q2, q3⟩ := SU54.at' k u hu
    have hne : ints .i64 up ≠ [] := by rintro h0; rw [h0] at hu; simp at hu
    have := lu ad q1 hne
    refine ⟨ad, q1, ?_, by have := hX.size; omega⟩
    have := hX.block ad.block q3 (by omega)
    unfold World.cell? at q2 ⊢
    rw [add_block] at q2 ⊢
    rw [this]; exact q2
  refine loop_gh (G := Nat) (fun m s w' => s = (((K - m : Nat) : Int), ()) ∧ m ≤ K ∧ Xb (fun k => k = tb.block ∨ k = x3.block) w54 w' ∧ Box w' x1 nil3 ∧ ∃ p' rh bh hs T rt, Tape w' tb l L p' ∧ p' ≤ p + 3 + 2 * j + m * (j + 1) ∧
      Box w' x3 [.slice uh.1 uh.2.1 uh.2.2, .slice (rh : Hdr).1 rh.2.1 rh.2.2, .slice (bh : Hdr).1 bh.2.1 bh.2.2] ∧ TabH w' w54.heap.size rh hs ∧ OwnI w' w54.heap.size bh rt ∧ RowsAt w' hs T w54.heap.size (blk rh.1) (blk bh.1) ∧ T.length = m ∧ rt.length = m ∧
      (∀ q ∈ T, q.length = up.length ∧ ∀ x ∈ q, -5 ≤ x ∧ x ≤ 5) ∧ (∀ x ∈ rt, x.natAbs ≤ vars * 50000 + 3) ∧ (m = 0 → rh = (none, 0, 0) ∧ bh = (none, 0, 0))) (fun m => K - m) 0
    ⟨rfl, Nat.zero_le _, Xb.refl _ _, A54, p2 + 1 + 1, (none, 0, 0), (none, 0, 0), [], [], [], ht, by omega, V54, Own.nil _ _ _ _, Own.nil _ _ _ _, ⟨rfl, fun i x q h1 _ => by simp at h1⟩, rfl, rfl, by simp, by simp, fun _ => ⟨rfl, rfl⟩⟩ ?_
  rintro m s w57 ⟨rfl, hmK, hX, A57, p3, rh, bh, hs, T, rt, ht, hp3, V57, OR, OB, RA, hTl, hrl, hTp, hrp, hz0⟩ again hag _
  have hX57 := hX.size
  refine br_dec (fun e3 => ?_) (fun e3 => ?_)
  · dsimp only at e3
    have SX57 := Kx hX
    have hrl0 := OR.len
    have hbl0 := OB.len
    have hhs := RA.1
    have apt : ∀ k, blk rh.1 = some k → blk bh.1 = some k → False := TabH.apart OR OB
    have lR : ∀ k, blk rh.1 = some k → w54.heap.size ≤ k ∧ k < w57.heap.size := fun k hk => OR.lt k hk
    have lB : ∀ k, blk bh.1 = some k → w54.heap.size ≤ k ∧ k < w57.heap.size := fun k hk => OB.lt k hk
    refine join_mk (fun _ w' => Xb (fun k => k = tb.block ∨ k = x3.block) w54 w' ∧ Box w' x1 nil3 ∧ ∃ p' rh bh hs T rt, Tape w' tb l L p' ∧ p' ≤ p + 3 + 2 * j + (m + 1) * (j + 1) ∧
      Box w' x3 [.slice uh.1 uh.2.1 uh.2.2, .slice (rh : Hdr).1 rh.2.1 rh.2.2, .slice (bh : Hdr).1 bh.2.1 bh.2.2] ∧ TabH w' w54.heap.size rh hs ∧ OwnI w' w54.heap.size bh rt ∧ RowsAt w' hs T w54.heap.size (blk rh.1) (blk bh.1) ∧ T.length = m + 1 ∧ rt.length = m + 1 ∧
      (∀ q ∈ T, q.length = up.length ∧ ∀ x ∈ q, -5 ≤ x ∧ x ≤ 5) ∧ (∀ x ∈ rt, x.natAbs ≤ vars * 50000 + 3) ∧ (m + 1 = 0 → rh = (none, 0, 0) ∧ bh = (none, 0, 0))) (fun K' hK' => ?_) (fun _ w60 hJ _ => ?_)
    · refine loop_gh (G := Nat) (fun i s w' => ∃ (a : Hdr) (row : List Int) (p' : Nat), s = (a, dotI row xs i, ((i : Nat) : Int), ()) ∧ i ≤ j ∧ w57.grownBy w' (some tb.block) ∧ Tape w' tb l L p' ∧ p' ≤ p3 + i ∧ OwnI w' w57.heap.size a row ∧ row.length = i ∧ (∀ x ∈ row, -5 ≤ x ∧ x ≤ 5) ∧ (dotI row xs i).natAbs ≤ i * 50000) (fun i => j - i) 0
        ⟨(none, 0, 0), [], p3, rfl, Nat.zero_le _, grown_refl _ _, ht, by omega, Own.nil _ _ _ _, rfl, by simp, by simp [dotI]⟩ ?_
      rintro i s w64 ⟨a, row, p4, rfl, hij, hf57, ht, hp4, OA, hrow, hrb, hsum⟩ again2 hag2 _
      have hal := OA.len
      have hs64 := hf57.size
      refine br_dec (fun e4 => ?_) (fun e4 => ?_)
      · dsimp only at e4
        refine call_mono (nextF 11 ht (by have : m * (j + 1) ≤ 20 * 21 := Nat.mul_le_mul (by omega) (by omega); omega) ⟨by omega, by omega⟩) ?_
        rintro (x65 : Int) w66 ⟨hx65, ht, hg66⟩
        refine z_i64 (by omega) ?_
        have OA66 : OwnI w66 w57.heap.size a row := Own.xg OA hg66 (by omega)
        refine wr_app1 tyI64 OA66 (by have := hg66.size; omega) rfl (by omega) (by omega) rfl rfl (by omega) (by unfold maxLen; omega) fun a' c' w71 O71 hg71 _ _ => ?_
        have hoA : ∀ k, blk a.1 = some k → w57.heap.size ≤ k := fun k hk => (OA66.lt k hk).1
        have SX66 := Sl.xg (Sl.xg SX57 hf57 (fun ad ha _ => by cases ha; omega)) hg66 (fun ad ha _ => by cases ha; omega)
        have SX71 := Sl.grown SX66 hg71 (fun ad ha _ e => by cases ha; have := hoA _ e.symm; omega)
        refine at_int tyI64 (by kernel_rfl) SX71 rfl (by omega) fun xv hxv => ?_
        have bx := hxb xv (mem_at hxv)
        have hc : (row ++ [x65 - 5])[i]? = some (x65 - 5) := by rw [List.getElem?_append_right (by omega), hrow, Nat.sub_self]; rfl
        have st : dotI (row ++ [x65 - 5]) xs (i + 1) = dotI row xs i + (x65 - 5) * xv := by rw [dotI_step hc hxv, dotI_snoc (by omega)]
        have bp : ((x65 - 5) * xv).natAbs ≤ 50000 := by
          rw [Int.natAbs_mul]
          exact Nat.le_trans (Nat.mul_le_mul (show (x65 - 5).natAbs ≤ 5 by omega) (show xv.natAbs ≤ 10000 by omega)) (by omega)
        have bs : (dotI (row ++ [x65 - 5]) xs (i + 1)).natAbs ≤ (i + 1) * 50000 := by rw [st]; omega
        refine z_i64 (by omega) ?_
        refine z_i64 (by dsimp only; omega) ?_
        refine z_i64 (by dsimp only; omega) ?_
        have htt : Tape w71 tb l L (p4 + 1) := ⟨ht.box.grown hg71 (fun e => by have := hoA _ e.symm; omega), ht.sl.grown hg71 (fun ad ha hx e => by have := ht.old ad ha (by rintro rfl; exact hx rfl); have := hoA _ e.symm; omega), ht.old, ht.i64⟩
        refine hag2 (i + 1) _ _ ⟨(a', i + 1, c'), row ++ [x65 - 5], p4 + 1, ?_, by omega, xg_put (hf57.trans hg66) hg71 (fun k hk => .inl (hoA k hk)), htt, by omega, ?_, by simp [hrow], fun x hx => ?_, bs⟩ (by omega)
        · rw [st]
          have : a.2.1 = i := by omega
          rw [this]; rfl
        · show Own w71 _ _ 1 a' (i + 1) c' (ints .i64 (row ++ [x65 - 5]))
          have : a.2.1 = i := by omega
          rw [ints_app, ← this]; exact O71
        · rcases List.mem_append.1 hx with hx | hx
          · exact hrb x hx
          · simp at hx; subst hx; omega
      dsimp only at e4
      have hij' : i = j := by omega
      subst hij'
      have bmul : m * (i + 1) ≤ 20 * 21 := Nat.mul_le_mul (by omega) (by omega)
      have bi : i * 50000 ≤ vars * 50000 := Nat.mul_le_mul (by omega) (Nat.le_refl _)
      refine join_mk (fun s w' => s.1.natAbs ≤ vars * 50000 + 3 ∧ w57.grownBy w' (some tb.block) ∧ OwnI w' w57.heap.size a row ∧ ∃ p', Tape w' tb l L p' ∧ p' ≤ p3 + i + 1) (fun K'' hK'' => ?_) (fun s w79 hh _ => ?_)
      · refine br_not (fun _ => ?_) (fun _ => hK'' _ _ ⟨Nat.le_trans hsum (Nat.le_trans bi (Nat.le_add_right _ _)), hf57, OA, p4, ht, by omega⟩)
        refine call_mono (nextF 7 ht (by omega) ⟨by omega, by omega⟩) ?_
        rintro (x115 : Int) w116 ⟨hx115, ht, hg116⟩
        refine z_i64 (by omega) ?_
        refine z_i64 (by dsimp only; omega) ?_
        exact hK'' _ _ ⟨by dsimp only; omega, hf57.trans hg116, Own.xg OA hg116 (by omega), p4 + 1, ht, by omega⟩
      obtain ⟨sv, _⟩ := s
      obtain ⟨hsv, hf79, OA, p5, ht, hp5⟩ := hh
      dsimp only at hsv
      have hs79 := hf79.size
      refine drw_mk fun w80 h80 _ => ?_
      replace ht := ht.up h80
      have hf80 : w57.grownBy w80 (some tb.block) := hf79.trans (grown_of_bel h80 _)
      have hs80 := hf80.size
      have OR80 : TabH w80 w54.heap.size rh hs := Own.xg OR hf80 (by omega)
      have OB80 : OwnI w80 w54.heap.size bh rt := Own.xg OB hf80 (by omega)
      have OA80 : OwnI w80 w57.heap.size a row := Own.kept OA h80
      have V80 := V57.xg hf80 (by omega)
      have nx3 : ¬ (blk rh.1 = some x3.block ∨ blk bh.1 = some x3.block) := by rintro (q | q); have := lR _ q; omega; have := lB _ q; omega
      have blB : ∀ {k w'}, blk rh.1 = some k ∨ blk bh.1 = some k → w80.heap.size ≤ w'.heap.size → k < (w' : World).heap.size := by
        rintro k w' (q | q) h
        · have := lR _ q; omega
        · have := lB _ q; omega
      refine flExC_mk (Xb (fun k => blk rh.1 = some k ∨ blk bh.1 = some k)) (fun jj w w' => (jj = 4 → w.grownBy w' (blk rh.1)) ∧ (jj = 9 → w.grownBy w' (blk bh.1)) ∧ (jj ≠ 4 → jj ≠ 9 → bel w w'))
        (fun D w' => (D 4 = false → TabH w' w54.heap.size rh hs) ∧ (D 9 = false → OwnI w' w54.heap.size bh rt))
        (fun i _ v w' => (i = 3 → ∃ ad, v = .slice (some ad) 1 1 ∧ Sl w' (some ad) 1 1 1 [hv a] ∧ w80.heap.size ≤ ad.block) ∧ (i = 8 → ∃ ad, v = .slice (some ad) 1 1 ∧ Sl w' (some ad) 1 1 1 (ints .i64 [sv]) ∧ w80.heap.size ≤ ad.block) ∧
          (i = 4 → ∃ a' c', v = .slice a' (rh.2.1 + 1) c' ∧ TabH w' w54.heap.size (a', rh.2.1 + 1, c') (hs ++ [a]) ∧ (blk a' = blk rh.1 ∨ ∀ k, blk a' = some k → w80.heap.size ≤ k)) ∧
          (i = 9 → ∃ a' c', v = .slice a' (bh.2.1 + 1) c' ∧ OwnI w' w54.heap.size (a', bh.2.1 + 1, c') (rt ++ [sv]) ∧ (blk a' = blk bh.1 ∨ ∀ k, blk a' = some k → w80.heap.size ≤ k)))
        (fun w => Xb.refl _ w) (fun _ _ _ x y => Xb.trans x y) (fun i jj ags v w w' hne hΦ hE hG => ⟨fun e => ?_, fun e => ?_, fun e => ?_, fun e => ?_⟩) ⟨fun _ => OR80, fun _ => OB80⟩ ?_
      · obtain ⟨ad, q1, q2, q3⟩ := hΦ.1 e
        exact ⟨ad, q1, q2.xb hE (fun ad' ha _ q => by cases ha; have := blB q (Nat.le_refl _); omega), q3⟩
      · obtain ⟨ad, q1, q2, q3⟩ := hΦ.2.1 e
        exact ⟨ad, q1, q2.xb hE (fun ad' ha _ q => by cases ha; have := blB q (Nat.le_refl _); omega), q3⟩
      · obtain ⟨a', c', q1, q2, q3⟩ := hΦ.2.2.1 e
        refine ⟨a', c', q1, ?_, q3⟩
        by_cases hj9 : jj = 9
        · refine Own.keptBy q2 (hG.2.1 hj9) ?_
          cases hk : blk a' with
          | none => exact .inl rfl
          | some k =>
            refine .inr fun q => ?_
            rcases q3 with q3 | q3
            · exact apt k (by rw [← q3, hk]) q.symm
            · have := q3 k hk; have := lB k q.symm; omega
        · exact Own.kept q2 (hG.2.2 (fun q => hne (e.trans q.symm)) hj9)
      · obtain ⟨a', c', q1, q2, q3⟩ := hΦ.2.2.2 e
        refine ⟨a', c', q1, ?_, q3⟩
        by_cases hj4 : jj = 4
        · refine Own.keptBy q2 (hG.1 hj4) ?_
          cases hk : blk a' with
          | none => exact .inl rfl
          | some k =>
            refine .inr fun q => ?_
            rcases q3 with q3 | q3
            · exact apt k q.symm (by rw [← q3, hk])
            · have := q3 k hk; have := lR k q.symm; omega
        · exact Own.kept q2 (hG.2.2 hj4 (fun q => hne (e.trans q.symm)))
      have xbel : ∀ {w w' : World}, bel w w' → Xb (fun k => blk rh.1 = some k ∨ blk bh.1 = some k) w w' := fun hb => Xb.of (grown_of_bel hb none) (fun k hk => by cases hk)
      refine rdE_box (by kernel_rfl) (fun w' hE => V80.xb hE.1 nx3) (i := 1) rfl rfl ?_
      refine flcC_mk (fun D w' hD hE hS _ => ?_) (fun (x91 : Hdr) => ?_)
      · refine wr_lit tyTab #[.slice a.1 a.2.1 a.2.2] (fill_one 1 (.slice a.1 a.2.1 a.2.2) _ rfl (by simp)) (by omega) (by omega) rfl (by unfold maxLen; omega) fun ad w'' O' hb hbl _ => ?_
        exact ⟨xbel hb, ⟨fun e => by omega, fun e => by omega, fun _ _ => hb⟩, ⟨fun q => Own.kept (hS.1 (by rw [setD_ne (by decide)] at q; exact q)) hb, fun q => Own.kept (hS.2 (by rw [setD_ne (by decide)] at q; exact q)) hb⟩, ⟨fun _ => ⟨ad, rfl, (O' w'.heap.size (Nat.le_refl _)).sl, by have := hE.size; omega⟩, fun e => by omega, fun e => by omega, fun e => by omega⟩⟩
      refine flcC_mk (fun D w' hD hE hS hf => ?_) (fun (x97 : Hdr) => ?_)
      · obtain ⟨ad, ev, S, hS80⟩ := hf.1.1 rfl
        simp only [Value.slice.injEq] at ev
        obtain ⟨ev1, ev2, ev3⟩ := ev
        rw [ev1, ev2, ev3]
        have OR' := hS.1 hD
        refine wr_app tyTab OR' S (by have := hE.size; omega) rfl (by omega) rfl (by omega) (by unfold maxLen; omega) fun a' c' w'' O' hg hnew _ => ?_
        refine ⟨Xb.of hg (fun k hk => .inl hk), ⟨fun _ => hg, fun e => by omega, fun e => absurd rfl e⟩, ⟨(fun q => by rw [setD_self] at q; cases q), fun q => Own.keptBy (hS.2 (by rw [setD_ne (by decide)] at q; exact q)) hg ?_⟩, ⟨fun e => by omega, fun e => by omega, fun _ => ⟨a', c', rfl, ?_, ?_⟩, fun e => by omega⟩⟩
        · cases hk : blk bh.1 with
          | none => exact .inl rfl
          | some k => exact .inr fun q => apt k q.symm hk
        · show Own w'' _ _ 1 a' (rh.2.1 + 1) c' ((hs ++ [a]).map hv)
          rw [List.map_append]; exact O'
        · rcases hnew with q | q
          · exact .inl q
          · exact .inr fun k hk => by have := q k hk; have := hE.size; omega
      refine rdE_box (by kernel_rfl) (fun w' hE => V80.xb hE.1 nx3) (i := 2) rfl rfl ?_
      refine flcC_mk (fun D w' hD hE hS _ => ?_) (fun (x104 : Hdr) => ?_)
      · refine wr_lit tyI64 #[.int .i64 sv] (fill_one 1 (.int .i64 sv) _ rfl (by simp)) (by omega) (by omega) rfl (by unfold maxLen; omega) fun ad w'' O' hb hbl _ => ?_
        exact ⟨xbel hb, ⟨fun e => by omega, fun e => by omega, fun _ _ => hb⟩, ⟨fun q => Own.kept (hS.1 (by rw [setD_ne (by decide)] at q; exact q)) hb, fun q => Own.kept (hS.2 (by rw [setD_ne (by decide)] at q; exact q)) hb⟩, ⟨fun e => by omega, fun _ => ⟨ad, rfl, (O' w'.heap.size (Nat.le_refl _)).sl, by have := hE.size; omega⟩, fun e => by omega, fun e => by omega⟩⟩
      refine flcC_mk (fun D w' hD hE hS hf => ?_) (fun (x110 : Hdr) => ?_)
      · obtain ⟨ad, ev, S, hS80⟩ := hf.1.2.1 rfl
        simp only [Value.slice.injEq] at ev
        obtain ⟨ev1, ev2, ev3⟩ := ev
        rw [ev1, ev2, ev3]
        have OB' := hS.2 hD
        refine wr_app tyI64 OB' S (by have := hE.size; omega) rfl (by omega) rfl (by omega) (by unfold maxLen; omega) fun a' c' w'' O' hg hnew _ => ?_
        refine ⟨Xb.of hg (fun k hk => .inr hk), ⟨fun e => by omega, fun _ => hg, fun _ e => absurd rfl e⟩, ⟨fun q => Own.keptBy (hS.1 (by rw [setD_ne (by decide)] at q; exact q)) hg ?_, (fun q => by rw [setD_self] at q; cases q)⟩, ⟨fun e => by omega, fun e => by omega, fun e => by omega, fun _ => ⟨a', c', rfl, ?_, ?_⟩⟩⟩
        · cases hk : blk rh.1 with
          | none => exact .inl rfl
          | some k => exact .inr fun q => apt k hk q.symm
        · show Own w'' _ _ 1 a' (bh.2.1 + 1) c' (ints .i64 (rt ++ [sv]))
          rw [ints_app]; exact O'
        · rcases hnew with q | q
          · exact .inl q
          · exact .inr fun k hk => by have := q k hk; have := hE.size; omega
      refine flendC_mk fun w111 hE hS hfa => ?_
      obtain ⟨f9, _, f4, _⟩ := hfa
      obtain ⟨b1, d1, ev, OB1, hb1⟩ := f9.2.2.2 rfl
      have e9 : x110 = (b1, bh.2.1 + 1, d1) := sl_inj ev
      obtain ⟨a1, c1, ev, OR1, ha1⟩ := f4.2.2.1 rfl
      have e4' : x97 = (a1, rh.2.1 + 1, c1) := sl_inj ev
      subst e9 e4'
      have hs111 := hE.size
      have V111 := V80.xb hE nx3
      have ht111 := ht.xb hE (by rintro k (q | q); have := lR _ q; omega; have := lB _ q; omega)
      have A111 := (A57.xg hf80 (by omega)).xb hE (by rintro (q | q); have := lR _ q; omega; have := lB _ q; omega)
      have RA80 := RA.grown hf80 (.inl fun k hk => by injection hk; omega)
      have RA111 := RA80.xb hE (fun k q => q)
      have SA := OA80.sl
      have lA : ∀ ad, a.1 = some ad → w57.heap.size ≤ ad.block ∧ ad.block < w80.heap.size := fun ad ha => OA80.lt ad.block (by rw [ha]; rfl)
      have SA111 := SA.xb hE (fun ad ha _ q => by
        rcases q with q | q
        · have := lR _ q; have := lA ad ha; omega
        · have := lB _ q; have := lA ad ha; omega)
      have RA2 : RowsAt w111 (hs ++ [a]) (T ++ [row]) w54.heap.size (blk a1) (blk b1) := by
        refine ⟨by simp [hhs], fun k x q g1 g2 => ?_⟩
        have off : ∀ ad : Addr, w54.heap.size ≤ ad.block → ad.block < w80.heap.size → some ad.block ≠ blk rh.1 → some ad.block ≠ blk bh.1 → some ad.block ≠ blk a1 ∧ some ad.block ≠ blk b1 := by
          intro ad q1 q2 q3 q4
          constructor
          · intro e
            rcases ha1 with r | r
            · exact q3 (e.trans r)
            · have := r _ e.symm; omega
          · intro e
            rcases hb1 with r | r
            · exact q4 (e.trans r)
            · have := r _ e.symm; omega
        rcases Nat.lt_or_ge k hs.length with r | r
        · rw [List.getElem?_append_left r] at g1
          rw [List.getElem?_append_left (by omega)] at g2
          obtain ⟨s1, s2⟩ := RA111.2 k x q g1 g2
          obtain ⟨_, s3⟩ := RA80.2 k x q g1 g2
          refine ⟨s1, fun ad ha => ?_⟩
          obtain ⟨r1, r2, r3, r4⟩ := s3 ad ha
          obtain ⟨o1, o2⟩ := off ad r1 r2 r3 r4
          exact ⟨r1, by omega, o1, o2⟩
        · rw [List.getElem?_append_right r] at g1
          rw [List.getElem?_append_right (by omega)] at g2
          have hk0 : k - hs.length = 0 := by
            rcases Nat.eq_zero_or_pos (k - hs.length) with z | z
            · exact z
            · rw [List.getElem?_eq_none (by simp; omega)] at g1; cases g1
          rw [hk0] at g1
          rw [show k - T.length = 0 by omega] at g2
          cases g1; cases g2
          refine ⟨SA111, fun ad ha => ?_⟩
          have := lA ad ha
          obtain ⟨o1, o2⟩ := off ad (by omega) (by omega) (fun e => by have := lR _ e.symm; omega) (fun e => by have := lB _ e.symm; omega)
          exact ⟨by omega, by omega, o1, o2⟩
      refine wu_boxi V111 (by kernel_rfl) (show 1 < 3 by omega) rfl fun w113 V113 hg113 _ => ?_
      refine wu_boxi V113 (by kernel_rfl) (show 2 < 3 by omega) rfl fun w114 V114 hg114 _ => ?_
      have hg2 : w111.grownBy w114 (some x3.block) := hg113.trans hg114
      refine hK' _ _ ⟨?_, A111.xg hg2 (by omega), p5, (a1, rh.2.1 + 1, c1), (b1, bh.2.1 + 1, d1), hs ++ [a], T ++ [row], rt ++ [sv], ht111.grown hg2 (by omega), ?_, V114, Own.xg OR1 hg2 (by omega), Own.xg OB1 hg2 (by omega), RA2.grown hg2 (.inl fun k hk => by injection hk; omega), by simp [hTl], by simp [hrl], ?_, ?_, fun e => absurd e (by omega)⟩
      · refine ((hX.more (Xb.of (S := fun k => k = tb.block) hf80 (fun k hk => by injection hk with hk; exact hk.symm)) (fun k q => .inl (.inl q))).more hE (fun k q => .inr ?_)).more (Xb.of (S := fun k => k = x3.block) hg2 (fun k hk => by injection hk with hk; exact hk.symm)) (fun k q => .inl (.inr q))
        rcases q with q | q
        · exact (lR k q).1
        · exact (lB k q).1
      · have : (m + 1) * (i + 1) = m * (i + 1) + (i + 1) := by rw [Nat.add_mul, Nat.one_mul]
        omega
      · intro q hq
        rcases List.mem_append.1 hq with hq | hq
        · exact hTp q hq
        · simp at hq; subst hq; exact ⟨by omega, hrb⟩
      · intro x hx
        rcases List.mem_append.1 hx with hx | hx
        · exact hrp x hx
        · simp at hx; subst hx; exact hsv
    · obtain ⟨g1, g2, g3⟩ := hJ
      refine z_i64 (by dsimp only; omega) ?_
      refine hag (m + 1) _ _ ⟨?_, by omega, g1, g2, g3⟩ (by omega)
      have : (((K - m : Nat) : Int) - 1) = ((K - (m + 1) : Nat) : Int) := by omega
      rw [this]
  · dsimp only at e3
    have hmK' : m = K := by omega
    subst hmK'
    refine rd_boxN V57 (by kernel_rfl) rfl ?_
    refine wu_box A57 (by kernel_rfl) (Nat.le_refl 3) rfl fun w108 A108 hg108 _ => ?_
    have hhl := OR.len
    refine rd_boxV A108 (by kernel_rfl) rfl ⟨((uh, rh, bh, ()) : Hdr × Hdr × Hdr × Unit), rfl, up, T, rt, p3, ⟨by omega, by omega, by omega, by omega, hTp, hub, hrp⟩, fun w2 hg2 => ⟨?_, ?_, ?_⟩, ht.grown hg108 (by omega), ?_, ?_, fun e => hz0 (by omega)⟩
    · exact Sl.xg (Sl.xg (Ku hX) hg108 (fun ad ha hx => by have := lu ad ha hx; omega)) hg2 (fun ad ha hx => by have := lu ad ha hx; omega)
    · have OR2 := Own.xg (Own.xg OR hg108 (by omega)) hg2 (by omega)
      have RA2 := (RA.grown hg108 (.inl fun k hk => by injection hk; omega)).grown hg2 (.inl fun k hk => by injection hk; omega)
      exact ⟨hs, OR2.sl, RA2.1, fun i x q h1 h2 => (RA2.2 i x q h1 h2).1⟩
    · exact Own.sl (Own.xg (Own.xg OB hg108 (by omega)) hg2 (by omega))
    · have : m * (j + 1) ≤ 20 * 21 := Nat.mul_le_mul (by omega) (by omega)
      omega
    · refine xg_put (o := some x1.block) ?_ hg108 (fun k hk => .inl (by injection hk; omega))
      exact ⟨hX.os.trans hfw54.os, hX.tape.trans hfw54.tape, hX.output.trans hfw54.output, by have := hfw54.size; omega, fun k hk hne => by
        rw [hX.block k (by have := hfw54.size; omega) (by rintro (q | q); exact hne (by rw [q]); omega), hfw54.block k hk hne]⟩
theorem dotI_set {row xs : List Int} {c : Int} {i : Nat} : ∀ {k : Nat}, k ≤ i → dotI (row.set i c) xs k = dotI row xs k
  | 0, _ => rfl
  | k + 1, h => by
    show dotI (row.set i c) xs k + dotJ (row.set i c) xs k = dotI row xs k + dotJ row xs k
    rw [dotI_set (by omega)]
    congr 1
    unfold dotJ
    rw [List.getElem?_set_ne (by omega)]
def halfP (xs : List Int) (m : Nat) : List (Int × Int) := one1s xs ++ List.replicate m (0, 0)
theorem halfP_set (xs : List Int) (m : Nat) (z : Int) : (halfP xs (m + 1)).set xs.length (z, 1) = halfP (xs ++ [z]) m := by
  unfold halfP one1s
  rw [List.set_append_right _ _ (by simp), List.length_map, Nat.sub_self, List.replicate_succ, List.set_cons_zero]
  simp
theorem sol_of {up : List Int} {T : List (List Int)} {rt xs : List Int} (hok : sysE up T rt = 0) (h : Pt T rt (List.replicate up.length 0) up xs) : SolP up T rt (one1s xs) := by
  obtain ⟨hul, hTl, hR, hA⟩ := sysE_ok hok
  have hl := h.lhi
  refine ⟨hok, by simp [hl], fun k p u hp hu => ?_, fun i row y hrow hy => ?_⟩
  · rw [List.getElem?_map] at hp
    obtain ⟨x, hx, rfl⟩ := Option.map_eq_some_iff.1 hp
    have hk : k < up.length := (List.getElem?_eq_some_iff.1 hu).1
    exact (each_int (hR.1 u (mem_at hu)).2).2 (h.each k 0 u x (by rw [List.getElem?_replicate, if_pos hk]) hu hx)
  · rw [dotN_int, hl, h.rows i row y hrow hy]

set_option maxHeartbeats 24000000 in
theorem linNever (l mm : Hdr) (L0 : List Int) (M0 : List (Int × Int)) (w : World) (HL : Sl w l.1 l.2.1 l.2.2 1 (ints .i64 L0)) (hL : ∀ x ∈ L0, I64 x) (HM : Sl w mm.1 mm.2.1 mm.2.2 2 (M0.flatMap encF)) (hI : ∀ p ∈ M0, I64 p.1 ∧ I64 p.2) :
    Calls Try.prog 12 #[.slice l.1 l.2.1 l.2.2, .slice mm.1 mm.2.1 mm.2.2] w (fun e w' => e = .returned (.bool true) ∧ Below w.heap.size w w') := by
  refine Calls.mono (S12_calls l.1 l.2.1 l.2.2 mm.1 mm.2.1 mm.2.2 w (fun v w' => v = .bool true ∧ bel w w') ?_) (by rintro e w' ⟨v, rfl, rfl, hb⟩; exact ⟨rfl, hb⟩)
  unfold S12
  refine br_dec (fun _ => ⟨rfl, bel.refl _⟩) (fun _ => ?_)
  refine wr_box fun tb w2 TB h2 hx1 _ => ?_
  have ht := tape_new HL hL TB h2 hx1
  refine call_mono (systemN 4 0 20 ht (by omega) (by omega) (by omega) (by omega) (by omega)) ?_
  rintro ((y3 : Hdr × Hdr × Hdr × Unit)) w4 ⟨up, T0, rt0, p, MS, HS, ht, hp, hg4, hnil⟩
  obtain ⟨u, r, b, _⟩ := y3
  dsimp only at HS hnil
  obtain ⟨rfl, rfl⟩ := hnil rfl
  have n1 := MS.n1
  have n2 := MS.n2
  have hupB := MS.up
  have b4 : bel w w4 := h2.grownAt hg4 (by omega)
  have ltb := TB.lt
  have s4 := hg4.size
  refine var_mk (v := sysv u (none, 0, 0) (none, 0, 0)) (z := .agg #[.slice none 0 0, .slice none 0 0, .slice none 0 0]) (by kernel_rfl) (by kernel_rfl) rfl rfl fun x3 w7 X h7 hx5 => ?_
  replace X : Box w7 x3 (sysc u (none, 0, 0) (none, 0, 0)) := X
  replace ht := ht.up h7
  have g7 : w4.grownBy w7 (some tb.block) := grown_of_bel h7 _
  have l3 := X.lt
  have ht3 : tb.block < x3.block := by omega
  have HU : ∀ {w' : World}, w4.grownBy w' (some tb.block) → Sl w' u.1 u.2.1 u.2.2 1 (ints .i64 up) := fun hg => (HS _ hg).u
  have hun := (HU g7).int
  refine rd_box0 (by kernel_rfl) X rfl rfl ?_
  refine wr_make tyFr u.2.1 rfl rfl (by omega) (by unfold maxLen; omega) fun xd w10 OX h10 hxd _ => ?_
  have OX0 : Own w10 w7.heap.size 23 2 (some xd) up.length up.length ((halfP [] up.length).flatMap encF) := by
    have := OX w7.heap.size (Nat.le_refl _)
    rw [made_flat (enc := encF) encF_len (by omega) ((0, 0) : Int × Int) (Value.agg #[Value.int .i64 0, Value.int .i64 0]).cells rfl u.2.1, ← hun] at this
    exact this
  rw [← hun]
  clear OX
  -- the point
  refine loop_up up.length (fun i w' => w7.grownBy w' (some tb.block) ∧ ∃ p' xs, Tape w' tb l L0 p' ∧ p' ≤ p + i ∧ xs.length = i ∧ Own w' w7.heap.size 23 2 (some xd) up.length up.length ((halfP xs (up.length - i)).flatMap encF) ∧ ∀ (k : Nat) u x, up[k]? = some u → xs[k]? = some x → 0 ≤ x ∧ x ≤ u)
    ⟨grown_of_bel h10 _, p, [], ht.up h10, by omega, rfl, OX0, fun k u x _ hx => by simp at hx⟩ fun i w13 hi ⟨hf, p', xs, ht, hp', hxl, OX, hxb⟩ again hag _ => ?_
  have s13 := hf.size
  have X13 := X.xg hf (by omega)
  refine br_dec (fun e => ?_) (fun e => ?_)
  · dsimp only at e
    have hi' : i < up.length := by omega
    refine rd_box0 (by kernel_rfl) X13 rfl rfl ?_
    refine at_int tyI64 (by kernel_rfl) (HU (g7.trans hf)) (j := i) rfl (by omega) fun v hv => ?_
    have hvb := hupB v (mem_at hv)
    refine z_i64 (by omega) ?_
    refine call_mono (nextF (v + 1) ht (by omega) ⟨by omega, by omega⟩) ?_
    rintro (z : Int) w19 ⟨hz, ht, hg⟩
    have s19 := hg.size
    have OX19 : Own w19 w7.heap.size 23 2 (some xd) up.length up.length ((halfP xs (up.length - i)).flatMap encF) := Own.xg OX hg (by omega)
    refine set_agg tyFr encF_len OX19 rfl (by unfold halfP; simp [hxl]; omega) (p := (z, 1)) rfl (by omega) rfl fun w21 O21 hg21 _ => ?_
    rw [show up.length - i = (up.length - (i + 1)) + 1 by omega, ← hxl, halfP_set, hxl] at O21
    refine z_i64 (by dsimp only; omega) ?_
    refine hag _ hi' ⟨xg_put (hf.trans hg) hg21 (fun k hk => .inl (by simp [blk] at hk; omega)), p' + 1, xs ++ [z], ht.grown (b := xd.block) hg21 (by omega), by omega, by simp [hxl], O21, fun k v' x hv' hx => ?_⟩
    rcases Nat.lt_or_ge k xs.length with q | q
    · rw [List.getElem?_append_left q] at hx; exact hxb k v' x hv' hx
    · rw [List.getElem?_append_right q] at hx
      have hk : k - xs.length = 0 := by
        rcases Nat.eq_zero_or_pos (k - xs.length) with h | h
        · exact h
        · rw [List.getElem?_eq_none (by simp; omega)] at hx; cases hx
      rw [hk] at hx
      have hki : k = i := by omega
      subst hki
      rw [hv] at hv'
      cases hv'; cases hx
      exact ⟨hz.1, by have := hz.2; omega⟩
  dsimp only at e
  have hin : i = up.length := by omega
  subst hin
  clear hag again
  have SXs : Sl w13 (some xd) up.length up.length 2 ((one1s xs).flatMap encF) := by
    have := OX.sl
    unfold halfP at this
    rw [Nat.sub_self, List.replicate_zero, List.append_nil] at this
    exact this
  refine call_mono (nextF 4 ht (by omega) ⟨by omega, by omega⟩) ?_
  rintro (x23 : Int) w54 ⟨hx23, ht, hg54⟩
  have s54 := hg54.size
  have V54 := X13.xg hg54 (by omega)
  have SX54 : Sl w54 (some xd) up.length up.length 2 ((one1s xs).flatMap encF) := SXs.xg hg54 (fun ad ha _ => by cases ha; omega)
  have xdl : xd.block < w54.heap.size := by have := h10.size; have := (OX.lt xd.block rfl).2; omega
  have g54 : w4.grownBy w54 (some tb.block) := (g7.trans hf).trans hg54
  obtain ⟨K, hK⟩ : ∃ K : Nat, x23 = (K : Int) := ⟨x23.toNat, by have := hx23.1; omega⟩
  subst hK
  have hK3 : K ≤ 3 := by have := hx23.2; omega
  -- what stays while rows are made
  have Kx : ∀ {w' : World}, Xb (fun k => k = tb.block ∨ k = x3.block) w54 w' → Sl w' (some xd) up.length up.length 2 ((one1s xs).flatMap encF) := fun hX => SX54.xb hX (fun ad ha _ q => by cases ha; rcases q with q | q <;> omega)
  have Ku : ∀ {w' : World}, Xb (fun k => k = tb.block ∨ k = x3.block) w54 w' → w4.grownBy w' (some tb.block) := fun hX => by
    have h1 : Xb (fun k => k = tb.block) w4 w54 := Xb.of g54 (fun k hk => by injection hk with hk; exact hk.symm)
    have h2 := h1.more hX (fun k q => by rcases q with q | q; exact .inl q; exact .inr (by omega))
    exact Xb.grown h2 (fun k q _ => by rw [q])
  refine loop_gh (G := Nat) (fun m s w' => s = (((K - m : Nat) : Int), ()) ∧ m ≤ K ∧ Xb (fun k => k = tb.block ∨ k = x3.block) w54 w' ∧ ∃ p' rh bh hs T rt, Tape w' tb l L0 p' ∧ p' ≤ p + 30 + m * 20 ∧
      Box w' x3 [.slice u.1 u.2.1 u.2.2, .slice (rh : Hdr).1 rh.2.1 rh.2.2, .slice (bh : Hdr).1 bh.2.1 bh.2.2] ∧ TabH w' w54.heap.size rh hs ∧ OwnI w' w54.heap.size bh rt ∧ RowsAt w' hs T w54.heap.size (blk rh.1) (blk bh.1) ∧ T.length = m ∧ rt.length = m ∧
      (∀ q ∈ T, q.length = up.length ∧ ∀ x ∈ q, -10 ≤ x ∧ x ≤ 10) ∧ (∀ (i : Nat) q y, T[i]? = some q → rt[i]? = some y → dotI q xs up.length = y) ∧ ∀ x ∈ rt, x.natAbs ≤ 1000) (fun m => K - m) 0
    ⟨rfl, Nat.zero_le _, Xb.refl _ _, p' + 1, (none, 0, 0), (none, 0, 0), [], [], [], ht, by omega, V54, Own.nil _ _ _ _, Own.nil _ _ _ _, ⟨rfl, fun i x q h1 _ => by simp at h1⟩, rfl, rfl, by simp, fun i q y h1 _ => by simp at h1, by simp⟩ ?_
  clear ht hp'
  rintro m s w57 ⟨rfl, hmK, hX, p3, rh, bh, hs, T, rt, ht, hp3, V57, OR, OB, RA, hTl, hrl, hTp, hrp, hrB⟩ again hag _
  have hX57 := hX.size
  refine br_dec (fun e3 => ?_) (fun e3 => ?_)
  · dsimp only at e3
    have SX57 := Kx hX
    have hrl0 := OR.len
    have hbl0 := OB.len
    have hhs := RA.1
    have apt : ∀ k, blk rh.1 = some k → blk bh.1 = some k → False := TabH.apart OR OB
    have lR : ∀ k, blk rh.1 = some k → w54.heap.size ≤ k ∧ k < w57.heap.size := fun k hk => OR.lt k hk
    have lB : ∀ k, blk bh.1 = some k → w54.heap.size ≤ k ∧ k < w57.heap.size := fun k hk => OB.lt k hk
    refine wr_make tyI64 up.length rfl rfl (by omega) (by unfold maxLen; omega) fun rd0 w29 O29 h29 hrd _ => ?_
    have O0 : OwnI w29 w57.heap.size (some rd0, up.length, up.length) (List.replicate up.length 0) := by
      have := O29 w57.heap.size (Nat.le_refl _)
      rw [Nat.mul_one, show (madeCells (Value.int .i64 0).cells up.length).toList = ints .i64 (List.replicate up.length 0) from made_int .i64 _] at this
      exact this
    clear O29
    refine loop_gh (G := Nat) (fun i s w' => ∃ (row : List Int) (p' : Nat), s = (dotI row xs i, ((i : Nat) : Int), ()) ∧ i ≤ up.length ∧ w57.grownBy w' (some tb.block) ∧ Tape w' tb l L0 p' ∧ p' ≤ p3 + i ∧ OwnI w' w57.heap.size (some rd0, up.length, up.length) row ∧ row.length = up.length ∧ (∀ x ∈ row, -10 ≤ x ∧ x ≤ 10) ∧ (dotI row xs i).natAbs ≤ i * 200) (fun i => up.length - i) 0
      ⟨List.replicate up.length 0, p3, rfl, Nat.zero_le _, grown_of_bel h29 _, ht.up h29, by omega, O0, by simp, fun x hx => by rw [List.eq_of_mem_replicate hx]; omega, by simp [dotI]⟩ ?_
    clear ht O0
    rintro i s w64 ⟨row, p4, rfl, hij, hf57, ht, hp4, OA, hrow, hrb, hsum⟩ again2 hag2 _
    have hs64 := hf57.size
    have bm : m * 20 ≤ 3 * 20 := Nat.mul_le_mul_right _ (by omega)
    refine br_dec (fun e4 => ?_) (fun e4 => ?_)
    · dsimp only at e4
      have hi' : i < up.length := by omega
      refine call_mono (nextF 21 ht (by omega) ⟨by omega, by omega⟩) ?_
      rintro (x33 : Int) w34 ⟨hx33, ht, hg34⟩
      have s34 := hg34.size
      refine z_i64 (by omega) ?_
      have OA34 : OwnI w34 w57.heap.size (some rd0, up.length, up.length) row := Own.xg OA hg34 (by omega)
      refine set_mk tyI64 OA34 (j := i) rfl hi' rfl fun w37 O37 hg37 _ => ?_
      rw [ints_set] at O37
      have hrdB : w57.heap.size ≤ rd0.block := by omega
      have hg37' : w34.grownBy w37 (some rd0.block) := hg37
      replace ht := ht.grown hg37' (by omega)
      have hf37 : w57.grownBy w37 (some tb.block) := xg_put (hf57.trans hg34) hg37' (fun k hk => .inl (by injection hk; omega))
      refine drw_mk fun w38 h38 _ => ?_
      replace ht := ht.up h38
      have hf38 : w57.grownBy w38 (some tb.block) := hf37.trans (grown_of_bel h38 _)
      have O38 : OwnI w38 w57.heap.size (some rd0, up.length, up.length) (row.set i (x33 - 10)) := Own.kept O37 h38
      have hX38 : Xb (fun k => k = tb.block ∨ k = x3.block) w54 w38 := hX.more (S' := fun k => k = tb.block) (Xb.of hf38 (fun k hk => by injection hk with hk; exact hk.symm)) (fun k q => .inl (.inl q))
      have hc : (row.set i (x33 - 10))[i]? = some (x33 - 10) := List.getElem?_set_self (by omega)
      refine at_int tyI64 (by kernel_rfl) O38.sl (j := i) rfl hi' fun c hc' => ?_
      obtain rfl : x33 - 10 = c := by rw [hc] at hc'; injection hc'
      obtain ⟨xv, hxv⟩ : ∃ xv, xs[i]? = some xv := ⟨_, List.getElem?_eq_getElem (by omega)⟩
      obtain ⟨uv, huv⟩ : ∃ uv, up[i]? = some uv := ⟨_, List.getElem?_eq_getElem hi'⟩
      have bx := hxb i uv xv huv hxv
      have bu := hupB uv (mem_at huv)
      refine idx_agg tyFr encF_len (by omega) (Kx hX38) (j := i) rfl (p := (xv, 1)) (by rw [List.getElem?_map, hxv]; rfl) fun ad had => ?_
      refine rd_cell (by kernel_rfl) (v := .int .i64 xv) (by have := had 0 _ rfl; rwa [add_zero] at this) rfl ?_
      have st : dotI (row.set i (x33 - 10)) xs (i + 1) = dotI row xs i + (x33 - 10) * xv := by rw [dotI_step hc hxv, dotI_set (Nat.le_refl _)]
      have bp : ((x33 - 10) * xv).natAbs ≤ 200 := by
        rw [Int.natAbs_mul]
        exact Nat.le_trans (Nat.mul_le_mul (show (x33 - 10).natAbs ≤ 10 by omega) (show xv.natAbs ≤ 20 by omega)) (by omega)
      have bs : (dotI (row.set i (x33 - 10)) xs (i + 1)).natAbs ≤ (i + 1) * 200 := by rw [st]; omega
      refine z_i64 (by omega) ?_
      refine z_i64 (by dsimp only; omega) ?_
      refine z_i64 (by dsimp only; omega) ?_
      refine hag2 (i + 1) _ _ ⟨row.set i (x33 - 10), p4 + 1, by rw [st]; rfl, by omega, hf38, ht, by omega, O38, by simp [hrow], fun x hx => ?_, bs⟩ (by omega)
      rcases List.mem_or_eq_of_mem_set hx with hx | rfl
      · exact hrb x hx
      · omega
    dsimp only at e4
    have hij' : i = up.length := by omega
    subst hij'
    clear hag2 again2
    obtain ⟨a, ha⟩ : ∃ a : Hdr, a = (some rd0, up.length, up.length) := ⟨_, rfl⟩
    rw [← ha] at OA ⊢
    have hsv : (dotI row xs up.length).natAbs ≤ 1000 := by omega
    obtain ⟨sv, hsve⟩ : ∃ sv, sv = dotI row xs up.length := ⟨_, rfl⟩
    rw [← hsve] at hsv ⊢
    show drw _ _
    have hf79 := hf57
    have hs79 := hf79.size
    have p5 := p4
    have goal2 : ∀ {A B : Prop}, A = B → A → B := fun e h => e ▸ h
    have ea1 : (some rd0 : Option Addr) = a.1 := by rw [ha]
    refine drw_mk fun w80 h80 _ => ?_
    replace ht := ht.up h80
    have hf80 : w57.grownBy w80 (some tb.block) := hf79.trans (grown_of_bel h80 _)
    have hs80 := hf80.size
    have OR80 : TabH w80 w54.heap.size rh hs := Own.xg OR hf80 (by omega)
    have OB80 : OwnI w80 w54.heap.size bh rt := Own.xg OB hf80 (by omega)
    have OA80 : OwnI w80 w57.heap.size a row := Own.kept OA h80
    have V80 := V57.xg hf80 (by omega)
    have nx3 : ¬ (blk rh.1 = some x3.block ∨ blk bh.1 = some x3.block) := by rintro (q | q); have := lR _ q; omega; have := lB _ q; omega
    have blB : ∀ {k w'}, blk rh.1 = some k ∨ blk bh.1 = some k → w80.heap.size ≤ w'.heap.size → k < (w' : World).heap.size := by
      rintro k w' (q | q) h
      · have := lR _ q; omega
      · have := lB _ q; omega
    refine flExC_mk (Xb (fun k => blk rh.1 = some k ∨ blk bh.1 = some k)) (fun jj w w' => (jj = 4 → w.grownBy w' (blk rh.1)) ∧ (jj = 9 → w.grownBy w' (blk bh.1)) ∧ (jj ≠ 4 → jj ≠ 9 → bel w w'))
      (fun D w' => (D 4 = false → TabH w' w54.heap.size rh hs) ∧ (D 9 = false → OwnI w' w54.heap.size bh rt))
      (fun i _ v w' => (i = 3 → ∃ ad, v = .slice (some ad) 1 1 ∧ Sl w' (some ad) 1 1 1 [hv a] ∧ w80.heap.size ≤ ad.block) ∧ (i = 8 → ∃ ad, v = .slice (some ad) 1 1 ∧ Sl w' (some ad) 1 1 1 (ints .i64 [sv]) ∧ w80.heap.size ≤ ad.block) ∧
        (i = 4 → ∃ a' c', v = .slice a' (rh.2.1 + 1) c' ∧ TabH w' w54.heap.size (a', rh.2.1 + 1, c') (hs ++ [a]) ∧ (blk a' = blk rh.1 ∨ ∀ k, blk a' = some k → w80.heap.size ≤ k)) ∧
        (i = 9 → ∃ a' c', v = .slice a' (bh.2.1 + 1) c' ∧ OwnI w' w54.heap.size (a', bh.2.1 + 1, c') (rt ++ [sv]) ∧ (blk a' = blk bh.1 ∨ ∀ k, blk a' = some k → w80.heap.size ≤ k)))
      (fun w => Xb.refl _ w) (fun _ _ _ x y => Xb.trans x y) (fun i jj ags v w w' hne hΦ hE hG => ⟨fun e => ?_, fun e => ?_, fun e => ?_, fun e => ?_⟩) ⟨fun _ => OR80, fun _ => OB80⟩ ?_
    · obtain ⟨ad, q1, q2, q3⟩ := hΦ.1 e
      exact ⟨ad, q1, q2.xb hE (fun ad' ha _ q => by cases ha; have := blB q (Nat.le_refl _); omega), q3⟩
    · obtain ⟨ad, q1, q2, q3⟩ := hΦ.2.1 e
      exact ⟨ad, q1, q2.xb hE (fun ad' ha _ q => by cases ha; have := blB q (Nat.le_refl _); omega), q3⟩
    · obtain ⟨a', c', q1, q2, q3⟩ := hΦ.2.2.1 e
      refine ⟨a', c', q1, ?_, q3⟩
      by_cases hj9 : jj = 9
      · refine Own.keptBy q2 (hG.2.1 hj9) ?_
        cases hk : blk a' with
        | none => exact .inl rfl
        | some k =>
          refine .inr fun q => ?_
          rcases q3 with q3 | q3
          · exact apt k (by rw [← q3, hk]) q.symm
          · have := q3 k hk; have := lB k q.symm; omega
      · exact Own.kept q2 (hG.2.2 (fun q => hne (e.trans q.symm)) hj9)
    · obtain ⟨a', c', q1, q2, q3⟩ := hΦ.2.2.2 e
      refine ⟨a', c', q1, ?_, q3⟩
      by_cases hj4 : jj = 4
      · refine Own.keptBy q2 (hG.1 hj4) ?_
        cases hk : blk a' with
        | none => exact .inl rfl
        | some k =>
          refine .inr fun q => ?_
          rcases q3 with q3 | q3
          · exact apt k q.symm (by rw [← q3, hk])
          · have := q3 k hk; have := lR k q.symm; omega
      · exact Own.kept q2 (hG.2.2 hj4 (fun q => hne (e.trans q.symm)))
    have xbel : ∀ {w w' : World}, bel w w' → Xb (fun k => blk rh.1 = some k ∨ blk bh.1 = some k) w w' := fun hb => Xb.of (grown_of_bel hb none) (fun k hk => by cases hk)
    refine rdE_box (by kernel_rfl) (fun w' hE => V80.xb hE.1 nx3) (i := 1) rfl rfl ?_
    refine flcC_mk (fun D w' hD hE hS _ => ?_) (fun (x91 : Hdr) => ?_)
    · refine wr_lit tyTab #[.slice a.1 a.2.1 a.2.2] (fill_one 1 (.slice a.1 a.2.1 a.2.2) _ rfl (by first | rfl | simp)) (by omega) (by omega) rfl (by unfold maxLen; omega) fun ad w'' O' hb hbl _ => ?_
      exact ⟨xbel hb, ⟨fun e => by omega, fun e => by omega, fun _ _ => hb⟩, ⟨fun q => Own.kept (hS.1 (by rw [setD_ne (by decide)] at q; exact q)) hb, fun q => Own.kept (hS.2 (by rw [setD_ne (by decide)] at q; exact q)) hb⟩, ⟨fun _ => ⟨ad, rfl, (O' w'.heap.size (Nat.le_refl _)).sl, by have := hE.size; omega⟩, fun e => by omega, fun e => by omega, fun e => by omega⟩⟩
    refine flcC_mk (fun D w' hD hE hS hf => ?_) (fun (x97 : Hdr) => ?_)
    · obtain ⟨ad, ev, S, hS80⟩ := hf.1.1 rfl
      simp only [Value.slice.injEq] at ev
      obtain ⟨ev1, ev2, ev3⟩ := ev
      rw [ev1, ev2, ev3]
      have OR' := hS.1 hD
      refine wr_app tyTab OR' S (by have := hE.size; omega) rfl (by omega) rfl (by omega) (by unfold maxLen; omega) fun a' c' w'' O' hg hnew _ => ?_
      refine ⟨Xb.of hg (fun k hk => .inl hk), ⟨fun _ => hg, fun e => by omega, fun e => absurd rfl e⟩, ⟨(fun q => by rw [setD_self] at q; cases q), fun q => Own.keptBy (hS.2 (by rw [setD_ne (by decide)] at q; exact q)) hg ?_⟩, ⟨fun e => by omega, fun e => by omega, fun _ => ⟨a', c', rfl, ?_, ?_⟩, fun e => by omega⟩⟩
      · cases hk : blk bh.1 with
        | none => exact .inl rfl
        | some k => exact .inr fun q => apt k q.symm hk
      · show Own w'' _ _ 1 a' (rh.2.1 + 1) c' ((hs ++ [a]).map hv)
        rw [List.map_append]; exact O'
      · rcases hnew with q | q
        · exact .inl q
        · exact .inr fun k hk => by have := q k hk; have := hE.size; omega
    refine rdE_box (by kernel_rfl) (fun w' hE => V80.xb hE.1 nx3) (i := 2) rfl rfl ?_
    refine flcC_mk (fun D w' hD hE hS _ => ?_) (fun (x104 : Hdr) => ?_)
    · refine wr_lit tyI64 #[.int .i64 sv] (fill_one 1 (.int .i64 sv) _ rfl (by first | rfl | simp)) (by omega) (by omega) rfl (by unfold maxLen; omega) fun ad w'' O' hb hbl _ => ?_
      exact ⟨xbel hb, ⟨fun e => by omega, fun e => by omega, fun _ _ => hb⟩, ⟨fun q => Own.kept (hS.1 (by rw [setD_ne (by decide)] at q; exact q)) hb, fun q => Own.kept (hS.2 (by rw [setD_ne (by decide)] at q; exact q)) hb⟩, ⟨fun e => by omega, fun _ => ⟨ad, rfl, (O' w'.heap.size (Nat.le_refl _)).sl, by have := hE.size; omega⟩, fun e => by omega, fun e => by omega⟩⟩
    refine flcC_mk (fun D w' hD hE hS hf => ?_) (fun (x110 : Hdr) => ?_)
    · obtain ⟨ad, ev, S, hS80⟩ := hf.1.2.1 rfl
      simp only [Value.slice.injEq] at ev
      obtain ⟨ev1, ev2, ev3⟩ := ev
      rw [ev1, ev2, ev3]
      have OB' := hS.2 hD
      refine wr_app tyI64 OB' S (by have := hE.size; omega) rfl (by omega) rfl (by omega) (by unfold maxLen; omega) fun a' c' w'' O' hg hnew _ => ?_
      refine ⟨Xb.of hg (fun k hk => .inr hk), ⟨fun e => by omega, fun _ => hg, fun _ e => absurd rfl e⟩, ⟨fun q => Own.keptBy (hS.1 (by rw [setD_ne (by decide)] at q; exact q)) hg ?_, (fun q => by rw [setD_self] at q; cases q)⟩, ⟨fun e => by omega, fun e => by omega, fun e => by omega, fun _ => ⟨a', c', rfl, ?_, ?_⟩⟩⟩
      · cases hk : blk rh.1 with
        | none => exact .inl rfl
        | some k => exact .inr fun q => apt k hk q.symm
      · show Own w'' _ _ 1 a' (bh.2.1 + 1) c' (ints .i64 (rt ++ [sv]))
        rw [ints_app]; exact O'
      · rcases hnew with q | q
        · exact .inl q
        · exact .inr fun k hk => by have := q k hk; have := hE.size; omega
    refine flendC_mk fun w111 hE hS hfa => ?_
    obtain ⟨f9, f9', f4, f4'⟩ := hfa
    obtain ⟨b1, d1, ev, OB1, hb1⟩ := f9.2.2.2 rfl
    have e9 : x110 = (b1, bh.2.1 + 1, d1) := sl_inj ev
    obtain ⟨a1, c1, ev, OR1, ha1⟩ := f4.2.2.1 rfl
    have e4' : x97 = (a1, rh.2.1 + 1, c1) := sl_inj ev
    subst e9 e4'
    clear f9 f9' f4 f4' hS
    have hs111 := hE.size
    have V111 := V80.xb hE nx3
    have ht111 := ht.xb hE (by rintro k (q | q); have := lR _ q; omega; have := lB _ q; omega)
    have RA80 := RA.grown hf80 (.inl fun k hk => by injection hk; omega)
    have RA111 := RA80.xb hE (fun k q => q)
    have SA := OA80.sl
    have lA : ∀ ad, a.1 = some ad → w57.heap.size ≤ ad.block ∧ ad.block < w80.heap.size := fun ad ha => OA80.lt ad.block (by rw [ha]; rfl)
    have SA111 := SA.xb hE (fun ad ha _ q => by
      rcases q with q | q
      · have := lR _ q; have := lA ad ha; omega
      · have := lB _ q; have := lA ad ha; omega)
    have RA2 : RowsAt w111 (hs ++ [a]) (T ++ [row]) w54.heap.size (blk a1) (blk b1) := by
      refine ⟨by simp [hhs], fun k x q g1 g2 => ?_⟩
      have off : ∀ ad : Addr, w54.heap.size ≤ ad.block → ad.block < w80.heap.size → some ad.block ≠ blk rh.1 → some ad.block ≠ blk bh.1 → some ad.block ≠ blk a1 ∧ some ad.block ≠ blk b1 := by
        intro ad q1 q2 q3 q4
        constructor
        · intro e
          rcases ha1 with r | r
          · exact q3 (e.trans r)
          · have := r _ e.symm; omega
        · intro e
          rcases hb1 with r | r
          · exact q4 (e.trans r)
          · have := r _ e.symm; omega
      rcases Nat.lt_or_ge k hs.length with r | r
      · rw [List.getElem?_append_left r] at g1
        rw [List.getElem?_append_left (by omega)] at g2
        obtain ⟨s1, s2⟩ := RA111.2 k x q g1 g2
        obtain ⟨_, s3⟩ := RA80.2 k x q g1 g2
        refine ⟨s1, fun ad ha => ?_⟩
        obtain ⟨r1, r2, r3, r4⟩ := s3 ad ha
        obtain ⟨o1, o2⟩ := off ad r1 r2 r3 r4
        exact ⟨r1, by omega, o1, o2⟩
      · rw [List.getElem?_append_right r] at g1
        rw [List.getElem?_append_right (by omega)] at g2
        have hk0 : k - hs.length = 0 := by
          rcases Nat.eq_zero_or_pos (k - hs.length) with z | z
          · exact z
          · rw [List.getElem?_eq_none (by simp; omega)] at g1; cases g1
        rw [hk0] at g1
        rw [show k - T.length = 0 by omega] at g2
        cases g1; cases g2
        refine ⟨SA111, fun ad ha => ?_⟩
        have := lA ad ha
        obtain ⟨o1, o2⟩ := off ad (by omega) (by omega) (fun e => by have := lR _ e.symm; omega) (fun e => by have := lB _ e.symm; omega)
        exact ⟨by omega, by omega, o1, o2⟩
    refine wu_boxi V111 (by kernel_rfl) (show 1 < 3 by omega) rfl fun w113 V113 hg113 _ => ?_
    refine wu_boxi V113 (by kernel_rfl) (show 2 < 3 by omega) rfl fun w114 V114 hg114 _ => ?_
    have hg2 : w111.grownBy w114 (some x3.block) := hg113.trans hg114
    refine z_i64 (by dsimp only; omega) ?_
    refine hag (m + 1) _ _ ⟨?_, by omega, ?_, p4, (a1, rh.2.1 + 1, c1), (b1, bh.2.1 + 1, d1), hs ++ [a], T ++ [row], rt ++ [sv], ht111.grown hg2 (by omega), by omega, V114, Own.xg OR1 hg2 (by omega), Own.xg OB1 hg2 (by omega), RA2.grown hg2 (.inl fun k hk => by injection hk; omega), by simp [hTl], by simp [hrl], ?_, ?_, ?_⟩ (by omega)
    · have : (((K - m : Nat) : Int) - 1) = ((K - (m + 1) : Nat) : Int) := by omega
      rw [this]
    · refine ((hX.more (Xb.of (S := fun k => k = tb.block) hf80 (fun k hk => by injection hk with hk; exact hk.symm)) (fun k q => .inl (.inl q))).more hE (fun k q => .inr ?_)).more (Xb.of (S := fun k => k = x3.block) hg2 (fun k hk => by injection hk with hk; exact hk.symm)) (fun k q => .inl (.inr q))
      rcases q with q | q
      · exact (lR k q).1
      · exact (lB k q).1
    · intro q hq
      rcases List.mem_append.1 hq with hq | hq
      · exact hTp q hq
      · simp at hq; subst hq; exact ⟨hrow, hrb⟩
    · intro k q y hq hy
      rcases Nat.lt_or_ge k T.length with g | g
      · rw [List.getElem?_append_left g] at hq
        rw [List.getElem?_append_left (by omega)] at hy
        exact hrp k q y hq hy
      · rw [List.getElem?_append_right g] at hq
        rw [List.getElem?_append_right (by omega)] at hy
        have hk0 : k - T.length = 0 := by
          rcases Nat.eq_zero_or_pos (k - T.length) with z | z
          · exact z
          · rw [List.getElem?_eq_none (by simp; omega)] at hq; cases hq
        rw [hk0] at hq
        rw [show k - rt.length = 0 by omega] at hy
        cases hq; cases hy
        exact hsve.symm
    · intro x hx
      rcases List.mem_append.1 hx with hx | hx
      · exact hrB x hx
      · simp at hx; subst hx; exact hsv
  -- the system is made
  · dsimp only at e3
    clear hag again
    have hsys : ∀ {w' : World}, bel w57 w' → Sys w' u rh bh up T rt := fun hb =>
      ⟨(HU (Ku hX)).up hb, ⟨hs, (OR.sl).up hb, RA.1, fun i x q h1 h2 => ((RA.2 i x q h1 h2).1).up hb⟩, (OB.sl).up hb⟩
    have hok : sysE up T rt = 0 := by
      refine sysE_0 (by omega) (by omega) ⟨fun x hx => ?_, fun x hx => ?_, fun q hq x hx => ?_⟩ ⟨by omega, fun q hq => (hTp q hq).1⟩
      · have := hupB x hx; omega
      · have := hrB x hx; omega
      · have := (hTp q hq).2 x hx; omega
    have hsm : SmallS up T rt (List.replicate up.length 0) up := SmallS.of hok n2 (by omega) (fun q hq => (hTp q hq).2) (fun x hx => by have := hrB x hx; omega) (fun x hx => by have := hupB x hx; omega)
    have hpt : Pt T rt (List.replicate up.length 0) up xs := ⟨by simp [hxl], hxl.symm, fun k a b x ha hb hx => by
      have := hxb k b x hb hx
      have h0 := (List.mem_replicate.1 (mem_at ha)).2
      omega, fun k q y hq hy => by rw [hxl]; exact hrp k q y hq hy⟩
    have bw : bel w w57 := by
      have h1 := Ku hX
      exact b4.grownAt h1 (by omega)
    refine rd_boxN V57 (by kernel_rfl) rfl ?_
    refine call_mono (linSolve u rh bh up T rt w57 (hsys (bel.refl _)) hok n1) fun (x83 : Hdr × Hdr × Int × Unit) w84 q => ?_
    obtain ⟨hres, h84⟩ := q
    have V84 := V57.up h84
    rcases hres with ⟨e1, e2, M, hM, O, hfit, hsol⟩ | ⟨_, _, _, M, _, _, _, hbnd⟩ | ⟨_, _, _, hC⟩
    · refine drw_mk fun w85 h85 _ => ?_
      have b85 := h84.trans h85
      have V85 := V84.up h85
      have SM : ∀ {w' : World}, bel w85 w' → Sl w' x83.1.1 x83.1.2.1 x83.1.2.2 2 ((M.map prQ).flatMap encF) := fun hb => by
        have := ((O.sl).up h85).up hb
        rw [flat_prQ] at this
        exact this
      refine flEx_mk (fun i _ v w' => (i = 2 → v = .bool true) ∧ (i = 15 → v = .bool true) ∧ (i = 25 → v = .bool false) ∧ (i = 21 → ∃ ad, v = .slice (some ad) up.length up.length ∧ Sl w' (some ad) up.length up.length 1 (ints .i64 (List.replicate up.length 0))))
        (fun _ _ _ _ _ ⟨q1, q2, q3, q4⟩ hb => ⟨q1, q2, q3, fun e => by obtain ⟨ad, h1, h2⟩ := q4 e; exact ⟨ad, h1, h2.up hb⟩⟩) ?_
      refine rd_boxN V85 (by kernel_rfl) rfl ?_
      refine flc_mk (fun w88 hb _ => ?_) fun x92 => ?_
      · refine call_mono (solL u rh bh (some xd, up.length, up.length) up T rt (one1s xs) w88 (hsys (b85.trans hb)) (((Kx hX).up b85).up hb) (fun p hp => ?_)) fun (v : Bool) w' q => ?_
        · obtain ⟨z, hz, rfl⟩ := List.mem_map.1 hp
          obtain ⟨k, hk⟩ := List.getElem?_of_mem hz
          have hkl : k < up.length := by have := (List.getElem?_eq_some_iff.1 hk).1; omega
          obtain ⟨uv, huv⟩ : ∃ uv, up[k]? = some uv := ⟨_, List.getElem?_eq_getElem hkl⟩
          have h1 := hxb k uv z huv hk
          have h2 := hupB uv (mem_at huv)
          exact ⟨⟨by dsimp only; omega, by dsimp only; omega⟩, ⟨by dsimp only; omega, by dsimp only; omega⟩⟩
        · exact ⟨q.2, fun _ => by rw [q.1.2 (sol_of hok hpt)], fun e => absurd e (by decide), fun e => absurd e (by decide), fun e => absurd e (by decide)⟩
      refine br_mk (fun e92 => ?_) (fun e92 => flend_mk fun w124 h124 f => ?_)
      rotate_left
      · have := f.1.1 rfl
        rw [e92] at this
        cases this
      refine br_t (by rw [e1]; rfl) ?_
      refine br_t (by rw [e2]; rfl) ?_
      refine rd_boxN V85 (by kernel_rfl) rfl ?_
      refine flc_mk (fun w94 hb _ => ?_) fun x98 => ?_
      · refine call_mono (sol11 u rh bh x83.1 up T rt _ w94 (hsys (b85.trans hb)) (SM hb) (prQ_i64 hfit)) fun (v : Bool) w' q => ?_
        exact ⟨q.2, fun e => absurd e (by decide), fun _ => by rw [q.1.2 hsol], fun e => absurd e (by decide), fun e => absurd e (by decide)⟩
      refine br_mk (fun e98 => ?_) (fun e98 => flend_mk fun w124 h124 f => ?_)
      rotate_left
      · have := f.1.2.1 rfl
        rw [e98] at this
        cases this
      refine rd_boxN V85 (by kernel_rfl) rfl ?_
      refine flc_mk (fun w100 hb _ => ?_) fun x104 => ?_
      · refine wr_make tyI64 up.length rfl rfl (by omega) (by unfold maxLen; omega) fun zd w13 OZ hb2 _ _ => ?_
        refine ⟨hb2, fun e => absurd e (by decide), fun e => absurd e (by decide), fun e => absurd e (by decide), fun _ => ⟨zd, rfl, ?_⟩⟩
        have := (OZ w100.heap.size (Nat.le_refl _)).sl
        rw [Nat.mul_one, show (madeCells (Value.int .i64 0).cells up.length).toList = ints .i64 (List.replicate up.length 0) from made_int .i64 _] at this
        exact this
      refine rd_box0 (by kernel_rfl) V85 rfl rfl ?_
      refine flc_mk (fun w106 hb f => ?_) fun x110 => ?_
      · obtain ⟨zd, ev, SZ⟩ := f.1.2.2.2 rfl
        obtain rfl : x104 = (some zd, up.length, up.length) := hv_inj ev
        refine call_mono (bndL u rh bh (some zd, up.length, up.length) u mm up T rt (List.replicate up.length 0) up M0 w106 (hsys (b85.trans hb)) (((HM.up bw).up b85).up hb) hI SZ (hsys (b85.trans hb)).u) fun (v : Bool) w' q => ?_
        refine ⟨q.2, fun e => absurd e (by decide), fun e => absurd e (by decide), fun _ => ?_, fun e => absurd e (by decide)⟩
        cases hv : v with
        | false => rfl
        | true => exact absurd hpt (fun h => bnd_sound (q.1.1 hv) h)
      refine br_not (fun e110 => ?_) (fun e110 => flend_mk fun w124 h124 f => ?_)
      rotate_left
      · have := f.1.2.2.1 rfl
        rw [e110] at this
        cases this
      refine rd_boxN V85 (by kernel_rfl) rfl ?_
      refine flend_mk fun w112 hb _ => ?_
      refine call_mono (latL u rh bh mm up T rt M0 w112 (hsys (b85.trans hb)) (((HM.up bw).up b85).up hb) hI) fun (v : Bool) w' q => ?_
      have hv : v = false := by
        cases hv : v with
        | false => rfl
        | true => exact absurd hpt (fun h => lat_sound (q.1.1 hv) h hxl)
      exact ⟨by rw [hv]; rfl, ((bw.trans b85).trans hb).trans q.2⟩
    · exact absurd hpt (fun h => bnd_sound hbnd h)
    · exact absurd hC (small_never hsm hok)
end Go.Proofs.Ytajpdnphamomjaa
