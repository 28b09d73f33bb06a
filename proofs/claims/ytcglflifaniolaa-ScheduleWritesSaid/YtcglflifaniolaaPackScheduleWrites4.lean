import Derived.Test.YtcglflifaniolaaPackScheduleWrites3

/- No two write over one another. -/

namespace Go.Proofs.Ytcglflifaniolaa
open Go.RowKit Go.Q Go.V Go.Proofs.Sc

def atP (t : Nat) (b : Bool) (e : Ev) : Bool := e.t == t && (if b = true then e.kind == 5 else (e.kind == 3 || e.kind == 4))
theorem findIdx_at {p : Ev → Bool} {l : List Ev} {i : Nat} {y : Ev} (h : l[i]? = some y) (hp : p y = true) (hn : ∀ (j : Nat) x, j < i → l[j]? = some x → p x = false) : l.findIdx p = i := by
  obtain ⟨hi, hy⟩ := List.getElem?_eq_some_iff.1 h
  rcases Nat.lt_trichotomy (l.findIdx p) i with q | q | q
  · have h1 := List.findIdx_getElem (p := p) (xs := l) (w := by omega)
    rw [hn _ _ q (List.getElem?_eq_getElem (by omega))] at h1
    cases h1
  · exact q
  · have h1 := List.not_of_lt_findIdx q
    rw [hy] at h1
    rw [hp] at h1
    exact absurd h1 (by simp)
theorem findIdx_none {p : Ev → Bool} {l : List Ev} (hn : ∀ (j : Nat) x, l[j]? = some x → p x = false) : l.findIdx p = l.length := by
  refine Nat.le_antisymm List.findIdx_le_length (Classical.byContradiction fun q => ?_)
  have h1 := List.findIdx_getElem (p := p) (xs := l) (w := by omega)
  rw [hn _ _ (List.getElem?_eq_getElem (by omega))] at h1
  cases h1
theorem findIdx_le {p : Ev → Bool} {l : List Ev} {i : Nat} {y : Ev} (h : l[i]? = some y) (hp : p y = true) : l.findIdx p ≤ i := by
  obtain ⟨hi, hy⟩ := List.getElem?_eq_some_iff.1 h
  refine Classical.byContradiction fun q => ?_
  have h1 := List.not_of_lt_findIdx (p := p) (xs := l) (i := i) (by omega)
  rw [hy] at h1
  rw [hp] at h1
  exact absurd h1 (by simp)
theorem atF (h0 h1 : Hdr) (ev : List Ev) (t : Nat) (b : Bool) (w : World) (E : EvAt w h1 ev) (hl : ev.length ≤ 1000000) :
    call Try.prog 14 [.agg #[.slice h0.1 h0.2.1 h0.2.2, .slice h1.1 h1.2.1 h1.2.2], .int .i64 (t : Int), .bool b] (.one (.one (.int .i64))) w (fun (x : Int) w' => x = ((ev.findIdx (atP t b) : Nat) : Int) ∧ bel w w') := by
  refine call_of (S14_calls h0.1 h0.2.1 h0.2.2 h1.1 h1.2.1 h1.2.2 t b w _ ?_)
  unfold S14
  refine wr_box fun x1 w2 X h2 _ _ => ?_
  replace X : Box w2 x1 [.slice h0.1 h0.2.1 h0.2.2, .slice h1.1 h1.2.1 h1.2.2] := X
  have hn := EvAt.hn E
  refine rd_box (by kernel_rfl) X (i := 1) rfl rfl ?_
  refine loop_up ev.length (fun i w' => bel w2 w' ∧ ∀ (j : Nat) x, j < i → ev[j]? = some x → atP t b x = false) ⟨bel.refl _, fun j x h => absurd h (Nat.not_lt_zero _)⟩ ?_
  rintro i w6 hi ⟨hb, hno⟩ again hag _
  refine br_dec (fun e => ?_) (fun e => ?_)
  case refine_2 =>
    dsimp only at e
    have hie : i = ev.length := by omega
    subst hie
    refine rd_box (by kernel_rfl) (X.up hb) (i := 1) rfl rfl ?_
    refine ⟨_, rfl, ?_, h2.trans hb⟩
    rw [findIdx_none fun j x h => hno j x (List.getElem?_eq_some_iff.1 h).1 h, hn]
  dsimp only at e
  obtain ⟨y, hy⟩ : ∃ y, ev[i]? = some y := ⟨_, List.getElem?_eq_getElem (by omega)⟩
  refine join_mk (fun _ w' => bel w2 w' ∧ atP t b y = false) (fun K7 hK => ?_) (fun _ w9 q => ?_)
  case refine_2 =>
    intro _
    refine z_i64 (by dsimp only; omega) ?_
    refine hag w9 (by omega) ⟨q.1, fun j x hj hx => ?_⟩
    by_cases hji : j = i
    · subst hji
      rw [hy] at hx; cases hx; exact q.2
    · exact hno j x (by omega) hx
  refine at_agg tyE (by kernel_rfl) encE_len (by omega) ((E.up h2).up hb) (j := i) rfl hy rfl ?_
  refine wr_alloc (z := .agg #[.int .i64 0, .int .i64 0, .int .i64 0, .int .i64 0, .int .i64 0]) (by kernel_rfl) fun x13 w14 X13 h14 hx13 _ => ?_
  refine wu_box X13 (by kernel_rfl) (Nat.le_refl 5) rfl fun w15 X15 hg15 _ => ?_
  replace X15 : Box w15 x13 (encE y) := X15
  have b15 : bel w2 w15 := hb.trans (h14.grownAt hg15 (by omega))
  refine join_mk (fun (z : Bool × Unit) w' => z.1 = atP t b y ∧ w' = w15) (fun K16 hK16 => ?_) (fun z w18 q => ?_)
  case refine_2 =>
    obtain ⟨zb, _⟩ := z
    obtain ⟨rfl, rfl⟩ := q
    intro _
    refine br_mk (fun e2 => ?_) (fun e2 => hK _ _ ⟨b15, e2⟩)
    exact ⟨_, rfl, by rw [findIdx_at hy e2 hno], h2.trans b15⟩
  have ends : b = false → y.t = t → ∀ K : Prop, (∀ c : Bool, c = atP t b y → K16 (c, ()) w15) → True := fun _ _ _ _ => trivial
  clear ends
  refine rd_box (by kernel_rfl) X15 (i := 1) rfl rfl ?_
  refine br_eq (fun e2 => ?_) (fun e2 => ?_)
  case refine_2 =>
    refine hK16 _ _ ⟨?_, rfl⟩
    have : (y.t == t) = false := by simpa using fun q => e2 (by omega)
    unfold atP
    rw [this]; rfl
  have hyt : (y.t == t) = true := by simpa using (show y.t = t by omega)
  cases b with
  | true =>
    refine br_t rfl ?_
    refine rd_box0 (by kernel_rfl) X15 rfl rfl ?_
    refine br_eq (fun e3 => ?_) (fun e3 => ?_)
    · refine hK16 _ _ ⟨?_, rfl⟩
      have : (y.kind == 5) = true := by simpa using (show y.kind = 5 by omega)
      unfold atP
      rw [hyt, if_pos rfl, this]; rfl
    · refine br_f rfl ?_
      refine hK16 _ _ ⟨?_, rfl⟩
      have : (y.kind == 5) = false := by simpa using fun q => e3 (by omega)
      unfold atP
      rw [hyt, if_pos rfl, this]; rfl
  | false =>
    refine br_f rfl ?_
    refine br_t rfl ?_
    refine rd_box0 (by kernel_rfl) X15 rfl rfl ?_
    refine br_eq (fun e3 => ?_) (fun e3 => ?_)
    · refine hK16 _ _ ⟨?_, rfl⟩
      have : (y.kind == 3) = true := by simpa using (show y.kind = 3 by omega)
      unfold atP
      rw [hyt, if_neg (by simp), this]; rfl
    · refine rd_box0 (by kernel_rfl) X15 rfl rfl ?_
      refine hK16 _ _ ⟨?_, rfl⟩
      have : (y.kind == 3) = false := by simpa using fun q => e3 (by omega)
      unfold atP
      rw [hyt, if_neg (by simp), this, Bool.true_and, Bool.false_or, Bool.eq_iff_iff, beq_iff_eq, beq_iff_eq]
      omega
/-! ### the law, plain -/
theorem atP_end {t : Nat} {e : Ev} : atP t false e = true ↔ isEnd e = true ∧ e.t = t := by unfold atP isEnd; simp; omega
theorem atP_beg (t : Nat) (e : Ev) : atP t true e = isB t e := by unfold atP isB; rw [if_pos rfl, Bool.and_comm]
theorem end_at {lev n K : Nat} {start : Nat → Int} {ev : List Ev} (E : EvsOk lev n K start ev) {c : Nat} {e : Ev} (he : ev[c]? = some e) (hk : isEnd e = true) : ev.findIdx (atP e.t false) = c := by
  refine findIdx_at he (atP_end.2 ⟨hk, rfl⟩) fun j x hj hx => ?_
  cases hq : atP e.t false x with
  | false => rfl
  | true =>
    obtain ⟨h1, h2⟩ := atP_end.1 hq
    have := E.end1 hx he h1 h2
    omega
theorem locked_ok {lev n K : Nat} {start : Nat → Int} {ev : List Ev} (E : EvsOk lev n K start ev) (hl : lev ≠ 2) {i k : Nat} {x y : Ev} (hx : ev[i]? = some x) (hy : ev[k]? = some y) (hik : i < k) (x2 : x.kind = 2) (y2 : y.kind = 2) (hkey : x.key = y.key) (ht : x.t ≠ y.t) : ev.findIdx (atP x.t false) ≤ k := by
  have hxm : x ∈ ev.take k := List.mem_of_getElem? (by rw [List.getElem?_take, if_pos hik]; exact hx)
  have h := (E k y hy).w y2 hl x hxm x2 hkey ht
  unfold endedE at h
  rw [List.any_eq_true] at h
  obtain ⟨e, he, hq⟩ := h
  obtain ⟨j, hj⟩ := List.getElem?_of_mem he
  rw [List.getElem?_take] at hj
  split at hj
  · have := findIdx_le hj (p := atP x.t false) (atP_end.2 (by simpa using hq))
    omega
  · cases hj
theorem wrs_ne {ev : List Ev} {c i : Nat} {x : Ev} (hx : ev[i]? = some x) (hi : i < c) (x2 : x.kind = 2) : wrs (ev.take c) x.t x.key ≠ [] := by
  have hxm : x ∈ ev.take c := List.mem_of_getElem? (by rw [List.getElem?_take, if_pos hi]; exact hx)
  have : x.val ∈ wrs (ev.take c) x.t x.key := List.mem_map.2 ⟨x, List.mem_filter.2 ⟨hxm, by simp [isW, x2]⟩, rfl⟩
  intro q
  rw [q] at this; cases this
theorem bidx_take {ev : List Ev} {c t : Nat} : bidx (ev.take c) t ≤ ev.findIdx (atP t true) := by
  have e : ev.findIdx (atP t true) = bidx ev t := by
    unfold bidx
    congr 1
    funext e
    exact atP_beg t e
  rw [e]
  refine Classical.byContradiction fun q => ?_
  have hlt : bidx ev t < (ev.take c).length := Nat.lt_of_lt_of_le (by omega) (show bidx (ev.take c) t ≤ (ev.take c).length from List.findIdx_le_length)
  have hc : bidx ev t < c := by rw [List.length_take] at hlt; omega
  have he : bidx ev t < ev.length := by rw [List.length_take] at hlt; omega
  have h1 := List.findIdx_getElem (p := isB t) (xs := ev) (w := he)
  have h2 : (ev.take c)[bidx ev t]? = some ev[bidx ev t] := by rw [List.getElem?_take, if_pos hc]; exact List.getElem?_eq_getElem he
  have := findIdx_le h2 (p := isB t) h1
  unfold bidx at q this
  omega
theorem overlap_no {n K : Nat} {start : Nat → Int} {ev : List Ev} (E : EvsOk 2 n K start ev) {i k : Nat} {x y : Ev} (hx : ev[i]? = some x) (hy : ev[k]? = some y) (x2 : x.kind = 2) (y2 : y.kind = 2) (hkey : x.key = y.key) (cx cy : Nat) (ex ey : Ev) (hcx : ev[cx]? = some ex) (hcy : ev[cy]? = some ey) (kx : ex.kind = 3) (ky : ey.kind = 3) (tx : ex.t = x.t) (ty : ey.t = y.t) (hlt : cx < cy) : cx < ev.findIdx (atP y.t true) := by
  have hic : i < cx := by
    have h1 := E.end1 hcx hx (by simp [isEnd, kx]) tx
    rcases Nat.lt_or_ge i cx with q | q
    · exact q
    · have : i = cx := by omega
      subst this
      rw [hx] at hcx; cases hcx; omega
  have hkc : k < cy := by
    have h1 := E.end1 hcy hy (by simp [isEnd, ky]) ty
    rcases Nat.lt_or_ge k cy with q | q
    · exact q
    · have : k = cy := by omega
      subst this
      rw [hy] at hcy; cases hcy; omega
  have w1 : wrs (ev.take cy) ey.t y.key ≠ [] := by rw [ty]; exact wrs_ne hy hkc y2
  have h2 : (ev.take cy)[cx]? = some ex := by rw [List.getElem?_take, if_pos hlt]; exact hcx
  have w2 : wrs ((ev.take cy).take cx) ex.t y.key ≠ [] := by
    rw [List.take_take, Nat.min_eq_left (by omega), tx, ← hkey]; exact wrs_ne hx hic x2
  have := (E cy ey hcy).c ky rfl y.key cx ex w1 h2 kx w2
  rw [ty] at this
  exact Nat.lt_of_lt_of_le this bidx_take
theorem com_at {lev n K : Nat} {start : Nat → Int} {ev : List Ev} (E : EvsOk lev n K start ev) {t : Nat} (h : t ∈ cmts ev) : ∃ (c : Nat) (e : Ev), ev[c]? = some e ∧ e.kind = 3 ∧ e.t = t ∧ ev.findIdx (atP t false) = c := by
  unfold cmts at h
  obtain ⟨e, he, rfl⟩ := List.mem_map.1 h
  obtain ⟨h1, h2⟩ := List.mem_filter.1 he
  obtain ⟨c, hc⟩ := List.getElem?_of_mem h1
  have h3 : e.kind = 3 := by simpa using h2
  exact ⟨c, e, hc, h3, rfl, end_at E hc (by simp [isEnd, h3])⟩
theorem snap_ok {n K : Nat} {start : Nat → Int} {ev : List Ev} (E : EvsOk 2 n K start ev) {i k : Nat} {x y : Ev} (hx : ev[i]? = some x) (hy : ev[k]? = some y) (x2 : x.kind = 2) (y2 : y.kind = 2) (hkey : x.key = y.key) (ht : x.t ≠ y.t) (cx : x.t ∈ cmts ev) (cy : y.t ∈ cmts ev)
    (h1 : ev.findIdx (atP y.t true) < ev.findIdx (atP x.t false)) (h2 : ev.findIdx (atP x.t true) < ev.findIdx (atP y.t false)) : False := by
  obtain ⟨c1, e1, a1, a2, a3, a4⟩ := com_at E cx
  obtain ⟨c2, e2, b1, b2, b3, b4⟩ := com_at E cy
  rw [a4] at h1
  rw [b4] at h2
  rcases Nat.lt_trichotomy c1 c2 with q | q | q
  · have := overlap_no E hx hy x2 y2 hkey c1 c2 e1 e2 a1 b1 a2 b2 a3 b3 q
    omega
  · subst q
    rw [a1] at b1; cases b1
    exact ht (a3.symm.trans b3)
  · have := overlap_no E hy hx y2 x2 hkey.symm c2 c1 e2 e1 b1 a1 b2 a2 b3 a3 q
    omega
end Go.Proofs.Ytcglflifaniolaa

/- No two write over one another: the statement. -/


namespace Go.Proofs.Ytcglflifaniolaa
open Go.RowKit Go.Q Go.V Go.Proofs.Sc
def WrF (ev : List Ev) (i : Nat) (ags : List Value) (v : Value) : Prop :=
  (i = 6 ∨ i = 12 → ∀ (g : Value) (t : Nat) (b : Bool), ags = [g, .int .i64 (t : Int)] → v = .bool b → (b = true ↔ t ∈ cmts ev)) ∧
  (i = 18 ∨ i = 22 ∨ i = 29 → ∀ (g : Value) (t : Nat) (b : Bool) (n : Int), ags = [g, .int .i64 (t : Int), .bool b] → v = .int .i64 n → n = ((ev.findIdx (atP t b) : Nat) : Int))
theorem WrF.com {ev : List Ev} {i : Nat} {g : Value} {t : Nat} {b : Bool} (hi : i = 6 ∨ i = 12) (h : b = true ↔ t ∈ cmts ev) : WrF ev i [g, .int .i64 (t : Int)] (.bool b) := by
  refine ⟨fun _ g' t' b' e1 e2 => ?_, fun e => absurd e (by omega)⟩
  simp only [List.cons.injEq, Value.int.injEq, true_and, and_true] at e1
  injection e2 with e2
  have : t = t' := by omega
  subst this e2; exact h
theorem WrF.pos {ev : List Ev} {i : Nat} {g : Value} {t : Nat} {b : Bool} {n : Int} (hi : i = 18 ∨ i = 22 ∨ i = 29) (h : n = ((ev.findIdx (atP t b) : Nat) : Int)) : WrF ev i [g, .int .i64 (t : Int), .bool b] (.int .i64 n) := by
  refine ⟨fun e => absurd e (by omega), fun _ g' t' b' n' e1 e2 => ?_⟩
  simp only [List.cons.injEq, Value.int.injEq, Value.bool.injEq, true_and, and_true] at e1
  simp only [Value.int.injEq, true_and] at e2
  have : t = t' := by omega
  obtain ⟨_, _, e3⟩ := e1
  subst this e3 e2; exact h
set_option maxHeartbeats 3200000 in
theorem schWrites (l : Hdr) (L : List Int) (lvl : Int) (w : World) (HL : SlI w l L) (hI : ∀ x ∈ L, I64 x) (hv : 0 ≤ lvl ∧ lvl ≤ 255) :
    Calls Try.prog 4 #[.slice l.1 l.2.1 l.2.2, .int .u8 lvl] w (fun e w' => e = .returned (.bool true) ∧ Below w.heap.size w w') := by
  refine Calls.mono (S4_calls l.1 l.2.1 l.2.2 lvl w (fun v w' => v = .bool true ∧ bel w w') ?_) (by rintro e w' ⟨v, rfl, rfl, hb⟩; exact ⟨rfl, hb⟩)
  unfold S4
  obtain ⟨lev, h123, hZ⟩ := levZ hv
  refine pro0 HL hI h123 (n := 4) (most := 24) (by omega) (by omega) (Z := fun k => z (IntKind.wrap .i64 lvl) fun z7 => rdp Try.prog (cmpS .rem _ _ _ (.int .i64 z7) (.int .i64 3)) (.one (.int .i64)) fun (x8 : Int) => z (IntKind.wrap .i64 (1 + x8)) fun z9 => k z9) hZ fun x3 x5 x12 w13 ⟨start, P, o, phs, A⟩ e0 => ?_
  have hlen := run_len h123 A.v A.ol
  obtain ⟨I, _⟩ := run_ok (lev := lev) (start := start) (P := P) o h123 fun p hp => (A.gp p hp).vp.made
  have hn := EvAt.hn A.H1
  refine var_mk (v := .agg #[.slice x12.1.1.1 x12.1.1.2.1 x12.1.1.2.2, .slice x12.1.2.1.1 x12.1.2.1.2.1 x12.1.2.1.2.2]) (z := .agg #[.slice none 0 0, .slice none 0 0]) (by kernel_rfl) (by kernel_rfl) rfl rfl fun x14 w16 X14 h16 _ => ?_
  replace X14 : Box w16 x14 [.slice x12.1.1.1 x12.1.1.2.1 x12.1.1.2.2, .slice x12.1.2.1.1 x12.1.2.1.2.1 x12.1.2.1.2.2] := X14
  refine br_ne (fun e => absurd e0 e) (fun _ => ?_)
  refine rd_box (by kernel_rfl) X14 (i := 1) rfl rfl ?_
  generalize hev : (runS lev start P o).ev = ev at hlen hn
  have E : EvsOk lev P.length start.length (fun k => start.getD k 0) ev := by rw [← hev]; exact I.evs
  have H1 : EvAt w16 x12.1.2.1 ev := by rw [← hev]; exact A.H1.up h16
  have hl6 : ev.length ≤ 1000000 := by omega
  refine loop_up ev.length (fun i w' => bel w16 w') (bel.refl _) ?_
  rintro i w20 hi hb again hag _
  refine br_dec (fun e => ?_) (fun e => ?_)
  case refine_2 =>
    refine call_mono (awakeF w20) ?_
    rintro (x65 : Bool) w66 ⟨rfl, h66⟩
    exact ⟨rfl, ((A.b.trans h16).trans hb).trans h66⟩
  dsimp only at e
  obtain ⟨x, hx⟩ : ∃ x, ev[i]? = some x := ⟨_, List.getElem?_eq_getElem (by omega)⟩
  refine at_agg tyE (by kernel_rfl) encE_len (by omega) (H1.up hb) (j := i) rfl hx rfl ?_
  refine wr_alloc (z := .agg #[.int .i64 0, .int .i64 0, .int .i64 0, .int .i64 0, .int .i64 0]) (by kernel_rfl) fun x23 w24 X24 h24 hx23 _ => ?_
  refine wu_box X24 (by kernel_rfl) (Nat.le_refl 5) rfl fun w25 X25 hg25 _ => ?_
  replace X25 : Box w25 x23 (encE x) := X25
  have b25 : bel w16 w25 := hb.trans (h24.grownAt hg25 (by omega))
  refine z_i64 (by dsimp only; omega) ?_
  refine loop_gh (G := Nat) (fun k s w' => s = ((k : Int), ()) ∧ i < k ∧ k ≤ ev.length ∧ bel w25 w') (fun k => ev.length - k) (i + 1) ⟨rfl, by omega, by omega, bel.refl _⟩ ?_
  rintro k _ w29 ⟨rfl, hik, hk, hb2⟩ again2 hag2 _
  have b29 := b25.trans hb2
  refine rd_box (by kernel_rfl) (X14.up b29) (i := 1) rfl rfl ?_
  refine br_dec (fun e2 => ?_) (fun e2 => ?_)
  case refine_2 =>
    refine z_i64 (by dsimp only; omega) ?_
    exact hag w29 (by omega) b29
  dsimp only at e2
  obtain ⟨y, hy⟩ : ∃ y, ev[k]? = some y := ⟨_, List.getElem?_eq_getElem (by omega)⟩
  refine join_mk (fun _ w' => bel w25 w') (fun K31 hK => ?_) (fun _ w33 q => ?_)
  case refine_2 =>
    intro _
    refine z_i64 (by dsimp only; omega) ?_
    exact hag2 (k + 1) _ _ ⟨rfl, by omega, by omega, q⟩ (by omega)
  refine rd_box (by kernel_rfl) (X14.up b29) (i := 1) rfl rfl ?_
  refine at_agg tyE (by kernel_rfl) encE_len (by omega) (H1.up b29) (j := k) rfl hy rfl ?_
  refine wr_alloc (z := .agg #[.int .i64 0, .int .i64 0, .int .i64 0, .int .i64 0, .int .i64 0]) (by kernel_rfl) fun x38 w39 X39 h39 hx38 _ => ?_
  refine wu_box X39 (by kernel_rfl) (Nat.le_refl 5) rfl fun w40 X40 hg40 _ => ?_
  replace X40 : Box w40 x38 (encE y) := X40
  have b40 : bel w25 w40 := hb2.trans (h39.grownAt hg40 (by omega))
  have X25' := X25.up b40
  refine rd_box0 (by kernel_rfl) X25' rfl rfl ?_
  refine br_ne (fun _ => hK _ _ b40) (fun e3 => ?_)
  refine rd_box0 (by kernel_rfl) X40 rfl rfl ?_
  refine br_ne (fun _ => hK _ _ b40) (fun e4 => ?_)
  refine rd_box (by kernel_rfl) X25' (i := 2) rfl rfl ?_
  refine rd_box (by kernel_rfl) X40 (i := 2) rfl rfl ?_
  refine br_ne (fun _ => hK _ _ b40) (fun e5 => ?_)
  refine rd_box (by kernel_rfl) X25' (i := 1) rfl rfl ?_
  refine rd_box (by kernel_rfl) X40 (i := 1) rfl rfl ?_
  refine br_eq (fun _ => hK _ _ b40) (fun e6 => ?_)
  have x2 : x.kind = 2 := by omega
  have y2 : y.kind = 2 := by omega
  have hkey : x.key = y.key := by omega
  have hxy : x.t ≠ y.t := fun q => e6 (by omega)
  have H40 : EvAt w40 x12.1.2.1 ev := (H1.up b25).up b40
  have X14' := (X14.up b25).up b40
  refine join_mk (fun _ w' => bel w40 w') (fun K47 hK47 => ?_) (fun _ w49 b49 => ?_)
  · refine br_ne (fun e7 => ?_) (fun _ => hK47 _ _ (bel.refl _))
    refine rd_boxN X14' (by kernel_rfl) rfl ?_
    refine rd_box (by kernel_rfl) X25' (i := 1) rfl rfl ?_
    refine call_mono (atF x12.1.1 x12.1.2.1 ev x.t false w40 H40 hl6) ?_
    rintro (x101 : Int) w102 ⟨rfl, h102⟩
    have hlk := locked_ok E (fun q => e7 (by omega)) hx hy hik x2 y2 hkey hxy
    refine br_dec (fun e8 => absurd e8 (by dsimp only; omega)) (fun _ => hK47 _ _ h102)
  intro _
  refine drw_mk fun w50 h50 _ => ?_
  have b50 : bel w40 w50 := b49.trans h50
  have X25'' := X25'.up b50
  have X40'' := X40.up b50
  have X14'' := X14'.up b50
  have H50 : EvAt w50 x12.1.2.1 ev := H40.up b50
  have b250 := b40.trans b50
  refine flEx_mk (fun i ags v _ => WrF ev i ags v) (fun _ _ _ _ _ h _ => h) ?_
  refine br_eq (fun e7 => ?_) (fun _ => hK _ _ b250)
  have hlev : lev = 2 := by omega
  subst hlev
  refine rd_boxN X14'' (by kernel_rfl) rfl ?_
  refine rd_box (by kernel_rfl) X25'' (i := 1) rfl rfl ?_
  refine flc_mk (fun w54 h54 _ => call_mono (commitsF x12.1.1 x12.1.2.1 ev x.t w54 (H50.up h54) hl6) fun (v : Bool) w57 q => ⟨q.2, WrF.com (.inl rfl) q.1⟩) (fun x58 => br_mk (fun e8 => ?_) (fun _ => flend_mk fun w97 h97 _ => hK _ _ (b250.trans h97)))
  refine rd_boxN X14'' (by kernel_rfl) rfl ?_
  refine rd_box (by kernel_rfl) X40'' (i := 1) rfl rfl ?_
  refine flc_mk (fun w61 h61 _ => call_mono (commitsF x12.1.1 x12.1.2.1 ev y.t w61 (H50.up h61) hl6) fun (v : Bool) w57 q => ⟨q.2, WrF.com (.inr rfl) q.1⟩) (fun x65 => br_mk (fun e9 => ?_) (fun _ => flend_mk fun w97 h97 _ => hK _ _ (b250.trans h97)))
  refine rd_boxN X14'' (by kernel_rfl) rfl ?_
  refine rd_box (by kernel_rfl) X25'' (i := 1) rfl rfl ?_
  refine flc_mk (fun w68 h68 _ => call_mono (atF x12.1.1 x12.1.2.1 ev x.t false w68 (H50.up h68) hl6) fun (v : Int) w57 q => ⟨q.2, WrF.pos (.inl rfl) q.1⟩) (fun x72 => ?_)
  refine rd_boxN X14'' (by kernel_rfl) rfl ?_
  refine rd_box (by kernel_rfl) X40'' (i := 1) rfl rfl ?_
  refine flc_mk (fun w75 h75 _ => call_mono (atF x12.1.1 x12.1.2.1 ev y.t true w75 (H50.up h75) hl6) fun (v : Int) w57 q => ⟨q.2, WrF.pos (.inr (.inl rfl)) q.1⟩) (fun x79 => br_dec (fun e10 => ?_) (fun _ => flend_mk fun w97 h97 _ => hK _ _ (b250.trans h97)))
  refine rd_boxN X14'' (by kernel_rfl) rfl ?_
  refine rd_box (by kernel_rfl) X40'' (i := 1) rfl rfl ?_
  refine flc_mk (fun w82 h82 _ => call_mono (atF x12.1.1 x12.1.2.1 ev y.t false w82 (H50.up h82) hl6) fun (v : Int) w57 q => ⟨q.2, WrF.pos (.inr (.inr rfl)) q.1⟩) (fun x86 => ?_)
  refine rd_boxN X14'' (by kernel_rfl) rfl ?_
  refine rd_box (by kernel_rfl) X25'' (i := 1) rfl rfl ?_
  refine flend_mk fun w89 h89 f => ?_
  obtain ⟨f29, f22, f18, f12, f6, _⟩ := f
  have g6 := f6.1 (.inl rfl) _ x.t _ rfl rfl
  have g12 := f12.1 (.inr rfl) _ y.t _ rfl rfl
  have g18 := f18.2 (.inl rfl) _ x.t false _ rfl rfl
  have g22 := f22.2 (.inr (.inl rfl)) _ y.t true _ rfl rfl
  have g29 := f29.2 (.inr (.inr rfl)) _ y.t false _ rfl rfl
  refine call_mono (atF x12.1.1 x12.1.2.1 ev x.t true w89 (H50.up h89) hl6) ?_
  rintro (x91 : Int) w92 ⟨rfl, h92⟩
  refine br_dec (fun e11 => ?_) (fun _ => hK _ _ ((b250.trans h89).trans h92))
  exact absurd (snap_ok E hx hy x2 y2 hkey hxy (g6.1 e8) (g12.1 e9) (by omega) (by omega)) id
end Go.Proofs.Ytcglflifaniolaa
