import Derived.Test.YtcglflifaniolaaPackScheduleReads3

/- Each read returns what it should. -/

namespace Go.Proofs.Ytcglflifaniolaa
open Go.RowKit Go.Q Go.V Go.Proofs.Sc

def upU (lev i : Nat) (ev : List Ev) (t k : Nat) : Nat := if lev = 2 ∧ bidx (ev.take k) t < k then bidx (ev.take k) t else i
def ownB (ev : List Ev) (t key k : Nat) : Bool := (ev.take k).any fun z => isW key z && z.t == t
theorem upU_zero (lev i : Nat) (ev : List Ev) (t : Nat) : upU lev i ev t 0 = i := by unfold upU; rw [if_neg (by omega)]
theorem ownB_succ {ev : List Ev} {t key k : Nat} {y : Ev} (h : ev[k]? = some y) : ownB ev t key (k + 1) = (ownB ev t key k || (isW key y && y.t == t)) := by
  unfold ownB
  rw [List.take_add_one, h]
  show ((ev.take k) ++ [y]).any _ = _
  rw [List.any_append]; simp
theorem upU_succ {lev n K : Nat} {start : Nat → Int} {ev : List Ev} (E : EvsOk lev n K start ev) {i t k : Nat} {y : Ev} (h : ev[k]? = some y) : upU lev i ev t (k + 1) = if lev = 2 ∧ y.kind = 5 ∧ y.t = t then k else upU lev i ev t k := by
  have hk := (List.getElem?_eq_some_iff.1 h).1
  have hlen : (ev.take k).length = k := by rw [List.length_take]; omega
  have hsn : ev.take (k + 1) = ev.take k ++ [y] := by rw [List.take_add_one, h]; rfl
  have hB : isB t y = true ↔ y.kind = 5 ∧ y.t = t := by unfold isB; simp
  by_cases h2 : lev = 2
  · by_cases hy : y.kind = 5 ∧ y.t = t
    · rw [if_pos ⟨h2, hy⟩]
      have hno : ¬ bidx (ev.take k) t < (ev.take k).length := fun q => by
        obtain ⟨e, he, _, het⟩ := bidx_kind q
        have := ((E k y h).first.1 hy.1) e (List.mem_of_getElem? he)
        rw [hy.2] at this
        exact this het
      have hb : bidx (ev.take (k + 1)) t = k := by
        rw [hsn]
        unfold bidx at hno ⊢
        rw [List.findIdx_append, if_neg hno, hlen]
        rw [List.findIdx_cons, hB.2 hy]
        simp
      unfold upU
      rw [hb, if_pos ⟨h2, by omega⟩]
    · rw [if_neg (fun q => hy q.2)]
      unfold upU
      by_cases hf : bidx (ev.take k) t < k
      · have : bidx (ev.take (k + 1)) t = bidx (ev.take k) t := by rw [hsn]; exact bidx_snoc y (by omega)
        rw [this, if_pos ⟨h2, by omega⟩, if_pos ⟨h2, hf⟩]
      · have hb : bidx (ev.take (k + 1)) t = k + 1 := by
          rw [hsn]
          have hno : ¬ bidx (ev.take k) t < (ev.take k).length := by omega
          unfold bidx at hno ⊢
          rw [List.findIdx_append, if_neg hno, hlen]
          have : isB t y = false := by
            cases hq : isB t y with
            | false => rfl
            | true => exact absurd (hB.1 hq) hy
          rw [List.findIdx_cons, this]
          simp
          omega
        rw [hb, if_neg (by omega), if_neg (fun q => hf q.2)]
  · rw [if_neg (fun q => h2 q.1)]
    unfold upU
    rw [if_neg (fun q => h2 q.1), if_neg (fun q => h2 q.1)]
theorem own_nil {ev : List Ev} {t key : Nat} : ownL ev t key = [] ↔ (ev.any fun z => isW key z && z.t == t) = false := by
  unfold ownL wrs
  rw [List.map_eq_nil_iff, List.map_eq_nil_iff, List.filter_eq_nil_iff, List.any_eq_false]
theorem read_ok {lev n K : Nat} {start : Nat → Int} {ev : List Ev} (E : EvsOk lev n K start ev) {i : Nat} {y : Ev} (h : ev[i]? = some y) (h1 : y.kind = 1) : lastR ev (start y.key, -1) (upU lev i ev y.t i) y.key y.t (ownB ev y.t y.key i) i = (y.val, y.fr) := by
  have hi := (List.getElem?_eq_some_iff.1 h).1
  rw [(E i y h).r h1]
  unfold Sc.seen lastR
  cases ho : ownB ev y.t y.key i with
  | true =>
    rw [if_pos rfl]
    refine lastL_ne (fun q => ?_) _ _
    have := own_nil.1 q
    unfold ownB at ho
    rw [ho] at this; cases this
  | false =>
    rw [if_neg (by simp), own_nil.2 ho]
    show _ = lastL (comm ((ev.take i).take (upto lev (ev.take i) y.t)) y.key) _
    rw [List.take_take]
    congr 3
    have hlen : (ev.take i).length = i := by rw [List.length_take]; omega
    have hbl : bidx (ev.take i) y.t ≤ i := by
      have : bidx (ev.take i) y.t ≤ (ev.take i).length := List.findIdx_le_length
      omega
    unfold upto upU
    by_cases h2 : lev = 2
    · rw [if_pos h2]
      by_cases hf : bidx (ev.take i) y.t < i
      · rw [if_pos ⟨h2, hf⟩]; omega
      · rw [if_neg (fun q => hf q.2)]; omega
    · rw [if_neg h2, if_neg (fun q => h2 q.1), hlen]
set_option maxHeartbeats 3200000 in
theorem schReads (l : Hdr) (L : List Int) (lvl : Int) (w : World) (HL : SlI w l L) (hI : ∀ x ∈ L, I64 x) (hv : 0 ≤ lvl ∧ lvl ≤ 255) :
    Calls Try.prog 3 #[.slice l.1 l.2.1 l.2.2, .int .u8 lvl] w (fun e w' => e = .returned (.bool true) ∧ Below w.heap.size w w') := by
  refine Calls.mono (S3_calls l.1 l.2.1 l.2.2 lvl w (fun v w' => v = .bool true ∧ bel w w') ?_) (by rintro e w' ⟨v, rfl, rfl, hb⟩; exact ⟨rfl, hb⟩)
  unfold S3
  obtain ⟨lev, h123, hZ⟩ := levZ hv
  refine pro0 HL hI h123 (n := 4) (most := 24) (by omega) (by omega) (Z := fun k => z (IntKind.wrap .i64 lvl) fun z7 => rdp Try.prog (cmpS .rem _ _ _ (.int .i64 z7) (.int .i64 3)) (.one (.int .i64)) fun (x8 : Int) => z (IntKind.wrap .i64 (1 + x8)) fun z9 => k z9) hZ fun x3 x5 x12 w13 ⟨start, P, o, phs, A⟩ e0 => ?_
  have hlen := run_len h123 A.v A.ol
  obtain ⟨I, _⟩ := run_ok (lev := lev) (start := start) (P := P) o h123 fun p hp => (A.gp p hp).vp.made
  have hn := EvAt.hn A.H1
  refine var_mk (v := .agg #[.slice x12.1.1.1 x12.1.1.2.1 x12.1.1.2.2, .slice x12.1.2.1.1 x12.1.2.1.2.1 x12.1.2.1.2.2]) (z := .agg #[.slice none 0 0, .slice none 0 0]) (by kernel_rfl) (by kernel_rfl) rfl rfl fun x14 w16 X14 h16 _ => ?_
  replace X14 : Box w16 x14 [.slice x12.1.1.1 x12.1.1.2.1 x12.1.1.2.2, .slice x12.1.2.1.1 x12.1.2.1.2.1 x12.1.2.1.2.2] := X14
  refine br_ne (fun e => absurd e0 e) (fun _ => ?_)
  refine rd_box (by kernel_rfl) X14 (i := 1) rfl rfl ?_
  generalize hev : (runS lev start P o).ev = ev at hlen hn
  have E : EvsOk lev P.length start.length (fun k => start.getD k 0) ev := by rw [← hev]; exact I.evs
  have H1 : EvAt w16 x12.1.2.1 ev := by rw [← hev]; exact A.H1.up h16
  have H0 : SlI w16 x12.1.1 start := A.H0.up h16
  have hsl := H0.int
  refine loop_up ev.length (fun i w' => bel w16 w') (bel.refl _) ?_
  rintro i w20 hi hb again hag _
  refine br_dec (fun e => ?_) (fun e => ?_)
  case refine_2 =>
    refine call_mono (awakeF w20) ?_
    rintro (x65 : Bool) w66 ⟨rfl, h66⟩
    exact ⟨rfl, ((A.b.trans h16).trans hb).trans h66⟩
  dsimp only at e
  obtain ⟨y, hy⟩ : ∃ y, ev[i]? = some y := ⟨_, List.getElem?_eq_getElem (by omega)⟩
  refine join_mk (fun _ w' => bel w16 w') (fun K21 hK => ?_) (fun _ w23 q => ?_)
  case refine_2 =>
    intro _
    refine z_i64 (by dsimp only; omega) ?_
    exact hag w23 (by omega) q
  refine at_agg tyE (by kernel_rfl) encE_len (by omega) (H1.up hb) (j := i) rfl hy rfl ?_
  refine wr_alloc (z := .agg #[.int .i64 0, .int .i64 0, .int .i64 0, .int .i64 0, .int .i64 0]) (by kernel_rfl) fun x27 w28 X27 h28 hx27 _ => ?_
  refine wu_box X27 (by kernel_rfl) (Nat.le_refl 5) rfl fun w29 X29 hg29 _ => ?_
  replace X29 : Box w29 x27 (encE y) := X29
  have b29 : bel w16 w29 := hb.trans (h28.grownAt hg29 (by omega))
  refine rd_box0 (by kernel_rfl) X29 rfl rfl ?_
  refine br_ne (fun _ => hK _ _ b29) (fun e1 => ?_)
  have h1 : y.kind = 1 := by omega
  have hkK := (E i y hy).key (by omega)
  refine rd_box (by kernel_rfl) X29 (i := 2) rfl rfl ?_
  refine br_dec (fun e2 => absurd e2 (by have := Int.natCast_nonneg y.key; omega)) (fun _ => ?_)
  refine rd_box (by kernel_rfl) X29 (i := 2) rfl rfl ?_
  refine rd_box0 (by kernel_rfl) (X14.up b29) rfl rfl ?_
  refine br_dec (fun e2 => absurd e2 (by dsimp only; omega)) (fun _ => ?_)
  refine loop_gh (G := Nat) (fun k s w' => s = (((upU lev i ev y.t k : Nat) : Int), ownB ev y.t y.key k, (k : Int), ()) ∧ k ≤ i ∧ bel w29 w') (fun k => i - k) 0 ⟨by rw [upU_zero]; rfl, Nat.zero_le _, bel.refl _⟩ ?_
  rintro k _ w36 ⟨rfl, hk, hb2⟩ again2 hag2 _
  have b36 := b29.trans hb2
  have X36 := X29.up hb2
  refine br_dec (fun e2 => ?_) (fun e2 => ?_)
  · dsimp only at e2
    obtain ⟨x, hx⟩ : ∃ x, ev[k]? = some x := ⟨_, List.getElem?_eq_getElem (by omega)⟩
    have hU := upU_succ E (i := i) (t := y.t) hx
    have hO := ownB_succ (t := y.t) (key := y.key) hx
    refine join_mk (fun (z : Int × Bool × Unit) w' => z.1 = ((upU lev i ev y.t (k + 1) : Nat) : Int) ∧ z.2.1 = ownB ev y.t y.key (k + 1) ∧ bel w29 w') (fun K37 hK37 => ?_) (fun z w39 q => ?_)
    case refine_2 =>
      obtain ⟨z1, z2, _⟩ := z
      obtain ⟨q1, q2, q3⟩ := q
      dsimp only at q1 q2
      intro _
      refine z_i64 (by dsimp only; omega) ?_
      exact hag2 (k + 1) _ _ ⟨by rw [← q1, ← q2]; rfl, by omega, q3⟩ (by omega)
    refine rd_box (by kernel_rfl) (X14.up b36) (i := 1) rfl rfl ?_
    refine at_agg tyE (by kernel_rfl) encE_len (by omega) (H1.up b36) (j := k) rfl hx rfl ?_
    refine wr_alloc (z := .agg #[.int .i64 0, .int .i64 0, .int .i64 0, .int .i64 0, .int .i64 0]) (by kernel_rfl) fun x44 w45 X44 h45 hx44 _ => ?_
    refine wu_box X44 (by kernel_rfl) (Nat.le_refl 5) rfl fun w46 X46 hg46 _ => ?_
    replace X46 : Box w46 x44 (encE x) := X46
    have b46 : bel w36 w46 := h45.grownAt hg46 (by omega)
    refine join_mk (fun (z : Bool × Unit) w' => z.1 = ownB ev y.t y.key (k + 1) ∧ w' = w46) (fun K47 hK47 => ?_) (fun z w49 q => ?_)
    · cases hob : ownB ev y.t y.key k with
      | true =>
        refine br_t rfl ?_
        exact hK47 _ _ ⟨by rw [hO, hob]; rfl, rfl⟩
      | false =>
        refine br_f rfl ?_
        rw [hob, Bool.false_or] at hO
        have no : ¬ (isW y.key x = true ∧ x.t = y.t) → K47 (false, ()) w46 := fun h => by
          refine hK47 _ _ ⟨?_, rfl⟩
          rw [hO]
          cases hq : (isW y.key x && x.t == y.t) with
          | false => rfl
          | true => exact absurd (by simpa using hq) h
        refine rd_box0 (by kernel_rfl) X46 rfl rfl ?_
        refine br_eq (fun e5 => ?_) (fun e5 => no fun q => e5 (by have := (isW_iff.1 q.1).1; omega))
        refine rd_box (by kernel_rfl) X46 (i := 1) rfl rfl ?_
        refine rd_box (by kernel_rfl) (X36.up b46) (i := 1) rfl rfl ?_
        refine br_eq (fun e6 => ?_) (fun e6 => no fun q => e6 (by have := q.2; omega))
        refine rd_box (by kernel_rfl) X46 (i := 2) rfl rfl ?_
        refine rd_box (by kernel_rfl) (X36.up b46) (i := 2) rfl rfl ?_
        refine hK47 _ _ ⟨?_, rfl⟩
        rw [hO]
        have h2 : x.kind = 2 := by omega
        have h3 : x.t = y.t := by omega
        unfold isW
        rw [Bool.eq_iff_iff]
        simp [h2, h3]
        omega
    · obtain ⟨zb, _⟩ := z
      obtain ⟨rfl, rfl⟩ := q
      intro _
      have stay : ¬ (lev = 2 ∧ x.kind = 5 ∧ x.t = y.t) → K37 (((upU lev i ev y.t k : Nat) : Int), ownB ev y.t y.key (k + 1), ()) w49 := fun h => hK37 _ _ ⟨by rw [hU, if_neg h], rfl, hb2.trans b46⟩
      refine br_eq (fun e5 => ?_) (fun e5 => stay fun q => e5 (by have := q.1; omega))
      refine rd_box0 (by kernel_rfl) X46 rfl rfl ?_
      refine br_eq (fun e6 => ?_) (fun e6 => stay fun q => e6 (by have := q.2.1; omega))
      refine rd_box (by kernel_rfl) X46 (i := 1) rfl rfl ?_
      refine rd_box (by kernel_rfl) (X36.up b46) (i := 1) rfl rfl ?_
      refine br_eq (fun e7 => ?_) (fun e7 => stay fun q => e7 (by have := q.2.2; omega))
      exact hK37 _ _ ⟨by rw [hU, if_pos ⟨by omega, by omega, by omega⟩], rfl, hb2.trans b46⟩
  · dsimp only at e2
    have hki : k = i := by omega
    subst hki
    refine rd_boxN (X14.up b36) (by kernel_rfl) rfl ?_
    refine rd_box (by kernel_rfl) X36 (i := 2) rfl rfl ?_
    refine rd_box (by kernel_rfl) X36 (i := 1) rfl rfl ?_
    refine call_mono (lastF x12.1.1 x12.1.2.1 start ev k (upU lev k ev y.t k) y.key y.t (ownB ev y.t y.key k) w36 (H0.up b36) (H1.up b36) (by omega) (by omega) hkK) ?_
    rintro (x61 : Int × Int × Unit) w62 ⟨q1, q2, h62⟩
    have hok := read_ok E hy h1
    rw [hok] at q1 q2
    refine rd_box (by kernel_rfl) (X36.up h62) (i := 3) rfl rfl ?_
    refine br_ne (fun e5 => absurd q1.symm e5) (fun _ => ?_)
    refine rd_box (by kernel_rfl) (X36.up h62) (i := 4) rfl rfl ?_
    refine br_ne (fun e5 => absurd q2.symm e5) (fun _ => ?_)
    exact hK _ _ (b36.trans h62)
end Go.Proofs.Ytcglflifaniolaa
