import Derived.Test.YtcglflifaniolaaPackScheduleEnds3

/- Each transaction ends once; with fair turns all of them end. -/

namespace Go.Proofs.Ytcglflifaniolaa
open Go.RowKit Go.Q Go.V Go.Proofs.Sc

def stE (ev : List Ev) (t : Nat) : Int := if ev.any (fun e => e.t == t) = true then (if endedE ev t = true then 2 else 1) else 0
theorem stE_snoc {ev : List Ev} {e : Ev} (hl : endedE ev e.t = false) (t : Nat) : stE (ev ++ [e]) t = if t = e.t then (if isEnd e = true then 2 else 1) else stE ev t := by
  unfold stE
  rw [endedE_snoc, List.any_append]
  by_cases h : t = e.t
  · subst h
    rw [if_pos rfl, hl]
    simp
  · have h' : (e.t == t) = false := by simpa using fun q => h q.symm
    rw [if_neg h]
    simp [h']
abbrev stL (n : Nat) (ev : List Ev) : List Int := (List.range n).map (stE ev)
theorem stL_get {n t : Nat} (ev : List Ev) (h : t < n) : (stL n ev)[t]? = some (stE ev t) := by unfold stL; rw [List.getElem?_map, List.getElem?_range h]; rfl
theorem stL_set {n : Nat} {ev : List Ev} {e : Ev} (hl : endedE ev e.t = false) : (stL n ev).set e.t (if isEnd e = true then 2 else 1) = stL n (ev ++ [e]) := by
  refine List.ext_getElem? fun k => ?_
  by_cases hk : k < n
  · rw [stL_get _ hk, stE_snoc hl]
    by_cases h2 : e.t = k
    · subst h2
      rw [List.getElem?_set_self (by unfold stL; rw [List.length_map, List.length_range]; exact hk), if_pos rfl]
    · rw [List.getElem?_set_ne h2, stL_get _ hk, if_neg (fun q => h2 q.symm)]
  · rw [List.getElem?_eq_none (by unfold stL; rw [List.length_set, List.length_map, List.length_range]; omega), List.getElem?_eq_none (by unfold stL; rw [List.length_map, List.length_range]; omega)]
set_option maxHeartbeats 3200000 in
theorem schEnds (l : Hdr) (L : List Int) (lvl : Int) (w : World) (HL : SlI w l L) (hI : ∀ x ∈ L, I64 x) (hv : 0 ≤ lvl ∧ lvl ≤ 255) :
    Calls Try.prog 5 #[.slice l.1 l.2.1 l.2.2, .int .u8 lvl] w (fun e w' => e = .returned (.bool true) ∧ Below w.heap.size w w') := by
  refine Calls.mono (S5_calls l.1 l.2.1 l.2.2 lvl w (fun v w' => v = .bool true ∧ bel w w') ?_) (by rintro e w' ⟨v, rfl, rfl, hb⟩; exact ⟨rfl, hb⟩)
  unfold S5
  obtain ⟨lev, h123, hZ⟩ := levZ hv
  refine pro0 HL hI h123 (n := 4) (most := 24) (by omega) (by omega) (Z := fun k => z (IntKind.wrap .i64 lvl) fun z7 => rdp Try.prog (cmpS .rem _ _ _ (.int .i64 z7) (.int .i64 3)) (.one (.int .i64)) fun (x8 : Int) => z (IntKind.wrap .i64 (1 + x8)) fun z9 => k z9) hZ fun x3 x5 x12 w13 ⟨start, P, o, phs, A⟩ e0 => ?_
  have hlen := run_len h123 A.v A.ol
  obtain ⟨I, hends⟩ := run_ok (lev := lev) (start := start) (P := P) o h123 fun p hp => (A.gp p hp).vp.made
  have hn := EvAt.hn A.H1
  have pn := A.PA.hn
  have hpl := A.pl
  refine var_mk (v := .agg #[.slice x12.1.1.1 x12.1.1.2.1 x12.1.1.2.2, .slice x12.1.2.1.1 x12.1.2.1.2.1 x12.1.2.1.2.2]) (z := .agg #[.slice none 0 0, .slice none 0 0]) (by kernel_rfl) (by kernel_rfl) rfl rfl fun x14 w16 X14 h16 _ => ?_
  replace X14 : Box w16 x14 [.slice x12.1.1.1 x12.1.1.2.1 x12.1.1.2.2, .slice x12.1.2.1.1 x12.1.2.1.2.1 x12.1.2.1.2.2] := X14
  refine br_ne (fun e => absurd e0 e) (fun _ => ?_)
  refine wr_make tyI x5.2.1 rfl rfl (by omega) (by unfold maxLen; omega) fun x17 w18 O18 h18 _ _ => ?_
  have O0 : Own w18 w16.heap.size 3 1 (some x17) x5.2.1 x5.2.1 (ints .i64 (stL P.length [])) := by
    have := O18 w16.heap.size (Nat.le_refl _)
    rw [Nat.mul_one, show (madeCells (Value.int .i64 0).cells x5.2.1).toList = ints .i64 (List.replicate x5.2.1 0) from made_int .i64 _] at this
    have e : List.replicate x5.2.1 (0 : Int) = stL P.length [] := by
      refine List.ext_getElem? fun i => ?_
      by_cases h : i < P.length
      · rw [stL_get _ h, List.getElem?_replicate, if_pos (by omega)]; rfl
      · rw [List.getElem?_replicate, if_neg (by omega), List.getElem?_eq_none (by unfold stL; rw [List.length_map, List.length_range]; omega)]
    rw [e] at this; exact this
  clear O18
  refine rd_box (by kernel_rfl) (X14.up h18) (i := 1) rfl rfl ?_
  generalize hev : (runS lev start P o).ev = ev at hlen hn
  have E : EvsOk lev P.length start.length (fun k => start.getD k 0) ev := by rw [← hev]; exact I.evs
  have H1 : EvAt w13 x12.1.2.1 ev := by rw [← hev]; exact A.H1
  refine loop_up ev.length (fun i w' => bel w16 w' ∧ Own w' w16.heap.size 3 1 (some x17) x5.2.1 x5.2.1 (ints .i64 (stL P.length (ev.take i)))) ⟨h18, O0⟩ ?_
  rintro i w22 hi ⟨hb, O⟩ again hag _
  have E22 := (H1.up h16).up hb
  have s22 := hb.size
  refine br_dec (fun e => ?_) (fun e => ?_)
  · dsimp only at e
    obtain ⟨y, hy⟩ : ∃ y, ev[i]? = some y := ⟨_, List.getElem?_eq_getElem (by omega)⟩
    have K := E i y hy
    have hyt := K.t
    have hsn : ev.take (i + 1) = ev.take i ++ [y] := by rw [List.take_add_one, hy]; rfl
    refine join_mk (fun _ w' => bel w16 w' ∧ Own w' w16.heap.size 3 1 (some x17) x5.2.1 x5.2.1 (ints .i64 (stL P.length (ev.take (i + 1))))) (fun K23 hK => ?_) (fun _ w25 q => ?_)
    case refine_2 =>
      intro _
      refine z_i64 (by dsimp only; omega) ?_
      exact hag w25 (by omega) q
    refine at_agg tyE (by kernel_rfl) encE_len (by omega) E22 (j := i) rfl hy rfl ?_
    refine wr_alloc (z := .agg #[.int .i64 0, .int .i64 0, .int .i64 0, .int .i64 0, .int .i64 0]) (by kernel_rfl) fun x29 w30 X29 h30 hx29 _ => ?_
    refine wu_box X29 (by kernel_rfl) (Nat.le_refl 5) rfl fun w31 X31 hg31 _ => ?_
    replace X31 : Box w31 x29 (encE y) := X31
    have b31 : bel w22 w31 := h30.grownAt hg31 (by omega)
    refine drw_mk fun w32 h32 _ => ?_
    have X32 := X31.up h32
    have b32 := b31.trans h32
    have O32 : Own w32 w16.heap.size 3 1 (some x17) x5.2.1 x5.2.1 (ints .i64 (stL P.length (ev.take i))) := O.kept b32
    have hxo := O32.lt x17.block rfl
    have hxo2 := (O.lt x17.block rfl).2
    have hx29' : x29.block < w32.heap.size := X32.lt
    refine rd_box (by kernel_rfl) X32 (i := 1) rfl rfl ?_
    refine br_dec (fun e2 => absurd e2 (by have := Int.natCast_nonneg y.t; omega)) (fun _ => ?_)
    refine rd_box (by kernel_rfl) X32 (i := 1) rfl rfl ?_
    refine br_dec (fun e2 => absurd e2 (by omega)) (fun _ => ?_)
    refine rd_box0 (by kernel_rfl) X32 rfl rfl ?_
    refine rd_box (by kernel_rfl) X32 (i := 1) rfl rfl ?_
    refine at_int tyI (by kernel_rfl) O32.sl (j := y.t) rfl (by omega) fun s0 hs0 => ?_
    obtain rfl : stE (ev.take i) y.t = s0 := by rw [stL_get _ hyt] at hs0; injection hs0
    have hst0 : (stE (ev.take i) y.t = 0 ↔ y.kind = 5) ∧ stE (ev.take i) y.t ≠ 2 := by
      have hf := K.first
      unfold stE
      rw [K.live]
      by_cases ha : (ev.take i).any (fun e => e.t == y.t) = true
      · rw [if_pos ha]
        refine ⟨⟨fun q => by simp at q, fun q => ?_⟩, by simp⟩
        rw [List.any_eq_true] at ha
        obtain ⟨x, hx, hxe⟩ := ha
        exact absurd (by simpa using hxe) (hf.1 q x hx)
      · rw [if_neg ha]
        refine ⟨⟨fun _ => hf.2 fun x hx hxe => ha ?_, fun _ => rfl⟩, by decide⟩
        rw [List.any_eq_true]
        exact ⟨x, hx, by simpa using hxe⟩
    refine br_not (fun e2 => ?_) (fun _ => ?_)
    · exfalso
      by_cases h5 : y.kind = 5
      · rw [hst0.1.2 h5, h5] at e2; simp at e2
      · have h6 : ¬ stE (ev.take i) y.t = 0 := fun q => h5 (hst0.1.1 q)
        have h7 : ¬ ((y.kind : Nat) : Int) = 5 := by omega
        have q1 : (((y.kind : Nat) : Int) == 5) = false := by simpa using h7
        have q2 : (stE (ev.take i) y.t == 0) = false := by simpa using h6
        rw [q1, q2] at e2; cases e2
    refine rd_box (by kernel_rfl) X32 (i := 1) rfl rfl ?_
    refine at_int tyI (by kernel_rfl) O32.sl (j := y.t) rfl (by omega) fun s1 hs1 => ?_
    obtain rfl : stE (ev.take i) y.t = s1 := by rw [stL_get _ hyt] at hs1; injection hs1
    refine br_eq (fun e2 => absurd e2 hst0.2) (fun _ => ?_)
    refine rd_box (by kernel_rfl) X32 (i := 1) rfl rfl ?_
    refine set_mk tyI O32 (j := y.t) rfl (by omega) rfl fun w44 O44 hg44 _ => ?_
    rw [ints_set] at O44
    have hne : ∀ {w1 w2 : World}, w1.grownBy w2 (blk (some x17)) → Box w1 x29 (encE y) → Box w2 x29 (encE y) := fun hg X => X.grown hg (fun q => by have q' : x29.block = x17.block := (by injection q); omega)
    have X44 := hne hg44 X32
    have b44 : bel w16 w44 := (hb.trans b32).grown hg44 (fun b hb' => by have q' : x17.block = b := (by injection hb'); omega)
    refine rd_box0 (by kernel_rfl) X44 rfl rfl ?_
    have two : y.kind = 3 ∨ y.kind = 4 → ∀ {w48 : World}, Own w48 w16.heap.size 3 1 (some x17) x5.2.1 x5.2.1 ((ints .i64 ((stL P.length (ev.take i)).set y.t 1)).set y.t (.int .i64 2)) → w44.grownBy w48 (blk (some x17)) → K23 () w48 := fun h {w48} O48 hg48 => by
      rw [ints_set, set_twice] at O48
      refine hK _ _ ⟨b44.grown hg48 (fun b hb' => by have q' : x17.block = b := (by injection hb'); omega), ?_⟩
      rw [hsn, ← stL_set K.live]
      have : isEnd y = true := by unfold isEnd; simpa using h
      rw [if_pos this]; exact O48
    refine br_eq (fun e3 => ?_) (fun e3 => ?_)
    · refine rd_box (by kernel_rfl) X44 (i := 1) rfl rfl ?_
      exact set_mk tyI O44 (j := y.t) rfl (by omega) rfl fun w48 O48 hg48 _ => two (.inl (by omega)) O48 hg48
    refine rd_box0 (by kernel_rfl) X44 rfl rfl ?_
    refine br_eq (fun e4 => ?_) (fun e4 => ?_)
    · refine rd_box (by kernel_rfl) X44 (i := 1) rfl rfl ?_
      exact set_mk tyI O44 (j := y.t) rfl (by omega) rfl fun w48 O48 hg48 _ => two (.inr (by omega)) O48 hg48
    · refine hK _ _ ⟨b44, ?_⟩
      rw [hsn, ← stL_set K.live]
      have : ¬ isEnd y = true := by
        unfold isEnd
        have h3 : ¬ y.kind = 3 := by omega
        have h4 : ¬ y.kind = 4 := by omega
        simp [h3, h4]
      rw [if_neg this]; exact O44
  · dsimp only at e
    have hie : i = ev.length := by omega
    subst hie
    rw [List.take_length] at O
    clear hag again
    have hst : ∀ t, t < P.length → stE ev t ≠ 1 := fun t ht => by
      unfold stE
      by_cases ha : ev.any (fun e => e.t == t) = true
      · rw [if_pos ha]
        have hbg : ((runS lev start P o).tx t).begun = true := by rw [I.bg t, hev]; exact ha
        have := hends t ht hbg
        rw [I.en t, hev] at this
        rw [if_pos this]; decide
      · rw [if_neg ha]; decide
    refine loop_up P.length (fun j w' => bel w22 w') (bel.refl _) ?_
    rintro j w55 hj hb2 again hag _
    refine br_dec (fun e2 => ?_) (fun e2 => ?_)
    · dsimp only at e2
      refine at_int tyI (by kernel_rfl) (O.kept hb2).sl (j := j) rfl (by omega) fun s hs => ?_
      obtain rfl : stE ev j = s := by rw [stL_get _ (by omega)] at hs; injection hs
      refine br_eq (fun e3 => absurd e3 (hst j (by omega))) (fun _ => ?_)
      refine z_i64 (by dsimp only; omega) ?_
      exact hag w55 (by omega) hb2
    · have b55 : bel w13 w55 := (h16.trans hb).trans hb2
      refine call_mono (fairF x5 P.length 28 w55 (by omega) hpl (by omega)) ?_
      rintro (x59 : Hdr) w60 ⟨S59, h60⟩
      have fl28 : (fairL P.length 28).length ≤ 120 := by rw [fair_len]; omega
      have fl30 : (fairL P.length 30).length ≤ 120 := by rw [fair_len]; omega
      have b60 := b55.trans h60
      refine call_mono (runF lev h123 x3 x5 x59 start P phs (fairL P.length 28) w60 (A.S.up b60) (A.PA.up b60) S59 A.v fl28) ?_
      rintro (x61 : (Hdr × Hdr × Unit) × Int × Unit) w62 ⟨e61, h62, T61, E61⟩
      refine var_mk (v := .agg #[.slice x61.1.1.1 x61.1.1.2.1 x61.1.1.2.2, .slice x61.1.2.1.1 x61.1.2.1.2.1 x61.1.2.1.2.2]) (z := .agg #[.slice none 0 0, .slice none 0 0]) (by kernel_rfl) (by kernel_rfl) rfl rfl fun x63 w65 X63 h65 _ => ?_
      replace X63 : Box w65 x63 [.slice x61.1.1.1 x61.1.1.2.1 x61.1.1.2.2, .slice x61.1.2.1.1 x61.1.2.1.2.1 x61.1.2.1.2.2] := X63
      have b65 := (b60.trans h62).trans h65
      refine call_mono (fairF x5 P.length 30 w65 (by omega) hpl (by omega)) ?_
      rintro (x66 : Hdr) w67 ⟨S66, h67⟩
      have b67 := b65.trans h67
      refine call_mono (runF lev h123 x3 x5 x66 start P phs (fairL P.length 30) w67 (A.S.up b67) (A.PA.up b67) S66 A.v fl30) ?_
      rintro (x68 : (Hdr × Hdr × Unit) × Int × Unit) w69 ⟨e68, h69, T68, E68⟩
      refine var_mk (v := .agg #[.slice x68.1.1.1 x68.1.1.2.1 x68.1.1.2.2, .slice x68.1.2.1.1 x68.1.2.1.2.1 x68.1.2.1.2.2]) (z := .agg #[.slice none 0 0, .slice none 0 0]) (by kernel_rfl) (by kernel_rfl) rfl rfl fun x70 w72 X70 h72 _ => ?_
      replace X70 : Box w72 x70 [.slice x68.1.1.1 x68.1.1.2.1 x68.1.1.2.2, .slice x68.1.2.1.1 x68.1.2.1.2.1 x68.1.2.1.2.2] := X70
      have b72 : bel w65 w72 := (h67.trans h69).trans h72
      refine br_t (by rw [e61]; rfl) ?_
      refine br_t (by rw [e68]; rfl) ?_
      refine rd_boxN (X63.up b72) (by kernel_rfl) rfl ?_
      refine rd_boxN X70 (by kernel_rfl) rfl ?_
      have hfe := fair_end (lev := lev) (start := start) (P := P) (r := 28) (r' := 30) h123 (fun p hp => (A.gp p hp).vp.made) (fun p hp => ⟨(A.gp p hp).len, (A.gp p hp).wlen⟩) (by omega) (by omega)
      rw [hfe] at E68
      have hl28 := run_len h123 A.v fl28
      refine call_mono (sameF x61.1.1 x61.1.2.1 x68.1.1 x68.1.2.1 start _ w72 ((T61.up h65).up b72) ((E61.up h65).up b72) (T68.up h72) (E68.up h72) (by omega) (by have := A.sl; omega)) ?_
      rintro (x75 : Bool) w76 ⟨rfl, h76⟩
      refine br_t rfl ?_
      refine call_mono (awakeF w76) ?_
      rintro (x77 : Bool) w78 ⟨rfl, h78⟩
      exact ⟨rfl, ((((A.b.trans b65).trans b72).trans h76).trans h78)⟩
end Go.Proofs.Ytcglflifaniolaa
