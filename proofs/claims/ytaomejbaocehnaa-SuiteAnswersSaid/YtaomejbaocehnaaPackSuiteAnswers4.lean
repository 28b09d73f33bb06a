import Derived.Test.YtaomejbaocehnaaPackSuiteAnswers3

/- The reference: Greedy, list, earlier, Least. -/

namespace Go.Proofs.Ytaomejbaocehnaa
open Go.RowKit Go.Q Go.V

set_option maxHeartbeats 1600000 in
theorem GreedyR (m : Hdr) (M : List (List Bool)) (w : World) (H : TabB w m M) :
    call Try.prog 23 [.slice m.1 m.2.1 m.2.2] rHI w (fun x w' => ListR M (greedy (masks M) M.length (M.length + 1) 0) w x w' ∧ bel w w') := by
  refine call_of (S23_calls m.1 m.2.1 m.2.2 w _ ?_)
  unfold S23
  refine call_mono (validR m M w H) ?_
  rintro (x1 : Bool) w2 ⟨hv, h2⟩
  refine br_not (fun e => ⟨((none, 0, 0), (1 : Int), ()), rfl, .inr ⟨(fun q => by have := hv.2 q; rw [e] at this; cases this), rfl, rfl⟩, h2⟩) (fun e => ?_)
  have V := hv.1 e
  have v1 := V.n
  have v2 := V.w400
  refine call_mono (masksR m M w2 (H.up h2) V) ?_
  rintro (x3 : Hdr) w4 ⟨O, h4⟩
  have hl := H.len
  have h24 := h2.trans h4
  have s24 := h24.size
  have lx3 := O.sl.nat
  have lm := masks_len M
  have hM := masks_lt (M := M)
  generalize hn : M.length = n at *
  generalize hL : masks M = L at *
  have hL63 : ∀ c ∈ L, c < 2 ^ 63 := fun c hc => lt63 (hM c hc) v1
  refine loop_gh (G := Nat × List Nat × Nat) (fun g s w' => s.1 = (g.1 : Int) ∧ bel w4 w' ∧ OwnN w' w4.heap.size s.2.1 g.2.1 ∧ g.1 < 2 ^ n ∧ free g.1 n < g.2.2 ∧ greedy L n (n + 1) 0 = g.2.1 ++ greedy L n g.2.2 g.1 ∧ g.2.1.length + free g.1 n ≤ n) (fun g => g.2.2) (0, [], n + 1)
    ⟨rfl, bel.refl _, Own.nil _ _ _ _, Nat.two_pow_pos n, by have := free_le 0 n; dsimp only; omega, rfl, by have := free_le 0 n; simpa using this⟩ ?_
  rintro ⟨s, out, f⟩ ⟨sv, q, _⟩ w7 ⟨rfl, hb, Oq, hs, hf, hgr, hol⟩ again hag _
  dsimp only at Oq hs hf hgr hol hag
  have S3 := O.sl.up hb
  refine call_mono (coversR x3 L s w7 S3 hL63 (lt63 hs v1)) ?_
  rintro (x8 : Bool) w9 ⟨rfl, h9⟩
  replace hb := hb.trans h9
  replace Oq : OwnN w9 w4.heap.size q out := Own.kept Oq h9
  replace S3 := S3.up h9
  cases f with
  | zero => omega
  | succ f =>
  refine br_not (fun ec => ?_) (fun ec => ?_)
  · obtain ⟨b1, b2, b3⟩ := best_new hM ec
    have hn0 : 0 < n := by omega
    refine loop_gh (G := Nat) (fun r s' w' => s' = (((bst L s r).1 : Int), ((bst L s r).2 : Int), (r : Int), ()) ∧ r ≤ n ∧ bel w9 w') (fun r => n - r) 0 ⟨rfl, Nat.zero_le _, bel.refl _⟩ ?_
    rintro r s' w12 ⟨rfl, hr, hb12⟩ again2 hag2 _
    refine br_dec (fun e => ?_) (fun e => ?_)
    · dsimp only at e
      have hrn : r < n := by omega
      refine join_mk (fun s' w' => s'.1 = (((bst L s (r + 1)).1 : Nat) : Int) ∧ s'.2.1 = (((bst L s (r + 1)).2 : Nat) : Int) ∧ w12 = w') (fun K hK => ?_) (fun s' w15 hJ _ => ?_)
      · refine loop_upA L.length (fun k a w' => a = ((cntN L s r k : Nat) : Int) ∧ w12 = w') ⟨rfl, rfl⟩ fun k a w19 hk ⟨ha, hw⟩ again3 hag3 _ => ?_
        subst ha hw
        have hck := cntN_le L s r k
        refine br_dec (fun e => ?_) (fun e => ?_)
        · dsimp only at e
          have hkL : k < L.length := by omega
          refine join_mk (fun s' w' => s'.1 = ((cntN L s r (k + 1) : Nat) : Int) ∧ w12 = w') (fun K2 hK2 => ?_) (fun s' w22 hJ _ => ?_)
          · refine nat_mk (S3.up hb12) rfl hkL fun c hc => ?_
            have hcm := List.mem_of_getElem? hc
            have hst := cntN_step (s := s) (r := r) hc
            refine z_and (a := c) (b := s) rfl rfl (hL63 c hcm) (lt63 hs v1) ?_
            refine nat_eq0 (fun e0 => ?_) (fun e0 => ?_)
            · refine z_u64 (by dsimp only; omega) ?_
              refine rdp_shr r rfl (by show r ≤ 64; omega) ?_
              have ed : (c : Int) / 2 ^ r = ((c / 2 ^ r : Nat) : Int) := by
                rw [Int.natCast_ediv]; congr 1
              dsimp only
              rw [ed]
              have hdl : c / 2 ^ r ≤ c := Nat.div_le_self _ _
              have hc63 := hL63 c hcm
              refine z_and (a := c / 2 ^ r) (b := 1) rfl rfl (by omega) (by omega) ?_
              rw [Nat.and_one_is_mod, shr_bit]
              have hb2 : c &&& 2 ^ r ≠ 0 ↔ c.testBit r = true := by
                rw [and_ne]
                constructor
                · rintro ⟨i, h1, h2⟩
                  rw [Nat.testBit_two_pow] at h2
                  have : r = i := by simpa using h2
                  rw [this]; exact h1
                · intro h; exact ⟨r, h, by rw [Nat.testBit_two_pow]; simp⟩
              refine br_eq (fun e1' => ?_) (fun e1' => ?_)
              · have e1 : c &&& 2 ^ r ≠ 0 := hb2.2 (by
                  cases q : c.testBit r with
                  | true => rfl
                  | false => rw [q] at e1'; simp at e1')
                rw [if_pos ⟨e0, e1⟩] at hst
                refine z_i64 (by omega) ?_
                exact hK2 _ _ ⟨by rw [hst]; rfl, rfl⟩
              · have e1 : ¬ (c &&& 2 ^ r ≠ 0) := fun h => by
                  rw [hb2.1 h] at e1'; simp at e1'
                rw [if_neg (fun q => e1 q.2)] at hst
                exact hK2 _ _ ⟨by rw [hst]; rfl, rfl⟩
            · rw [if_neg (fun q => e0 q.1)] at hst
              exact hK2 _ _ ⟨by rw [hst]; rfl, rfl⟩
          · obtain ⟨sv, _⟩ := s'
            refine z_i64 (by dsimp only; omega) ?_
            exact hag3 _ _ hkL hJ
        · dsimp only at e
          have hkL : k = L.length := by omega
          subst hkL
          rw [cntN_all] at hck ⊢
          have hbs : bst L s (r + 1) = if cnt L s r > (bst L s r).2 then (r, cnt L s r) else bst L s r := rfl
          refine br_dec (fun e1 => ?_) (fun e1 => ?_)
          · dsimp only at e1
            rw [if_pos (by omega)] at hbs
            exact hK _ _ ⟨by rw [hbs], by rw [hbs], rfl⟩
          · dsimp only at e1
            rw [if_neg (by omega)] at hbs
            exact hK _ _ ⟨by rw [hbs], by rw [hbs], rfl⟩
      · obtain ⟨j1, j2, rfl⟩ := hJ
        obtain ⟨t1, t2, _⟩ := s'
        dsimp only at j1 j2
        subst j1 j2
        refine z_i64 (by dsimp only; omega) ?_
        exact hag2 (r + 1) _ _ ⟨rfl, hrn, hb12⟩ (by omega)
    · dsimp only at e
      have hrn : r = n := by omega
      subst hrn
      clear hag2 again2
      generalize hbb : (bst L s r).1 = b at *
      replace hb := hb.trans hb12
      replace Oq : OwnN w12 w4.heap.size q out := Own.kept Oq hb12
      have lq := Oq.sl.nat
      have s430 := hb.size
      refine z_u64 (by omega) ?_
      refine shl1 b rfl (by omega) ?_
      refine z_or (a := s) (b := 2 ^ b) rfl rfl (lt63 hs v1) (lt63 (n := 14) (Nat.pow_lt_pow_right (by omega) (by omega)) (Nat.le_refl _)) ?_
      refine wr_app1 tyI Oq (by omega) rfl (by omega) (by omega) rfl rfl (by omega) (by unfold maxLen; omega) fun a' c' w37 O37 g37 _ _ => ?_
      have hfs := free_step b1 b2
      refine hag (s ||| 2 ^ b, out ++ [b], f) _ _ ⟨rfl, hb.grown g37 (fun k hk => (Oq.lt k hk).1), ?_, or_lt hs b1, by dsimp only; omega, ?_, by simp; omega⟩ (by dsimp only; omega)
      · show Own w37 _ _ 1 a' (q.2.1 + 1) c' (nats .i64 (out ++ [b]))
        rw [nats_snoc]; exact O37
      · dsimp only
        rw [hgr, greedy, if_neg (by rw [ec]; simp), hbb]
        simp
  · refine ⟨(q, (0 : Int), ()), rfl, .inl ⟨V, rfl, ?_⟩, h24.trans hb⟩
    have e0 : greedy L n (f + 1) s = [] := by simp only [greedy]; rw [if_pos ec]
    rw [e0, List.append_nil] at hgr
    rw [hgr]
    exact own_base Oq (by omega)
/-- the rows of a set -/
def lst (s : Nat) : List Nat := (List.range 14).filter fun i => s.testBit i
theorem lst_asc {s n : Nat} (hs : s < 2 ^ n) : Asc n 0 (lst s) := by
  have h := asc_filter 14 fun i => s.testBit i
  have key : ∀ {a : Nat} {xs : List Nat}, Asc 14 a xs → (∀ x ∈ xs, x < n) → Asc n a xs := by
    intro a xs
    induction xs generalizing a with
    | nil => intro _ _; trivial
    | cons x xs ih => intro h h2; exact ⟨h.1, h2 x (by simp), ih h.2.2 fun y hy => h2 y (by simp [hy])⟩
  refine key h fun x hx => ?_
  have hx := (List.mem_filter.1 hx).2
  rcases Nat.lt_or_ge x n with q | q
  · exact q
  · rw [bit_out hs q] at hx; cases hx
theorem lst_bits {s : Nat} (hs : s < 2 ^ 14) : bitsOf (lst s) = s := by
  apply Nat.eq_of_testBit_eq
  intro i
  rw [bits_bit]
  unfold lst
  cases h : s.testBit i with
  | false => simp [h]
  | true =>
    have : i < 14 := by
      rcases Nat.lt_or_ge i 14 with q | q
      · exact q
      · rw [bit_out hs q] at h; cases h
    simp [h, this]
theorem asc_ext {n : Nat} : ∀ {a b : Nat} {xs ys : List Nat}, Asc n a xs → Asc n b ys → (∀ z, z ∈ xs ↔ z ∈ ys) → xs = ys
  | _, _, [], [], _, _, _ => rfl
  | _, _, [], y :: ys, _, _, h => absurd ((h y).2 (by simp)) (by simp)
  | _, _, x :: xs, [], _, _, h => absurd ((h x).1 (by simp)) (by simp)
  | a, b, x :: xs, y :: ys, hx, hy, h => by
    have e : x = y := by
      rcases Nat.lt_trichotomy x y with q | q | q
      · rcases List.mem_cons.1 ((h x).1 (by simp)) with r | r
        · exact r
        · have := (hy.2.2.lt x r).1; omega
      · exact q
      · rcases List.mem_cons.1 ((h y).2 (by simp)) with r | r
        · exact r.symm
        · have := (hx.2.2.lt y r).1; omega
    subst e
    congr 1
    refine asc_ext hx.2.2 hy.2.2 fun z => ?_
    have hz := h z
    simp only [List.mem_cons] at hz
    constructor
    · intro q
      rcases hz.1 (.inr q) with r | r
      · have := (hx.2.2.lt z q).1; omega
      · exact r
    · intro q
      rcases hz.2 (.inr q) with r | r
      · have := (hy.2.2.lt z q).1; omega
      · exact r
theorem lst_of {n : Nat} {ys : List Nat} (h : Asc n 0 ys) (hn : n ≤ 14) : lst (bitsOf ys) = ys := by
  refine asc_ext (n := n) (lst_asc (bits_lt fun x hx => (h.lt x hx).2)) h fun z => ?_
  unfold lst
  rw [List.mem_filter, bits_bit, List.mem_range]
  constructor
  · rintro ⟨_, q⟩; simpa using q
  · intro q; exact ⟨by have := (h.lt z q).2; omega, by simpa using q⟩
theorem listR (s : Nat) (w : World) (hs : s < 2 ^ 14) :
    call Try.prog 44 [.int .i64 (s : Int)] (.one (.one .slice)) w (fun (x : Hdr) w' => OwnN w' w.heap.size x (lst s) ∧ bel w w') := by
  refine call_of (S44_calls (s : Int) w _ ?_)
  unfold S44
  refine loop_upA 14 (fun k q w' => bel w w' ∧ OwnN w' w.heap.size q ((List.range k).filter fun i => s.testBit i)) ⟨bel.refl _, Own.nil _ _ _ _⟩ fun k q w3 hk ⟨hb, O⟩ again hag _ => ?_
  have lq := O.sl.nat
  have hfl := List.length_filter_le (fun i => s.testBit i) (List.range k)
  rw [List.length_range] at hfl
  refine z_u64 (by dsimp only; omega) ?_
  refine rdp_shr k rfl (by show k ≤ 64; omega) ?_
  have ed : (s : Int) / 2 ^ k = ((s / 2 ^ k : Nat) : Int) := by
    rw [Int.natCast_ediv]; congr 1
  rw [ed]
  have hdl : s / 2 ^ k ≤ s := Nat.div_le_self _ _
  refine br_dec (fun e => ?_) (fun e => ?_)
  · have hk14 : k < 14 := by
      rcases Nat.lt_or_ge k 14 with q | q
      · exact q
      · have : k = 14 := by omega
        subst this
        rw [Nat.div_eq_of_lt hs] at e; omega
    refine join_mk (fun t w' => bel w w' ∧ OwnN w' w.heap.size t.1 ((List.range (k + 1)).filter fun i => s.testBit i)) (fun K2 hK2 => ?_) (fun t w37 hJ _ => ?_)
    · refine z_u64 (by dsimp only; omega) ?_
      refine rdp_shr k rfl (by show k ≤ 64; omega) ?_
      rw [ed]
      refine z_and (a := s / 2 ^ k) (b := 1) rfl rfl (by omega) (by omega) ?_
      rw [Nat.and_one_is_mod, shr_bit]
      have hst : (List.range (k + 1)).filter (fun i => s.testBit i) = if s.testBit k then (List.range k).filter (fun i => s.testBit i) ++ [k] else (List.range k).filter fun i => s.testBit i := by
        rw [List.range_succ, List.filter_append]
        cases hsk : s.testBit k <;> simp [hsk]
      refine br_eq (fun e2 => ?_) (fun e2 => ?_)
      · have hsk : s.testBit k = true := by
          cases q : s.testBit k with
          | true => rfl
          | false => rw [q] at e2; simp at e2
        rw [hsk, if_pos rfl] at hst
        refine wr_app1 tyI O hb.size rfl (by omega) (by omega) rfl rfl (by omega) (by unfold maxLen; omega) fun a' c' w45 O45 g45 _ _ => ?_
        refine hK2 _ _ ⟨hb.grown g45 fun b hb' => (O.lt b hb').1, ?_⟩
        show Own w45 _ _ 1 a' (q.2.1 + 1) c' (nats .i64 _)
        rw [hst, nats_snoc]; exact O45
      · have hsk : s.testBit k = false := by
          cases q : s.testBit k with
          | false => rfl
          | true => rw [q] at e2; simp at e2
        rw [hsk] at hst
        refine hK2 _ _ ⟨hb, ?_⟩
        show OwnN w3 _ q _
        rw [hst]; exact O
    · obtain ⟨tq, _⟩ := t
      refine z_i64 (by dsimp only; omega) ?_
      exact hag _ _ hk14 hJ
  · have e0 : s / 2 ^ k = 0 := by generalize s / 2 ^ k = d at *; omega
    have hlt : s < 2 ^ k := by
      rcases Nat.lt_or_ge s (2 ^ k) with q | q
      · exact q
      · have := Nat.div_pos q (Nat.two_pow_pos k); omega
    refine ⟨q, rfl, ?_, hb⟩
    have : lst s = (List.range k).filter fun i => s.testBit i := by
      unfold lst
      have e14 : List.range 14 = List.range k ++ List.range' k (14 - k) := by
        rw [List.range_eq_range', List.range_eq_range']
        have := List.range'_append_1 (s := 0) (m := k) (n := 14 - k)
        rw [Nat.zero_add] at this
        rw [this]; congr 1; omega
      rw [e14, List.filter_append]
      have : (List.range' k (14 - k)).filter (fun i => s.testBit i) = [] := by
        rw [List.filter_eq_nil_iff]
        intro x hx
        rw [List.mem_range'_1] at hx
        rw [bit_out hlt hx.1]; simp
      rw [this, List.append_nil]
    rw [this]; exact O
/-- which of two lists comes first -/
def earl : List Nat → List Nat → Bool
  | x :: xs, y :: ys => if x = y then earl xs ys else decide (x < y)
  | _, _ => false
theorem earl_irr : ∀ xs : List Nat, earl xs xs = false
  | [] => rfl
  | x :: xs => by simp [earl, earl_irr xs]
theorem earl_tot : ∀ {xs ys : List Nat}, xs.length = ys.length → earl xs ys = false → earl ys xs = false → xs = ys
  | [], [], _, _, _ => rfl
  | x :: xs, y :: ys, hl, h1, h2 => by
    simp only [earl] at h1 h2
    by_cases e : x = y
    · subst e
      rw [if_pos rfl] at h1 h2
      rw [earl_tot (by simpa using hl) h1 h2]
    · rw [if_neg e] at h1
      rw [if_neg (fun q => e q.symm)] at h2
      simp at h1 h2; omega
theorem earl_asym : ∀ {xs ys : List Nat}, earl xs ys = true → earl ys xs = false
  | [], ys, h => by cases ys <;> simp [earl] at h
  | x :: xs, [], h => by simp [earl] at h
  | x :: xs, y :: ys, h => by
    simp only [earl] at h ⊢
    by_cases e : x = y
    · subst e
      rw [if_pos rfl] at h ⊢
      exact earl_asym h
    · rw [if_neg e] at h
      rw [if_neg (fun q => e q.symm)]
      simp at h ⊢; omega
theorem earl_trans : ∀ {xs ys zs : List Nat}, xs.length = ys.length → ys.length = zs.length → earl xs ys = true → earl zs ys = false → earl xs zs = true
  | [], ys, zs, h1, h2, h, _ => by
    cases ys <;> simp [earl] at h
  | x :: xs, [], zs, h1, _, _, _ => by simp at h1
  | x :: xs, y :: ys, [], _, h2, _, _ => by simp at h2
  | x :: xs, y :: ys, z :: zs, h1, h2, h, h' => by
    simp only [earl] at h h' ⊢
    by_cases e : x = y
    · subst e
      rw [if_pos rfl] at h
      by_cases e2 : z = x
      · subst e2
        rw [if_pos rfl] at h' ⊢
        exact earl_trans (by simpa using h1) (by simpa using h2) h h'
      · rw [if_neg e2] at h'
        rw [if_neg (fun q => e2 q.symm)]
        simp at h' ⊢; omega
    · rw [if_neg e] at h
      by_cases e2 : z = y
      · subst e2
        rw [if_neg e]; exact h
      · rw [if_neg e2] at h'
        simp at h h'
        rw [if_neg (by omega)]
        simp; omega
theorem earl_app : ∀ (p xs ys : List Nat), earl (p ++ xs) (p ++ ys) = earl xs ys
  | [], _, _ => rfl
  | a :: p, xs, ys => by simp only [List.cons_append, earl, if_pos]; exact earl_app p xs ys
/-- what choose finds is the first -/
theorem choose_first {C : List Nat → Bool} {rows : Nat} : ∀ (n first : Nat) (pre ys : List Nat), choose C rows n first pre = some ys → ∀ zs, zs.length = n → Asc rows first zs → C (pre ++ zs) = true → earl (pre ++ zs) ys = false
  | 0, first, pre, ys, h, zs, hl, _, _ => by
    have : zs = [] := List.eq_nil_of_length_eq_zero hl
    subst this
    simp only [choose] at h
    split at h
    · cases h; rw [List.append_nil]; exact earl_irr _
    · cases h
  | n + 1, first, pre, ys, h, zs, hl, ha, hc => by
    cases zs with
    | nil => simp at hl
    | cons z zs =>
      obtain ⟨h1, h2, h3⟩ := ha
      have hl' : zs.length = n := by simpa using hl
      simp only [choose] at h
      rw [List.findSome?_eq_some_iff] at h
      obtain ⟨l1, r, l2, e1, e2, e3⟩ := h
      have hfit := h3.len (by omega)
      have hz : z ∈ List.range' first (rows - n - first) := List.mem_range'_1.2 ⟨h1, by omega⟩
      obtain ⟨ws, w1, w2, w3, _⟩ := choose_some n (r + 1) (pre ++ [r]) ys e2
      have hys : ys = pre ++ r :: ws := by rw [w1]; simp
      have hr : r ≤ z := by
        rcases Nat.lt_or_ge z r with q | q
        · have hzl : z ∈ l1 := by
            rw [e1] at hz
            rcases List.mem_append.1 hz with y | y
            · exact y
            · have hs : List.Pairwise (· < ·) (List.range' first (rows - n - first)) := List.pairwise_lt_range'
              rw [e1, List.pairwise_append] at hs
              have h4 := (List.pairwise_cons.1 hs.2.1).1
              rcases List.mem_cons.1 y with y | y
              · omega
              · have := h4 z y; omega
          have := choose_none n (z + 1) (pre ++ [z]) (e3 z hzl) zs hl' h3
          rw [List.append_assoc] at this
          have e : pre ++ ([z] ++ zs) = pre ++ z :: zs := by simp
          rw [e, hc] at this; cases this
        · exact q
      rw [hys, earl_app]
      simp only [earl]
      by_cases e : z = r
      · subst e
        rw [if_pos rfl]
        have := choose_first n (z + 1) (pre ++ [z]) ys e2 zs hl' h3 (by rw [List.append_assoc]; exact hc)
        rw [List.append_assoc, hys, earl_app] at this
        simp only [List.singleton_append, earl, if_pos] at this
        exact this
      · rw [if_neg e]; simp; omega
theorem earlierR (a b : Hdr) (xs ys : List Nat) (w : World) (H1 : SlN w a xs) (H2 : SlN w b ys) (hl : xs.length = ys.length) :
    call Try.prog 45 [.slice a.1 a.2.1 a.2.2, .slice b.1 b.2.1 b.2.2] (.one (.one .bool)) w (fun (x : Bool) w' => x = earl xs ys ∧ bel w w') := by
  refine call_of (S45_calls a.1 a.2.1 a.2.2 b.1 b.2.1 b.2.2 w _ ?_)
  unfold S45
  have h1 := H1.nat
  have h2 := H2.nat
  have hle := H1.le
  refine loop_up xs.length (fun i w' => bel w w' ∧ earl xs ys = earl (xs.drop i) (ys.drop i)) ⟨bel.refl _, rfl⟩ fun i w3 hi ⟨hb, hp⟩ again hag _ => ?_
  refine br_dec (fun e1 => ?_) (fun e1 => ?_)
  · dsimp only at e1
    refine drw_mk fun w4 h4 _ => ?_
    replace hb := hb.trans h4
    have hix : i < xs.length := by omega
    have hiy : i < ys.length := by omega
    rw [List.drop_eq_getElem_cons hix, List.drop_eq_getElem_cons hiy] at hp
    simp only [earl] at hp
    refine nat_mk (H1.up hb) rfl hix fun x hx => ?_
    refine nat_mk (H2.up hb) rfl hiy fun y hy => ?_
    rw [List.getElem?_eq_getElem hix] at hx
    rw [List.getElem?_eq_getElem hiy] at hy
    injection hx with hx
    injection hy with hy
    rw [hx, hy] at hp
    refine br_ne (fun e2 => ?_) (fun e2 => ?_)
    · refine drw_mk fun w9 h9 _ => ?_
      replace hb := hb.trans h9
      refine nat_mk (H1.up hb) rfl hix fun x' hx' => ?_
      refine nat_mk (H2.up hb) rfl hiy fun y' hy' => ?_
      rw [List.getElem?_eq_getElem hix, hx] at hx'
      rw [List.getElem?_eq_getElem hiy, hy] at hy'
      injection hx' with hx'
      injection hy' with hy'
      subst hx' hy'
      rw [if_neg (by omega)] at hp
      refine ⟨_, rfl, ?_, hb⟩
      rw [hp]; exact decide_eq_decide.2 (by omega)
    · refine z_i64 (by dsimp only; omega) ?_
      rw [if_pos (by omega)] at hp
      exact hag _ (by omega) ⟨hb, hp⟩
  · dsimp only at e1
    refine ⟨false, rfl, ?_, hb⟩
    rw [hp, List.drop_of_length_le (by omega)]; rfl
/-- a set that is no worse than all before it -/
def BestP (C : List Nat → Bool) (s : Nat) (best : List Nat) : Prop :=
  ∀ t, t < s → C (lst t) = true → best.length < (lst t).length ∨ (best.length = (lst t).length ∧ earl (lst t) best = false)
theorem least_best {M : List (List Bool)} (V : ValidM M) {s0 : Nat} (hs : s0 < 2 ^ M.length) (hc : covC (masks M) (lst s0) = true) (hb : BestP (covC (masks M)) (2 ^ M.length) (lst s0)) : lst s0 = least (covC (masks M)) M.length := by
  obtain ⟨k, hk, hsome, hn⟩ := least_spec (cov_all M)
  obtain ⟨zs, z1, z2, z3, z4⟩ := choose_some _ _ _ _ hsome
  rw [List.nil_append] at z1
  obtain ⟨a1, a2⟩ := least_asc (M := M)
  have hA : lst (bitsOf (least (covC (masks M)) M.length)) = least (covC (masks M)) M.length := lst_of a1 V.n
  have h1 := hb (bitsOf (least (covC (masks M)) M.length)) (bits_lt fun x hx => (a1.lt x hx).2) (by rw [hA]; exact a2)
  rw [hA] at h1
  have h2 := least_min (M := M) (lst_asc hs) hc
  rcases h1 with q | ⟨q1, q2⟩
  · omega
  · have h3 := choose_first k 0 [] _ hsome (lst s0) (by rw [q1, z1, z2]) (lst_asc hs) (by rw [List.nil_append]; exact hc)
    rw [List.nil_append] at h3
    exact earl_tot q1 h3 q2
set_option maxHeartbeats 1600000 in
theorem LeastR (m : Hdr) (M : List (List Bool)) (w : World) (H : TabB w m M) :
    call Try.prog 22 [.slice m.1 m.2.1 m.2.2] rHI w (fun x w' => ListR M (least (covC (masks M)) M.length) w x w' ∧ bel w w') := by
  refine call_of (S22_calls m.1 m.2.1 m.2.2 w _ ?_)
  unfold S22
  refine call_mono (validR m M w H) ?_
  rintro (x1 : Bool) w2 ⟨hv, h2⟩
  refine br_not (fun e => ⟨((none, 0, 0), (1 : Int), ()), rfl, .inr ⟨(fun q => by have := hv.2 q; rw [e] at this; cases this), rfl, rfl⟩, h2⟩) (fun e => ?_)
  have V := hv.1 e
  have v1 := V.n
  refine call_mono (masksR m M w2 (H.up h2) V) ?_
  rintro (x3 : Hdr) w4 ⟨O, h4⟩
  have hl := H.len
  have h24 := h2.trans h4
  have s24 := h24.size
  have p0 := Nat.two_pow_pos M.length
  have p14 := pow14 v1
  have hle14 : 2 ^ M.length ≤ 2 ^ 14 := Nat.pow_le_pow_right (by omega) v1
  refine loop_gh (G := Nat × List Nat) (fun g s w' => s.2.2 = ((g.1 : Int), ()) ∧ g.1 ≤ 2 ^ M.length ∧ bel w4 w' ∧ OwnN w' w4.heap.size s.1 g.2 ∧ (s.2.1 = false → g.2 = [] ∧ ∀ t, t < g.1 → covC (masks M) (lst t) = false) ∧ (s.2.1 = true → ∃ s0, s0 < 2 ^ M.length ∧ g.2 = lst s0 ∧ covC (masks M) (lst s0) = true ∧ BestP (covC (masks M)) g.1 (lst s0))) (fun g => 2 ^ M.length - g.1) (0, [])
    ⟨rfl, Nat.zero_le _, bel.refl _, Own.nil _ _ _ _, fun _ => ⟨rfl, fun t ht => by omega⟩, (fun e => by cases e)⟩ ?_
  rintro ⟨s, best⟩ ⟨q, fd, sv⟩ w7 ⟨rfl, hs, hb, Oq, hf, ht⟩ again hag _
  dsimp only at hs Oq hf ht hag
  refine z_u64 (by omega) ?_
  refine shl1 M.length (by omega) (by omega) ?_
  refine br_dec (fun e1 => ?_) (fun e1 => ?_)
  · dsimp only at e1
    have hsn : s < 2 ^ M.length := by omega
    have hlq := Oq.sl.nat
    have hs4 := hb.size
    refine join_mk (fun t w' => bel w4 w' ∧ ∃ best', OwnN w' w4.heap.size t.1 best' ∧ (t.2.1 = false → best' = [] ∧ ∀ t, t < s + 1 → covC (masks M) (lst t) = false) ∧ (t.2.1 = true → ∃ s0, s0 < 2 ^ M.length ∧ best' = lst s0 ∧ covC (masks M) (lst s0) = true ∧ BestP (covC (masks M)) (s + 1) (lst s0))) (fun K hK => ?_) (fun t w12 hJ _ => ?_)
    · refine call_mono (listR s w7 (by omega)) ?_
      rintro (x14 : Hdr) w15 ⟨O14, h15⟩
      have l14 := O14.sl.nat
      replace hb := hb.trans h15
      replace Oq : OwnN w15 w4.heap.size q best := Own.kept Oq h15
      have O14' : OwnN w15 w4.heap.size x14 (lst s) := own_base O14 hs4
      have eC : covC (masks M) (lst s) = covB (masks M) s := by unfold covC; rw [lst_bits (by omega)]
      have stepT : ∀ {s0 : Nat}, BestP (covC (masks M)) s (lst s0) → (covC (masks M) (lst s) = true → (lst s0).length < (lst s).length ∨ ((lst s0).length = (lst s).length ∧ earl (lst s) (lst s0) = false)) → BestP (covC (masks M)) (s + 1) (lst s0) := fun {s0} h1 h2 t ht hc => by
        rcases Nat.lt_or_ge t s with z | z
        · exact h1 t z hc
        · have : t = s := by omega
          subst this; exact h2 hc
      have cov : ∀ {w : World} {A B : World → Prop}, bel w4 w → (∀ w', bel w w' → covC (masks M) (lst s) = false → A w') → (∀ w', bel w w' → covC (masks M) (lst s) = true → B w') → call Try.prog 46 [.slice x3.1 x3.2.1 x3.2.2, .int .i64 (s : Int)] (.one (.one .bool)) w fun (x18 : Bool) w19 => br (!x18) (A w19) (B w19) := fun {w A B} hw hA hB => by
        refine call_mono (coversR x3 (masks M) s w (O.sl.up hw) (masks_63 V) (by omega)) ?_
        rintro (x18 : Bool) w19 ⟨hx, h19⟩
        refine br_not (fun z => hA w19 h19 ?_) (fun z => hB w19 h19 ?_)
        · rw [eC, ← hx]; exact z
        · rw [eC, ← hx]; exact z
      refine br_mk (fun hfd => ?_) (fun hfd => ?_)
      · obtain ⟨s0, k1, k2, k3, k4⟩ := ht hfd
        have keep : ∀ w', bel w15 w' → (covC (masks M) (lst s) = true → (lst s0).length < (lst s).length ∨ ((lst s0).length = (lst s).length ∧ earl (lst s) (lst s0) = false)) → K (q, fd, ()) w' := fun w' hw' h => hK _ _ ⟨hb.trans hw', best, Own.kept Oq hw', (fun z => by rw [hfd] at z; cases z), fun _ => ⟨s0, k1, k2, k3, stepT k4 h⟩⟩
        have take : ∀ w', bel w15 w' → covC (masks M) (lst s) = true → ((lst s).length < (lst s0).length ∨ ((lst s).length = (lst s0).length ∧ earl (lst s) (lst s0) = true)) → K (x14, true, ()) w' := fun w' hw' hc h => hK _ _ ⟨hb.trans hw', lst s, Own.kept O14' hw', (fun z => by cases z), fun _ => ⟨s, hsn, rfl, hc, fun t ht hct => by
          rcases Nat.lt_or_ge t s with z | z
          · rcases k4 t z hct with y | ⟨y1, y2⟩
            · rcases h with h | ⟨h1, _⟩
              · exact .inl (by omega)
              · exact .inl (by omega)
            · rcases h with h | ⟨h1, h2⟩
              · exact .inl (by omega)
              · refine .inr ⟨by omega, ?_⟩
                cases ee : earl (lst t) (lst s) with
                | false => rfl
                | true =>
                  have h3 := earl_trans (by omega) h1 ee (earl_asym h2)
                  rw [y2] at h3; cases h3
          · have : t = s := by omega
            subst this; exact .inr ⟨rfl, earl_irr _⟩⟩⟩
        have ls : (lst s0).length = q.2.1 := by rw [← k2]; exact hlq
        refine br_dec (fun z => keep w15 (bel.refl _) fun _ => .inl (by dsimp only at z; omega)) (fun z => ?_)
        dsimp only at z
        refine br_eq (fun z2 => ?_) (fun z2 => ?_)
        · dsimp only at z2
          have hle : (lst s).length = (lst s0).length := by omega
          refine call_mono (earlierR x14 q (lst s) (lst s0) w15 O14.sl (by rw [← k2]; exact Oq.sl) hle) ?_
          rintro (x16 : Bool) w17 ⟨hx16, h17⟩
          refine br_not (fun z3 => keep w17 h17 fun _ => .inr ⟨hle.symm, by rw [← hx16]; exact z3⟩) (fun z3 => ?_)
          refine cov (hb.trans h17) (fun w' hw' hc => keep w' (h17.trans hw') fun hc' => by rw [hc] at hc'; cases hc') (fun w' hw' hc => take w' (h17.trans hw') hc (.inr ⟨hle, by rw [← hx16]; exact z3⟩))
        · dsimp only at z2
          refine cov hb (fun w' hw' hc => keep w' hw' fun hc' => by rw [hc] at hc'; cases hc') (fun w' hw' hc => take w' hw' hc (.inl (by omega)))
      · have hfd : fd = false := hfd
        obtain ⟨k1, k2⟩ := hf hfd
        refine cov hb (fun w' hw' hc => hK _ _ ⟨hb.trans hw', best, Own.kept Oq hw', fun _ => ⟨k1, fun t ht => ?_⟩, (fun z => by dsimp only at z; rw [hfd] at z; cases z)⟩) (fun w' hw' hc => hK _ _ ⟨hb.trans hw', lst s, Own.kept O14' hw', (fun z => by cases z), fun _ => ⟨s, hsn, rfl, hc, fun t ht hct => ?_⟩⟩)
        · rcases Nat.lt_or_ge t s with z | z
          · exact k2 t z
          · have : t = s := by omega
            subst this; exact hc
        · rcases Nat.lt_or_ge t s with z | z
          · rw [k2 t z] at hct; cases hct
          · have : t = s := by omega
            subst this; exact .inr ⟨rfl, earl_irr _⟩
    · obtain ⟨j1, best', j2, j3, j4⟩ := hJ
      obtain ⟨t1, t2, _⟩ := t
      refine z_i64 (by dsimp only; omega) ?_
      exact hag (s + 1, best') _ _ ⟨rfl, hsn, j1, j2, j3, j4⟩ (by dsimp only; omega)
  · dsimp only at e1
    have hsn : s = 2 ^ M.length := by omega
    subst hsn
    refine ⟨(q, (0 : Int), ()), rfl, .inl ⟨V, rfl, ?_⟩, h24.trans hb⟩
    cases hfd : fd with
    | true =>
      obtain ⟨s0, k1, k2, k3, k4⟩ := ht hfd
      rw [← least_best V k1 k3 k4, ← k2]
      exact own_base Oq (by omega)
    | false =>
      obtain ⟨_, k2⟩ := hf hfd
      obtain ⟨a1, a2⟩ := least_asc (M := M)
      have := k2 (bitsOf (least (covC (masks M)) M.length)) (bits_lt fun x hx => (a1.lt x hx).2)
      rw [lst_of a1 v1, a2] at this; cases this
end Go.Proofs.Ytaomejbaocehnaa

/- The reference: Apart. -/

namespace Go.Proofs.Ytaomejbaocehnaa
open Go.RowKit Go.Q Go.V

def mstR : List Nat → Nat → Nat
  | [], _ => 0
  | c :: l, U => if c ≠ 0 ∧ c &&& U = 0 then max (mstR l U) (1 + mstR l (U ||| c)) else mstR l U
theorem mstR_cons (c : Nat) (l : List Nat) (U : Nat) : mstR (c :: l) U = if c ≠ 0 ∧ c &&& U = 0 then max (mstR l U) (1 + mstR l (U ||| c)) else mstR l U := rfl
def aprtR : List Nat → Nat → Nat → List Nat
  | [], _, _ => []
  | c :: l, k, U => if c ≠ 0 ∧ c &&& U = 0 ∧ 1 + mstR l (U ||| c) = mstR (c :: l) U then k :: aprtR l (k + 1) (U ||| c) else aprtR l (k + 1) U
section
variable {n : Nat}
theorem rest_bit (hn : n ≤ 14) {U : Nat} (hU : U < 2 ^ n) (i : Nat) : (dif (2 ^ n - 1) U).testBit i = (decide (i < n) && !U.testBit i) := by
  rw [dif_bit (lt64 hU hn), Nat.testBit_two_pow_sub_one]
  by_cases h : i < n
  · have : i < 64 := by omega
    simp [h, this]
  · simp [h]
theorem rest_sub (hn : n ≤ 14) {U c : Nat} (hU : U < 2 ^ n) (hc : c < 2 ^ n) : dif c (dif (2 ^ n - 1) U) = 0 ↔ c &&& U = 0 := by
  have p0 := Nat.two_pow_pos n
  have hd : dif (2 ^ n - 1) U < 2 ^ n := dif_lt (by omega)
  rw [dif_eq0 (lt64 hc hn) (lt64 hd hn), and_eq0]
  refine forall_congr' fun i => ?_
  rw [rest_bit hn hU]
  constructor
  · intro h hi
    have := h hi
    simp at this; exact this.2
  · intro h hi
    have hin : i < n := by
      rcases Nat.lt_or_ge i n with q | q
      · exact q
      · rw [bit_out hc q] at hi; cases hi
    simp [hin, h hi]
theorem rest_or (hn : n ≤ 14) {U c : Nat} (hU : U < 2 ^ n) (hc : c < 2 ^ n) : dif (2 ^ n - 1) (U ||| c) = dif (dif (2 ^ n - 1) U) c := by
  apply Nat.eq_of_testBit_eq
  intro i
  rw [rest_bit hn (Nat.or_lt_two_pow hU hc), dif_bit (lt64 hc hn), rest_bit hn hU, Nat.testBit_or]
  by_cases h : i < n
  · have : i < 64 := by omega
    cases U.testBit i <;> cases c.testBit i <;> simp [h, this]
  · simp [h]
theorem mstR_eq (hn : n ≤ 14) : ∀ {l : List Nat} {U : Nat}, (∀ c ∈ l, c < 2 ^ n) → U < 2 ^ n → mstR l U = mst l (dif (2 ^ n - 1) U)
  | [], _, _, _ => rfl
  | c :: l, U, hl, hU => by
    have hl' : ∀ d ∈ l, d < 2 ^ n := fun d hd => hl d (by simp [hd])
    have hc := hl c (by simp)
    have p0 := Nat.two_pow_pos n
    have hd : dif (2 ^ n - 1) U < 2 ^ n := dif_lt (by omega)
    have i1 := mstR_eq hn (l := l) (U := U) hl' hU
    have i2 := mstR_eq hn (l := l) (U := U ||| c) hl' (Nat.or_lt_two_pow hU hc)
    rw [rest_or hn hU hc] at i2
    have hs := rest_sub hn hU hc
    by_cases h0 : c = 0
    · rw [mstR_cons, if_neg (fun q => q.1 h0), mst_cons, if_pos (.inl h0), i1]
    · by_cases hm : c ∈ l
      · by_cases hq : c &&& U = 0
        · rw [mstR_cons, if_pos ⟨h0, hq⟩, mst_cons, if_pos (.inr hm), i1, i2]
          have := mst_twice hn hl' hd h0 (hs.2 hq) hm
          omega
        · rw [mstR_cons, if_neg (fun q => hq q.2), mst_cons, if_pos (.inr hm), i1]
      · have hno : ¬ (c = 0 ∨ c ∈ l) := fun q => q.elim h0 hm
        by_cases hq : c &&& U = 0
        · rw [mstR_cons, if_pos ⟨h0, hq⟩, mst_cons, if_neg hno, if_pos (hs.2 hq), i1, i2]
        · rw [mstR_cons, if_neg (fun q => hq q.2), mst_cons, if_neg hno, if_neg (fun q => hq (hs.1 q)), i1]
theorem aprtR_eq (hn : n ≤ 14) : ∀ {l : List Nat} {k U : Nat}, (∀ c ∈ l, c < 2 ^ n) → U < 2 ^ n → aprtR l k U = aprt l k (dif (2 ^ n - 1) U)
  | [], _, _, _, _ => rfl
  | c :: l, k, U, hl, hU => by
    have hl' : ∀ d ∈ l, d < 2 ^ n := fun d hd => hl d (by simp [hd])
    have hc := hl c (by simp)
    have i1 := aprtR_eq hn (l := l) (k := k + 1) (U := U) hl' hU
    have i2 := aprtR_eq hn (l := l) (k := k + 1) (U := U ||| c) hl' (Nat.or_lt_two_pow hU hc)
    have m1 := mstR_eq hn (l := c :: l) (U := U) hl hU
    have m2 := mstR_eq hn (l := l) (U := U ||| c) hl' (Nat.or_lt_two_pow hU hc)
    rw [rest_or hn hU hc] at i2 m2
    have hs := rest_sub hn hU hc
    unfold aprtR aprt
    rw [i1, i2, m1, m2]
    by_cases h : c ≠ 0 ∧ c &&& U = 0 ∧ 1 + mst l (dif (dif (2 ^ n - 1) U) c) = mst (c :: l) (dif (2 ^ n - 1) U)
    · rw [if_pos h, if_pos ⟨h.1, hs.2 h.2.1, h.2.2⟩]
    · rw [if_neg h, if_neg (fun q => h ⟨q.1, hs.1 q.2.1, q.2.2⟩)]
theorem rest_zero (hn : n ≤ 14) : dif (2 ^ n - 1) 0 = 2 ^ n - 1 := by
  apply Nat.eq_of_testBit_eq
  intro i
  rw [rest_bit hn (Nat.two_pow_pos n), Nat.testBit_two_pow_sub_one]; simp
end
theorem tyE : TyS Try.prog 61 62 (.int .i8 0) 1 1 := ⟨by kernel_rfl, by kernel_rfl⟩
theorem tyE2 : TyS Try.prog 60 61 (.slice none 0 0) 1 24 := ⟨by kernel_rfl, by kernel_rfl⟩
abbrev OwnE (w : World) (B : Nat) (h : Hdr) (xs : List Nat) : Prop := Own w B 62 1 h.1 h.2.1 h.2.2 (nats .i8 xs)
theorem zeros_e (n : Nat) : (madeCells (Value.int .i8 0).cells (n * 1)).toList = nats .i8 (List.replicate n 0) := by rw [Nat.mul_one]; exact made_nat .i8 n
theorem z_i8 {n : Int} {k : Int → Prop} (h : 0 ≤ n ∧ n ≤ 127) (hk : k n) : z (IntKind.wrap .i8 n) k := by
  have e : IntKind.i8.wrap n = n := by
    simp [IntKind.wrap, IntKind.bits, IntKind.signed]
    omega
  unfold z; rw [e]; exact hk
/-- the tables of Apart -/
structure AR (w' : World) (b : Nat) (x7 : Hdr) (hs : List Hdr) (L : List Nat) (n k : Nat) : Prop where
  th : Own w' b 61 1 x7.1 x7.2.1 x7.2.2 (hs.map hv)
  len : hs.length = L.length + 1
  tab : ∀ j, k ≤ j → j ≤ L.length → ∃ h, hs[j]? = some h ∧ OwnE w' b h (mk (2 ^ n) (mstR (L.drop j)))
theorem AR.up {w w' : World} {b : Nat} {x7 : Hdr} {hs : List Hdr} {L : List Nat} {n k : Nat} (A : AR w b x7 hs L n k) (h : bel w w') : AR w' b x7 hs L n k :=
  ⟨Own.kept A.th h, A.len, fun j h1 h2 => by obtain ⟨x, q1, q2⟩ := A.tab j h1 h2; exact ⟨x, q1, Own.kept q2 h⟩⟩
theorem AR.hl {w : World} {b : Nat} {x7 : Hdr} {hs : List Hdr} {L : List Nat} {n k : Nat} (A : AR w b x7 hs L n k) : x7.2.1 = L.length + 1 := by
  have := A.th.sl.len
  have := A.len
  simp at *; omega
/-- a table is read -/
theorem AR.get {w : World} {b : Nat} {x7 : Hdr} {hs : List Hdr} {L : List Nat} {n k : Nat} (A : AR w b x7 hs L n k) {j : Nat} {jj : Int} (hj : jj = (j : Int)) (h1 : k ≤ j) (h2 : j ≤ L.length) {K : Hdr → Prop} (hK : ∀ x : Hdr, hs[j]? = some x → OwnE w b x (Go.Proofs.Ytaomejbaocehnaa.mk (2 ^ n) (mstR (L.drop j))) → K x) :
    rdp Try.prog (Instr.indexAt 60 (.slice x7.1 x7.2.1 x7.2.2) (.int .i64 jj)) (.one .addr) fun a => rd Try.prog (Instr.loadAt 61 (.pointer (some a))) (.one .slice) w K := by
  have hl := A.hl
  refine at_hdr tyE2 (by kernel_rfl) A.th.sl hj (by omega) fun x hx => ?_
  obtain ⟨y, q1, q2⟩ := A.tab j h1 h2
  rw [hx] at q1
  injection q1 with q1
  subst q1
  exact hK x hx q2
/-- a table is set -/
theorem AR.set {w : World} {b : Nat} {x7 : Hdr} {hs : List Hdr} {L : List Nat} {n k : Nat} (A : AR w b x7 hs L n (k + 1)) (hkL : k < L.length) {kk : Int} (hkk : kk = (k : Int)) {h : Hdr} {K : World → Prop}
    (hK : ∀ w' hs', Own w' b 61 1 x7.1 x7.2.1 x7.2.2 (hs'.map hv) → hs' = hs.set k h → AR w' b x7 hs' L n (k + 1) → w.grownBy w' (blk x7.1) → w'.heap.size = w.heap.size → K w') :
    rdp Try.prog (Instr.indexAt 60 (.slice x7.1 x7.2.1 x7.2.2) (.int .i64 kk)) (.one .addr) fun a => wu Try.prog (Instr.storeAt 61 (.pointer (some a)) (.slice h.1 h.2.1 h.2.2)) w K := by
  have hl := A.hl
  refine set_mk tyE2 A.th hkk (show k < x7.2.1 by omega) rfl fun w' O hg hsz => ?_
  have e : (hs.map hv).set k (.slice h.1 h.2.1 h.2.2) = (hs.set k h).map hv := by rw [List.map_set]; rfl
  rw [e] at O
  refine hK w' _ O rfl ⟨O, by simp [A.len], fun j h1 h2 => ?_⟩ hg hsz
  obtain ⟨x, q1, q2⟩ := A.tab j h1 h2
  exact ⟨x, by rw [List.getElem?_set, if_neg (by omega)]; exact q1, own_keep q2 hg (fun c hc e => Own.apart A.th q2 (by decide) c e hc)⟩
theorem i8_mk {w : World} {h : Hdr} {xs : List Nat} (H : Sl w h.1 h.2.1 h.2.2 1 (nats .i8 xs)) {k : Nat} {kk : Int} (hk : kk = (k : Int)) (hn : k < xs.length) {K : Int → Prop} (hK : ∀ x : Nat, xs[k]? = some x → K (x : Int)) :
    rdp Try.prog (Instr.indexAt 61 (.slice h.1 h.2.1 h.2.2) (.int .i64 kk)) (.one .addr) fun b => rd Try.prog (Instr.loadAt 62 (.pointer (some b))) (.one (.int .i8)) w K :=
  at_nat tyE (by kernel_rfl) H hk (by have := H.nat; omega) fun x hx => hK x hx
set_option maxHeartbeats 3200000 in
theorem ApartR (m : Hdr) (M : List (List Bool)) (w : World) (H : TabB w m M) :
    call Try.prog 24 [.slice m.1 m.2.1 m.2.2] rHI w (fun x w' => ListR M (aprt (masks M) 0 (2 ^ M.length - 1)) w x w' ∧ bel w w') := by
  refine call_of (S24_calls m.1 m.2.1 m.2.2 w _ ?_)
  unfold S24
  refine call_mono (validR m M w H) ?_
  rintro (x1 : Bool) w2 ⟨hv0, h2⟩
  refine br_not (fun e => ⟨((none, 0, 0), (1 : Int), ()), rfl, .inr ⟨(fun q => by have := hv0.2 q; rw [e] at this; cases this), rfl, rfl⟩, h2⟩) (fun e => ?_)
  have V := hv0.1 e
  have v1 := V.n
  have v2 := V.w400
  refine call_mono (masksR m M w2 (H.up h2) V) ?_
  rintro (x3 : Hdr) w4 ⟨O, h4⟩
  have hl := H.len
  have h24 := h2.trans h4
  have s24 := h24.size
  have lx3 := O.sl.nat
  have lm := masks_len M
  have hM := masks_lt (M := M)
  rw [← hl]
  generalize hn : M.length = n at *
  have hspec : aprt (masks M) 0 (2 ^ n - 1) = aprtR (masks M) 0 0 := by
    rw [aprtR_eq v1 hM (Nat.two_pow_pos n), rest_zero v1]
  rw [hspec]
  generalize hL : masks M = L at *
  have hL63 : ∀ c ∈ L, c < 2 ^ 63 := fun c hc => lt63 (hM c hc) v1
  have p14 := pow14 v1
  have p0 := Nat.two_pow_pos n
  have mbound : ∀ (l : List Nat) (U : Nat), (∀ c ∈ l, c < 2 ^ n) → U < 2 ^ n → mstR l U ≤ 14 := fun l U h1 h2 => by
    rw [mstR_eq v1 h1 h2]
    have := mst_le v1 h1 (dif_lt (a := 2 ^ n - 1) (b := U) (n := n) (by omega))
    have := pc_le (dif (2 ^ n - 1) U) n
    omega
  refine z_u64 (by omega) ?_
  refine shl1 n rfl (by omega) ?_
  refine z_i64 (by omega) ?_
  refine wr_make tyE2 (L.length + 1) (by omega) (by omega) (by omega) (by unfold maxLen; omega) fun c7 w8 O7 h8 _ _ => ?_
  replace O7 := O7 w4.heap.size (Nat.le_refl _)
  rw [zeros_h] at O7
  refine wr_make tyE (2 ^ n) rfl rfl (by omega) (by unfold maxLen; omega) fun c9 w10 O9 h10 _ _ => ?_
  replace O9 := O9 w4.heap.size (h8.size)
  rw [zeros_e] at O9
  replace O7 : Own w10 w4.heap.size 61 1 (some c7) (L.length + 1) (L.length + 1) _ := Own.kept O7 h10
  refine set_mk tyE2 O7 (j := L.length) (by omega) (by omega) rfl fun w12 O12 g12 _ => ?_
  have e12 : ((List.replicate (L.length + 1) ((none, 0, 0) : Hdr)).map hv).set L.length (.slice (some c9) (2 ^ n) (2 ^ n)) = ((List.replicate (L.length + 1) ((none, 0, 0) : Hdr)).set L.length (some c9, 2 ^ n, 2 ^ n)).map hv := by rw [List.map_set]; rfl
  rw [e12] at O12
  have O9' : OwnE w12 w4.heap.size (some c9, 2 ^ n, 2 ^ n) (mk (2 ^ n) (mstR [])) := by
    have e : mk (2 ^ n) (mstR []) = List.replicate (2 ^ n) 0 := by rw [mk_zero]; rfl
    rw [e]
    exact own_keep O9 g12 (fun c hc e => Own.apart O7 O9 (by decide) c e hc)
  have b412 : bel w4 w12 := (h8.trans h10).grown g12 fun k hk => (O7.lt k hk).1
  have A12 : AR w12 w4.heap.size (some c7, L.length + 1, L.length + 1) ((List.replicate (L.length + 1) ((none, 0, 0) : Hdr)).set L.length (some c9, 2 ^ n, 2 ^ n)) L n L.length := by
    refine ⟨O12, by simp, fun j h1 h2 => ⟨(some c9, 2 ^ n, 2 ^ n), ?_, ?_⟩⟩
    · have : j = L.length := by omega
      subst this
      rw [List.getElem?_set, if_pos rfl, if_pos (by simp)]
    · have : j = L.length := by omega
      subst this
      rw [List.drop_length]; exact O9'
  refine z_i64 (by omega) ?_
  refine loop_gh (G := Nat) (fun k s w' => s = ((k : Int) - 1, ()) ∧ k ≤ L.length ∧ bel w4 w' ∧ ∃ hs, AR w' w4.heap.size (some c7, L.length + 1, L.length + 1) hs L n k) (fun k => k) L.length ⟨by rw [lx3], Nat.le_refl _, b412, _, A12⟩ ?_
  clear A12 O12 O9' O7 O9 e12
  rintro k s w16 ⟨rfl, hkL, hb, hs, A⟩ again hag _
  refine br_dec (fun e => ?_) (fun e => ?_)
  · dsimp only at e
    obtain ⟨k, rfl⟩ : ∃ k', k = k' + 1 := ⟨k - 1, by omega⟩
    have ek : ((k + 1 : Nat) : Int) - 1 = (k : Int) := by omega
    rw [ek]
    have hk : k < L.length := by omega
    obtain ⟨c, hc⟩ : ∃ c, L[k]? = some c := ⟨_, List.getElem?_eq_getElem hk⟩
    have hcm := List.mem_of_getElem? hc
    have hcn := hM c hcm
    have hdrop : L.drop k = c :: L.drop (k + 1) := by
      rw [List.drop_eq_getElem_cons hk]
      congr 1
      rw [List.getElem?_eq_getElem hk] at hc
      injection hc
    have hl' : ∀ d ∈ L.drop (k + 1), d < 2 ^ n := fun d hd => hM d (List.mem_of_mem_drop hd)
    have s416 := hb.size
    refine wr_make tyE (2 ^ n) rfl rfl (by omega) (by unfold maxLen; omega) fun ad w19 O19 h19 ead _ => ?_
    replace O19 := O19 w16.heap.size (Nat.le_refl _)
    rw [zeros_e] at O19
    have A16 := A
    have hold : ∀ {h : Hdr} {xs : List Nat}, OwnE w16 w4.heap.size h xs → ∀ c, blk h.1 = some c → c < w16.heap.size := fun O c hc => (O.lt c hc).2
    replace A := A.up h19
    replace hb := hb.trans h19
    refine A.set hk rfl (h := (some ad, 2 ^ n, 2 ^ n)) fun w43 hs' O43 ehs A43 g43 s43 => ?_
    have hb43 := hb.grown g43 fun c hc => (A.th.lt c hc).1
    have x7lt : c7.block < w16.heap.size := (A16.th.lt c7.block rfl).2
    replace O19 : Own w43 w16.heap.size 62 1 (some ad) (2 ^ n) (2 ^ n) (nats .i8 (List.replicate (2 ^ n) 0)) := own_keep O19 g43 (fun c hc e => by have := (O19.lt c hc).1; have : c7.block = c := blk_eq e; omega)
    have tabs : ∀ {w' : World}, w43.grownBy w' (some ad.block) → AR w' w4.heap.size (some c7, L.length + 1, L.length + 1) hs' L n (k + 1) := fun {w'} hg =>
      ⟨own_keep A43.th hg (fun c hc e => by have := blk_eq hc; injection e with e; omega), A43.len, fun j h1 h2 => by
        obtain ⟨x, q1, q2⟩ := A43.tab j h1 h2
        refine ⟨x, q1, own_keep q2 hg (fun c hc e => ?_)⟩
        injection e with e
        obtain ⟨y, y1, y2⟩ := A16.tab j h1 h2
        rw [ehs, List.getElem?_set, if_neg (by omega), y1] at q1
        injection q1 with q1
        subst q1
        have := hold y2 c hc
        omega⟩
    refine loop_up (2 ^ n) (fun R w' => w43.grownBy w' (some ad.block) ∧ Own w' w16.heap.size 62 1 (some ad) (2 ^ n) (2 ^ n) (nats .i8 (mk (2 ^ n) fun S => if S < R then mstR (c :: L.drop (k + 1)) S else 0)))
      ⟨grown_refl _ _, by rw [mk_congr (g := fun _ => 0) fun R _ => by rw [if_neg (by omega)], ← mk_zero]; exact O19⟩ fun R w46 hR ⟨hg, OC⟩ again2 hag2 _ => ?_
    refine br_dec (fun e1 => ?_) (fun e1 => ?_)
    · dsimp only at e1
      have hRn : R < 2 ^ n := by omega
      have hd0 : hs'[k]? = some (some ad, 2 ^ n, 2 ^ n) := by rw [ehs, List.getElem?_set, if_pos rfl, if_pos (by rw [A.len]; omega)]
      have rdk : ∀ {w : World} {K : Hdr → Prop}, w43.grownBy w (some ad.block) → K (some ad, 2 ^ n, 2 ^ n) → rdp Try.prog (Instr.indexAt 60 (.slice (some c7) (L.length + 1) (L.length + 1)) (.int .i64 (k : Int))) (.one .addr) fun a => rd Try.prog (Instr.loadAt 61 (.pointer (some a))) (.one .slice) w K := fun {w K} hg hK =>
        at_hdr tyE2 (by kernel_rfl) (tabs hg).th.sl rfl (show k < L.length + 1 by omega) fun x hx => by
          rw [hd0] at hx
          injection hx with hx
          subst hx; exact hK
      have rdc : ∀ {w : World} {K : Int → Prop}, bel w4 w → K (c : Int) → rdp Try.prog (Instr.indexAt 22 (.slice x3.1 x3.2.1 x3.2.2) (.int .i64 (k : Int))) (.one .addr) fun b => rd Try.prog (Instr.loadAt 3 (.pointer (some b))) (.one (.int .i64)) w K := fun {w K} hw hK =>
        nat_mk (O.sl.up hw) rfl hk fun c' hc' => by
          rw [hc] at hc'
          injection hc' with hc'
          subst hc'; exact hK
      refine join_mk (fun _ w' => w43.grownBy w' (some ad.block) ∧ Own w' w16.heap.size 62 1 (some ad) (2 ^ n) (2 ^ n) (nats .i8 (mk (2 ^ n) fun S => if S < R + 1 then mstR (c :: L.drop (k + 1)) S else 0))) (fun K2 hK2 => ?_) (fun _ w49 hJ _ => ?_)
      · refine drw_mk fun w29 h29 _ => ?_
        have hg29 : w43.grownBy w29 (some ad.block) := hg.trans (grown_of_bel h29 _)
        replace OC : Own w29 w16.heap.size 62 1 (some ad) (2 ^ n) (2 ^ n) _ := Own.kept OC h29
        refine rdk hg29 ?_
        refine z_i64 (by omega) ?_
        refine (tabs hg29).get (j := k + 1) (by omega) (Nat.le_refl _) (by omega) fun x34 _ O34 => ?_
        refine i8_mk O34.sl rfl (by rw [mk_len]; exact hRn) fun x36 hx36 => ?_
        rw [mk_at hRn] at hx36
        injection hx36 with hx36
        refine set_mk tyE OC rfl hRn rfl fun w38 O38 g38 _ => ?_
        rw [nats_set, mk_set] at O38
        have hg38 := hg29.trans g38
        have hb38 : bel w4 w38 := hb43.grownAt hg38 (by omega)
        have m2 := mbound _ R hl' hRn
        have skip : mstR (c :: L.drop (k + 1)) R = mstR (L.drop (k + 1)) R → K2 () w38 := fun hq => by
          refine hK2 () _ ⟨hg38, ?_⟩
          rw [mk_congr (g := fun j => if j = R then x36 else if j < R then mstR (c :: L.drop (k + 1)) j else 0) fun j _ => ?_]
          · exact O38
          · by_cases z : j = R
            · subst z
              rw [if_pos (by omega), if_pos rfl, hq, hx36]
            · rw [if_neg z]
              by_cases z2 : j < R
              · rw [if_pos (by omega), if_pos z2]
              · rw [if_neg (by omega), if_neg z2]
        refine rdc hb38 ?_
        refine nat_ne0 (fun e0 => ?_) (fun e0 => skip (by rw [mstR_cons, if_neg (fun q => q.1 e0)]))
        refine rdc hb38 ?_
        refine z_and (a := c) (b := R) rfl rfl (lt63 hcn v1) (lt63 hRn v1) ?_
        refine nat_eq0 (fun ed => ?_) (fun ed => skip (by rw [mstR_cons, if_neg (fun q => ed q.2)]))
        refine drw_mk fun w44 h44 _ => ?_
        have hg44 : w43.grownBy w44 (some ad.block) := hg38.trans (grown_of_bel h44 _)
        have hb44 := hb38.trans h44
        replace O38 : Own w44 w16.heap.size 62 1 (some ad) (2 ^ n) (2 ^ n) _ := Own.kept O38 h44
        refine rdk hg44 ?_
        refine rdk hg44 ?_
        refine i8_mk (h := (some ad, 2 ^ n, 2 ^ n)) O38.sl rfl (by rw [mk_len]; exact hRn) fun x50 hx50 => ?_
        rw [mk_at hRn, if_pos rfl] at hx50
        injection hx50 with hx50
        refine z_i64 (by omega) ?_
        refine (tabs hg44).get (j := k + 1) (by omega) (Nat.le_refl _) (by omega) fun x53 _ O53 => ?_
        refine rdc hb44 ?_
        have hor : R ||| c < 2 ^ n := Nat.or_lt_two_pow hRn hcn
        refine z_or (a := R) (b := c) rfl rfl (lt63 hRn v1) (lt63 hcn v1) ?_
        refine i8_mk O53.sl rfl (by rw [mk_len]; exact hor) fun x58 hx58 => ?_
        rw [mk_at hor] at hx58
        injection hx58 with hx58
        have m1 := mbound _ (R ||| c) hl' hor
        refine z_i8 (by omega) ?_
        refine maxu ?_
        have ev : max (x50 : Int) (1 + (x58 : Int)) = ((max x50 (1 + x58) : Nat) : Int) := by omega
        rw [ev]
        refine set_mk tyE O38 rfl hRn rfl fun w68 O68 g68 _ => ?_
        rw [nats_set, mk_set] at O68
        refine hK2 () _ ⟨hg44.trans g68, ?_⟩
        rw [mk_congr (g := fun j => if j = R then max x50 (1 + x58) else if j = R then x36 else if j < R then mstR (c :: L.drop (k + 1)) j else 0) fun j _ => ?_]
        · exact O68
        · by_cases z : j = R
          · subst z
            rw [if_pos (by omega), if_pos rfl, mstR_cons, if_pos ⟨e0, ed⟩, ← hx50, hx36, hx58]
          · rw [if_neg z, if_neg z]
            by_cases z2 : j < R
            · rw [if_pos (by omega), if_pos z2]
            · rw [if_neg (by omega), if_neg z2]
      · refine z_i64 (by dsimp only; omega) ?_
        exact hag2 _ hRn hJ
    · dsimp only at e1
      have hRn : R = 2 ^ n := by omega
      subst hRn
      have A46 := tabs hg
      refine z_i64 (by omega) ?_
      refine hag k _ _ ⟨rfl, by omega, hb43.grownAt hg (by omega), hs', A46.th, A46.len, fun j h1 h2 => ?_⟩ (by omega)
      rcases Nat.eq_or_lt_of_le h1 with q | q
      · subst q
        refine ⟨(some ad, 2 ^ n, 2 ^ n), by rw [ehs, List.getElem?_set, if_pos rfl, if_pos (by rw [A.len]; omega)], ?_⟩
        rw [hdrop, mk_congr (g := fun S => if S < 2 ^ n then mstR (c :: L.drop (k + 1)) S else 0) fun R hR => by rw [if_pos hR]]
        exact own_base OC (by omega)
      · exact A46.tab j q h2
  · dsimp only at e
    have hk0 : k = 0 := by omega
    subst hk0
    clear hag again
    refine loop_gh (G := Nat × Nat × List Nat) (fun g s w' => s.2.1 = ((g.2.1 : Nat) : Int) ∧ s.2.2 = ((g.1 : Int), ()) ∧ g.1 ≤ L.length ∧ g.2.1 < 2 ^ n ∧ bel w16 w' ∧ OwnN w' w16.heap.size s.1 g.2.2 ∧ aprtR L 0 0 = g.2.2 ++ aprtR (L.drop g.1) g.1 g.2.1 ∧ g.2.2.length ≤ g.1) (fun g => L.length - g.1) (0, 0, [])
      ⟨rfl, rfl, Nat.zero_le _, p0, bel.refl _, Own.nil _ _ _ _, rfl, Nat.le_refl _⟩ ?_
    rintro ⟨k, R, out⟩ ⟨q, sR, s⟩ w72 ⟨rfl, rfl, hk, hR, hb72, Oq, hap, hol⟩ again hag _
    dsimp only at hk hR Oq hap hol hag
    refine br_dec (fun e1 => ?_) (fun e1 => ?_)
    · dsimp only at e1
      have hkL : k < L.length := by omega
      refine join_mk (fun s w' => ∃ R' out', s.2.1 = ((R' : Nat) : Int) ∧ R' < 2 ^ n ∧ bel w16 w' ∧ OwnN w' w16.heap.size s.1 out' ∧ aprtR L 0 0 = out' ++ aprtR (L.drop (k + 1)) (k + 1) R' ∧ out'.length ≤ k + 1) (fun K hK => ?_) (fun s w75 hJ _ => ?_)
      · refine nat_mk ((O.sl.up hb).up hb72) rfl hkL fun c hc => ?_
        have hcm := List.mem_of_getElem? hc
        have hcn := hM c hcm
        have hdrop : L.drop k = c :: L.drop (k + 1) := by
          rw [List.drop_eq_getElem_cons hkL]
          congr 1
          rw [List.getElem?_eq_getElem hkL] at hc
          injection hc
        have hl' : ∀ d ∈ L.drop (k + 1), d < 2 ^ n := fun d hd => hM d (List.mem_of_mem_drop hd)
        rw [hdrop] at hap
        refine drw_mk fun w79 h79 _ => ?_
        replace hb72 := hb72.trans h79
        replace Oq : OwnN w79 w16.heap.size q out := Own.kept Oq h79
        have A79 := A.up hb72
        have no : ¬ (c ≠ 0 ∧ c &&& R = 0 ∧ 1 + mstR (L.drop (k + 1)) (R ||| c) = mstR (c :: L.drop (k + 1)) R) → K (q, ((R : Nat) : Int), ()) w79 := fun hq => by
          refine hK _ _ ⟨R, out, rfl, hR, hb72, Oq, ?_, by omega⟩
          rw [hap, aprtR, if_neg hq]
        refine nat_ne0 (fun ec => ?_) (fun ec => no fun q => q.1 ec)
        refine z_and (a := c) (b := R) rfl rfl (lt63 hcn v1) (lt63 hR v1) ?_
        refine nat_eq0 (fun ed => ?_) (fun ed => no fun q => ed q.2.1)
        refine z_i64 (by dsimp only; omega) ?_
        refine A79.get (j := k + 1) (by dsimp only; omega) (Nat.zero_le _) (by omega) fun x83 _ O83 => ?_
        have hdl : R ||| c < 2 ^ n := Nat.or_lt_two_pow hR hcn
        refine z_or (a := R) (b := c) rfl rfl (lt63 hR v1) (lt63 hcn v1) ?_
        refine i8_mk O83.sl rfl (by rw [mk_len]; exact hdl) fun x86 hx86 => ?_
        rw [mk_at hdl] at hx86
        injection hx86 with hx86
        have m1 := mbound _ (R ||| c) hl' hdl
        refine z_i8 (by omega) ?_
        refine A79.get (j := k) rfl (Nat.zero_le _) (by omega) fun x89 _ O89 => ?_
        refine i8_mk O89.sl rfl (by rw [mk_len]; exact hR) fun x91 hx91 => ?_
        rw [mk_at hR, hdrop] at hx91
        injection hx91 with hx91
        refine br_eq (fun e2 => ?_) (fun e2 => no fun q => e2 (by have := q.2.2; omega))
        have lq := Oq.sl.nat
        have := hb72.size
        refine wr_app1 tyI Oq (by omega) rfl (by omega) (by omega) rfl rfl (by omega) (by unfold maxLen; omega) fun a' c' w95 O95 g95 _ _ => ?_
        refine z_or (a := R) (b := c) rfl rfl (lt63 hR v1) (lt63 hcn v1) ?_
        refine hK _ _ ⟨R ||| c, out ++ [k], rfl, hdl, hb72.grown g95 fun b hb => (Oq.lt b hb).1, ?_, ?_, by simp; omega⟩
        · show Own w95 _ _ 1 a' (q.2.1 + 1) c' (nats .i64 (out ++ [k]))
          rw [nats_snoc]; exact O95
        · rw [hap, aprtR, if_pos ⟨ec, ed, by omega⟩]; simp
      · obtain ⟨R', out', j1, j2, j3, j4, j5, j6⟩ := hJ
        obtain ⟨t1, t2, _⟩ := s
        dsimp only at j1 j4
        subst j1
        refine z_i64 (by dsimp only; omega) ?_
        exact hag (k + 1, R', out') _ _ ⟨rfl, rfl, by dsimp only; omega, j2, j3, j4, j5, j6⟩ (by dsimp only; omega)
    · dsimp only at e1
      have hkL : k = L.length := by omega
      subst hkL
      rw [List.drop_length, aprtR, List.append_nil] at hap
      refine ⟨(q, (0 : Int), ()), rfl, .inl ⟨V, rfl, ?_⟩, (h24.trans hb).trans hb72⟩
      rw [hap]
      have := hb.size
      exact own_base Oq (by omega)
end Go.Proofs.Ytaomejbaocehnaa

/- The walk of SuiteAnswers. -/

namespace Go.Proofs.Ytaomejbaocehnaa
open Go.RowKit Go.Q Go.V

set_option maxRecDepth 100000 in
theorem argMat {w : World} {v : Value} (h : Go.Q.Arg Try.prog w 25 v) : ∃ t T, v = hv t ∧ TabB w t T := by
  obtain ⟨a, n, c, rfl, h⟩ := Go.V.Arg.slice Try.underlying25 h
  obtain ⟨b, B, q3, s3, _⟩ := Go.V.Read.tab (g := Value.bool) (R := fun _ => True) (fun _ h => by obtain ⟨b, hb⟩ := Go.Q.Read.bool Try.underlying4 h; exact ⟨b, hb, trivial⟩) Try.underlying25 (by kernel_rfl) Try.underlying35 (by kernel_rfl) h
  cases q3
  exact ⟨b, B, rfl, s3⟩
/-- readable, whatever the tape does -/
def TabX (tb : Addr) (w : World) (h : Hdr) (M : List (List Bool)) : Prop := ∀ w', w.grownBy w' (some tb.block) → TabB w' h M
def SlX (tb : Addr) (w : World) (h : Hdr) (xs : List Int) : Prop := ∀ w', w.grownBy w' (some tb.block) → SlI w' h xs
theorem TabX.now {tb : Addr} {w : World} {h : Hdr} {M : List (List Bool)} (H : TabX tb w h M) : TabB w h M := H w (grown_refl _ _)
theorem TabX.next {tb : Addr} {w w' : World} {h : Hdr} {M : List (List Bool)} (H : TabX tb w h M) (hg : w.grownBy w' (some tb.block)) : TabX tb w' h M := fun w2 h2 => H w2 (hg.trans h2)
theorem TabX.of_OT {tb : Addr} {w : World} {b0 : Nat} {h : Hdr} {hs : List Hdr} {T : List (List Bool)} (H : OT w b0 h hs T) (hb : tb.block < b0) : TabX tb w h T := fun _ hg => (H.xg hg hb).tab
theorem smallF (m : Hdr) (M : List (List Bool)) (w : World) (H : TabB w m M) :
    call Try.prog 20 [.slice m.1 m.2.1 m.2.2] (.one (.one .bool)) w (fun (x : Bool) w' => (x = true → M.length ≤ 20) ∧ bel w w') := by
  refine call_of (S20_calls m.1 m.2.1 m.2.2 w _ ?_)
  unfold S20
  have hl := H.len
  refine br_dec (fun _ => ⟨false, rfl, (fun e => by cases e), bel.refl _⟩) (fun e0 => ?_)
  refine loop_up M.length (fun i w' => w = w') rfl fun i w3 hi hw again hag _ => ?_
  subst hw
  refine br_dec (fun e => ?_) (fun e => ?_)
  · dsimp only at e
    refine row_up H (bel.refl _) rfl (by omega) fun x5 r hr S5 => ?_
    refine br_dec (fun _ => ⟨false, rfl, (fun e => by cases e), bel.refl _⟩) (fun _ => ?_)
    refine z_i64 (by dsimp only; omega) ?_
    exact hag _ (by omega) rfl
  · refine br_dec (fun _ => ⟨true, rfl, fun _ => by omega, bel.refl _⟩) (fun e1 => ?_)
    refine row_up H (bel.refl _) (i := 0) rfl (by omega) fun x8 r hr S8 => ?_
    exact ⟨_, rfl, fun _ => by omega, bel.refl _⟩
theorem chosenF {w : World} {tb : Addr} {l : Hdr} {L : List Int} {p : Nat} (n : Nat) (ht : Tape w tb l L p) (hn : n ≤ 20) :
    call Try.prog 28 [.pointer (some tb), .int .i64 (n : Int)] (.one (.one .slice)) w (fun (x : Hdr) w' => (∃ xs : List Int, OwnI w' w.heap.size x xs) ∧ (∃ p', Tape w' tb l L p') ∧ w.grownBy w' (some tb.block)) := by
  refine call_of (S28_calls (some tb) (n : Int) w _ ?_)
  unfold S28
  have htb := ht.box.lt
  have app : ∀ {w : World} {b : Nat} {q : Hdr} {xs : List Int} {v : Int} {K : Hdr → World → Prop}, OwnI w b q xs → b ≤ w.heap.size → xs.length ≤ 1000 → (∀ q' w', OwnI w' b q' (xs ++ [v]) → w.grownBy w' (blk q.1) → K q' w') →
      wr Try.prog (Instr.buildSlice 22 1 #[(0, .int .i64 v)]) (.one .slice) w fun (x : Hdr) w1 => wr Try.prog (Builtin.append_ #[22, 22] 22 #[.slice q.1 q.2.1 q.2.2, .slice x.1 x.2.1 x.2.2]) (.one .slice) w1 K := fun {w b q xs v K} O hb hl hK => by
    have lq := O.sl.int
    refine wr_app1 tyI O hb rfl (by omega) (by omega) rfl rfl (by omega) (by unfold maxLen; omega) fun a' c' w' O' hg _ _ => ?_
    refine hK (a', q.2.1 + 1, c') w' ?_ hg
    show Own w' _ _ 1 a' (q.2.1 + 1) c' (ints .i64 (xs ++ [v]))
    have : ints .i64 (xs ++ [v]) = ints .i64 xs ++ [.int .i64 v] := by simp [ints]
    rw [this]; exact O'
  refine loop_upA n (fun i q w' => (∃ xs : List Int, OwnI w' w.heap.size q xs ∧ xs.length ≤ i) ∧ (∃ p', Tape w' tb l L p') ∧ w.grownBy w' (some tb.block)) ⟨⟨[], Own.nil _ _ _ _, Nat.le_refl _⟩, ⟨p, ht⟩, grown_refl _ _⟩ fun i q w3 hi ⟨⟨xs, O, hxl⟩, ⟨p', ht⟩, hg⟩ again hag _ => ?_
  refine br_dec (fun e => ?_) (fun e => ?_)
  · dsimp only at e
    have hin : i < n := by omega
    refine join_mk (fun s w' => (∃ xs : List Int, OwnI w' w.heap.size s.1 xs ∧ xs.length ≤ i + 1) ∧ (∃ p', Tape w' tb l L p') ∧ w.grownBy w' (some tb.block)) (fun K hK => ?_) (fun s w6 hJ _ => ?_)
    · refine call_mono (nF 2 ht (by omega)) ?_
      rintro (x8 : Int) w9 ⟨_, ⟨p2, ht2⟩, g9⟩
      have O9 : OwnI w9 w.heap.size q xs := Own.xg O g9 htb
      have hg9 := hg.trans g9
      refine br_eq (fun _ => ?_) (fun _ => hK _ _ ⟨⟨xs, O9, by omega⟩, ⟨p2, ht2⟩, hg9⟩)
      refine app O9 hg9.size (by omega) fun q' w' O' g' => ?_
      have hq : ∀ c, blk q.1 = some c → w.heap.size ≤ c := fun c hc => (O9.lt c hc).1
      exact hK _ _ ⟨⟨_, O', by simp; omega⟩, ⟨p2, ht2.put g' (fun c hc => by have := hq c hc; omega)⟩, xg_put hg9 g' (fun c hc => .inl (hq c hc))⟩
    · obtain ⟨sq, _⟩ := s
      refine z_i64 (by dsimp only; omega) ?_
      exact hag _ _ hin hJ
  · refine call_mono (nF 6 ht (by omega)) ?_
    rintro (x14 : Int) w15 ⟨_, ⟨p2, ht2⟩, g15⟩
    have O15 : OwnI w15 w.heap.size q xs := Own.xg O g15 htb
    have hg15 := hg.trans g15
    refine br_eq (fun _ => ?_) (fun _ => ⟨q, rfl, ⟨xs, O15⟩, ⟨p2, ht2⟩, hg15⟩)
    refine call_mono (rangeF (-1) (n : Int) ht2 (by omega)) ?_
    rintro (x16 : Int) w17 ⟨_, ⟨p3, ht3⟩, g17⟩
    have O17 : OwnI w17 w.heap.size q xs := Own.xg O15 g17 htb
    have hg17 := hg15.trans g17
    refine app O17 hg17.size (by omega) fun q' w' O' g' => ?_
    have hq : ∀ c, blk q.1 = some c → w.heap.size ≤ c := fun c hc => (O17.lt c hc).1
    exact ⟨q', rfl, ⟨_, O'⟩, ⟨p3, ht3.put g' (fun c hc => by have := hq c hc; omega)⟩, xg_put hg17 g' (fun c hc => .inl (hq c hc))⟩
theorem pickF {w : World} {tb : Addr} {l : Hdr} {L : List Int} {p : Nat} {q : Hdr} {xs : List Int} (ht : Tape w tb l L p) (S : SlX tb w q xs) (h0 : 0 < xs.length) :
    call Try.prog 21 [.pointer (some tb), .slice q.1 q.2.1 q.2.2] (.one (.one (.int .i64))) w (fun (x : Int) w' => x ∈ xs ∧ (∃ p', Tape w' tb l L p') ∧ w.grownBy w' (some tb.block)) := by
  refine call_of (S21_calls (some tb) q.1 q.2.1 q.2.2 w _ ?_)
  unfold S21
  have S0 := S w (grown_refl _ _)
  have hl := S0.int
  have hle := S0.le
  refine call_mono (nF ((q.2.1 : Nat) : Int) ht (by omega)) ?_
  rintro (x1 : Int) w2 ⟨hx1, ht2, g2⟩
  refine at_int tyI (by kernel_rfl) (S w2 g2) (j := x1.toNat) (by omega) (by omega) fun x hx => ?_
  exact ⟨x, rfl, List.mem_of_getElem? hx, ht2, g2⟩
theorem pairR {M : List (List Bool)} {f : List Nat} {w0 w1 w w' : World} {x y : HI} (h : ListR M f w0 x w) (h' : ListR M f w1 y w') : x.2.1 = y.2.1 ∧ ∃ zs, SlN w x.1 zs ∧ SlN w' y.1 zs := by
  rcases h with ⟨_, a, b⟩ | ⟨v, a, b⟩ <;> rcases h' with ⟨_, a', b'⟩ | ⟨v', a', b'⟩
  · exact ⟨a.trans a'.symm, f, b.sl, b'.sl⟩
  · exact absurd ‹ValidM M› v'
  · exact absurd ‹ValidM M› v
  · exact ⟨a.trans a'.symm, [], by rw [b]; exact Sl.nil _ _, by rw [b']; exact Sl.nil _ _⟩
theorem pairS {M : List (List Bool)} {xs : List Int} {w0 w1 w w' : World} {x y : HI} (h : SurvR M xs w0 x w) (h' : SurvR M xs w1 y w') : x.2.1 = y.2.1 ∧ ∃ zs, SlN w x.1 zs ∧ SlN w' y.1 zs := by
  rcases h with ⟨a, v, ys, y1, y2, b⟩ | ⟨a, b, v⟩ <;> rcases h' with ⟨a', v', ys', y1', y2', b'⟩ | ⟨a', b', v'⟩
  · have : ys = ys' := map_inj (y1.symm.trans y1')
    subst this
    exact ⟨a.trans a'.symm, _, b.sl, b'.sl⟩
  · exact absurd ⟨v, ys, y1, y2⟩ v'
  · exact absurd ⟨v', ys', y1', y2'⟩ v
  · exact ⟨a.trans a'.symm, [], by rw [b]; exact Sl.nil _ _, by rw [b']; exact Sl.nil _ _⟩
theorem bool_same {a b : Bool} {P : Prop} (h : a = true ↔ P) (h' : b = true ↔ P) : a = b := by
  cases a <;> cases b <;> first | rfl | exact absurd (h'.2 (h.1 rfl)) (by simp) | exact absurd (h.2 (h'.1 rfl)) (by simp)
theorem tyTT : TyS Try.prog 41 25 (.slice none 0 0) 1 24 := ⟨by kernel_rfl, by kernel_rfl⟩
theorem tyII : TyS Try.prog 43 22 (.slice none 0 0) 1 24 := ⟨by kernel_rfl, by kernel_rfl⟩
theorem fill4h (a b c d : Hdr) : Instr.fill (fun i => some (i * 1, 1)) ((Array.range (4 * 1)).map ((Value.slice none 0 0).cells[· % (Value.slice none 0 0).cells.size]!)) (#[(0, .slice a.1 a.2.1 a.2.2), (1, .slice b.1 b.2.1 b.2.2), (2, .slice c.1 c.2.1 c.2.2), (3, .slice d.1 d.2.1 d.2.2)] : Array (Nat × Value)).toList = some #[.slice a.1 a.2.1 a.2.2, .slice b.1 b.2.1 b.2.2, .slice c.1 c.2.1 c.2.2, .slice d.1 d.2.1 d.2.2] := by kernel_rfl
theorem fill2c : Instr.fill (fun i => some (i * 1, 1)) ((Array.range (2 * 1)).map ((Value.int .i64 0).cells[· % (Value.int .i64 0).cells.size]!)) (#[(0, .int .i64 15), (1, .int .i64 2)] : Array (Nat × Value)).toList = some #[.int .i64 15, .int .i64 2] := by kernel_rfl
/-- one matrix is looked at -/
theorem oneM {x38 y : Hdr} {M : List (List Bool)} {Y : List Int} {tb : Addr} {l : Hdr} {L : List Int} {w36 : World} {R : Value → World → Prop} {next : World → Prop} (HT : TabX tb w36 x38 M) (HY : SlX tb w36 y Y) (ht : ∃ p, Tape w36 tb l L p) (hlen : M.length ≤ 20)
    (hnext : ∀ w', w36.grownBy w' (some tb.block) → (∃ p, Tape w' tb l L p) → next w') :
    call Try.prog 10 [.slice x38.1 x38.2.1 x38.2.2] (.many [(.one .slice), (.one (.int .i64))]) w36 fun (x39 : HI) (w40 : World) =>
    call Try.prog 22 [.slice x38.1 x38.2.1 x38.2.2] (.many [(.one .slice), (.one (.int .i64))]) w40 fun (x41 : HI) (w42 : World) =>
    call Try.prog 11 [.slice x38.1 x38.2.1 x38.2.2] (.many [(.one .slice), (.one (.int .i64))]) w42 fun (x43 : HI) (w44 : World) =>
    call Try.prog 23 [.slice x38.1 x38.2.1 x38.2.2] (.many [(.one .slice), (.one (.int .i64))]) w44 fun (x45 : HI) (w46 : World) =>
    call Try.prog 12 [.slice x38.1 x38.2.1 x38.2.2] (.many [(.one .slice), (.one (.int .i64))]) w46 fun (x47 : HI) (w48 : World) =>
    call Try.prog 24 [.slice x38.1 x38.2.1 x38.2.2] (.many [(.one .slice), (.one (.int .i64))]) w48 fun (x49 : HI) (w50 : World) =>
    call Try.prog 13 [.slice x38.1 x38.2.1 x38.2.2] (.many [(.one .slice), (.one (.int .i64))]) w50 fun (x51 : HI) (w52 : World) =>
    call Try.prog 25 [.slice x38.1 x38.2.1 x38.2.2] (.many [(.one .slice), (.one (.int .i64))]) w52 fun (x53 : HI) (w54 : World) =>
    join (T := (Bool × Unit)) (fun (s56 : (Bool × Unit)) w57 => ∀ _ : Nat → Value,
      br s56.1 (R (.bool false) w57)
      (call Try.prog 28 [(.pointer (some tb)), (.int .i64 ((x38.2.1 : Nat) : Int))] (.one (.one .slice)) w57 fun (x58 : Hdr) (w59 : World) =>
      wr Try.prog (Instr.buildSlice 43 3 #[(0, .slice y.1 y.2.1 y.2.2), (1, .slice x58.1 x58.2.1 x58.2.2), (2, .slice x41.1.1 x41.1.2.1 x41.1.2.2)]) (.one .slice) w59 fun (x60 : Hdr) (w61 : World) =>
      loop (T := (Int × Unit)) (0, ()) w61 fun (again62 : (Int × Unit) → World → Prop) (s63 : (Int × Unit)) w64 => ∀ _ : Nat → Value,
      br (decide (s63.1 < ((x60.2.1 : Nat) : Int))) (rdp Try.prog (Instr.indexAt 43 (.slice x60.1 x60.2.1 x60.2.2) (.int .i64 s63.1)) (.one .addr) fun (x65 : Addr) =>
      rd Try.prog (Instr.loadAt 22 (.pointer (some x65))) (.one .slice) w64 fun (x66 : Hdr) =>
      call Try.prog 29 [.slice x38.1 x38.2.1 x38.2.2, .slice x66.1 x66.2.1 x66.2.2] (.many [(.one .slice), (.one (.int .i64))]) w64 fun (x67 : HI) (w68 : World) =>
      call Try.prog 30 [.slice x38.1 x38.2.1 x38.2.2, .slice x66.1 x66.2.1 x66.2.2] (.many [(.one .slice), (.one (.int .i64))]) w68 fun (x69 : HI) (w70 : World) =>
      br (x67.2.1 != x69.2.1) (R (.bool false) w70)
      (call Try.prog 19 [.slice x67.1.1 x67.1.2.1 x67.1.2.2, .slice x69.1.1 x69.1.2.1 x69.1.2.2] (.one (.one .bool)) w70 fun (x71 : Bool) (w72 : World) =>
      br (!x71) (R (.bool false) w72)
      (call Try.prog 14 [.slice x38.1 x38.2.1 x38.2.2, .slice x66.1 x66.2.1 x66.2.2] (.one (.one .bool)) w72 fun (x73 : Bool) (w74 : World) =>
      call Try.prog 31 [.slice x38.1 x38.2.1 x38.2.2, .slice x66.1 x66.2.1 x66.2.2] (.one (.one .bool)) w74 fun (x75 : Bool) (w76 : World) =>
      br (!(x73 == x75)) (R (.bool false) w76)
      (z (IntKind.wrap .i64 (s63.1 + 1)) fun (z77 : Int) =>
      again62 (z77, ()) w76))))
      (next w64)))
    fun (K55 : (Bool × Unit) → World → Prop) =>
      br (x39.2.1 != x41.2.1) (K55 (true, ()) w54)
      (br (x43.2.1 != x45.2.1) (K55 (true, ()) w54)
      (br (x47.2.1 != x49.2.1) (K55 (true, ()) w54)
      (br (x51.2.1 != x53.2.1) (K55 (true, ()) w54)
      (call Try.prog 19 [.slice x39.1.1 x39.1.2.1 x39.1.2.2, .slice x41.1.1 x41.1.2.1 x41.1.2.2] (.one (.one .bool)) w54 fun (x79 : Bool) (w80 : World) =>
      br (!x79) (K55 (true, ()) w80)
      (call Try.prog 19 [.slice x43.1.1 x43.1.2.1 x43.1.2.2, .slice x45.1.1 x45.1.2.1 x45.1.2.2] (.one (.one .bool)) w80 fun (x81 : Bool) (w82 : World) =>
      br (!x81) (K55 (true, ()) w82)
      (call Try.prog 19 [.slice x47.1.1 x47.1.2.1 x47.1.2.2, .slice x49.1.1 x49.1.2.1 x49.1.2.2] (.one (.one .bool)) w82 fun (x83 : Bool) (w84 : World) =>
      br (!x83) (K55 (true, ()) w84)
      (call Try.prog 19 [.slice x51.1.1 x51.1.2.1 x51.1.2.2, .slice x53.1.1 x53.1.2.1 x53.1.2.2] (.one (.one .bool)) w84 fun (x85 : Bool) (w86 : World) =>
      br (!x85) (K55 (true, ()) w86)
      (call Try.prog 26 [.slice x38.1 x38.2.1 x38.2.2] (.one (.one .bool)) w86 fun (x87 : Bool) (w88 : World) =>
      call Try.prog 27 [.slice x38.1 x38.2.1 x38.2.2] (.one (.one .bool)) w88 fun (x89 : Bool) (w90 : World) =>
      K55 ((!(x87 == x89)), ()) w90)))))))) := by
  obtain ⟨p0, ht⟩ := ht
  have T0 := HT.now
  have hl := T0.len
  refine call_mono (LeastF x38 M w36 T0) ?_
  rintro (x39 : HI) w40 ⟨R39, h40⟩
  refine call_mono (LeastR x38 M w40 (T0.up h40)) ?_
  rintro (x41 : HI) w42 ⟨R41, h42⟩
  obtain ⟨c1, z1, a1, b1⟩ := pairR R39 R41
  have k42 := h40.trans h42
  refine call_mono (GreedyF x38 M w42 (T0.up k42)) ?_
  rintro (x43 : HI) w44 ⟨R43, h44⟩
  have k44 := k42.trans h44
  refine call_mono (GreedyR x38 M w44 (T0.up k44)) ?_
  rintro (x45 : HI) w46 ⟨R45, h46⟩
  obtain ⟨c2, z2, a2, b2⟩ := pairR R43 R45
  have k46 := k44.trans h46
  refine call_mono (ApartF x38 M w46 (T0.up k46)) ?_
  rintro (x47 : HI) w48 ⟨R47, h48⟩
  have k48 := k46.trans h48
  refine call_mono (ApartR x38 M w48 (T0.up k48)) ?_
  rintro (x49 : HI) w50 ⟨R49, h50⟩
  obtain ⟨c3, z3, a3, b3⟩ := pairR R47 R49
  have k50 := k48.trans h50
  refine call_mono (NeededF x38 M w50 (T0.up k50)) ?_
  rintro (x51 : HI) w52 ⟨R51, h52⟩
  have k52 := k50.trans h52
  refine call_mono (NeededR x38 M w52 (T0.up k52)) ?_
  rintro (x53 : HI) w54 ⟨R53, h54⟩
  obtain ⟨c4, z4, a4, b4⟩ := pairR R51 R53
  have k54 := k52.trans h54
  -- what is found least, whatever the tape does
  have X41 : SlX tb w42 x41.1 (z1.map fun k : Nat => (k : Int)) := fun w' hg => by
    have e : ∀ {w : World}, SlN w x41.1 z1 → SlI w x41.1 (z1.map fun k : Nat => (k : Int)) := slI_of
    rcases R41 with ⟨_, _, O⟩ | ⟨_, _, q⟩
    · have O' := Own.sl (Own.xg O hg (by have := ht.box.lt; have := h40.size; omega))
      have : z1 = least (covC (masks M)) M.length := by
        have q := b1
        have q2 := O.sl
        have : nats .i64 z1 = nats .i64 (least (covC (masks M)) M.length) := by
          refine List.ext_getElem? fun j => ?_
          have n1 := q.nat
          have n2 := q2.nat
          cases hj : (nats .i64 z1)[j]? with
          | some u =>
            obtain ⟨ad, r1, r2, _⟩ := q.at' j u hj
            have hlt := (List.getElem?_eq_some_iff.1 hj).1
            rw [nats_len] at hlt
            have hj2 : j < (nats .i64 (least (covC (masks M)) M.length)).length := by rw [nats_len]; omega
            obtain ⟨ad', r1', r2', _⟩ := q2.at' j _ (List.getElem?_eq_getElem hj2)
            rw [r1] at r1'; cases r1'
            rw [r2] at r2'
            rw [List.getElem?_eq_getElem hj2]; exact r2'
          | none =>
            rw [List.getElem?_eq_none_iff, nats_len] at hj
            rw [List.getElem?_eq_none (by rw [nats_len]; omega)]
        have h2 : z1.map (fun k : Nat => (k : Int)) = (least (covC (masks M)) M.length).map fun k : Nat => (k : Int) := by
          rw [nats_ints, nats_ints] at this
          have hinj : ∀ {a b : List Int}, ints .i64 a = ints .i64 b → a = b := fun {a b} h => (List.map_inj_right fun x y h => by injection h).1 h
          exact hinj this
        exact map_inj h2
      rw [this]
      exact slI_of O'
    · have : z1 = [] := by
        have q2 := b1
        rw [q] at q2
        exact List.eq_nil_of_length_eq_zero q2.nat
      rw [this, q]
      exact Sl.nil _ _
  refine join_mk (fun s w' => s.1 = false ∧ bel w54 w') (fun K hK => ?_) (fun s w57 hJ _ => ?_)
  · refine br_ne (fun q => absurd c1 q) (fun _ => ?_)
    refine br_ne (fun q => absurd c2 q) (fun _ => ?_)
    refine br_ne (fun q => absurd c3 q) (fun _ => ?_)
    refine br_ne (fun q => absurd c4 q) (fun _ => ?_)
    refine call_mono (intsF x39.1 x41.1 z1 z1 w54 (a1.up (((((((h42.trans h44).trans h46).trans h48).trans h50).trans h52).trans h54))) (b1.up ((((((h44.trans h46).trans h48).trans h50).trans h52).trans h54)))) ?_
    rintro (x79 : Bool) w80 ⟨hx, h80⟩
    refine br_not (fun q => by rw [hx.2 rfl] at q; cases q) (fun _ => ?_)
    refine call_mono (intsF x43.1 x45.1 z2 z2 w80 (a2.up (((((h46.trans h48).trans h50).trans h52).trans h54).trans h80)) (b2.up ((((h48.trans h50).trans h52).trans h54).trans h80))) ?_
    rintro (x81 : Bool) w82 ⟨hx, h82⟩
    refine br_not (fun q => by rw [hx.2 rfl] at q; cases q) (fun _ => ?_)
    refine call_mono (intsF x47.1 x49.1 z3 z3 w82 (a3.up ((((h50.trans h52).trans h54).trans h80).trans h82)) (b3.up (((h52.trans h54).trans h80).trans h82))) ?_
    rintro (x83 : Bool) w84 ⟨hx, h84⟩
    refine br_not (fun q => by rw [hx.2 rfl] at q; cases q) (fun _ => ?_)
    refine call_mono (intsF x51.1 x53.1 z4 z4 w84 (a4.up (((h54.trans h80).trans h82).trans h84)) (b4.up ((h80.trans h82).trans h84))) ?_
    rintro (x85 : Bool) w86 ⟨hx, h86⟩
    refine br_not (fun q => by rw [hx.2 rfl] at q; cases q) (fun _ => ?_)
    have k86 := ((h80.trans h82).trans h84).trans h86
    refine call_mono (validF x38 M w86 (T0.up (k54.trans k86))) ?_
    rintro (x87 : Bool) w88 ⟨hv1, h88⟩
    refine call_mono (validR x38 M w88 (T0.up ((k54.trans k86).trans h88))) ?_
    rintro (x89 : Bool) w90 ⟨hv2, h90⟩
    have := bool_same hv1 hv2
    subst this
    exact hK _ _ ⟨by simp, (k86.trans h88).trans h90⟩
  · obtain ⟨hs, h57⟩ := hJ
    refine br_f hs ?_
    have k57 := k54.trans h57
    have g57 : w36.grownBy w57 (some tb.block) := grown_of_bel k57 _
    rw [← hl]
    refine call_mono (chosenF M.length (ht.up k57) hlen) ?_
    rintro (x58 : Hdr) w59 ⟨⟨cs, Oc⟩, ⟨p', ht59⟩, g59⟩
    have g3659 := g57.trans g59
    have T59 := HT w59 g3659
    have Y59 := HY w59 g3659
    have S41 := X41 w59 ((grown_of_bel (((((((h44.trans h46).trans h48).trans h50).trans h52).trans h54).trans h57)) _).trans g59)
    refine wr_lit tyII _ (fill3h y x58 x41.1) (by omega) (by omega) rfl (by unfold maxLen; omega) fun a60 w61 O60 h61 _ _ => ?_
    have S60 := (O60 w59.heap.size (Nat.le_refl _)).sl
    have T61 := T59.up h61
    refine loop_up 3 (fun i w' => bel w61 w') (bel.refl _) fun i w64 hi hb again hag _ => ?_
    refine br_dec (fun e => ?_) (fun e => ?_)
    · dsimp only at e
      have step : ∀ (x66 : Hdr) (xs : List Int), SlI w64 x66 xs → 
          call Try.prog 29 [.slice x38.1 M.length x38.2.2, .slice x66.1 x66.2.1 x66.2.2] (.many [(.one .slice), (.one (.int .i64))]) w64 fun (x67 : HI) (w68 : World) =>
          call Try.prog 30 [.slice x38.1 M.length x38.2.2, .slice x66.1 x66.2.1 x66.2.2] (.many [(.one .slice), (.one (.int .i64))]) w68 fun (x69 : HI) (w70 : World) =>
          br (x67.2.1 != x69.2.1) (R (.bool false) w70)
          (call Try.prog 19 [.slice x67.1.1 x67.1.2.1 x67.1.2.2, .slice x69.1.1 x69.1.2.1 x69.1.2.2] (.one (.one .bool)) w70 fun (x71 : Bool) (w72 : World) =>
          br (!x71) (R (.bool false) w72)
          (call Try.prog 14 [.slice x38.1 M.length x38.2.2, .slice x66.1 x66.2.1 x66.2.2] (.one (.one .bool)) w72 fun (x73 : Bool) (w74 : World) =>
          call Try.prog 31 [.slice x38.1 M.length x38.2.2, .slice x66.1 x66.2.1 x66.2.2] (.one (.one .bool)) w74 fun (x75 : Bool) (w76 : World) =>
          br (!(x73 == x75)) (R (.bool false) w76)
          (z (IntKind.wrap .i64 ((i : Int) + 1)) fun (z77 : Int) =>
          again (z77, ()) w76))) := by
        intro x66 xs S66
        rw [hl]
        have T64 := T61.up hb
        refine call_mono (SurvF x38 x66 M xs w64 T64 S66) ?_
        rintro (x67 : HI) w68 ⟨R67, h68⟩
        refine call_mono (SurvRf x38 x66 M xs w68 (T64.up h68) (S66.up h68)) ?_
        rintro (x69 : HI) w70 ⟨R69, h70⟩
        obtain ⟨d1, zz, e1, e2⟩ := pairS R67 R69
        refine br_ne (fun q => absurd d1 q) (fun _ => ?_)
        refine call_mono (intsF x67.1 x69.1 zz zz w70 (e1.up h70) e2) ?_
        rintro (x71 : Bool) w72 ⟨hx, h72⟩
        refine br_not (fun q => by rw [hx.2 rfl] at q; cases q) (fun _ => ?_)
        have k72 := (h68.trans h70).trans h72
        refine call_mono (CoversF x38 x66 M xs w72 (T64.up k72) (S66.up k72)) ?_
        rintro (x73 : Bool) w74 ⟨hv1, h74⟩
        refine call_mono (CoversR x38 x66 M xs w74 (T64.up (k72.trans h74)) (S66.up (k72.trans h74))) ?_
        rintro (x75 : Bool) w76 ⟨hv2, h76⟩
        have := bool_same hv1 hv2
        subst this
        refine br_not (fun q => by simp at q) (fun _ => ?_)
        refine z_i64 (by omega) ?_
        exact hag _ (by omega) (((hb.trans k72).trans h74).trans h76)
      refine at_hdr tyII (by kernel_rfl) (hs := [y, x58, x41.1]) (S60.up hb) (j := i) rfl (by omega) fun x66 hx66 => ?_
      have h6164 := h61.trans hb
      match i, hx66 with
      | 0, hx66 => cases hx66; exact step _ _ (Y59.up h6164)
      | 1, hx66 => cases hx66; exact step _ _ (Oc.sl.up h6164)
      | 2, hx66 => cases hx66; exact step _ _ (S41.up h6164)
      | i + 3, hx66 => simp at hx66
    · have hb59 := h61.trans hb
      exact hnext w64 (g3659.trans (grown_of_bel hb59 _)) ⟨p', ht59.up hb59⟩
theorem OT.copy {w : World} {b0 b1 : Nat} {x : Hdr} {hs : List Hdr} {M : List (List Bool)} (H : OT w b0 x hs M) {a : Addr} (O : Own w b1 35 1 (some a) 0 0 []) (hb : b0 ≤ b1) (hw : b1 ≤ w.heap.size) (hl : M.length ≤ 1000) {K : Hdr → World → Prop}
    (hK : ∀ q w', OT w' b0 q hs M → w.grownBy w' (some a.block) → (∀ c, blk q.1 = some c → b1 ≤ c) → K q w') :
    wr Try.prog (Builtin.append_ #[25, 25] 25 #[.slice (some a) 0 0, .slice x.1 x.2.1 x.2.2]) (.one .slice) w K := by
  have hxl := H.hl
  obtain ⟨xa, xn, xc⟩ := x
  have S := H.th.sl
  cases xa with
  | none =>
    obtain ⟨z1, z2⟩ := S.nil' rfl
    dsimp only at z1 z2
    subst z1 z2
    refine wr_app0 tyM (Nat.le_refl 0) ?_
    have hM : M = [] := List.eq_nil_of_length_eq_zero hxl
    subst hM
    have hhs : hs = [] := List.eq_nil_of_length_eq_zero H.len
    subst hhs
    exact hK (some a, 0, 0) w ⟨own_base O hb, rfl, fun i x r h => by simp at h⟩ (grown_refl _ _) (fun c hc => (O.lt c hc).1)
  | some ad =>
    have hxl : M.length = xn := hxl
    have hpl : plainV (hs.map hv) = true := by
      unfold plainV
      rw [List.all_eq_true]
      intro v hv'
      obtain ⟨y, _, rfl⟩ := List.mem_map.1 hv'
      rfl
    refine wr_app tyM O S hw rfl (by omega) hpl (by omega) (by unfold maxLen; omega) fun a' c' w' O' hg _ _ => ?_
    refine hK (a', 0 + xn, c') w' ⟨own_base (by simpa using O') hb, H.len, fun i y r hy hr => own_keep (H.rows i y r hy hr) hg fun k hk e => Own.apart O (H.rows i y r hy hr) (by decide) k e hk⟩ hg (fun c hc => (O'.lt c hc).1)
set_option maxHeartbeats 3200000 in
theorem suAnswers (l m y : Hdr) (L : List Int) (RAW : List (List Bool)) (Y : List Int) (w : World) (HL : SlI w l L) (hI : ∀ x ∈ L, I64 x) (HM : TabB w m RAW) (HY : SlI w y Y) :
    Calls Try.prog 6 #[.slice l.1 l.2.1 l.2.2, .slice m.1 m.2.1 m.2.2, .slice y.1 y.2.1 y.2.2] w (fun e w' => e = .returned (.bool true) ∧ Below w.heap.size w w') := by
  refine Calls.mono (S6_calls l.1 l.2.1 l.2.2 m.1 m.2.1 m.2.2 y.1 y.2.1 y.2.2 w (fun v w' => v = .bool true ∧ bel w w') ?_) (by rintro e w' ⟨v, rfl, rfl, hb⟩; exact ⟨rfl, hb⟩)
  unfold S6
  have awk : ∀ {w' : World}, bel w w' → call Try.prog 16 [] (.one (.one .bool)) w' fun (x : Bool) w'' => Value.bool x = .bool true ∧ bel w w'' := fun hb => call_mono (awakeF _) fun x w'' hx => ⟨by rw [hx.1], hb.trans hx.2⟩
  refine call_mono (smallF m RAW w HM) ?_
  rintro (x1 : Bool) w2 ⟨hsm, h2⟩
  refine br_not (fun _ => awk h2) (fun e1 => ?_)
  have hR20 := hsm e1
  refine br_dec (fun _ => awk h2) (fun _ => ?_)
  refine call_mono (newF l L w2 (HL.up h2) hI) ?_
  rintro _ w8 ⟨tb, l', L', rfl, etb, ht, h8⟩
  have htb8 := ht.box.lt
  have h08 := h2.trans h8
  have s2 := h2.size
  have XR : TabX tb w8 m RAW := fun w' hg => HM.up (h08.grownAt hg (by omega))
  have XY : SlX tb w8 y Y := fun w' hg => HY.up (h08.grownAt hg (by omega))
  refine call_mono (matrixF 6 14 ht (by omega) (by omega)) ?_
  rintro (x9 : Hdr) w10 ⟨M, hs, n, HO, hM1, hM2, hM3, ⟨p10, ht⟩, g10⟩
  have s10 := g10.size
  have hMl := HO.hl
  refine wr_lit0 tyM fun a11 w12 O11 h12 _ _ => ?_
  replace O11 := O11 w10.heap.size (Nat.le_refl _)
  have HO12 := HO.up h12
  have s12 := h12.size
  have hMn : M.length ≤ 6 := hM1
  refine HO12.copy O11 (by omega) (by omega) (by omega) fun x13 w14 HO13 g14 hb13 => ?_
  have h1214 : bel w10 w14 := h12.grownAt g14 (O11.lt _ rfl).1
  have HO14 := HO12.keptBy g14 (fun c hc e => by
    have := (O11.lt a11.block rfl).1
    have := (HO.th.lt c hc).2
    injection e with e
    omega) (fun i x c hx hc e => by
    obtain ⟨r, _, Q⟩ := HO.row hx
    have := (O11.lt a11.block rfl).1
    have := (Q.lt c hc).2
    injection e with e
    omega)
  replace ht := ht.up h1214
  refine call_mono (nF 4 ht (by omega)) ?_
  rintro (x15 : Int) w16 ⟨hx15, ⟨p16, ht⟩, g16⟩
  obtain ⟨k, rfl⟩ : ∃ k : Nat, x15 = (k : Int) := ⟨x15.toNat, by omega⟩
  have HO16 := HO14.xg g16 htb8
  have HD16 := HO13.xg g16 htb8
  have s14 := h1214.size
  have s16 := g16.size
  refine wr_make tyB k rfl rfl (by omega) (by unfold maxLen; omega) fun c17 w18 O17 h18 e17 _ => ?_
  replace O17 := O17 w16.heap.size (Nat.le_refl _)
  rw [made_bool] at O17
  have s18 := h18.size
  refine OT.push (HD16.up h18) (x := (some c17, k, k)) (own_base O17 (by omega)) (by omega) (by omega) fun x21 w22 HD22 g22 _ => ?_
  have HO22 := (HO16.up h18).keptBy g22 (fun c hc e => by
    have := hb13 c e
    have := (HO.th.lt c hc).2
    omega) (fun i x c hx hc e => by
    obtain ⟨r, _, Q⟩ := (HO16.up h18).row hx
    exact Own.apart (HD16.up h18).th Q (by decide) c e hc)
  have gb22 : ∀ c, blk x13.1 = some c → w10.heap.size ≤ c := hb13
  replace ht := (ht.up h18).put g22 (fun c hc => by have := gb22 c hc; omega)
  have b1022 : w10.grownBy w22 (some tb.block) := xg_put (((grown_of_bel h1214 _).trans g16).trans (grown_of_bel h18 _)) g22 (fun c hc => .inl (gb22 c hc))
  have s22 := g22.size
  refine wr_lit tyI _ fill2c (by omega) (by omega) rfl (by unfold maxLen; omega) fun a23 w24 O23 h24 _ _ => ?_
  replace O23 := O23 w22.heap.size (Nat.le_refl _)
  have X23 : SlX tb w24 (some a23, 2, 2) [15, 2] := fun w' hg => (Own.xg O23 hg (by omega)).sl
  refine call_mono (pickF (q := (some a23, 2, 2)) (ht.up h24) X23 (by simp)) ?_
  rintro (x25 : Int) w26 ⟨hx25, ⟨p26, ht⟩, g26⟩
  have b1026 : w10.grownBy w26 (some tb.block) := (b1022.trans (grown_of_bel h24 _)).trans g26
  have HO26 := (HO22.up h24).xg g26 htb8
  have HD26 := (HD22.up h24).xg g26 htb8
  have s24 := h24.size
  have s26 := g26.size
  have hk25 : ∃ k : Nat, x25 = (k : Int) ∧ k ≤ 15 ∧ (k ≠ 2 → k = 15) := by
    simp at hx25
    rcases hx25 with q | q
    · exact ⟨15, q, by omega, fun _ => rfl⟩
    · exact ⟨2, q, by omega, fun z => absurd rfl z⟩
  obtain ⟨k2, rfl, hk2, hk15⟩ := hk25
  refine wr_make tyM k2 rfl rfl (by omega) (by unfold maxLen; omega) fun c27 w28 O27 h28 e27 _ => ?_
  replace O27 := O27 w26.heap.size (Nat.le_refl _)
  rw [zeros_h] at O27
  refine join_mk (fun _ w' => (∃ LONG, LONG.length ≤ 20 ∧ TabX tb w' (some c27, k2, k2) LONG) ∧ bel w26 w') (fun K hK => ?_) (fun _ w31 hJ _ => ?_)
  · refine br_eq (fun e2 => ?_) (fun e2 => hK () _ ⟨⟨List.replicate k2 [], by simp; omega, TabX.of_OT (b0 := w26.heap.size) (hs := List.replicate k2 (none, 0, 0)) ⟨O27, by simp, fun i x r hx hr => ?_⟩ (by omega)⟩, h28⟩)
    · have e2 : k2 = 2 := by dsimp only at e2; omega
      subst e2
      obtain ⟨F, hF⟩ : ∃ F : List Bool, F = List.replicate 401 false := ⟨_, rfl⟩
      refine drw_mk fun w93 h93 _ => ?_
      replace O27 : Own w93 w26.heap.size 35 1 (some c27) 2 2 _ := Own.kept O27 h93
      have l27 := O27.lt c27.block rfl
      have s93 := (h28.trans h93).size
      refine flExC_mk (Xg c27.block) (fun jj w w' => jj ≠ 5 → bel w w') (fun D w' => (D 5 = false → Own w' w26.heap.size 35 1 (some c27) 2 2 ([(none, 0, 0), (none, 0, 0)].map hv)) ∧ (D 5 = true → ∃ ad : Addr, ad.block ≠ c27.block ∧ Own w' w26.heap.size 35 1 (some c27) 2 2 ([(some ad, 401, 401), (none, 0, 0)].map hv) ∧ Own w' w26.heap.size 4 1 (some ad) 401 401 (Go.Q.bools F)))
        (fun i _ v w' => i = 2 ∨ i = 3 → ∃ ad : Addr, ad.block ≠ c27.block ∧ v = .slice (some ad) 401 401 ∧ Own w' w26.heap.size 4 1 (some ad) 401 401 (Go.Q.bools F))
        (fun w => grown_refl w _) (fun _ _ _ a b => grown_trans a b) (fun _ _ _ _ _ _ _ hΦ hE _ e => by
          obtain ⟨ad, q0, q1, q2⟩ := hΦ e
          exact ⟨ad, q0, q1, own_keep q2 hE (fun c hc e => by injection e with e; have := blk_eq hc; omega)⟩) ⟨fun _ => O27, fun q => by cases q⟩ ?_
      have mk401 : ∀ {j : Nat} {D : Nat → Bool} {w' : World}, j ≠ 5 → w93.grownBy w' (some c27.block) → ((D 5 = false → Own w' w26.heap.size 35 1 (some c27) 2 2 ([(none, 0, 0), (none, 0, 0)].map hv)) ∧ (D 5 = true → ∃ ad : Addr, ad.block ≠ c27.block ∧ Own w' w26.heap.size 35 1 (some c27) 2 2 ([(some ad, 401, 401), (none, 0, 0)].map hv) ∧ Own w' w26.heap.size 4 1 (some ad) 401 401 (Go.Q.bools F))) → 
          ∀ {K : Hdr → World → Prop}, (∀ (ad : Addr) w2, bel w' w2 → ad.block ≠ c27.block → Own w2 w26.heap.size 4 1 (some ad) 401 401 (Go.Q.bools F) → ((setD D j 5 = false → Own w2 w26.heap.size 35 1 (some c27) 2 2 ([(none, 0, 0), (none, 0, 0)].map hv)) ∧ (setD D j 5 = true → ∃ ad : Addr, ad.block ≠ c27.block ∧ Own w2 w26.heap.size 35 1 (some c27) 2 2 ([(some ad, 401, 401), (none, 0, 0)].map hv) ∧ Own w2 w26.heap.size 4 1 (some ad) 401 401 (Go.Q.bools F))) → K (some ad, 401, 401) w2) →
          wr Try.prog (Instr.makeSlice 35 (.int .i64 401) (.int .i64 401)) (.one .slice) w' K := fun {j D w'} hj hg hS {K} hk => by
        refine wr_make tyB 401 rfl rfl (by omega) (by unfold maxLen; omega) fun ad w2 O2 hb2 ead _ => ?_
        have hs2 := hg.size
        replace O2 := O2 w26.heap.size (by omega)
        rw [made_bool, ← hF] at O2
        refine hk ad w2 hb2 (by omega) O2 ⟨fun q => Own.kept (hS.1 (by rw [setD_ne (fun e => hj e.symm)] at q; exact q)) hb2, fun q => ?_⟩
        obtain ⟨a, q0, q1, q2⟩ := hS.2 (by rw [setD_ne (fun e => hj e.symm)] at q; exact q)
        exact ⟨a, q0, Own.kept q1 hb2, Own.kept q2 hb2⟩
      refine flcC_mk (fun D w' hD hE hS _ => mk401 (j := 2) (by omega) hE hS fun ad w2 hb2 hne O2 hS2 => ⟨grown_of_bel hb2 _, fun _ => hb2, hS2, fun _ => ⟨ad, hne, rfl, O2⟩⟩) (fun (x103 : Hdr) => ?_)
      refine flcC_mk (fun D w' hD hE hS _ => mk401 (j := 3) (by omega) hE hS fun ad w2 hb2 hne O2 hS2 => ⟨grown_of_bel hb2 _, fun _ => hb2, hS2, fun _ => ⟨ad, hne, rfl, O2⟩⟩) (fun (x109 : Hdr) => ?_)
      refine idxQ tyM (j := 0) rfl (by omega) rfl ?_
      refine flcC_mk (fun D w' hD hE hS hf => ?_) (fun _ => ?_)
      · obtain ⟨ad, q0, q1, q2⟩ := hf.1 (.inl rfl)
        have q1 : x103 = (some ad, 401, 401) := sl_inj q1
        subst q1
        refine wu_own (by kernel_rfl) (hS.1 hD) (show 0 < 2 by omega) rfl fun w2 O2 hg _ => ?_
        exact ⟨hg, fun q => absurd rfl q, ⟨(fun q => by rw [setD_self] at q; cases q), fun _ => ⟨ad, q0, O2, own_keep q2 hg (fun c hc e => by have := blk_eq hc; have := blk_eq e; omega)⟩⟩, fun e => by omega⟩
      refine flendC_mk fun w116 hE hS hf => ?_
      obtain ⟨ad, q0, q1, q2⟩ := hS.2 (by simp)
      obtain ⟨ad3, r0, r1, r2⟩ := hf.2.1 (.inr rfl)
      have r1 : x109 = (some ad3, 401, 401) := sl_inj r1
      subst r1
      refine set_mk tyM q1 (j := 1) rfl (show 1 < 2 by omega) rfl fun w119 O119 g119 _ => ?_
      have kp : ∀ {a : Addr}, a.block ≠ c27.block → Own w116 w26.heap.size 4 1 (some a) 401 401 (Go.Q.bools F) → Own w119 w26.heap.size 4 1 (some a) 401 401 (Go.Q.bools F) := fun hne O => own_keep O g119 (fun c hc e => by have := blk_eq hc; have := blk_eq e; omega)
      refine hK () _ ⟨⟨[F, F], show 2 ≤ 20 by omega, TabX.of_OT (b0 := w26.heap.size) (hs := [(some ad, 401, 401), (some ad3, 401, 401)]) ⟨O119, rfl, fun i x r hx hr => ?_⟩ (by omega)⟩, ((h28.trans h93).grownAt hE l27.1).grownAt g119 l27.1⟩
      match i, hx, hr with
      | 0, hx, hr => cases hx; cases hr; exact kp q0 q2
      | 1, hx, hr => cases hx; cases hr; exact kp r0 r2
      | i + 2, hx, hr => simp at hx
    · rw [List.getElem?_replicate] at hx hr
      split at hx
      · rename_i hi
        rw [if_pos hi] at hr
        cases hx; cases hr
        exact Own.nil _ _ _ _
      · cases hx
  · obtain ⟨⟨LONG, hLl, XL⟩, h2631⟩ := hJ
    have XM : TabX tb w31 x9 M := TabX.of_OT (HO26.up h2631) htb8
    have XD : TabX tb w31 x21 (M ++ [List.replicate k false]) := TabX.of_OT (HD26.up h2631) htb8
    have g831 : w8.grownBy w31 (some tb.block) := (g10.trans b1026).trans (grown_of_bel h2631 _)
    replace ht := ht.up h2631
    refine wr_lit tyTT _ (fill4h x9 m x21 (some c27, k2, k2)) (by omega) (by omega) rfl (by unfold maxLen; omega) fun a32 w33 O32 h33 _ _ => ?_
    replace O32 := O32 w31.heap.size (Nat.le_refl _)
    have s31 := h2631.size
    have b33 : bel w w33 := (h08.grownAt g831 (by omega)).trans h33
    refine loop_up 4 (fun i w' => w33.grownBy w' (some tb.block) ∧ ∃ p, Tape w' tb l' L' p) ⟨grown_refl _ _, _, ht.up h33⟩ fun i w36 hi ⟨hg, ht36⟩ again hag _ => ?_
    refine br_dec (fun e => ?_) (fun e => awk (b33.grownAt hg (by omega)))
    dsimp only at e
    have g3136 : w31.grownBy w36 (some tb.block) := (grown_of_bel h33 _).trans hg
    have one : ∀ (x38 : Hdr) (T : List (List Bool)), TabX tb w31 x38 T → T.length ≤ 20 → _ := fun x38 T HT hT => oneM (R := fun v w' => v = .bool true ∧ bel w w') (next := fun w' => z (IntKind.wrap .i64 ((i : Int) + 1)) fun z78 => again (z78, ()) w') (HT.next g3136) (fun w' h' => XY w' ((g831.trans g3136).trans h')) ht36 hT (fun w' hg' ht' => z_i64 (by omega) (hag _ (by omega) ⟨hg.trans hg', ht'⟩))
    refine at_hdr tyTT (by kernel_rfl) (hs := [x9, m, x21, (some c27, k2, k2)]) (Own.xg O32 hg (by omega)).sl (j := i) rfl (by omega) fun x38 hx38 => ?_
    match i, hx38, one with
    | 0, hx38, one => cases hx38; exact one _ M XM (by omega)
    | 1, hx38, one => cases hx38; exact one _ RAW (XR.next g831) hR20
    | 2, hx38, one => cases hx38; exact one _ _ XD (by simp; omega)
    | 3, hx38, one => cases hx38; exact one _ LONG XL hLl
    | i + 4, hx38, one => simp at hx38
end Go.Proofs.Ytaomejbaocehnaa
