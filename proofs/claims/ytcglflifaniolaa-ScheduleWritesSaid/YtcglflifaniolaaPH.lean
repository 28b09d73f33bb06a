/- Transactions: how great values, rows and events may be. -/
import Derived.Test.YtcglflifaniolaaPD
namespace Go.Proofs.Sc

structure SB (K : Nat) (p : Sp) : Prop where
  kind : p.kind ≤ 5
  key : p.kind ≤ 3 → p.key < K
  val : -1000000000 ≤ p.val ∧ p.val ≤ 1000000000
structure Bd (n K m : Nat) (s : St) : Prop where
  ev : s.ev.length ≤ m
  ver : ∀ k, (s.ver k).length ≤ m ∧ ∀ w ∈ s.ver k, -1000000000 ≤ w.v ∧ w.v ≤ 1000000000
  wants : ∀ i l, i < n → (s.tx i).wants = some l → l.k < K
  st : ∀ i, i < n → ∀ p ∈ (s.tx i).steps, SB K p
section
variable {lev n K m : Nat} {start : Nat → Int} {s : St}
theorem Bd.mono {m' : Nat} (B : Bd n K m s) (h : m ≤ m') : Bd n K m' s := ⟨Nat.le_trans B.ev h, fun k => ⟨Nat.le_trans (B.ver k).1 h, (B.ver k).2⟩, B.wants, B.st⟩
theorem Bd.sett (B : Bd n K m s) {t : Nat} {x : Tx} (h1 : x.steps = (s.tx t).steps) (h2 : ∀ l, x.wants = some l → l.k < K) : Bd n K m (setT s t x) := by
  refine ⟨B.ev, B.ver, fun i l hi hl => ?_, fun i hi p hp => ?_⟩
  · change (upd s.tx t x i).wants = some l at hl
    by_cases h : i = t
    · subst h; rw [upd_same] at hl; exact h2 l hl
    · rw [upd_ne _ _ h] at hl; exact B.wants i l hi hl
  · change p ∈ (upd s.tx t x i).steps at hp
    by_cases h : i = t
    · subst h; rw [upd_same, h1] at hp; exact B.st i hi p hp
    · rw [upd_ne _ _ h] at hp; exact B.st i hi p hp
theorem Bd.note (B : Bd n K m s) (e : Ev) : Bd n K (m + 1) (noteE s e) :=
  ⟨by show (s.ev ++ [e]).length ≤ _; rw [List.length_append, List.length_singleton]; have := B.ev; omega, fun k => ⟨Nat.le_succ_of_le (B.ver k).1, (B.ver k).2⟩, B.wants, B.st⟩
theorem Bd.vers (B : Bd n K m s) {ver : Nat → List Wr} (h : ∀ k, (ver k).length ≤ (s.ver k).length ∧ ∀ w ∈ ver k, ∃ x ∈ s.ver k, x.v = w.v) : Bd n K m { s with ver := ver } :=
  ⟨B.ev, fun k => ⟨Nat.le_trans (h k).1 (B.ver k).1, fun w hw => by obtain ⟨x, hx, e⟩ := (h k).2 w hw; rw [← e]; exact (B.ver k).2 x hx⟩, B.wants, B.st⟩
theorem commitR_len (c t : Nat) (L : List Wr) : (commitR c t L).length = L.length := by
  unfold commitR
  rw [List.length_append, List.length_append, List.length_take, List.length_drop]
  have h : (restR t L).length + (ownR c t L).length = L.length := by
    unfold restR ownR
    rw [List.length_map]
    induction L with
    | nil => rfl
    | cons x L ih =>
      by_cases h : x.t = t
      · rw [List.filter_cons_of_neg (by simpa using h), List.filter_cons_of_pos (by simpa using h)]; simp; omega
      · rw [List.filter_cons_of_pos (by simpa using h), List.filter_cons_of_neg (by simpa using h)]; simp; omega
  omega
theorem commitR_mem {c t : Nat} {L : List Wr} {w : Wr} (h : w ∈ commitR c t L) : ∃ x ∈ L, x.v = w.v := by
  unfold commitR at h
  rw [List.mem_append, List.mem_append] at h
  have r : ∀ w, w ∈ restR t L → ∃ x ∈ L, x.v = w.v := fun w h => ⟨w, (List.mem_filter.1 h).1, rfl⟩
  rcases h with (h | h) | h
  · exact r w (List.mem_of_mem_take h)
  · unfold ownR at h
    obtain ⟨x, hx, rfl⟩ := List.mem_map.1 h
    exact ⟨x, (List.mem_filter.1 hx).1, rfl⟩
  · exact r w (List.mem_of_mem_drop h)
theorem Bd.endt (B : Bd n K m s) {t : Nat} (ht : t < n) : Bd n K m (endT s t) := B.sett rfl fun l hl => B.wants t l ht hl
theorem Bd.abort (B : Bd n K m s) {t : Nat} (ht : t < n) : Bd n K (m + 1) (abortT s t) :=
  ((B.endt ht).vers (ver := fun k => (s.ver k).filter (fun w => w.t != t)) fun _ => ⟨List.length_filter_le _ _, fun w hw => ⟨w, (List.mem_filter.1 hw).1, rfl⟩⟩).note ⟨4, t, 0, 0, 0⟩
theorem Bd.commit (B : Bd n K m s) {t : Nat} (ht : t < n) : Bd n K (m + 1) (commitT s t) :=
  ((B.endt ht).vers (ver := fun k => commitR (s.ev.length + 1) t (s.ver k)) fun _ => ⟨Nat.le_of_eq (commitR_len _ _ _), fun _ hw => commitR_mem hw⟩).note ⟨3, t, 0, 0, 0⟩
theorem Bd.put (B : Bd n K m s) {t k : Nat} {v : Int} (hv : -1000000000 ≤ v ∧ v ≤ 1000000000) : Bd n K (m + 1) (putW s t k v) := by
  refine ⟨by show (s.ev ++ [_]).length ≤ _; rw [List.length_append, List.length_singleton]; have := B.ev; omega, fun j => ?_, B.wants, B.st⟩
  show (upd s.ver k _ j).length ≤ _ ∧ ∀ w ∈ upd s.ver k _ j, _
  by_cases h : j = k
  · subst h
    rw [upd_same]
    refine ⟨by rw [List.length_append, List.length_singleton]; have := (B.ver j).1; omega, fun w hw => ?_⟩
    rcases List.mem_append.1 hw with hw | hw
    · exact (B.ver j).2 w hw
    · simp at hw; subst hw; exact hv
  · rw [upd_ne _ _ h]
    exact ⟨Nat.le_succ_of_le (B.ver j).1, (B.ver j).2⟩
theorem pick_bd (t snap : Nat) : ∀ (l : List Wr) (b : Int × Int), (∀ w ∈ l, -1000000000 ≤ w.v ∧ w.v ≤ 1000000000) → (-1000000000 ≤ b.1 ∧ b.1 ≤ 1000000000) → (-1000000000 ≤ (l.foldl (pickR lev t snap) b).1 ∧ (l.foldl (pickR lev t snap) b).1 ≤ 1000000000)
  | [], _, _, hb => hb
  | x :: l, b, hl, hb => by
    refine pick_bd t snap l _ (fun w hw => hl w (by simp [hw])) ?_
    have := hl x (by simp)
    unfold pickR
    split
    · exact this
    · split
      · exact hb
      · split
        · exact this
        · exact hb
theorem Bd.read (B : Bd n K m s) (hs : ∀ k, -1000000000 ≤ start k ∧ start k ≤ 1000000000) (t k : Nat) : -1000000000 ≤ (readV lev start s t k).1 ∧ (readV lev start s t k).1 ≤ 1000000000 := pick_bd t _ _ _ (B.ver k).2 (hs k)
theorem clm_bd (x : Int) : -1000000000 ≤ clm x ∧ clm x ≤ 1000000000 := by unfold clm; omega
theorem step_mem {x : Tx} (h : x.at_ < x.steps.length) : stepOf x ∈ x.steps := by
  unfold stepOf
  rw [List.getD_eq_getElem?_getD, List.getElem?_eq_getElem h]
  exact List.getElem_mem h
theorem Bd.bump (B : Bd n K m s) {t : Nat} (ht : t < n) : Bd n K m (bump s t) := B.sett rfl fun l hl => B.wants t l ht hl
theorem Bd.act (B : Bd n K m s) (_hs : ∀ k, -1000000000 ≤ start k ∧ start k ≤ 1000000000) {t : Nat} (ht : t < n) {p : Sp} (hp : SB K p) : Bd n K (m + 2) (actT lev K start s t p) := by
  unfold actT
  split
  · exact (B.note _).mono (by omega)
  split
  · exact (B.put hp.val).mono (by omega)
  split
  · exact (B.note _).put (clm_bd _)
  split
  · exact (B.abort ht).mono (by omega)
  split
  · unfold doneT
    split
    · exact (B.abort ht).mono (by omega)
    · exact (B.commit ht).mono (by omega)
  · exact B.mono (by omega)
theorem Bd.go (B : Bd n K m s) (hs : ∀ k, -1000000000 ≤ start k ∧ start k ≤ 1000000000) {t : Nat} (ht : t < n) (hl : (s.tx t).at_ < (s.tx t).steps.length) : Bd n K (m + 2) (goT lev K start s t) :=
  (B.bump ht).act hs ht (B.st t ht _ (step_mem hl))
theorem need_key {p : Sp} (hp : SB K p) {l : Lk} (h : need lev p = some l) : l.k < K := by
  unfold need at h
  split at h
  · split at h
    · cases h; exact hp.key (by omega)
    · cases h
  · split at h
    · split at h
      · cases h
      · cases h; exact hp.key (by omega)
    · cases h
theorem Bd.want (B : Bd n K m s) {t : Nat} {l : Lk} (h : l.k < K) : Bd n K m (wantL s t l) := B.sett rfl fun l' hl => by cases hl; exact h
theorem Bd.take (B : Bd n K m s) {t : Nat} {l : Lk} : Bd n K m (takeL s t l) := B.sett rfl fun l' hl => by cases hl
theorem Bd.tryy (B : Bd n K m s) (hs : ∀ k, -1000000000 ≤ start k ∧ start k ≤ 1000000000) {t : Nat} (ht : t < n) (hl : (s.tx t).at_ < (s.tx t).steps.length) : Bd n K (m + 2) (tryT lev n K start s t) := by
  have hp := B.st t ht _ (step_mem hl)
  unfold tryT
  split
  · exact B.go hs ht hl
  · rename_i l hn
    split
    · refine (B.take (t := t) (l := l)).go hs ht ?_
      have := take_tx s t l t
      rw [this.1, this.2.2.2]; exact hl
    · split
      · exact ((B.want (need_key hp hn)).abort ht).mono (by omega)
      · exact (B.want (need_key hp hn)).mono (by omega)
theorem Bd.begin (B : Bd n K m s) {t : Nat} (ht : t < n) : Bd n K (m + 1) (beginT s t) := by
  unfold beginT
  split
  · exact B.mono (by omega)
  · exact (B.sett (t := t) (x := { s.tx t with begun := true, snap := s.ev.length + 1 }) rfl fun l hl => B.wants t l ht hl).note ⟨5, t, 0, 0, 0⟩
theorem Bd.turn (B : Bd n K m s) (hs : ∀ k, -1000000000 ≤ start k ∧ start k ≤ 1000000000) {t : Nat} (ht : t < n) (hl : (s.tx t).at_ < (s.tx t).steps.length) : Bd n K (m + 3) (turnT lev n K start s t) := by
  refine (B.begin ht).tryy hs ht ?_
  have := begin_same s t t
  rw [this.1, this.2.1]; exact hl
theorem Bd.turn1 (B : Bd n K m s) (L : Lv n s) (hs : ∀ k, -1000000000 ≤ start k ∧ start k ≤ 1000000000) (t : Int) : Bd n K (m + 3) (turn1 lev n K start s t) := by
  unfold Sc.turn1
  split
  · rename_i h
    exact B.turn hs (by omega) (L _ (by omega) h.2.2)
  · exact B.mono (by omega)
theorem Bd.fin (B : Bd n K m s) {t : Nat} (ht : t < n) : Bd n K (m + 1) (fin1 s t) := by
  unfold fin1
  split
  · exact B.abort ht
  · exact B.mono (by omega)
theorem bd0 {P : List (List Sp)} (h : ∀ t, t < n → ∀ p ∈ P.getD t [], SB K p) : Bd n K 0 (st0 P) :=
  ⟨Nat.le_refl _, fun k => ⟨Nat.le_refl _, fun w hw => (by cases hw)⟩, fun i l _ hl => (by cases hl), h⟩
end
end Go.Proofs.Sc
