/- Transactions that run step by step with locks: the values are those of running the committed ones alone. -/
import Derived.Test.YtcglflifaniolaaPD
namespace Go.Proofs.Sc
def exec1 (m : Nat → Int) (p : Sp) : Nat → Int := if p.kind = 2 then upd m p.key p.val else if p.kind = 3 then upd m p.key (clm (m p.key + p.val)) else m
def exec (m : Nat → Int) (l : List Sp) : Nat → Int := l.foldl exec1 m
def curE (start : Nat → Int) (ev : List Ev) (k : Nat) : Int := (lastL (comm ev k) (start k, -1)).1
def viewE (start : Nat → Int) (ev : List Ev) (t k : Nat) : Int := (lastL (ownL ev t k) (lastL (comm ev k) (start k, -1))).1
def cmts (ev : List Ev) : List Nat := (ev.filter (fun e => e.kind == 3)).map (·.t)
def alone1 (P : Nat → List Sp) (m : Nat → Int) (t : Nat) : Nat → Int := if (P t).any (fun p => p.kind == 5) = true then exec m (P t) else m
def alone (P : Nat → List Sp) (start : Nat → Int) (ts : List Nat) : Nat → Int := ts.foldl (alone1 P) start

section
variable {n K : Nat} {start : Nat → Int} {s : St}
theorem lastL_ne {l : List Wr} (h : l ≠ []) (d d' : Int × Int) : lastL l d = lastL l d' := by
  rw [← List.dropLast_concat_getLast h, lastL_append, lastL_append]; rfl
theorem view_nil {ev : List Ev} {t k : Nat} (h : wrs ev t k = []) : viewE start ev t k = curE start ev k := by
  unfold viewE curE ownL; rw [h]; rfl
theorem view_ne {ev ev' : List Ev} {t k : Nat} (h : wrs ev t k ≠ []) (e : wrs ev' t k = wrs ev t k) : viewE start ev' t k = viewE start ev t k := by
  unfold viewE ownL; rw [e, lastL_ne (by simpa using h)]
theorem view_same {ev ev' : List Ev} {t k : Nat} (e : wrs ev' t k = wrs ev t k) (hc : comm ev' k = comm ev k) : viewE start ev' t k = viewE start ev t k := by
  unfold viewE ownL; rw [e, hc]
theorem exec_frame {k : Nat} : ∀ (l : List Sp) (m : Nat → Int), (∀ p ∈ l, p.key ≠ k) → exec m l k = m k
  | [], _, _ => rfl
  | p :: l, m, h => by
    show exec (exec1 m p) l k = m k
    rw [exec_frame l _ fun q hq => h q (by simp [hq])]
    have := h p (by simp)
    unfold exec1
    split
    · exact upd_ne _ _ (Ne.symm this)
    · split
      · exact upd_ne _ _ (Ne.symm this)
      · rfl
theorem exec1_agree {m m' : Nat → Int} {p : Sp} {k : Nat} (h1 : m p.key = m' p.key) (h2 : m k = m' k) : exec1 m p k = exec1 m' p k := by
  unfold exec1
  split
  · unfold upd; split
    · rfl
    · exact h2
  · split
    · unfold upd; split
      · rw [h1]
      · exact h2
    · exact h2
theorem exec_agree {k : Nat} : ∀ (l : List Sp) (m m' : Nat → Int), (∀ p ∈ l, m p.key = m' p.key) → m k = m' k → exec m l k = exec m' l k
  | [], _, _, _, h => h
  | p :: l, m, m', h, hk => by
    have h0 := h p (by simp)
    exact exec_agree l _ _ (fun q hq => exec1_agree h0 (h q (by simp [hq]))) (exec1_agree h0 hk)
theorem exec_snoc (m : Nat → Int) (l : List Sp) (p : Sp) : exec m (l ++ [p]) = exec1 (exec m l) p := by simp [exec]

structure Ser (n : Nat) (start : Nat → Int) (s : St) : Prop where
  ser : ∀ t, t < n → (s.tx t).ended = false → ∀ k, viewE start s.ev t k = exec (curE start s.ev) ((s.tx t).steps.take (s.tx t).at_) k
  tch : ∀ t, t < n → (s.tx t).ended = false → ∀ p ∈ (s.tx t).steps.take (s.tx t).at_, (s.tx t).ex p.key = true ∨ (s.tx t).sh p.key = true
  cu : curE start s.ev = alone (fun t => (s.tx t).steps) start (cmts s.ev)
theorem Ser.step (S : Ser n start s) (t : Nat) {s' : St} (hc : ∀ k, comm s'.ev k = comm s.ev k) (hm : cmts s'.ev = cmts s.ev) (hst : ∀ u, (s'.tx u).steps = (s.tx u).steps)
    (hu : ∀ u, u ≠ t → u < n → (s'.tx u).ended = false → (s.tx u).ended = false ∧ (s'.tx u).at_ = (s.tx u).at_ ∧ (∀ k, wrs s'.ev u k = wrs s.ev u k) ∧ (s'.tx u).ex = (s.tx u).ex ∧ (s'.tx u).sh = (s.tx u).sh)
    (ht : (s'.tx t).ended = false → (∀ k, viewE start s'.ev t k = exec (curE start s.ev) ((s.tx t).steps.take (s'.tx t).at_) k) ∧ ∀ p ∈ (s.tx t).steps.take (s'.tx t).at_, (s'.tx t).ex p.key = true ∨ (s'.tx t).sh p.key = true) : Ser n start s' := by
  have hcur : curE start s'.ev = curE start s.ev := by funext k; unfold curE; rw [hc]
  refine ⟨fun u hun he k => ?_, fun u hun he p hp => ?_, ?_⟩
  · rw [hcur, hst]
    by_cases h : u = t
    · subst h; exact (ht he).1 k
    · obtain ⟨h1, h2, h3, _⟩ := hu u h hun he
      rw [view_same (h3 k) (hc k), h2]
      exact S.ser u hun h1 k
  · rw [hst] at hp
    by_cases h : u = t
    · subst h; exact (ht he).2 p hp
    · obtain ⟨h1, h2, _, h4, h5⟩ := hu u h hun he
      rw [h2] at hp; rw [h4, h5]
      exact S.tch u hun h1 p hp
  · rw [hcur, hm, S.cu]
    congr 1
    funext u; exact (hst u).symm
theorem cmts_snoc (ev : List Ev) (e : Ev) : cmts (ev ++ [e]) = cmts ev ++ (if e.kind = 3 then [e.t] else []) := by
  unfold cmts
  rw [List.filter_append, List.map_append]
  congr 1
  by_cases h : e.kind = 3
  · rw [if_pos h, List.filter_cons_of_pos (by simp [h])]; rfl
  · rw [if_neg h, List.filter_cons_of_neg (by simp [h])]; rfl
theorem wrs_none {ev : List Ev} {e : Ev} (h : e.kind ≠ 2) (t k : Nat) : wrs (ev ++ [e]) t k = wrs ev t k := by rw [wrs_snoc, if_neg (by simp [isW, h]), List.append_nil]
theorem wrs_other {ev : List Ev} {e : Ev} {t : Nat} (h : e.t ≠ t) (k : Nat) : wrs (ev ++ [e]) t k = wrs ev t k := by rw [wrs_snoc, if_neg (by simp [h]), List.append_nil]
theorem comm_none {ev : List Ev} {e : Ev} (h : e.kind ≠ 3) (k : Nat) : comm (ev ++ [e]) k = comm ev k := by rw [comm_snoc, if_neg h, List.append_nil]
theorem cmts_none {ev : List Ev} {e : Ev} (h : e.kind ≠ 3) : cmts (ev ++ [e]) = cmts ev := by rw [cmts_snoc, if_neg h, List.append_nil]
theorem Ser.begin (S : Ser n start s) {t : Nat} (ht : t < n) : Ser n start (beginT s t) := by
  have hE : (beginT s t).ev = s.ev ∨ (beginT s t).ev = s.ev ++ [⟨5, t, 0, 0, 0⟩] := by unfold beginT; split <;> simp
  have hw : ∀ u k, wrs (beginT s t).ev u k = wrs s.ev u k := fun u k => by
    rcases hE with h | h <;> rw [h]; exact wrs_none (by simp) u k
  have hc : ∀ k, comm (beginT s t).ev k = comm s.ev k := fun k => by
    rcases hE with h | h <;> rw [h]; exact comm_none (by simp) k
  have hm : cmts (beginT s t).ev = cmts s.ev := by
    rcases hE with h | h <;> rw [h]; exact cmts_none (by simp)
  have hs := begin_same s t
  refine S.step t hc hm (fun u => (hs u).1) (fun u _ _ he => ⟨by rw [← (hs u).2.2.1]; exact he, (hs u).2.1, hw u, (hs u).2.2.2.2.1, (hs u).2.2.2.1⟩) fun he => ?_
  rw [(hs t).2.2.1] at he
  rw [(hs t).2.1, (hs t).2.2.2.2.1, (hs t).2.2.2.1]
  exact ⟨fun k => by rw [view_same (hw t k) (hc k)]; exact S.ser t ht he k, S.tch t ht he⟩
theorem Ser.want (S : Ser n start s) {t : Nat} {l : Lk} (ht : t < n) : Ser n start (wantL s t l) := by
  have hs := want_tx s t l
  refine S.step t (fun _ => rfl) rfl (fun u => (hs u).1) (fun u _ _ he => ⟨by rw [← (hs u).2.2.1]; exact he, (hs u).2.2.2.1, fun _ => rfl, (hs u).2.2.2.2.2.1, (hs u).2.2.2.2.1⟩) fun he => ?_
  rw [(hs t).2.2.1] at he
  rw [(hs t).2.2.2.1, (hs t).2.2.2.2.2.1, (hs t).2.2.2.2.1]
  exact ⟨S.ser t ht he, S.tch t ht he⟩
theorem takeX_mono (x : Tx) (l : Lk) (k : Nat) (h : x.ex k = true ∨ x.sh k = true) : (takeX x l).ex k = true ∨ (takeX x l).sh k = true := by
  unfold takeX
  cases l.x with
  | true =>
    rcases h with h | h
    · left; show upd x.ex l.k true k = true; unfold upd; split <;> first | rfl | exact h
    · exact .inr h
  | false =>
    rcases h with h | h
    · exact .inl h
    · right; show upd x.sh l.k true k = true; unfold upd; split <;> first | rfl | exact h
theorem Ser.take (S : Ser n start s) {t : Nat} {l : Lk} (ht : t < n) : Ser n start (takeL s t l) := by
  have hs := take_tx s t l
  have hne : ∀ u, u ≠ t → (takeL s t l).tx u = s.tx u := fun u h => upd_ne _ _ h
  refine S.step t (fun _ => rfl) rfl (fun u => (hs u).1) (fun u hu _ he => ⟨by rw [← (hs u).2.2.1]; exact he, (hs u).2.2.2, fun _ => rfl, by rw [hne u hu], by rw [hne u hu]⟩) fun he => ?_
  rw [(hs t).2.2.1] at he
  rw [(hs t).2.2.2]
  refine ⟨S.ser t ht he, fun p hp => ?_⟩
  show (upd s.tx t (takeX (s.tx t) l) t).ex p.key = true ∨ (upd s.tx t (takeX (s.tx t) l) t).sh p.key = true
  rw [upd_same]
  exact takeX_mono _ _ _ (S.tch t ht he p hp)
theorem Ser.ends (S : Ser n start s) {t : Nat} {s' : St}
    (htx : ∀ u, ((s'.tx u).steps = (s.tx u).steps) ∧ (u ≠ t → (s'.tx u).at_ = (s.tx u).at_) ∧ (s'.tx u).sh = (s.tx u).sh ∧ (s'.tx u).ex = (s.tx u).ex ∧ (s'.tx u).ended = (decide (u = t) || (s.tx u).ended)) (hev : s'.ev = s.ev ++ [⟨4, t, 0, 0, 0⟩]) : Ser n start s' := by
  refine S.step t (fun k => by rw [hev]; exact comm_none (by simp) k) (by rw [hev]; exact cmts_none (by simp)) (fun u => (htx u).1) (fun u hu _ he => ?_) fun he => ?_
  · rw [(htx u).2.2.2.2, Bool.or_eq_false_iff] at he
    exact ⟨he.2, (htx u).2.1 hu, fun k => by rw [hev]; exact wrs_none (by simp) u k, (htx u).2.2.2.1, (htx u).2.2.1⟩
  · rw [(htx t).2.2.2.2] at he
    simp at he
theorem take_succ_getD {l : List Sp} {a : Nat} (h : a < l.length) (d : Sp) : l.take (a + 1) = l.take a ++ [l.getD a d] := by
  rw [List.take_add_one, List.getElem?_eq_getElem h, List.getD_eq_getElem?_getD, List.getElem?_eq_getElem h]; rfl
/-- a step that reads, writes or adds -/
theorem Ser.acts (I : Inv 3 n K start s) (S : Ser n start s) {t : Nat} (ht : t < n) (hb : (s.tx t).begun = true) (hn : (s.tx t).ended = false) (hlt : (s.tx t).at_ < (s.tx t).steps.length) (hh : Holds 3 (s.tx t) (stepOf (s.tx t)))
    (k1 : 1 ≤ (stepOf (s.tx t)).kind) (k2 : (stepOf (s.tx t)).kind ≤ 3) : Ser n start (goT 3 K start s t) := by
  obtain ⟨hh1, hh2⟩ := hh.of
  have hbt := bump_tx s t
  have hrd := (I.bmp t).read (k := (stepOf (s.tx t)).key) (by omega) ht (by rw [(hbt t).2.1, hb]) (by rw [(hbt t).2.2.1, hn]) (fun _ => by
    rw [(hbt t).2.2.2.1, (hbt t).2.2.2.2.1]
    by_cases h : (stepOf (s.tx t)).kind = 1
    · exact hh1 h rfl
    · exact .inl (hh2 (by omega) (by omega)))
  have hrv : (readV 3 start (bump s t) t (stepOf (s.tx t)).key).1 = viewE start s.ev t (stepOf (s.tx t)).key := by
    rw [hrd]
    unfold seen viewE
    rw [show upto 3 (bump s t).ev t = s.ev.length from by unfold upto; rw [if_neg (by omega)]; rfl]
    rw [show (bump s t).ev = s.ev from rfl, List.take_length]
  have hstep : (s.tx t).steps.take ((s.tx t).at_ + 1) = (s.tx t).steps.take (s.tx t).at_ ++ [stepOf (s.tx t)] := take_succ_getD hlt _
  have hser := S.ser t ht hn
  have htch := S.tch t ht hn
  have htx : ∀ u, (goT 3 K start s t).tx u = (bump s t).tx u := fun u => by
    unfold goT actT
    split
    · rfl
    · split
      · rfl
      · rw [if_pos (by omega)]; rfl
  have hev : (goT 3 K start s t).ev = (if (stepOf (s.tx t)).kind = 1 then s.ev ++ [⟨1, t, (stepOf (s.tx t)).key, (readV 3 start (bump s t) t (stepOf (s.tx t)).key).1, (readV 3 start (bump s t) t (stepOf (s.tx t)).key).2⟩]
      else if (stepOf (s.tx t)).kind = 2 then s.ev ++ [⟨2, t, (stepOf (s.tx t)).key, (stepOf (s.tx t)).val, 0⟩]
      else s.ev ++ [⟨1, t, (stepOf (s.tx t)).key, (readV 3 start (bump s t) t (stepOf (s.tx t)).key).1, (readV 3 start (bump s t) t (stepOf (s.tx t)).key).2⟩] ++ [⟨2, t, (stepOf (s.tx t)).key, clm ((readV 3 start (bump s t) t (stepOf (s.tx t)).key).1 + (stepOf (s.tx t)).val), 0⟩]) := by
    unfold goT actT
    split
    · rfl
    · split
      · rfl
      · rw [if_pos (by omega)]; rfl
  rw [hrv] at hev
  generalize hp : stepOf (s.tx t) = p at *
  generalize goT 3 K start s t = s' at htx hev ⊢
  generalize (readV 3 start (bump s t) t p.key).2 = by_ at hev
  have hc : ∀ k, comm s'.ev k = comm s.ev k := fun k => by
    rw [hev]
    split
    · exact comm_none (by simp) k
    · split
      · exact comm_none (by simp) k
      · rw [comm_none (by simp), comm_none (by simp)]
  have hm : cmts s'.ev = cmts s.ev := by
    rw [hev]
    split
    · exact cmts_none (by simp)
    · split
      · exact cmts_none (by simp)
      · rw [cmts_none (by simp), cmts_none (by simp)]
  have hwu : ∀ u, u ≠ t → ∀ k, wrs s'.ev u k = wrs s.ev u k := fun u hu k => by
    rw [hev]
    split
    · exact wrs_none (by simp) u k
    · split
      · exact wrs_other (fun e => hu e.symm) k
      · rw [wrs_other (fun e => hu e.symm), wrs_none (by simp)]
  refine S.step t hc hm (fun u => by rw [htx]; exact (hbt u).1) (fun u hu _ he => ?_) fun he => ?_
  · rw [htx] at he ⊢
    obtain ⟨_, _, c3, c4, c5, c6⟩ := hbt u
    rw [if_neg hu] at c6
    exact ⟨by rw [← c3]; exact he, c6, hwu u hu, c5, c4⟩
  · obtain ⟨_, _, c3, c4, c5, c6⟩ := hbt t
    rw [if_pos rfl] at c6
    rw [htx, c6, hstep, c4, c5]
    refine ⟨fun k => ?_, fun q hq => ?_⟩
    · rw [exec_snoc]
      unfold exec1
      by_cases h1 : p.kind = 1
      · rw [if_neg (by omega), if_neg (by omega), ← hser k]
        refine view_same ?_ (hc k)
        rw [hev, if_pos h1]; exact wrs_none (by simp) t k
      · have hv : ∀ v pre, wrs pre t k = wrs s.ev t k → wrs s'.ev t k = wrs pre t k ++ (if p.key = k then [v] else []) → viewE start s'.ev t k = if k = p.key then v else viewE start s.ev t k := fun v pre h3 h4 => by
          by_cases hk : p.key = k
          · rw [if_pos hk] at h4
            rw [if_pos hk.symm]
            unfold viewE ownL
            rw [h4, List.map_append, lastL_append]; rfl
          · rw [if_neg hk, List.append_nil] at h4
            rw [if_neg (fun e => hk e.symm)]
            exact view_same (h4.trans h3) (hc k)
        by_cases h2 : p.kind = 2
        · rw [if_pos h2]
          unfold upd
          rw [hv p.val s.ev rfl (by rw [hev, if_neg h1, if_pos h2, wrs_snoc]; congr 1; simp [isW]), ← hser k]
        · rw [if_neg h2, if_pos (by omega)]
          unfold upd
          rw [hv (clm (viewE start s.ev t p.key + p.val)) (s.ev ++ [⟨1, t, p.key, viewE start s.ev t p.key, by_⟩]) (wrs_none (by simp) t k) (by rw [hev, if_neg h1, if_neg h2, wrs_snoc]; congr 1; simp [isW]), ← hser k, ← hser p.key]
    · rcases List.mem_append.1 hq with hq | hq
      · exact htch q hq
      · obtain rfl := List.mem_singleton.1 hq
        by_cases h1 : q.kind = 1
        · exact hh1 h1 rfl
        · exact .inl (hh2 (by omega) (by omega))
theorem Inv.wr_lock (I : Inv 3 n K start s) {t k : Nat} (hn : (s.tx t).ended = false) (h : wrs s.ev t k ≠ []) : (s.tx t).ex k = true := by
  obtain ⟨v, hv⟩ := List.exists_mem_of_ne_nil _ h
  unfold wrs at hv
  obtain ⟨e, he, _⟩ := List.mem_map.1 hv
  obtain ⟨h1, h2⟩ := List.mem_filter.1 he
  simp only [isW, Bool.and_eq_true, beq_iff_eq] at h2
  have := I.lw (by omega) e h1 h2.1.1 (by rw [h2.2, ← I.en]; exact hn)
  rwa [h2.2, h2.1.2] at this
/-- a commit -/
theorem Ser.commit (I : Inv 3 n K start s) (S : Ser n start s) {t : Nat} {x : Sp} (ht : t < n) (hn : (s.tx t).ended = false) (hst : (s.tx t).steps = (s.tx t).steps.take (s.tx t).at_ ++ [x]) (hx : x.kind = 5) {s' : St}
    (htx : ∀ u, ((s'.tx u).steps = (s.tx u).steps) ∧ (u ≠ t → (s'.tx u).at_ = (s.tx u).at_) ∧ (s'.tx u).sh = (s.tx u).sh ∧ (s'.tx u).ex = (s.tx u).ex ∧ (s'.tx u).ended = (decide (u = t) || (s.tx u).ended)) (hev : s'.ev = s.ev ++ [⟨3, t, 0, 0, 0⟩]) : Ser n start s' := by
  have hw : ∀ u k, wrs s'.ev u k = wrs s.ev u k := fun u k => by rw [hev]; exact wrs_none (by simp) u k
  have hcm : ∀ k, curE start s'.ev k = viewE start s.ev t k := fun k => by
    unfold curE viewE
    rw [hev, comm_snoc, if_pos rfl, lastL_append]
    have : ∀ (l : List Int) (d : Int × Int) (c c' : Nat), lastL (l.map (fun v => (⟨v, t, c⟩ : Wr))) d = lastL (l.map (fun v => ⟨v, t, c'⟩)) d := fun l d c c' => by
      unfold lastL; rw [List.foldl_map, List.foldl_map]
    unfold ownL
    rw [this _ _ _ 0]
  have hex : exec1 (exec (curE start s.ev) ((s.tx t).steps.take (s.tx t).at_)) x = exec (curE start s.ev) ((s.tx t).steps.take (s.tx t).at_) := by
    unfold exec1; rw [if_neg (by omega), if_neg (by omega)]
  refine ⟨fun u hu he k => ?_, fun u hu he p hp => ?_, ?_⟩
  · rw [(htx u).2.2.2.2, Bool.or_eq_false_iff] at he
    have hut : u ≠ t := by simpa using he.1
    rw [(htx u).1, (htx u).2.1 hut]
    have hsame : ∀ k, ((s.tx u).ex k = true ∨ (s.tx u).sh k = true) → curE start s'.ev k = curE start s.ev k := fun k hk => by
      rw [hcm, view_nil]
      cases hwt : wrs s.ev t k with
      | nil => rfl
      | cons a l =>
        have h1 := I.wr_lock hn (k := k) (by rw [hwt]; simp)
        have h2 := I.exc t u k ht hu (Ne.symm hut) hn he.2 h1
        rcases hk with hk | hk
        · rw [hk] at h2; cases h2.1
        · rw [hk] at h2; cases h2.2
    have htc := S.tch u hu he.2
    by_cases hk : (s.tx u).ex k = true ∨ (s.tx u).sh k = true
    · rw [exec_agree _ (curE start s'.ev) (curE start s.ev) (fun p hp => hsame _ (htc p hp)) (hsame k hk), ← S.ser u hu he.2 k]
      by_cases hwn : wrs s.ev u k = []
      · rw [view_nil hwn, view_nil ((hw u k).trans hwn), hsame k hk]
      · exact view_ne hwn (hw u k)
    · have hwn : wrs s.ev u k = [] := by
        cases hwu : wrs s.ev u k with
        | nil => rfl
        | cons a l => exact absurd (.inl (I.wr_lock he.2 (by rw [hwu]; simp))) hk
      rw [view_nil ((hw u k).trans hwn), exec_frame]
      rintro p hp rfl
      exact hk (htc p hp)
  · rw [(htx u).2.2.2.2, Bool.or_eq_false_iff] at he
    have hut : u ≠ t := by simpa using he.1
    rw [(htx u).1, (htx u).2.1 hut] at hp
    rw [(htx u).2.2.1, (htx u).2.2.2.1]
    exact S.tch u hu he.2 p hp
  · have hP : (fun u => (s'.tx u).steps) = fun u => (s.tx u).steps := by funext u; exact (htx u).1
    rw [hP, hev, cmts_snoc, if_pos rfl]
    unfold alone
    rw [List.foldl_append]
    show _ = alone1 (fun u => (s.tx u).steps) (alone (fun u => (s.tx u).steps) start (cmts s.ev)) t
    rw [← S.cu]
    have h5 : ((s.tx t).steps).any (fun p => p.kind == 5) = true := by rw [hst, List.any_append]; simp [hx]
    have h6 : exec (curE start s.ev) (s.tx t).steps = exec (curE start s.ev) ((s.tx t).steps.take (s.tx t).at_) := by
      conv => lhs; rw [hst, exec_snoc, hex]
    unfold alone1
    rw [if_pos h5, ← hev, h6]
    funext k
    rw [hcm, S.ser t ht hn k]
end
end Go.Proofs.Sc
