/- Transactions that run step by step: each turn keeps what holds. -/
import Derived.Test.YtcglflifaniolaaPB
namespace Go.Proofs.Sc
section
variable {lev n K : Nat} {start : Nat → Int} {s : St}

theorem Inv.same (I : Inv lev n K start s) {tx' : Nat → Tx} (h : ∀ u, (tx' u).steps = (s.tx u).steps ∧ (tx' u).begun = (s.tx u).begun ∧ (tx' u).ended = (s.tx u).ended ∧ (tx' u).snap = (s.tx u).snap ∧ (tx' u).sh = (s.tx u).sh ∧ (tx' u).ex = (s.tx u).ex) :
    Inv lev n K start ⟨tx', s.ver, s.ev⟩ := by
  refine ⟨fun t ht => ?_, fun t => ?_, fun t => ?_, fun t hb => ?_, I.evs, I.ver, fun hl e he h2 h3 => ?_, fun hl e he h2 h3 => ?_, fun t u k ht hu htu h1 h2 h3 => ?_⟩
  · show SOk K (tx' t).steps; rw [(h t).1]; exact I.stp t ht
  · show (tx' t).ended = _; rw [(h t).2.2.1]; exact I.en t
  · show (tx' t).begun = _; rw [(h t).2.1]; exact I.bg t
  · change (tx' t).begun = true at hb; show (tx' t).snap = _ ∧ _; rw [(h t).2.2.2.1]; rw [(h t).2.1] at hb; exact I.sn t hb
  · show (tx' e.t).ex e.key = true; rw [(h e.t).2.2.2.2.2]; exact I.lw hl e he h2 h3
  · show (tx' e.t).ex e.key = true ∨ (tx' e.t).sh e.key = true; rw [(h e.t).2.2.2.2.2, (h e.t).2.2.2.2.1]; exact I.lr hl e he h2 h3
  · change (tx' t).ended = false at h1; change (tx' u).ended = false at h2; change (tx' t).ex k = true at h3
    show (tx' u).ex k = false ∧ (tx' u).sh k = false
    rw [(h t).2.2.1] at h1; rw [(h u).2.2.1] at h2; rw [(h t).2.2.2.2.2] at h3
    rw [(h u).2.2.2.2.2, (h u).2.2.2.2.1]
    exact I.exc t u k ht hu htu h1 h2 h3
theorem Inv.sett (I : Inv lev n K start s) {t : Nat} {x : Tx} (h : x.steps = (s.tx t).steps ∧ x.begun = (s.tx t).begun ∧ x.ended = (s.tx t).ended ∧ x.snap = (s.tx t).snap ∧ x.sh = (s.tx t).sh ∧ x.ex = (s.tx t).ex) : Inv lev n K start (setT s t x) := by
  refine I.same fun u => ?_
  by_cases hu : u = t
  · subst hu; rw [upd_same]; exact h
  · rw [upd_ne _ _ hu]; exact ⟨rfl, rfl, rfl, rfl, rfl, rfl⟩
theorem Inv.bmp (I : Inv lev n K start s) (t : Nat) : Inv lev n K start (bump s t) := I.sett ⟨rfl, rfl, rfl, rfl, rfl, rfl⟩
theorem Inv.want (I : Inv lev n K start s) (t : Nat) (l : Lk) : Inv lev n K start (wantL s t l) := I.sett ⟨rfl, rfl, rfl, rfl, rfl, rfl⟩
theorem any_t {ev : List Ev} {e : Ev} (t : Nat) : (ev ++ [e]).any (fun x => x.t == t) = (ev.any (fun x => x.t == t) || e.t == t) := by simp
/-- an event that ends nothing -/
theorem Inv.noteN (I : Inv lev n K start s) {e : Ev} {ver' : Nat → List Wr} (hb : (s.tx e.t).begun = true) (hE : isEnd e = false) (ok : EvOk lev n K start s.ev e)
    (hv : ∀ k, ver' k = s.ver k ++ (if isW k e = true then [⟨e.val, e.t, 0⟩] else []))
    (h2 : lev ≠ 2 → e.kind = 2 → (s.tx e.t).ex e.key = true) (h1 : lev = 3 → e.kind = 1 → (s.tx e.t).ex e.key = true ∨ (s.tx e.t).sh e.key = true) :
    Inv lev n K start ⟨s.tx, ver', s.ev ++ [e]⟩ := by
  have hend : ∀ t, endedE (s.ev ++ [e]) t = endedE s.ev t := fun t => by rw [endedE_snoc, hE]; simp
  refine ⟨I.stp, fun t => ?_, fun t => ?_, fun t ht => ?_, I.evs.snoc ok, fun k => ?_, fun hl x hx hk he => ?_, fun hl x hx hk he => ?_, I.exc⟩
  · show (s.tx t).ended = endedE (s.ev ++ [e]) t; rw [hend]; exact I.en t
  · show (s.tx t).begun = (s.ev ++ [e]).any _
    rw [any_t, ← I.bg t]
    by_cases h : e.t = t
    · subst h; rw [hb]; rfl
    · rw [show (e.t == t) = false by simpa using h, Bool.or_false]
  · obtain ⟨h3, h4⟩ := I.sn t ht
    show (s.tx t).snap = bidx (s.ev ++ [e]) t + 1 ∧ bidx (s.ev ++ [e]) t < (s.ev ++ [e]).length
    rw [bidx_snoc _ h4, List.length_append]
    exact ⟨h3, by omega⟩
  · show ver' k = comm (s.ev ++ [e]) k ++ unc (s.ev ++ [e]) k
    have h3 : e.kind ≠ 3 := by intro h; unfold isEnd at hE; rw [h] at hE; cases hE
    rw [hv, comm_snoc, if_neg h3, List.append_nil, unc_snoc_n hE, I.ver, List.append_assoc]
    have hlive := ok.live
    simp only [hlive, and_true]
  · change x ∈ s.ev ++ [e] at hx
    change endedE (s.ev ++ [e]) x.t = false at he
    rw [hend] at he
    rcases List.mem_append.1 hx with hx | hx
    · exact I.lw hl x hx hk he
    · obtain rfl := List.mem_singleton.1 hx; exact h2 hl hk
  · change x ∈ s.ev ++ [e] at hx
    change endedE (s.ev ++ [e]) x.t = false at he
    rw [hend] at he
    rcases List.mem_append.1 hx with hx | hx
    · exact I.lr hl x hx hk he
    · obtain rfl := List.mem_singleton.1 hx; exact h1 hl hk
theorem endT_tx (s : St) (t u : Nat) : ((endT s t).tx u).steps = (s.tx u).steps ∧ ((endT s t).tx u).begun = (s.tx u).begun ∧ ((endT s t).tx u).snap = (s.tx u).snap ∧ ((endT s t).tx u).sh = (s.tx u).sh ∧ ((endT s t).tx u).ex = (s.tx u).ex ∧ ((endT s t).tx u).at_ = (s.tx u).at_ ∧ ((endT s t).tx u).ended = (decide (u = t) || (s.tx u).ended) := by
  unfold endT setT
  by_cases h : u = t
  · subst h; simp [upd_same]
  · simp [upd_ne _ _ h, h]
/-- an event that ends a transaction -/
theorem Inv.endN (I : Inv lev n K start s) {e : Ev} {ver' : Nat → List Wr} (hb : (s.tx e.t).begun = true) (hE : isEnd e = true) (ok : EvOk lev n K start s.ev e)
    (hv : ∀ k, ver' k = comm (s.ev ++ [e]) k ++ unc (s.ev ++ [e]) k) : Inv lev n K start ⟨(endT s e.t).tx, ver', s.ev ++ [e]⟩ := by
  have h5 : ∀ x ∈ s.ev ++ [e], x.kind ≤ 2 → x ∈ s.ev := fun x hx hk => by
    rcases List.mem_append.1 hx with hx | hx
    · exact hx
    · obtain rfl := List.mem_singleton.1 hx
      unfold isEnd at hE
      simp at hE; omega
  have hend : ∀ x, endedE (s.ev ++ [e]) x = false → endedE s.ev x = false := fun x hx => by
    rw [endedE_snoc, Bool.or_eq_false_iff] at hx; exact hx.1
  refine ⟨fun t ht => ?_, fun t => ?_, fun t => ?_, fun t ht => ?_, I.evs.snoc ok, hv, fun hl x hx hk he => ?_, fun hl x hx hk he => ?_, fun t u k ht hu htu g1 g2 g3 => ?_⟩
  · show SOk K ((endT s e.t).tx t).steps; rw [(endT_tx s e.t t).1]; exact I.stp t ht
  · show ((endT s e.t).tx t).ended = endedE (s.ev ++ [e]) t
    rw [(endT_tx s e.t t).2.2.2.2.2.2, endedE_snoc, hE, I.en, Bool.true_and, Bool.or_comm]
    congr 1
    by_cases h : t = e.t
    · subst h; simp
    · simp [h, Ne.symm h]
  · show ((endT s e.t).tx t).begun = (s.ev ++ [e]).any _
    rw [(endT_tx s e.t t).2.1, any_t, ← I.bg t]
    by_cases h : e.t = t
    · subst h; rw [hb]; rfl
    · rw [show (e.t == t) = false by simpa using h, Bool.or_false]
  · change ((endT s e.t).tx t).begun = true at ht
    rw [(endT_tx s e.t t).2.1] at ht
    obtain ⟨h3, h4⟩ := I.sn t ht
    show ((endT s e.t).tx t).snap = bidx (s.ev ++ [e]) t + 1 ∧ bidx (s.ev ++ [e]) t < (s.ev ++ [e]).length
    rw [(endT_tx s e.t t).2.2.1, bidx_snoc _ h4, List.length_append]
    exact ⟨h3, by omega⟩
  · show ((endT s e.t).tx x.t).ex x.key = true
    rw [(endT_tx s e.t x.t).2.2.2.2.1]
    exact I.lw hl x (h5 x hx (by omega)) hk (hend _ he)
  · show ((endT s e.t).tx x.t).ex x.key = true ∨ ((endT s e.t).tx x.t).sh x.key = true
    rw [(endT_tx s e.t x.t).2.2.2.2.1, (endT_tx s e.t x.t).2.2.2.1]
    exact I.lr hl x (h5 x hx (by omega)) hk (hend _ he)
  · change ((endT s e.t).tx t).ended = false at g1
    change ((endT s e.t).tx u).ended = false at g2
    change ((endT s e.t).tx t).ex k = true at g3
    show ((endT s e.t).tx u).ex k = false ∧ ((endT s e.t).tx u).sh k = false
    rw [(endT_tx s e.t t).2.2.2.2.2.2, Bool.or_eq_false_iff] at g1
    rw [(endT_tx s e.t u).2.2.2.2.2.2, Bool.or_eq_false_iff] at g2
    rw [(endT_tx s e.t t).2.2.2.2.1] at g3
    rw [(endT_tx s e.t u).2.2.2.2.1, (endT_tx s e.t u).2.2.2.1]
    exact I.exc t u k ht hu htu g1.2 g2.2 g3
theorem Inv.has (I : Inv lev n K start s) {t : Nat} (hb : (s.tx t).begun = true) : ∃ e ∈ s.ev, e.t = t := by
  rw [I.bg, List.any_eq_true] at hb
  obtain ⟨e, he, h⟩ := hb
  exact ⟨e, he, by simpa using h⟩
theorem Inv.nofirst (I : Inv lev n K start s) {t k : Nat} (hb : (s.tx t).begun = true) (hk : k ≠ 5) : k = 5 ↔ ∀ e' ∈ s.ev, e'.t ≠ t := by
  obtain ⟨e, he, ht⟩ := I.has hb
  exact ⟨fun h => absurd h hk, fun h => absurd ht (h e he)⟩
/-- the beginning -/
theorem Inv.begin (I : Inv lev n K start s) {t : Nat} (ht : t < n) : Inv lev n K start (beginT s t) := by
  unfold beginT
  by_cases hb : (s.tx t).begun = true
  · rw [if_pos hb]; exact I
  rw [if_neg hb]
  have hb' : (s.tx t).begun = false := by simpa using hb
  have hno : ∀ e ∈ s.ev, e.t ≠ t := fun e he h => hb (by rw [I.bg, List.any_eq_true]; exact ⟨e, he, by simpa using h⟩)
  have hlive : endedE s.ev t = false := by
    unfold endedE
    rw [List.any_eq_false]
    intro e he
    simp [hno e he]
  have hE : isEnd ⟨5, t, 0, 0, 0⟩ = false := rfl
  have hend : ∀ u, endedE (s.ev ++ [⟨5, t, 0, 0, 0⟩]) u = endedE s.ev u := fun u => by rw [endedE_snoc, hE]; simp
  have key : ∀ u, u ≠ t → (upd s.tx t { s.tx t with begun := true, snap := s.ev.length + 1 } u) = s.tx u := fun u hu => upd_ne _ _ hu
  have key2 := upd_same s.tx t { s.tx t with begun := true, snap := s.ev.length + 1 }
  have hf : ∀ u, (upd s.tx t { s.tx t with begun := true, snap := s.ev.length + 1 } u).steps = (s.tx u).steps ∧ (upd s.tx t { s.tx t with begun := true, snap := s.ev.length + 1 } u).ended = (s.tx u).ended ∧ (upd s.tx t { s.tx t with begun := true, snap := s.ev.length + 1 } u).sh = (s.tx u).sh ∧ (upd s.tx t { s.tx t with begun := true, snap := s.ev.length + 1 } u).ex = (s.tx u).ex := fun u => by
    by_cases hu : u = t
    · subst hu; rw [key2]; exact ⟨rfl, rfl, rfl, rfl⟩
    · rw [key u hu]; exact ⟨rfl, rfl, rfl, rfl⟩
  generalize hx : upd s.tx t { s.tx t with begun := true, snap := s.ev.length + 1 } = tx' at key key2 hf
  refine ⟨fun u hu => ?_, fun u => ?_, fun u => ?_, fun u hu => ?_, I.evs.snoc ⟨ht, by simp, by simp, fun h => absurd h (by simp), ⟨fun _ => hno, fun _ => rfl⟩, hlive, fun h => absurd h (by simp), fun h => absurd h (by simp), fun h => absurd h (by simp)⟩, fun k => ?_, fun hl x hx hk he => ?_, fun hl x hx hk he => ?_, fun a u k ha hu hau g1 g2 g3 => ?_⟩
  · show SOk K (tx' u).steps; rw [(hf u).1]; exact I.stp u hu
  · show (tx' u).ended = endedE (s.ev ++ [⟨5, t, 0, 0, 0⟩]) u; rw [(hf u).2.1, hend]; exact I.en u
  · show (tx' u).begun = (s.ev ++ [(⟨5, t, 0, 0, 0⟩ : Ev)]).any _
    rw [any_t]
    by_cases h : u = t
    · subst h; rw [key2]; simp
    · rw [key u h, I.bg u, show (t == u) = false by simpa using fun e : t = u => h e.symm, Bool.or_false]
  · change (tx' u).begun = true at hu
    show (tx' u).snap = bidx (s.ev ++ [⟨5, t, 0, 0, 0⟩]) u + 1 ∧ bidx (s.ev ++ [⟨5, t, 0, 0, 0⟩]) u < (s.ev ++ [(⟨5, t, 0, 0, 0⟩ : Ev)]).length
    by_cases h : u = t
    · subst h
      have hb5 : bidx (s.ev ++ [⟨5, u, 0, 0, 0⟩]) u = s.ev.length := by
        unfold bidx
        have h0 : List.findIdx (isB u) s.ev = s.ev.length := by
          refine List.findIdx_eq_length.2 fun x hx => ?_
          simp [isB, hno x hx]
        rw [List.findIdx_append, h0, if_neg (by omega)]
        simp [List.findIdx_cons, isB]
      rw [hb5, key2, List.length_append]
      exact ⟨rfl, by simp⟩
    · rw [key u h] at hu ⊢
      obtain ⟨h3, h4⟩ := I.sn u hu
      rw [bidx_snoc _ h4, List.length_append]
      exact ⟨h3, by omega⟩
  · show s.ver k = comm (s.ev ++ [⟨5, t, 0, 0, 0⟩]) k ++ unc (s.ev ++ [⟨5, t, 0, 0, 0⟩]) k
    rw [comm_snoc, if_neg (by simp), List.append_nil, unc_snoc_n hE, I.ver, if_neg (by simp [isW]), List.append_nil]
  · change endedE (s.ev ++ [⟨5, t, 0, 0, 0⟩]) x.t = false at he
    rw [hend] at he
    show (tx' x.t).ex x.key = true
    rw [(hf x.t).2.2.2]
    rcases List.mem_append.1 hx with hx | hx
    · exact I.lw hl x hx hk he
    · obtain rfl := List.mem_singleton.1 hx; exact absurd hk (by simp)
  · change endedE (s.ev ++ [⟨5, t, 0, 0, 0⟩]) x.t = false at he
    rw [hend] at he
    show (tx' x.t).ex x.key = true ∨ (tx' x.t).sh x.key = true
    rw [(hf x.t).2.2.2, (hf x.t).2.2.1]
    rcases List.mem_append.1 hx with hx | hx
    · exact I.lr hl x hx hk he
    · obtain rfl := List.mem_singleton.1 hx; exact absurd hk (by simp)
  · change (tx' a).ended = false at g1
    change (tx' u).ended = false at g2
    change (tx' a).ex k = true at g3
    show (tx' u).ex k = false ∧ (tx' u).sh k = false
    rw [(hf a).2.1] at g1; rw [(hf u).2.1] at g2; rw [(hf a).2.2.2] at g3
    rw [(hf u).2.2.2, (hf u).2.2.1]
    exact I.exc a u k ha hu hau g1 g2 g3
theorem begin_begun (s : St) (t : Nat) : ((beginT s t).tx t).begun = true := by
  unfold beginT
  by_cases hb : (s.tx t).begun = true
  · rw [if_pos hb]; exact hb
  · rw [if_neg hb]; show (upd s.tx t _ t).begun = true; rw [upd_same]
theorem begin_same (s : St) (t u : Nat) : ((beginT s t).tx u).steps = (s.tx u).steps ∧ ((beginT s t).tx u).at_ = (s.tx u).at_ ∧ ((beginT s t).tx u).ended = (s.tx u).ended ∧ ((beginT s t).tx u).sh = (s.tx u).sh ∧ ((beginT s t).tx u).ex = (s.tx u).ex ∧ ((beginT s t).tx u).wants = (s.tx u).wants := by
  unfold beginT
  by_cases hb : (s.tx t).begun = true
  · rw [if_pos hb]; exact ⟨rfl, rfl, rfl, rfl, rfl, rfl⟩
  · rw [if_neg hb]
    show (upd s.tx t _ u).steps = _ ∧ (upd s.tx t _ u).at_ = _ ∧ (upd s.tx t _ u).ended = _ ∧ (upd s.tx t _ u).sh = _ ∧ (upd s.tx t _ u).ex = _ ∧ (upd s.tx t _ u).wants = _
    by_cases h : u = t
    · subst h; rw [upd_same]; exact ⟨rfl, rfl, rfl, rfl, rfl, rfl⟩
    · rw [upd_ne _ _ h]; exact ⟨rfl, rfl, rfl, rfl, rfl, rfl⟩
/-- a lock is taken -/
theorem others_nil {t : Nat} {l : Lk} (h : others n s t l = []) {i : Nat} (hi : i < n) (ht : i ≠ t) : blocks (s.tx i) l = false := by
  unfold others at h
  rw [List.filter_eq_nil_iff] at h
  have := h i (List.mem_range.2 hi)
  simpa [ht] using this
theorem Inv.take (I : Inv lev n K start s) {t : Nat} {l : Lk} (ht : t < n) (ho : others n s t l = []) : Inv lev n K start (takeL s t l) := by
  have hx : ∀ u, ((takeL s t l).tx u).steps = (s.tx u).steps ∧ ((takeL s t l).tx u).begun = (s.tx u).begun ∧ ((takeL s t l).tx u).ended = (s.tx u).ended ∧ ((takeL s t l).tx u).snap = (s.tx u).snap := fun u => by
    unfold takeL setT
    by_cases h : u = t
    · subst h; simp [upd_same, takeX]
    · simp [upd_ne _ _ h]
  have hne : ∀ u, u ≠ t → (takeL s t l).tx u = s.tx u := fun u h => upd_ne _ _ h
  have hex : ∀ k, ((takeL s t l).tx t).ex k = true ↔ ((s.tx t).ex k = true ∨ (l.x = true ∧ k = l.k)) := fun k => by
    show (upd s.tx t (takeX (s.tx t) l) t).ex k = true ↔ _
    rw [upd_same]
    unfold takeX
    by_cases h : l.x = true
    · simp only [h, if_true, upd]
      by_cases hk : k = l.k <;> simp [hk]
    · simp [h]
  have hsh : ∀ k, ((takeL s t l).tx t).sh k = true ↔ ((s.tx t).sh k = true ∨ (l.x = false ∧ k = l.k)) := fun k => by
    show (upd s.tx t (takeX (s.tx t) l) t).sh k = true ↔ _
    rw [upd_same]
    unfold takeX
    by_cases h : l.x = true
    · simp [h]
    · rw [if_neg h]
      by_cases hk : k = l.k <;> simp [upd, hk, h]
  refine ⟨fun u hu => ?_, fun u => ?_, fun u => ?_, fun u hu => ?_, I.evs, I.ver, fun hl e he hk hn => ?_, fun hl e he hk hn => ?_, fun a u k ha hu hau g1 g2 g3 => ?_⟩
  · rw [(hx u).1]; exact I.stp u hu
  · rw [(hx u).2.2.1]; exact I.en u
  · rw [(hx u).2.1]; exact I.bg u
  · rw [(hx u).2.1] at hu; rw [(hx u).2.2.2]; exact I.sn u hu
  · by_cases h : e.t = t
    · rw [h, hex]; left; rw [← h]; exact I.lw hl e he hk hn
    · rw [hne _ h]; exact I.lw hl e he hk hn
  · by_cases h : e.t = t
    · rw [h, hex, hsh]
      rcases I.lr hl e he hk hn with h1 | h1
      · rw [h] at h1; exact .inl (.inl h1)
      · rw [h] at h1; exact .inr (.inl h1)
    · rw [hne _ h]; exact I.lr hl e he hk hn
  · rw [(hx a).2.2.1] at g1
    rw [(hx u).2.2.1] at g2
    by_cases h : a = t
    · subst h
      rw [hne u (Ne.symm hau)]
      rw [hex] at g3
      rcases g3 with g3 | ⟨g3, rfl⟩
      · exact I.exc a u k ha hu hau g1 g2 g3
      · have := others_nil ho hu (Ne.symm hau)
        unfold blocks at this
        rw [g2, g3] at this
        simpa using this
    · rw [hne a h] at g3
      by_cases h2 : u = t
      · subst h2
        obtain ⟨h3, h4⟩ := I.exc a u k ha hu hau g1 g2 g3
        have h5 : k ≠ l.k := by
          rintro rfl
          have := others_nil ho ha hau
          unfold blocks at this
          rw [g1, g3] at this
          simp at this
        constructor
        · rw [Bool.eq_false_iff]
          intro h6
          rcases (hex k).1 h6 with h6 | h6
          · rw [h6] at h3; cases h3
          · exact h5 h6.2
        · rw [Bool.eq_false_iff]
          intro h6
          rcases (hsh k).1 h6 with h6 | h6
          · rw [h6] at h4; cases h4
          · exact h5 h6.2
      · rw [hne u h2]
        exact I.exc a u k ha hu hau g1 g2 g3
theorem Inv.abort (I : Inv lev n K start s) {t : Nat} (ht : t < n) (hb : (s.tx t).begun = true) (hn : (s.tx t).ended = false) : Inv lev n K start (abortT s t) := by
  have hn' : endedE s.ev t = false := by rw [← I.en, hn]
  refine I.endN (e := ⟨4, t, 0, 0, 0⟩) hb rfl ⟨ht, by simp, by simp, fun h => absurd h (by simp), I.nofirst hb (by simp), hn', fun h => absurd h (by simp), fun h => absurd h (by simp), fun h => absurd h (by simp)⟩ fun k => ?_
  rw [comm_snoc, if_neg (by simp), List.append_nil, unc_snoc_e rfl, I.ver, List.filter_append, List.filter_eq_self.2]
  intro w hw
  have := comm_ended hw
  have : w.t ≠ t := by intro h; rw [h, hn'] at this; cases this
  simpa using this
theorem takeWhile_pre {α : Type} {p : α → Bool} : ∀ {a b : List α}, (∀ x ∈ a, p x = true) → (∀ x ∈ b, p x = false) → (a ++ b).takeWhile p = a
  | [], b, _, h => by
    cases b with
    | nil => rfl
    | cons x b => rw [List.nil_append, List.takeWhile_cons_of_neg (by rw [h x (by simp)]; simp)]
  | x :: a, b, h1, h2 => by rw [List.cons_append, List.takeWhile_cons_of_pos (h1 x (by simp)), takeWhile_pre (fun y hy => h1 y (by simp [hy])) h2]
theorem insAt_eq {a b : List Wr} (h1 : ∀ w ∈ a, 0 < w.c) (h2 : ∀ w ∈ b, w.c = 0) : insAt (a ++ b) = a.length := by
  unfold insAt
  rw [List.reverse_append, takeWhile_pre (fun w hw => by simp [h2 w (List.mem_reverse.1 hw)]) (fun w hw => by have := h1 w (List.mem_reverse.1 hw); simp; omega), List.length_reverse, List.length_append]
  omega
theorem commitR_eq {a b : List Wr} {c t : Nat} (h1 : ∀ w ∈ a, 0 < w.c ∧ w.t ≠ t) (h2 : ∀ w ∈ b, w.c = 0) : commitR c t (a ++ b) = a ++ ((b.filter (fun w => w.t == t)).map (fun w => ⟨w.v, w.t, c⟩)) ++ b.filter (fun w => w.t != t) := by
  have hr : restR t (a ++ b) = a ++ b.filter (fun w => w.t != t) := by
    unfold restR
    rw [List.filter_append, List.filter_eq_self.2]
    intro w hw
    simpa using (h1 w hw).2
  have hi : insAt (restR t (a ++ b)) = a.length := by rw [hr]; exact insAt_eq (fun w hw => (h1 w hw).1) (fun w hw => h2 w (List.mem_filter.1 hw).1)
  unfold commitR
  rw [hi, hr, List.take_left, List.drop_left]
  congr 2
  unfold ownR
  rw [List.filter_append, List.filter_eq_nil_iff.2, List.nil_append]
  intro w hw
  simpa using (h1 w hw).2
theorem Inv.commit (I : Inv lev n K start s) {t : Nat} (ht : t < n) (hb : (s.tx t).begun = true) (hn : (s.tx t).ended = false) (hc : lev = 2 → confl K s t = false) : Inv lev n K start (commitT s t) := by
  have hn' : endedE s.ev t = false := by rw [← I.en, hn]
  refine I.endN (e := ⟨3, t, 0, 0, 0⟩) hb rfl ⟨ht, by simp, by simp, fun h => absurd h (by simp), I.nofirst hb (by simp), hn', fun h => absurd h (by simp), fun h => absurd h (by simp), fun _ hl k j e' hw he' hk hw' => ?_⟩ fun k => ?_
  · change wrs s.ev t k ≠ [] at hw
    show j < bidx s.ev t
    obtain ⟨s1, s2⟩ := I.sn t hb
    obtain ⟨v, hv⟩ := List.exists_mem_of_ne_nil _ hw'
    have hcm := comm_mem he' hk hv
    have hne : e'.t ≠ t := fun h => by have := comm_ended hcm; change endedE s.ev e'.t = true at this; rw [h, hn'] at this; cases this
    have hkK : k < K := by
      obtain ⟨v, hv⟩ := List.exists_mem_of_ne_nil _ hw
      unfold wrs at hv
      obtain ⟨x, hx, _⟩ := List.mem_map.1 hv
      obtain ⟨h1, h2⟩ := List.mem_filter.1 hx
      simp only [isW, Bool.and_eq_true, beq_iff_eq] at h2
      obtain ⟨_, ok⟩ := I.evs.mem h1
      have := ok.key (by omega)
      omega
    have hcf := hc hl
    unfold confl at hcf
    rw [List.any_eq_false] at hcf
    have := hcf k (List.mem_range.2 hkK)
    rw [Bool.and_eq_true, not_and] at this
    have h1 : (s.ver k).any (fun w => w.t == t) = true := by
      obtain ⟨w, hw1⟩ := List.exists_mem_of_ne_nil (ownL s.ev t k) (by unfold ownL; simpa using hw)
      rw [← unc_own hn' k] at hw1
      rw [List.any_eq_true]
      exact ⟨w, by rw [I.ver]; exact List.mem_append_right _ (List.mem_filter.1 hw1).1, (List.mem_filter.1 hw1).2⟩
    have h2 := this h1
    rw [Bool.not_eq_true, List.any_eq_false] at h2
    have h3 := h2 _ (by rw [I.ver]; exact List.mem_append_left _ hcm)
    simp only [Bool.and_eq_true, bne_iff_ne, ne_eq, decide_eq_true_eq, not_and] at h3
    have h4 := h3 hne
    rw [s1] at h4
    obtain ⟨b, hb1, hb2, _⟩ := bidx_kind s2
    have : j ≠ bidx s.ev t := by rintro rfl; rw [he'] at hb1; cases hb1; omega
    omega
  · rw [comm_snoc, if_pos rfl, unc_snoc_e rfl, I.ver, commitR_eq (fun w hw => ⟨(comm_pos hw).1, fun h => by have := comm_ended hw; rw [h, hn'] at this; cases this⟩) (fun w hw => (mem_unc hw).1), unc_own hn' k]
    congr 2
    unfold ownL
    rw [List.map_map]
    rfl
end
end Go.Proofs.Sc
