/- The calculus, sixth part: a region that draws its order, walked by 'flow'. -/
import Derived.Test.YtinmlgolbikoeaaVE
namespace Go.V
open Go Go.RowKit
section
variable {P : Program} {ops : Array Oper} {E : Rel} {Φ : Facts} {w0 : World} {f0 : Fr}

theorem mem_looks {o : Oper} {t : Nat} (h : Operand.tmp t ∈ o.op.operands) : t ∈ o.looksAt ops :=
  List.mem_append_left _ (List.mem_filterMap.2 ⟨.tmp t, by simpa using h, rfl⟩)
theorem evl_congr {g g' : Nat → Value} {o : Oper} (h : ∀ t ∈ o.looksAt ops, g t = g' t) : ∀ x ∈ o.op.operands, evl g x = evl g' x := by
  intro x hx
  cases x with
  | tmp t => exact h t (mem_looks hx)
  | _ => rfl
theorem wnt_congr {g g' : Nat → Value} {o : Oper} (h : ∀ t ∈ o.looksAt ops, g t = g' t) : wnt ops g o = wnt ops g' o := by
  unfold wnt
  cases hg : o.guard with
  | none => rfl
  | some jb =>
    obtain ⟨j, b⟩ := jb
    dsimp only
    cases hd : dstAt ops j with
    | none => rfl
    | some s =>
      have : s ∈ o.looksAt ops := by
        refine List.mem_append_right _ ?_
        rw [hg]; unfold dstAt at hd
        simp [hd]
      simp only [h s this]
theorem argsV_congr {g g' : Nat → Value} {o : Oper} (h : ∀ t ∈ o.looksAt ops, g t = g' t) : argsV g o = argsV g' o := by
  have h' := evl_congr h
  unfold argsV
  split
  · rename_i c hc
    rw [hc] at h'
    rw [Array.map_congr_left fun x hx => h' x (by simp [Op.operands, Call.operands, hx])]
  · rfl
theorem confB_dst {oi oj : Oper} {d : Nat} (hd : oi.dst = some d) (h : d ∈ oj.looksAt ops ∨ oj.dst = some d) : confB ops oi oj = true := by
  unfold confB
  rcases h with h | h <;> simp [hd, h]
theorem confB_look {oi oj : Oper} {d : Nat} (hd : oj.dst = some d) (h : d ∈ oi.looksAt ops) : confB ops oi oj = true := by
  unfold confB
  simp [hd, h]
theorem dstAt_some {i d : Nat} (h : dstAt ops i = some d) : ∃ o, ops[i]? = some o ∧ o.dst = some d := by
  unfold dstAt at h
  cases ho : ops[i]? with
  | none => simp [ho] at h
  | some o => rw [ho] at h; exact ⟨o, rfl, h⟩

/-- what was computed does not hang on what has not run -/
theorem val_indep (hE : ∀ w, E w w) {n len : Nat} (fo : FlowOk ops len n) {L : Nat → Prop} (hL : ∀ i j, Pre ops i j → L j → L i) {res res' val val' : Nat → Value}
    (hv : ∀ j, j < n → Vok P ops E Φ w0 f0 res val j) (hv' : ∀ j, j < n → Vok P ops E Φ w0 f0 res' val' j) (hr : ∀ j, L j → res j = res' j) :
    ∀ j, j < n → j < ops.size → L j → val j = val' j := by
  intro j
  induction j using Nat.strongRecOn with
  | _ j ih =>
    intro hjn hjs hLj
    have ho : ops[j]? = some ops[j] := by simp [hjs]
    generalize ops[j] = o at ho
    have hlk : ∀ t ∈ o.looksAt ops, lk ops f0 val j t = lk ops f0 val' j t := fun t ht => lk_congr j t fun i hi hd => by
      obtain ⟨oi, hoi, hdi⟩ := dstAt_some hd
      have hp := fo.conf i j oi o hoi ho hi (confB_dst hdi (.inl ht))
      exact ih i hi (by omega) (by omega) (hL i j hp hLj)
    have hw := wnt_congr hlk
    have he : execOp (evl (lk ops f0 val j)) o = execOp (evl (lk ops f0 val' j)) o := execOp_congr o (fun cs b => fo.sel j o cs b ho) (evl_congr hlk)
    have h1 := hv j hjn o ho
    have h2 := hv' j hjn o ho
    rw [← hw, ← he] at h2
    rcases h1 with ⟨a1, a2⟩ | ⟨a1, a2, a3⟩ | ⟨a1, a2, a3, _⟩ <;> rcases h2 with ⟨b1, b2⟩ | ⟨b1, b2, b3⟩ | ⟨b1, b2, b3, _⟩ <;> first
      | (rw [a1] at b1; cases b1; done)
      | (rw [a2] at b2; cases b2; done)
      | skip
    · rw [a2, b2]
    · have h3 := a3 w0 (.inl (hE w0))
      rw [b3 w0 (.inl (hE w0))] at h3
      injection h3 with h4 _
      injection h4 with h5
      exact h5.symm
    · rw [a3, b3]; exact hr j hLj

def mlk (ops : Array Oper) (f0 : Fr) (listed : Array Bool) (val : Nat → Value) : Nat → Nat → Value
  | 0, t => (fget f0 t).den
  | i + 1, t => if listed.getD i false = true ∧ dstAt ops i = some t then val i else mlk ops f0 listed val i t
theorem mlk_lk {listed : Array Bool} {val : Nat → Value} {t : Nat} : ∀ i, (∀ j, j < i → dstAt ops j = some t → listed.getD j false = true) → mlk ops f0 listed val i t = lk ops f0 val i t
  | 0, _ => rfl
  | i + 1, h => by
    simp only [mlk, lk]
    have ih := mlk_lk (val := val) i fun j hj => h j (Nat.lt_succ_of_lt hj)
    by_cases hd : dstAt ops i = some t
    · simp [hd, h i (Nat.lt_succ_self _) hd]
    · simp [hd, ih]
theorem mlk_lk_none {listed : Array Bool} {val : Nat → Value} {t : Nat} (h : ∀ j, listed.getD j false = false) : ∀ {i : Nat}, mlk ops f0 listed val i t = (fget f0 t).den
  | 0 => rfl
  | i + 1 => by
    simp only [mlk]
    rw [if_neg (by rw [h i]; simp), mlk_lk_none h]
theorem mlk_up {listed : Array Bool} {val : Nat → Value} {t i : Nat} : ∀ d, (∀ j, i ≤ j → dstAt ops j = some t → listed.getD j false = false) → mlk ops f0 listed val (i + d) t = mlk ops f0 listed val i t
  | 0, _ => rfl
  | d + 1, h => by
    rw [← Nat.add_assoc]
    simp only [mlk]
    rw [if_neg, mlk_up d h]
    rintro ⟨h1, h2⟩
    rw [h (i + d) (by omega) h2] at h1
    cases h1
theorem mlk_congr {listed : Array Bool} {val val' : Nat → Value} {t : Nat} : ∀ i, (∀ j, j < i → listed.getD j false = true → val j = val' j) → mlk ops f0 listed val i t = mlk ops f0 listed val' i t
  | 0, _ => rfl
  | i + 1, h => by
    simp only [mlk]
    have ih := mlk_congr (t := t) i fun j hj => h j (Nat.lt_succ_of_lt hj)
    split
    · rename_i hc; exact h i (Nat.lt_succ_self _) hc.1
    · exact ih
theorem getD_set_self {listed : Array Bool} {i : Nat} (h : i < listed.size) : (listed.setIfInBounds i true).getD i false = true := by simp [h]
theorem mlk_set {listed : Array Bool} {val : Nat → Value} {t i : Nat} (hi : i < listed.size) : ∀ m, (∀ j, i < j → j < m → dstAt ops j = some t → dstAt ops i = some t → listed.getD j false = false) →
    mlk ops f0 (listed.setIfInBounds i true) val m t = if i < m ∧ dstAt ops i = some t then val i else mlk ops f0 listed val m t
  | 0, _ => by simp [mlk]
  | m + 1, h => by
    have ih := mlk_set (val := val) hi m fun j h1 h2 => h j h1 (by omega)
    simp only [mlk]
    by_cases hmi : m = i
    · subst hmi
      rw [getD_set_self hi]
      by_cases hd : dstAt ops m = some t
      · simp [hd]
      · rw [ih]; simp [hd]
    · rw [getD_set_ne false (Ne.symm hmi), ih]
      by_cases hc : listed.getD m false = true ∧ dstAt ops m = some t
      · rw [if_pos hc, if_neg]
        · simp [hc]
        · rintro ⟨h1, h2⟩
          have := h m (by omega) (by omega) hc.2 h2
          rw [hc.1] at this; cases this
      · rw [if_neg hc, if_neg hc]
        by_cases h3 : i < m ∧ dstAt ops i = some t
        · rw [if_pos h3, if_pos ⟨by omega, h3.2⟩]
        · rw [if_neg h3, if_neg]
          rintro ⟨h1, h2⟩
          exact h3 ⟨by omega, h2⟩

def cnt (listed : Array Bool) : Nat → Nat
  | 0 => 0
  | m + 1 => cnt listed m + if listed.getD m true = false then 1 else 0
theorem cnt_same {listed : Array Bool} {i : Nat} : ∀ m, m ≤ i → cnt (listed.setIfInBounds i true) m = cnt listed m
  | 0, _ => rfl
  | m + 1, h => by
    simp only [cnt]
    rw [cnt_same m (by omega), getD_set_ne true (by omega)]
theorem cnt_set {listed : Array Bool} {i : Nat} (hi : listed.getD i true = false) : ∀ m, i < m → cnt (listed.setIfInBounds i true) m + 1 = cnt listed m
  | m + 1, h => by
    simp only [cnt]
    by_cases hmi : m = i
    · subst hmi
      rw [cnt_same m (Nat.le_refl _), if_pos hi]
      have : (listed.setIfInBounds m true).getD m true = true := by
        by_cases hs : m < listed.size
        · simp [hs]
        · simp [hs]
      rw [if_neg (by rw [this]; simp)]
    · rw [getD_set_ne true (Ne.symm hmi)]
      have := cnt_set hi m (by omega)
      omega
theorem cnt_zero {listed : Array Bool} : ∀ m, cnt listed m = 0 → ∀ j, j < m → listed.getD j true = true
  | m + 1, h, j, hj => by
    simp only [cnt] at h
    by_cases hjm : j = m
    · subst hjm
      cases hb : listed.getD j true with
      | true => rfl
      | false => rw [if_pos hb] at h; omega
    · exact cnt_zero m (by omega) j (by omega)
theorem cnt_all {listed : Array Bool} : ∀ m, (∀ j, j < m → listed.getD j true = true) → cnt listed m = 0
  | 0, _ => rfl
  | m + 1, h => by
    simp only [cnt]
    rw [cnt_all m fun j hj => h j (by omega), if_neg (by rw [h m (Nat.lt_succ_self _)]; simp)]

theorem getD_tf {listed : Array Bool} {j : Nat} (h : j < listed.size) : listed.getD j true = listed.getD j false := by simp [h]

/-- what stands before has run -/
def Closed (ops : Array Oper) (listed : Array Bool) : Prop := ∀ i j, Pre ops i j → listed.getD j false = true → listed.getD i false = true
theorem ready_pre {listed : Array Bool} (hc : Closed ops listed) {i : Nat} (hr : i ∈ Region.ready .any ops listed) {j : Nat} (hp : Pre ops j i) : listed.getD j false = true := by
  obtain ⟨_, o, ho, hall⟩ := mem_ready.1 hr
  cases hp with
  | one ho' he hb hi => rw [ho] at ho'; cases ho'; rw [← hi]; exact hall _ he hb
  | more ho' he hb hi => rw [ho] at ho'; cases ho'; exact hc _ _ hi (hall _ he hb)
theorem Closed.set {listed : Array Bool} (hc : Closed ops listed) {i : Nat} (hr : i ∈ Region.ready .any ops listed) : Closed ops (listed.setIfInBounds i true) := by
  intro k j hp hl
  by_cases hij : i = j
  · subst hij; exact getD_set_true (ready_pre hc hr hp)
  · rw [getD_set_ne false hij] at hl
    exact getD_set_true (hc k j hp hl)
theorem ready_first {n len : Nat} (fo : FlowOk ops len n) {listed : Array Bool} {i : Nat} (hi : i < ops.size) (hl : listed.getD i true = false) (hb : ∀ j, j < i → listed.getD j false = true) :
    i ∈ Region.ready .any ops listed := by
  refine mem_ready.2 ⟨hl, ops[i], by simp [hi], fun e he hbd => hb _ (fo.back i ops[i] e (by simp [hi]) he hbd)⟩
theorem exists_first {p : Nat → Prop} [DecidablePred p] : ∀ m, (∃ i, i < m ∧ ¬ p i) → ∃ i, i < m ∧ ¬ p i ∧ ∀ j, j < i → p j
  | 0, h => by obtain ⟨i, h, _⟩ := h; omega
  | m + 1, h => by
    by_cases h' : ∃ i, i < m ∧ ¬ p i
    · obtain ⟨i, h1, h2, h3⟩ := exists_first m h'
      exact ⟨i, by omega, h2, h3⟩
    · obtain ⟨i, h1, h2⟩ := h
      have : i = m := by
        rcases Nat.lt_or_ge i m with h3 | h3
        · exact absurd ⟨i, h3, h2⟩ h'
        · omega
      subst this
      refine ⟨i, h1, h2, fun j hj => ?_⟩
      by_cases hp : p j
      · exact hp
      · exact absurd ⟨j, hj, hp⟩ h'

theorem isPv_rd {o : Oper} (h : isPv o = true) : isRd o = true := by
  unfold isPv at h
  unfold isRd
  split at h <;> first
    | (rename_i he; rw [he]; done)
    | (rename_i he; simp only [he]; done)
    | cases h
theorem apart_of {x y : Oper} (h : confB ops x y = false) : x.apart ops y = true ∧ y.apart ops x = true := by
  unfold confB at h
  unfold Oper.apart
  cases hx : x.dst <;> cases hy : y.dst <;> simp_all
  intro e; subst e; simp_all
theorem eager {n len : Nat} (fo : FlowOk ops len n) {Q : Exit → Act → World → Prop} (hQ : ∀ c a w, ¬ Q (.panic c) a w) {i : Nat} {oi : Oper} {v : Value} {fuel : Nat} {listed : Array Bool} {a : Act} {w : World}
    (ho : ops[i]? = some oi) (hs : listed.size = ops.size) (hc : Closed ops listed) (hr : i ∈ Region.ready .any ops listed) (hy : Yields P ops oi v a)
    (h : wpAny P .any ops Q fuel (listed.setIfInBounds i true) (a.put oi.dst v) w) : wpAny P .any ops Q (fuel + 1) listed a w := by
  refine wpAny_first ho fo.sel (fun c a w h => absurd h (hQ c _ w)) fuel listed a w ?_ hr hy h
  intro j oj hoj hji hl he
  have hjs := (Array.getElem?_eq_some_iff.1 hoj).1
  rcases Nat.lt_or_ge i j with h' | h'
  · refine (apart_of (x := oi) (y := oj) ?_).1
    cases hcf : confB ops oi oj with
    | false => rfl
    | true =>
      obtain ⟨e, he1, he2, he3⟩ := fo.dir i j oi oj ho hoj h' hcf
      exact absurd he3 (he e he1 he2)
  · refine (apart_of (x := oj) (y := oi) ?_).2
    cases hcf : confB ops oj oi with
    | false => rfl
    | true =>
      have := ready_pre hc hr (fo.conf j i oj oi hoj ho (by omega) hcf)
      rw [← getD_tf (by omega), hl] at this; cases this
theorem tail_run {n len : Nat} (fo : FlowOk ops len n) {Q : Exit → Act → World → Prop} (hQ : ∀ c a w, ¬ Q (.panic c) a w) {all : List Oper} (hall : ∀ j : Nat, all[j]? = ops[j]?) :
    ∀ (l : List Oper) (k fuel : Nat) (listed : Array Bool) (f : Fr) (w : World) (kk : Fr → World → Prop),
    (∀ j, l[j]? = ops[k + j]?) → n ≤ k → listed.size = ops.size → Closed ops listed → (∀ j, j < k → listed.getD j false = true) → (∀ j, k ≤ j → j < ops.size → listed.getD j true = false) →
    cnt listed ops.size = fuel → vcOps P all l f w kk → (∀ f' w', kk f' w' → Agree (dsts l) f f' → Q .normal (act f') w') → wpAny P .any ops Q fuel listed (act f) w
  | [], k, fuel, listed, f, w, kk, hl, hn, hs, hc, h1, h2, hf, h, hk => by
    have hk0 : ops.size ≤ k := by
      rcases Nat.lt_or_ge k ops.size with h' | h'
      · have := hl 0; simp [h'] at this
      · exact h'
    have hr : Region.ready .any ops listed = [] := by
      rw [List.eq_nil_iff_forall_not_mem]
      intro i hi
      obtain ⟨h0, o, ho, _⟩ := mem_ready.1 hi
      have hlt := (Array.getElem?_eq_some_iff.1 ho).1
      rw [getD_tf (by omega), h1 i (by omega)] at h0; cases h0
    have : cnt listed ops.size = 0 := cnt_all _ fun j hj => by rw [getD_tf (by omega)]; exact h1 j (by omega)
    rw [this] at hf; subst hf
    exact ⟨hr, hk f w h (.refl _ _)⟩
  | o :: l, k, fuel, listed, f, w, kk, hl, hn, hs, hc, h1, h2, hf, h, hk => by
    have ho : ops[k]? = some o := by simpa using (hl 0).symm
    have hks : k < ops.size := (Array.getElem?_eq_some_iff.1 ho).1
    have hrk : k ∈ Region.ready .any ops listed := ready_first fo hks (h2 k (Nat.le_refl _) hks) h1
    have hcs := cnt_set (h2 k (Nat.le_refl _) hks) ops.size hks
    obtain ⟨fu, rfl⟩ : ∃ f, fuel = f + 1 := ⟨cnt (listed.setIfInBounds k true) ops.size, by omega⟩
    have next : ∀ (g : Fr) (x : FV) (w' : World), act g = act f → Agree (dsts (o :: l)) f g → force (fput g o.dst x) (fun f' => vcOps P all l f' w' kk) →
        wpAny P .any ops Q fu (listed.setIfInBounds k true) ((act f).put o.dst x.den) w' := by
      intro g x w' hg hag hx
      rw [force_eq] at hx
      rw [← hg, ← act_fput]
      refine tail_run fo hQ hall l (k + 1) fu _ _ w' kk (fun j => by have := hl (j + 1); simpa [Nat.add_assoc, Nat.add_comm 1 j] using this) (by omega) (by simp [hs]) (hc.set hrk) ?_ ?_ (by omega) hx
        fun f' w' hk' hag' => hk f' w' hk' (hag.trans ((Agree.fput fun t ht => mem_dsts ht).trans (hag'.mono fun t ht => dsts_tail ht)))
      · intro j hj
        by_cases hji : k = j
        · subst hji; exact getD_set_self (by omega)
        · rw [getD_set_ne false hji]; exact h1 j (by omega)
      · intro j hj hj'
        rw [getD_set_ne true (by omega)]; exact h2 j (by omega) hj'
    have skip : ∀ g : Fr, act g = act f → Agree (dsts (o :: l)) f g → Region.wanted o (yielded ops (act f).tmps) = false →
        force (fput g o.dst .un) (fun f' => vcOps P all l f' w kk) → wpAny P .any ops Q (fu + 1) listed (act f) w := by
      intro g hg hag hw hx
      exact eager fo hQ ho hs hc hrk (.inr ⟨hw, rfl⟩) (next g .un w hg hag hx)
    have run : ∀ g : Fr, act g = act f → Agree (dsts (o :: l)) f g → Region.wanted o (yielded ops (act f).tmps) = true →
        vcOp P o g w (fun v w' => force (fput g o.dst v) fun f' => vcOps P all l f' w' kk) → wpAny P .any ops Q (fu + 1) listed (act f) w := by
      intro g hg hag hw hx
      by_cases hp : isPv o = true
      · unfold vcOp at hx
        rw [isPv_rd hp] at hx
        obtain ⟨x, hx1, hx2⟩ := vcRd_spec hx
        refine eager fo hQ ho hs hc hrk (.inl ⟨hw, fun w' => ?_⟩) (next g x w hg hag hx2)
        rw [← hg, act_eval]; exact hx1 w' (.inr hp)
      · refine ⟨fun h => by rw [h] at hrk; simp at hrk, fun i hi => ?_⟩
        have hik : i = k := by
          obtain ⟨h0, oi, hoi, _⟩ := mem_ready.1 hi
          have hlt := (Array.getElem?_eq_some_iff.1 hoi).1
          rcases Nat.lt_trichotomy i k with h' | h' | h'
          · rw [getD_tf (by omega), h1 i h'] at h0; cases h0
          · exact h'
          · have := ready_pre hc hi (fo.tail i (by omega) hlt k o h' ho (by simpa using hp))
            rw [← getD_tf (by omega), h2 k (Nat.le_refl _) hks] at this; cases this
        subst hik
        unfold wpOp
        simp only [ho]
        rw [if_pos hw]
        refine .inl (OpOk.wp (k := _) (by rw [← hg, act_eval]; exact vcOp_spec hx) ?_)
        rintro v w' ⟨x, rfl, hx⟩
        exact next g x w' hg hag hx
    unfold vcOps at h
    split at h
    · rename_i hgd
      exact run f rfl (.refl _ _) (by simp [Region.wanted, hgd]) h
    · rename_i j b hgd
      split at h
      · exact h.elim
      · rename_i s hs'
        have hy := yielded_act hall (f := f) hs'
        split at h
        · rename_i c hc'
          have hw : Region.wanted o (yielded ops (act f).tmps) = (c == b) := by
            simp only [Region.wanted, hgd, hy, hc', FV.den]
            cases c <;> cases b <;> rfl
          split at h
          · rename_i he; exact run f rfl (.refl _ _) (hw.trans he) h
          · rename_i he; exact skip f rfl (.refl _ _) (hw.trans he) h
        · rename_i c hc'
          have hw : Region.wanted o (yielded ops (act f).tmps) = (c == b) := by
            simp only [Region.wanted, hgd, hy, hc', FV.den]
            cases c <;> cases b <;> rfl
          have hd : (FV.lit c).den = (fget f s).den := by rw [hc']; rfl
          have hag : Agree (dsts (o :: l)) f (fset f s (.lit c)) := ⟨length_fset _ _ _, fun t _ => fset_same_den hd t⟩
          cases c with
          | true =>
            have h := h.1 rfl
            split at h
            · rename_i he; exact run _ (act_same hd) hag (hw.trans he) h
            · rename_i he; exact skip _ (act_same hd) hag (hw.trans he) h
          | false =>
            have h := h.2 rfl
            split at h
            · rename_i he; exact run _ (act_same hd) hag (hw.trans he) h
            · rename_i he; exact skip _ (act_same hd) hag (hw.trans he) h
        · rename_i hc'
          have hw : Region.wanted o (yielded ops (act f).tmps) = false := by
            simp only [Region.wanted, hgd, hy, hc', FV.den, undef]
            rfl
          exact skip f rfl (.refl _ _) hw h
        · exact h.elim

structure Inv (P : Program) (ops : Array Oper) (E : Rel) (Φ : Facts) (w0 : World) (f0 : Fr) (n : Nat) (listed : Array Bool) (a : Act) (w : World) (res val : Nat → Value) : Prop where
  size : listed.size = ops.size
  closed : Closed ops listed
  tl : ∀ t, n ≤ t → t < ops.size → listed.getD t true = false
  typed : ∀ i o, ops[i]? = some o → ∃ x, res i = (rsOf P o).val x
  ok : ∀ j, j < n → Vok P ops E Φ w0 f0 res val j
  asize : a.tmps.size = f0.length
  adef : a.defers = []
  look : ∀ t, a.tmps.getD t undef = mlk ops f0 listed val ops.size t
  below : E w0 w
  quiet : (∀ i, i < n → listed.getD i false = true → ¬ LW ops f0 val i) → w = w0
  facts : ∀ i, i < n → listed.getD i false = true → LW ops f0 val i → FactAt ops Φ f0 val i w

theorem put_getD {a : Act} {d : Option Nat} {v : Value} {t : Nat} (h : ∀ s, d = some s → s < a.tmps.size) : (a.put d v).tmps.getD t undef = if d = some t then v else a.tmps.getD t undef := by
  cases d with
  | none => simp [Act.put]
  | some s =>
    have := h s rfl
    simp only [Act.put, Array.getD_eq_getD_getElem?, Option.some.injEq, Array.getElem?_setIfInBounds]
    by_cases hs : s = t
    · subst hs; simp [this]
    · simp [hs]
theorem put_size (a : Act) (d : Option Nat) (v : Value) : (a.put d v).tmps.size = a.tmps.size := by cases d <;> simp [Act.put]
theorem put_defers (a : Act) (d : Option Nat) (v : Value) : (a.put d v).defers = a.defers := by cases d <;> rfl

theorem head_run (hE : ∀ w, E w w) (hT : ∀ a b c, E a b → E b c → E a c) {n : Nat} (fo : FlowOk ops f0.length n) (hn : n ≤ ops.size) {Q : Exit → Act → World → Prop} (hQ : ∀ c a w, ¬ Q (.panic c) a w) {T : Act → World → Prop}
    (hTl : ∀ (fuel : Nat) (listed : Array Bool) (a : Act) (w : World), listed.size = ops.size → Closed ops listed → (∀ j, j < n → listed.getD j false = true) → (∀ j, n ≤ j → j < ops.size → listed.getD j true = false) →
      cnt listed ops.size = fuel → T a w → wpAny P .any ops Q fuel listed a w)
    (hΦ : ∀ i as v w w', Φ i as v w → E w w' → Φ i as v w')
    (hrun : ∀ res : Nat → Value, (∀ i o, ops[i]? = some o → ∃ x, res i = (rsOf P o).val x) → ∃ val, (∀ j, j < n → Vok P ops E Φ w0 f0 res val j) ∧
      ∀ (a : Act) (w : World), a.tmps.size = f0.length → a.defers = [] → (∀ t, a.tmps.getD t undef = lk ops f0 val n t) → E w0 w →
        ((∀ i, i < n → ¬ LW ops f0 val i) → w = w0) → (∀ i, i < n → LW ops f0 val i → FactAt ops Φ f0 val i w) → T a w) :
    ∀ (fuel : Nat) (listed : Array Bool) (a : Act) (w : World) (res val : Nat → Value), cnt listed ops.size = fuel → Inv P ops E Φ w0 f0 n listed a w res val → wpAny P .any ops Q fuel listed a w := by
  intro fuel
  induction fuel with
  | zero =>
    intro listed a w res val hc inv
    have hall := cnt_zero _ hc
    have hn0 : n = ops.size := by
      rcases Nat.lt_or_ge n ops.size with h | h
      · have := inv.tl n (Nat.le_refl _) h; rw [hall n h] at this; cases this
      · omega
    obtain ⟨val', hv', hfin⟩ := hrun res inv.typed
    have hind := val_indep hE fo (L := fun j => listed.getD j false = true) inv.closed inv.ok hv' (fun _ _ => rfl)
    have hls : ∀ j, j < ops.size → listed.getD j false = true := fun j hj => by rw [← getD_tf (by rw [inv.size]; exact hj)]; exact hall j hj
    have hvv : ∀ j, j < n → val j = val' j := fun j hj => hind j hj (by omega) (hls j (by omega))
    have hlw : ∀ i, i < n → LW ops f0 val' i → LW ops f0 val i := fun i hi h => LW_congr (fun k hk => (hvv k (by omega)).symm) h
    have := hfin a w inv.asize inv.adef (fun t => by
        rw [inv.look t, ← mlk_lk n (listed := listed) (fun j hj _ => hls j (by omega)), hn0]
        exact mlk_congr _ fun j hj _ => hvv j (by omega)) inv.below
      (fun h => inv.quiet fun i hi _ hl => h i hi (LW_congr (fun k hk => hvv k (by omega)) hl))
      (fun i hi hl => FactAt_congr (fun k hk => hvv k (by omega)) (inv.facts i hi (hls i (by omega)) (hlw i hi hl)))
    exact hTl 0 listed a w inv.size inv.closed (fun j hj => hls j (by omega)) inv.tl hc this
  | succ fuel ih =>
    intro listed a w res val hc inv
    by_cases hheads : ∃ i, i < n ∧ ¬ listed.getD i false = true
    · obtain ⟨i0, h1, h2, h3⟩ := exists_first n hheads
      have hr0 := ready_first fo (i := i0) (by omega) (by rw [getD_tf (by rw [inv.size]; omega)]; simpa using h2) h3
      have main : ∀ i, i ∈ Region.ready .any ops listed → i < n → ∀ o, ops[i]? = some o →
          (∀ v, isPv o = true → Yields P ops o v a → wpAny P .any ops Q fuel (listed.setIfInBounds i true) (a.put o.dst v) w) ∧
          (isPv o = true → ∃ v, Yields P ops o v a) ∧
          wpOp P ops Q i (wpAny P .any ops Q fuel (listed.setIfInBounds i true)) a w := by
       intro i hi hin o ho
       obtain ⟨hu, _, _, _⟩ := mem_ready.1 hi
       have hilt := (Array.getElem?_eq_some_iff.1 ho).1
       have hisz : i < listed.size := by rw [inv.size]; exact hilt
       have huf : listed.getD i false = false := by rw [← getD_tf hisz]; exact hu
       have hdi : dstAt ops i = o.dst := by simp [dstAt, ho]
       have hcs := cnt_set hu ops.size hilt
       have hlater : ∀ j t, i ≤ j → dstAt ops j = some t → (t ∈ o.looksAt ops ∨ o.dst = some t) → listed.getD j false = false := by
         intro j t hij hd ht
         rcases Nat.eq_or_lt_of_le hij with h | h
         · subst h; exact huf
         · obtain ⟨oj, hoj, hdj⟩ := dstAt_some hd
           cases hb : listed.getD j false with
           | false => rfl
           | true =>
             have hcf : confB ops o oj = true := by
               rcases ht with ht | ht
               · exact confB_look hdj ht
               · exact confB_dst ht (.inr hdj)
             have := inv.closed i j (fo.conf i j o oj ho hoj h hcf) hb
             rw [huf] at this; cases this
       have hlook : ∀ t ∈ o.looksAt ops, a.tmps.getD t undef = lk ops f0 val i t := by
         intro t ht
         rw [inv.look t]
         have := mlk_up (ops := ops) (f0 := f0) (val := val) (i := i) (ops.size - i) fun j hij hd => hlater j t hij hd (.inl ht)
         rw [show i + (ops.size - i) = ops.size by omega] at this
         rw [this]
         refine mlk_lk i fun j hj hd => ?_
         obtain ⟨oj, hoj, hdj⟩ := dstAt_some hd
         exact ready_pre inv.closed hi (fo.conf j i oj o hoj ho hj (confB_dst hdj (.inl ht)))
       have hw : Region.wanted o (yielded ops a.tmps) = wnt ops (lk ops f0 val i) o := by rw [wnt_eq]; exact wnt_congr hlook
       have he : execOp a.eval o = execOp (evl (lk ops f0 val i)) o := by
         rw [act_evl]; exact execOp_congr o (fun cs b => fo.sel i o cs b ho) (evl_congr hlook)
       have hdlen : ∀ s, o.dst = some s → s < a.tmps.size := fun s hs => by rw [inv.asize]; exact fo.len i s (by rw [hdi, hs])
       have inv' : ∀ (res' val' : Nat → Value) (w' : World), (∀ i o, ops[i]? = some o → ∃ x, res' i = (rsOf P o).val x) → (∀ j, j < n → Vok P ops E Φ w0 f0 res' val' j) →
           (∀ j, j < ops.size → listed.getD j false = true → val j = val' j) → E w w' → (∀ k, k < n → listed.getD k false = true → LW ops f0 val' k → FactAt ops Φ f0 val' k w') →
           (LW ops f0 val' i → FactAt ops Φ f0 val' i w') → (¬ LW ops f0 val' i → w' = w) →
           Inv P ops E Φ w0 f0 n (listed.setIfInBounds i true) (a.put o.dst (val' i)) w' res' val' := by
         intro res' val' w' ht hok hsame hbw hf hfi hqi
         have hLW : ∀ k, k < n → listed.getD k false = true → (LW ops f0 val k ↔ LW ops f0 val' k) := by
           intro k hk hl
           have : ∀ o, ops[k]? = some o → wnt ops (lk ops f0 val k) o = wnt ops (lk ops f0 val' k) o := fun o' ho' => wnt_congr fun t ht => lk_congr k t fun j hj hd => by
             obtain ⟨oj, hoj, hdj⟩ := dstAt_some hd
             exact hsame j (by omega) (inv.closed j k (fo.conf j k oj o' hoj ho' hj (confB_dst hdj (.inl ht))) hl)
           constructor
           · rintro ⟨o', ho', h1, h2⟩; exact ⟨o', ho', h1, by rw [← this o' ho']; exact h2⟩
           · rintro ⟨o', ho', h1, h2⟩; exact ⟨o', ho', h1, by rw [this o' ho']; exact h2⟩
         refine ⟨by simp [inv.size], inv.closed.set hi, fun t ht' hlt => by rw [getD_set_ne true (by omega)]; exact inv.tl t ht' hlt, ht, hok, by rw [put_size]; exact inv.asize, by rw [put_defers]; exact inv.adef, fun t => ?_,
           hT _ _ _ inv.below hbw, fun hq => ?_, fun k hk hl hlw => ?_⟩
         · rw [put_getD hdlen, mlk_set hisz _ (fun j h1 _ hd hd' => hlater j t (by omega) hd (.inr (by rw [← hdi]; exact hd'))), hdi, inv.look t,
             mlk_congr (val := val) (val' := val') ops.size fun j hj hl => hsame j hj hl]
           by_cases hd : o.dst = some t <;> simp [hd, hilt]
         · have hni : ¬ LW ops f0 val' i := hq i hin (getD_set_self hisz)
           rw [hqi hni]
           refine inv.quiet fun k hk hl hlw => hq k hk (getD_set_true hl) ((hLW k hk hl).1 hlw)
         · by_cases hki : i = k
           · subst hki; exact hfi hlw
           · rw [getD_set_ne false hki] at hl
             exact hf k hk hl hlw
       have keepF : ∀ k, k < n → listed.getD k false = true → LW ops f0 val k → ∀ w', E w w' → FactAt ops Φ f0 val k w' := fun k hk hl hlw w' hb o' ho' =>
         hΦ _ _ _ _ _ (inv.facts k hk hl hlw o' ho') hb
       have hV := inv.ok i hin o ho
       have nl1 : wnt ops (lk ops f0 val i) o = false → ¬ LW ops f0 val i := by rintro v1 ⟨o', ho', _, h4⟩; rw [ho] at ho'; cases ho'; rw [v1] at h4; cases h4
       have nl2 : isRd o = true → ¬ LW ops f0 val i := by rintro v2 ⟨o', ho', h4, _⟩; rw [ho] at ho'; cases ho'; rw [v2] at h4; cases h4
       have stay : ¬ LW ops f0 val i → wpAny P .any ops Q fuel (listed.setIfInBounds i true) (a.put o.dst (val i)) w := fun hnl =>
         ih _ _ _ res val (by omega) (inv' res val w inv.typed inv.ok (fun _ _ _ => rfl) (hE _) (fun k hk hl hlw => inv.facts k hk hl hlw) (fun h => absurd h hnl) (fun _ => rfl))
       have yl : ∀ v, isPv o = true → Yields P ops o v a → v = val i ∧ ¬ LW ops f0 val i := by
         intro v hp hy
         unfold Yields at hy
         rw [hw, he] at hy
         rcases hV with ⟨v1, v2⟩ | ⟨v1, v2, v3⟩ | ⟨v1, v2, v3, v4⟩
         · rcases hy with ⟨y1, _⟩ | ⟨_, y2⟩
           · rw [v1] at y1; cases y1
           · exact ⟨by rw [y2, v2], nl1 v1⟩
         · rcases hy with ⟨_, y2⟩ | ⟨y1, _⟩
           · refine ⟨?_, nl2 v2⟩
             have h3 := v3 w0 (.inl (hE w0))
             rw [y2 w0] at h3
             injection h3 with h4 _
             injection h4 with h5
           · rw [v1] at y1; cases y1
         · rw [isPv_rd hp] at v2; cases v2
       refine ⟨fun v hp hy => ?_, fun hp => ?_, ?_⟩
       · obtain ⟨rfl, hnl⟩ := yl v hp hy
         exact stay hnl
       · rcases hV with ⟨v1, v2⟩ | ⟨v1, v2, v3⟩ | ⟨v1, v2, v3, v4⟩
         · exact ⟨_, .inr ⟨by rw [hw, v1], rfl⟩⟩
         · exact ⟨val i, .inl ⟨by rw [hw, v1], fun w' => by rw [he]; exact v3 w' (.inr hp)⟩⟩
         · rw [isPv_rd hp] at v2; cases v2
       · rcases hV with ⟨v1, v2⟩ | ⟨v1, v2, v3⟩ | ⟨v1, v2, v3, v4⟩
         · unfold wpOp
           simp only [ho]
           rw [if_neg (by rw [hw, v1]; simp), ← v2]
           exact stay (nl1 v1)
         · unfold wpOp
           simp only [ho]
           rw [if_pos (by rw [hw, v1])]
           refine .inl ?_
           unfold Oper.wp
           rw [he, v3 w (.inl inv.below)]
           simp only [Oper.upon_value]
           exact stay (nl2 v2)
         · unfold wpOp
           simp only [ho]
           rw [if_pos (by rw [hw, v1])]
           refine .inl ?_
           have hob := v4 w inv.below fun k hk hp hlw => inv.facts k (by omega) (ready_pre inv.closed hi hp) hlw
           rw [← he] at hob
           refine hob.wp ?_
           rintro v w' ⟨⟨x, hx⟩, hbw, hphi⟩
           have htyped : ∀ k o', ops[k]? = some o' → ∃ x, (upd res i v) k = (rsOf P o').val x := by
             intro k o' ho'
             by_cases hk : k = i
             · subst hk; rw [ho] at ho'; cases ho'; exact ⟨x, by simp [upd, hx]⟩
             · obtain ⟨y, hy⟩ := inv.typed k o' ho'; exact ⟨y, by simp [upd, hk, hy]⟩
           obtain ⟨val', hv', _⟩ := hrun (upd res i v) htyped
           have hind := val_indep hE fo (L := fun j => listed.getD j false = true) inv.closed inv.ok hv' (fun j hj => by
             have hne : j ≠ i := by rintro rfl; rw [huf] at hj; cases hj
             simp [upd, hne])
           have hsame : ∀ j, j < ops.size → listed.getD j false = true → val j = val' j := by
             intro j hj hl
             have hjn : j < n := by
               rcases Nat.lt_or_ge j n with h | h
               · exact h
               · have := inv.tl j h hj; rw [getD_tf (by rw [inv.size]; exact hj), hl] at this; cases this
             exact hind j hjn hj hl
           have hlk' : ∀ t ∈ o.looksAt ops, lk ops f0 val i t = lk ops f0 val' i t := fun t ht => lk_congr i t fun j hj hd => by
             obtain ⟨oj, hoj, hdj⟩ := dstAt_some hd
             exact hsame j (by omega) (ready_pre inv.closed hi (fo.conf j i oj o hoj ho hj (confB_dst hdj (.inl ht))))
           have hvi : val' i = v := by
             rcases hv' i hin o ho with ⟨b1, _⟩ | ⟨_, b2, _⟩ | ⟨_, _, b3, _⟩
             · rw [← wnt_congr hlk', v1] at b1; cases b1
             · rw [v2] at b2; cases b2
             · rw [b3]; simp [upd]
           refine ih _ _ _ (upd res i v) val' (by omega) ?_
           have hI := inv' (upd res i v) val' w' htyped hv' hsame hbw ?_ ?_ ?_
           · rw [hvi] at hI; exact hI
           · intro k hk hl hlw o' ho'
             have hlkk : ∀ t ∈ o'.looksAt ops, lk ops f0 val k t = lk ops f0 val' k t := fun t ht => lk_congr k t fun j hj hd => by
               obtain ⟨oj, hoj, hdj⟩ := dstAt_some hd
               exact hsame j (by omega) (inv.closed j k (fo.conf j k oj o' hoj ho' hj (confB_dst hdj (.inl ht))) hl)
             have hlw0 : LW ops f0 val k := by
               obtain ⟨o2, ho2, h5, h6⟩ := hlw
               rw [ho'] at ho2; cases ho2
               exact ⟨o', ho', h5, by rw [wnt_congr hlkk]; exact h6⟩
             have := keepF k hk hl hlw0 w' hbw o' ho'
             rw [argsV_congr hlkk, hsame k (by omega) hl] at this
             exact this
           · intro _ o' ho'
             rw [ho] at ho'; cases ho'
             rw [← argsV_congr hlk', hvi]; exact hphi
           · intro hnl
             exact absurd ⟨o, ho, v2, by rw [← wnt_congr hlk']; exact v1⟩ hnl
      by_cases hpv : ∃ i, i < n ∧ i ∈ Region.ready .any ops listed ∧ ∃ o, ops[i]? = some o ∧ isPv o = true
      · obtain ⟨i, hin, hi, o, ho, hp⟩ := hpv
        obtain ⟨m1, m2, _⟩ := main i hi hin o ho
        obtain ⟨v, hv⟩ := m2 hp
        exact eager fo hQ ho inv.size inv.closed hi hv (m1 v hp hv)
      · refine ⟨fun h => by rw [h] at hr0; simp at hr0, fun i hi => ?_⟩
        obtain ⟨_, o, ho, _⟩ := mem_ready.1 hi
        have hilt := (Array.getElem?_eq_some_iff.1 ho).1
        have hin : i < n := by
          rcases Nat.lt_or_ge i n with h | h
          · exact h
          · have hi0 : ops[i0]? = some ops[i0] := by simp
            have hnp : isPv ops[i0] = false := by
              cases hp : isPv ops[i0] with
              | false => rfl
              | true => exact absurd ⟨i0, h1, hr0, _, hi0, hp⟩ hpv
            exact absurd (ready_pre inv.closed hi (fo.tail i h hilt i0 _ (by omega) hi0 hnp)) h2
        exact (main i hi hin o ho).2.2
    · have hls : ∀ j, j < n → listed.getD j false = true := fun j hj => by
        cases hb : listed.getD j false with
        | true => rfl
        | false => exact absurd ⟨j, hj, by rw [hb]; simp⟩ hheads
      obtain ⟨val', hv', hfin⟩ := hrun res inv.typed
      have hind := val_indep hE fo (L := fun j => listed.getD j false = true) inv.closed inv.ok hv' (fun _ _ => rfl)
      have hvv : ∀ j, j < n → val j = val' j := fun j hj => hind j hj (by omega) (hls j (by omega))
      have hlw : ∀ i, i < n → LW ops f0 val' i → LW ops f0 val i := fun i hi h => LW_congr (fun k hk => (hvv k (by omega)).symm) h
      have hmn : ∀ t, mlk ops f0 listed val ops.size t = lk ops f0 val' n t := by
        intro t
        have h1 := mlk_up (ops := ops) (f0 := f0) (val := val) (t := t) (i := n) (ops.size - n) (listed := listed) fun j hij hd => by
          obtain ⟨oj, hoj, _⟩ := dstAt_some hd
          have hlt := (Array.getElem?_eq_some_iff.1 hoj).1
          rw [← getD_tf (by rw [inv.size]; exact hlt)]; exact inv.tl j hij hlt
        rw [show n + (ops.size - n) = ops.size by omega] at h1
        rw [h1, mlk_lk n fun j hj _ => hls j hj]
        exact lk_congr n t fun j hj _ => hvv j hj
      have := hfin a w inv.asize inv.adef (fun t => by rw [inv.look t, hmn]) inv.below
        (fun h => inv.quiet fun i hi _ hl => h i hi (LW_congr (fun k hk => hvv k (by omega)) hl))
        (fun i hi hl => FactAt_congr (fun k hk => hvv k (by omega)) (inv.facts i hi (hls i (by omega)) (hlw i hi hl)))
      exact hTl _ listed a w inv.size inv.closed hls inv.tl hc this
end
end Go.V
