/- The calculus, eighth part: the conditions suffice. -/
import Derived.Test.YtinmlgolbikoeaaVG
namespace Go.V
open Go Go.RowKit

def lval : (l : List (Nat × VS)) → LVT l → (Nat → Value) → Nat → Value
  | [], _, base, t => base t
  | s :: l, x, base, t => lval l x.2 (fun t => if s.1 = t then s.2.val x.1 else base t) t
theorem LVset_spec : ∀ {l : List (Nat × VS)} {x : LVT l} {f : Fr} {k : Fr → Prop}, LVset l x f k →
    ∃ g, k g ∧ g.length = f.length ∧ ∀ t, t < f.length → (fget g t).den = lval l x (fun t => (fget f t).den) t
  | [], _, f, _, h => ⟨f, h, rfl, fun _ _ => rfl⟩
  | s :: l, x, f, k, h => by
    obtain ⟨y, hy, h1⟩ := kv_spec (show kv (fun y => LVset l x.2 (fset f s.1 y) k) (s.2.val x.1) from h)
    obtain ⟨g, h2, h3, h4⟩ := LVset_spec h1
    refine ⟨g, h2, by rw [h3, length_fset], fun t ht => ?_⟩
    rw [h4 t (by rw [length_fset]; exact ht)]
    simp only [lval]
    have key : ∀ (l : List (Nat × VS)) (x : LVT l) (b b' : Nat → Value), (∀ t, t < f.length → b t = b' t) → ∀ t, t < f.length → lval l x b t = lval l x b' t := by
      intro l
      induction l with
      | nil => intro x b b' hb t ht; exact hb t ht
      | cons s l ih =>
        intro x b b' hb t ht
        simp only [lval]
        refine ih x.2 _ _ (fun t ht => ?_) t ht
        split
        · rfl
        · exact hb t ht
    refine key l x.2 _ _ (fun t ht => ?_) t ht
    rw [fget_fset]
    by_cases hs : s.1 = t
    · subst hs; rw [if_pos ⟨rfl, ht⟩, if_pos rfl, hy]
    · rw [if_neg (fun h => hs h.1), if_neg hs]
theorem LVun_val : ∀ {l : List (Nat × VS)} {f : Fr} {p : LVT l → Prop}, LVun l f p → ∃ x, p x ∧ ∀ base t, lval l x base t = if has l t = true then (fget f t).den else base t
  | [], f, p, h => ⟨(), h, fun base t => by simp [lval, has]⟩
  | s :: l, f, p, h => by
    obtain ⟨x, hx, h1⟩ := VS.un_spec (show s.2.un (fget f s.1).den (fun x => LVun l f fun y => p (x, y)) from h)
    obtain ⟨y, h2, h3⟩ := LVun_val h1
    refine ⟨(x, y), h2, fun base t => ?_⟩
    simp only [lval]
    rw [h3]
    by_cases h4 : has l t = true
    · rw [if_pos h4, if_pos (by simp only [has, List.any_cons] at *; simp [h4])]
    · rw [if_neg h4]
      by_cases h5 : s.1 = t
      · subst h5
        rw [if_pos rfl, if_pos (by simp [has]), hx]
      · rw [if_neg h5, if_neg]
        simp only [has, List.any_cons, Bool.or_eq_true, beq_iff_eq] at *
        rintro (h6 | h6)
        · exact h5 h6
        · exact h4 h6
theorem mem_dead {l : List (Nat × VS)} {a : List Nat} {t : Nat} : t ∈ dead l a ↔ t ∈ a ∧ has l t = false := by
  simp [dead, List.mem_filter]
theorem live_mem {l : List (Nat × VS)} {a : List Nat} (h : liveOk l a = true) {t : Nat} (ht : has l t = true) : t ∈ a := by
  simp only [has, List.any_eq_true, beq_iff_eq] at ht
  obtain ⟨p, hp, rfl⟩ := ht
  have := List.all_eq_true.1 h p hp
  simpa using this
/-- a frame that is as f but for slots of a, handed on by its live slots and whatever the others hold -/
theorem hand_on {live : List (Nat × VS)} {a : List Nat} (_hl : liveOk live a = true) {f f' : Fr} (hag : Agree a f f') {p : LVT live → Prop} (h : LVun live f' p) :
    ∃ x, p x ∧ ∀ k : Fr → Prop, LVset live x (havoc (dead live a) (fun s => (fget f' s).den) f) k → ∃ g, k g ∧ act g = act f' := by
  obtain ⟨x, hx, hv⟩ := LVun_val h
  refine ⟨x, hx, fun k hk => ?_⟩
  obtain ⟨g, h1, h2, h3⟩ := LVset_spec hk
  rw [length_havoc] at h2 h3
  refine ⟨g, h1, act_ext (h2.trans hag.1.symm) fun t => ?_⟩
  by_cases ht : t < f.length
  · rw [h3 t ht, hv]
    by_cases hb : has live t = true
    · rw [if_pos hb]
    · rw [if_neg hb, havoc_den]
      by_cases hd : t ∈ dead live a
      · rw [if_pos ⟨hd, ht⟩]
      · rw [if_neg (fun h => hd h.1)]
        refine (hag.2 t fun hm => hd (mem_dead.2 ⟨hm, by simpa using hb⟩)).symm
  · rw [fget_out (f := g) (by omega), fget_out (f := f') (by rw [hag.1]; omega)]
theorem head_agree {live : List (Nat × VS)} {a : List Nat} (hl : liveOk live a = true) {f : Fr} {x : LVT live} {d : Nat → Value} {k : Fr → Prop}
    (hk : LVset live x (havoc (dead live a) d f) k) : ∃ g, k g ∧ Agree a f g ∧ ∀ base t, t < f.length → has live t = true → (fget g t).den = lval live x base t := by
  obtain ⟨g, h1, h2, h3⟩ := LVset_spec hk
  rw [length_havoc] at h2 h3
  have key : ∀ (l : List (Nat × VS)) (x : LVT l) (b b' : Nat → Value) (t : Nat), (has l t = true → lval l x b t = lval l x b' t) ∧ (has l t = false → lval l x b t = b t) := by
    intro l
    induction l with
    | nil => intro x b b' t; exact ⟨fun h => by simp [has] at h, fun _ => rfl⟩
    | cons s l ih =>
      intro x b b' t
      simp only [lval]
      by_cases hb : has l t = true
      · refine ⟨fun _ => (ih x.2 _ _ t).1 hb, fun h => ?_⟩
        simp only [has, List.any_cons, Bool.or_eq_false_iff] at h hb
        rw [hb] at h; cases h.2
      · have hb' : has l t = false := by simpa using hb
        rw [(ih x.2 _ (fun t => if s.1 = t then s.2.val x.1 else b' t) t).2 hb', (ih x.2 (fun t => if s.1 = t then s.2.val x.1 else b' t) b t).2 hb']
        refine ⟨fun h => ?_, fun h => ?_⟩
        · have hs : s.1 = t := by
            simp only [has, List.any_cons, Bool.or_eq_true, beq_iff_eq] at h hb
            rcases h with h | h
            · exact h
            · exact absurd h hb
          rw [if_pos hs, if_pos hs]
        · have hs : ¬ s.1 = t := by
            simp only [has, List.any_cons, Bool.or_eq_false_iff, beq_eq_false_iff_ne] at h
            exact h.1
          rw [if_neg hs]
  refine ⟨g, h1, ⟨h2, fun t ht => ?_⟩, fun base t ht hb => ?_⟩
  · by_cases hlt : t < f.length
    · have hb : has live t = false := by
        cases hb : has live t with
        | false => rfl
        | true => exact absurd (live_mem hl hb) ht
      rw [h3 t hlt, (key live x _ (fun _ => undef) t).2 hb, havoc_den, if_neg]
      rintro ⟨h4, _⟩
      exact ht (mem_dead.1 h4).1
    · rw [fget_out (f := g) (by omega), fget_out (f := f) (by omega)]
  · rw [h3 t ht]; exact (key live x _ _ t).1 hb

def Qd (Q : Ks) (S : List Nat) (f0 : Fr) : Exit → Act → World → Prop
  | .normal, a, w => ∃ f, a = act f ∧ Agree S f0 f ∧ Q.nx f w
  | .exit i, a, w => ∃ f, a = act f ∧ Agree S f0 f ∧ Q.ex i f w
  | .ret, a, w => ∃ f, a = act f ∧ Agree S f0 f ∧ Q.rt f w
  | _, _, _ => False

theorem least {p : Nat → Prop} (h : ∃ n, p n) : ∃ n, p n ∧ ∀ m, p m → n ≤ m := by
  obtain ⟨n, hn⟩ := h
  induction n using Nat.strongRecOn with
  | _ n ih =>
    by_cases h : ∃ m, m < n ∧ p m
    · obtain ⟨m, h1, h2⟩ := h; exact ih m h1 h2
    · exact ⟨n, hn, fun m hm => Nat.le_of_not_lt fun h' => h ⟨m, h', hm⟩⟩
open Classical in
theorem wp_loop_of {P : Program} {Q : Exit → Act → World → Prop} {T : Type} {c : Code} (I : T → Act → World → Prop) (μ : T → World → Nat) {x0 : T} {a : Act} {w : World} (h0 : I x0 a w)
    (round : ∀ x a w, I x a w → c.wp P (Exit.then (fun a' w' => ∃ x', I x' a' w' ∧ μ x' w' < μ x w) Q) a w) : (Code.loop c).wp P Q a w := by
  let p : Act → World → Nat → Prop := fun a w n => ∃ x, I x a w ∧ μ x w = n
  let ν : Act → World → Nat := fun a w => if h : ∃ n, p a w n then Classical.choose (least h) else 0
  have hν : ∀ a w, (∃ n, p a w n) → p a w (ν a w) ∧ ∀ m, p a w m → ν a w ≤ m := by
    intro a w h
    simp only [ν, dif_pos h]
    exact Classical.choose_spec (least h)
  refine wp_loop (fun a w => ∃ x, I x a w) ν ⟨x0, h0⟩ fun a w ⟨x, hx⟩ => ?_
  obtain ⟨⟨y, hy, hy2⟩, _⟩ := hν a w ⟨_, x, hx, rfl⟩
  refine Go.wp_mono (round y a w hy) ?_
  intro e a' w' hq
  cases e with
  | normal =>
    obtain ⟨x', h1, h2⟩ := hq
    refine ⟨⟨x', h1⟩, ?_⟩
    have := (hν a' w' ⟨_, x', h1, rfl⟩).2 _ ⟨x', h1, rfl⟩
    omega
  | _ => exact hq

theorem Qd_mono {Q : Ks} {S S' : List Nat} {f0 f1 : Fr} (hag : Agree S' f0 f1) (hs : ∀ t ∈ S, t ∈ S') {e : Exit} {a : Act} {w : World} (h : Qd Q S f1 e a w) : Qd Q S' f0 e a w := by
  cases e <;> simp only [Qd] at h ⊢ <;> try exact h
  · obtain ⟨f, h1, h2, h3⟩ := h; exact ⟨f, h1, hag.trans (h2.mono hs), h3⟩
  · obtain ⟨f, h1, h2, h3⟩ := h; exact ⟨f, h1, hag.trans (h2.mono hs), h3⟩
  · obtain ⟨f, h1, h2, h3⟩ := h; exact ⟨f, h1, hag.trans (h2.mono hs), h3⟩
theorem Agree.of_same {S : List Nat} {f g g' : Fr} (h : Agree S f g) (e : act g' = act g) : Agree S f g' := by
  have hl : g'.length = g.length := by rw [← size_act, e, size_act]
  refine ⟨hl.trans h.1, fun t ht => ?_⟩
  rw [← h.2 t ht, ← den_fget, ← den_fget, e]

theorem vc_sound {P : Program} {H : Hints} (hm : P.follows .mixedOrders = true) : ∀ (c : Code) (bid : Nat) (Q : Ks) (f : Fr) (w : World), vc P H c bid Q f w → c.wp P (Qd Q (asg c) f) (act f) w := by
  intro c
  induction c with
  | skip => intro bid Q f w h; exact wp_skip ⟨f, rfl, .refl _ _, h⟩
  | region id ops draw =>
    intro bid Q f w h
    cases draw with
    | false => exact wp_region_list (vcOps_spec (fun j => by simp) _ f w Q.nx h fun f' w' hk hag => ⟨f', rfl, hag, hk⟩)
    | true => exact vcDraw_spec hm (fun _ _ _ h => h) h fun f' w' hk hag => ⟨f', rfl, hag, hk⟩
  | seq a b iha ihb =>
    intro bid Q f w h
    unfold vc at h
    split at h
    · rename_i live _
      split at h
      · rename_i hl
        refine wp_seq (Go.wp_mono (iha bid _ f w h) ?_)
        intro e a' w' hq
        have out : ∀ {e}, e ≠ .normal → Qd { Q with nx := fun f' w' => LVun live f' fun x => (∀ d, LVset live x (havoc (dead live (asg a)) d f) fun f' => force f' fun f' => vc P H b bid Q f' w') } (asg a) f e a' w' →
            Qd Q (asg (.seq a b)) f e a' w' := by
          intro e hne hq
          cases e <;> simp only [Qd] at hq ⊢ <;> first
            | exact absurd rfl hne
            | exact hq
            | (obtain ⟨g, h1, h2, h3⟩ := hq; exact ⟨g, h1, h2.mono fun t ht => List.mem_append_left _ ht, h3⟩)
        cases e with
        | normal =>
          obtain ⟨f', rfl, hag, hk⟩ := hq
          obtain ⟨x, hx, hon⟩ := hand_on hl hag hk
          obtain ⟨g, hg, hge⟩ := hon _ (hx _)
          rw [force_eq] at hg
          rw [Exit.then, ← hge]
          refine Go.wp_mono (ihb bid Q g w' hg) fun e a w hq => ?_
          exact Qd_mono ((hag.of_same hge).mono fun t ht => List.mem_append_left _ ht) (fun t ht => List.mem_append_right _ ht) hq
        | exit i => exact out (by simp) hq
        | ret => exact out (by simp) hq
        | goto l => exact hq
        | panic ch => exact hq
        | outgrown => exact hq
      · exact h.elim
    · refine wp_seq (Go.wp_mono (iha bid _ f w h) ?_)
      intro e a' w' hq
      cases e with
      | normal =>
        obtain ⟨f', rfl, hag, hk⟩ := hq
        refine Go.wp_mono (ihb bid Q f' w' hk) fun e a w hq => ?_
        exact Qd_mono (hag.mono fun t ht => List.mem_append_left _ ht) (fun t ht => List.mem_append_right _ ht) hq
      | exit i => obtain ⟨g, h1, h2, h3⟩ := hq; exact ⟨g, h1, h2.mono fun t ht => List.mem_append_left _ ht, h3⟩
      | ret => obtain ⟨g, h1, h2, h3⟩ := hq; exact ⟨g, h1, h2.mono fun t ht => List.mem_append_left _ ht, h3⟩
      | goto l => exact hq
      | panic ch => exact hq
      | outgrown => exact hq
  | cond c x y ihx ihy =>
    intro bid Q f w h
    unfold vc at h
    have hev : (act f).eval c = (fop f c).den := by rw [act_eval]; rfl
    split at h
    · rename_i hc
      refine wp_cond_true (by rw [hev, hc]; rfl) (Go.wp_mono (ihx bid Q f w h) fun e a w hq => ?_)
      exact Qd_mono (.refl _ _) (fun t ht => List.mem_append_left _ ht) hq
    · rename_i hc
      refine wp_cond_false (by rw [hev, hc]; rfl) (Go.wp_mono (ihy bid Q f w h) fun e a w hq => ?_)
      exact Qd_mono (.refl _ _) (fun t ht => List.mem_append_right _ ht) hq
    · rename_i b hc
      cases b with
      | true =>
        have h1 := h.1 rfl
        rw [force_eq] at h1
        have he := act_learn (b := true) hc
        have := ihx bid Q _ w h1
        rw [he] at this
        refine wp_cond_true (by rw [hev, hc]; rfl) (Go.wp_mono this fun e a w hq => ?_)
        exact Qd_mono (Agree.of_same (.refl _ _) he) (fun t ht => List.mem_append_left _ ht) hq
      | false =>
        have h1 := h.2 rfl
        rw [force_eq] at h1
        have he := act_learn (b := false) hc
        have := ihy bid Q _ w h1
        rw [he] at this
        refine wp_cond_false (by rw [hev, hc]; rfl) (Go.wp_mono this fun e a w hq => ?_)
        exact Qd_mono (Agree.of_same (.refl _ _) he) (fun t ht => List.mem_append_right _ ht) hq
    · exact h.elim
  | block id c ih =>
    intro bid Q f w h
    refine wp_block (Go.wp_mono (ih id _ f w h) ?_)
    intro e a w hq
    cases e with
    | exit i =>
      obtain ⟨g, h1, h2, h3⟩ := hq
      dsimp only at h3
      by_cases hi : i = id
      · subst hi
        simp only [beq_self_eq_true] at h3
        simp only [Exit.inBlock, if_true]
        exact ⟨g, h1, h2, h3⟩
      · have : (i == id) = false := by simpa using hi
        simp only [this] at h3
        simp only [Exit.inBlock, if_neg hi]
        exact ⟨g, h1, h2, h3⟩
    | _ => exact hq
  | loop c ih =>
    intro bid Q f w h
    unfold vc at h
    split at h
    · rename_i live _
      split at h
      · rename_i hl
        obtain ⟨x0, hx0, hon0⟩ := hand_on hl (Agree.refl (asg c) f) h
        obtain ⟨I, μ, hI0, hround⟩ := hx0
        refine wp_loop_of (T := LVT live) (fun x a w => I x w ∧ ∃ g, a = act g ∧ Agree (asg c) f g ∧ (force g fun f' => vc P H c bid { Q with nx := fun f' w' => LVun live f' fun x' => I x' w' ∧ μ x' w' < μ x w } f' w)) μ (x0 := x0) ?_ ?_
        · obtain ⟨g, hg, hge⟩ := hon0 _ (hround x0 w hI0 _)
          exact ⟨hI0, g, hge.symm, Agree.of_same (.refl _ _) hge, hg⟩
        · rintro x a w ⟨hI, g, rfl, hag, hg⟩
          rw [force_eq] at hg
          refine Go.wp_mono (ih bid _ g w hg) ?_
          intro e a' w' hq
          cases e with
          | normal =>
            obtain ⟨f', rfl, hag', hk⟩ := hq
            obtain ⟨x', ⟨hI', hlt⟩, hon⟩ := hand_on hl (hag.trans hag') hk
            obtain ⟨g', hg', hge'⟩ := hon _ (hround x' w' hI' _)
            exact ⟨x', ⟨hI', g', hge'.symm, Agree.of_same (hag.trans hag') hge', hg'⟩, hlt⟩
          | exit i => obtain ⟨g2, h1, h2, h3⟩ := hq; exact ⟨g2, h1, hag.trans h2, h3⟩
          | ret => obtain ⟨g2, h1, h2, h3⟩ := hq; exact ⟨g2, h1, hag.trans h2, h3⟩
          | goto l => exact hq
          | panic ch => exact hq
          | outgrown => exact hq
      · exact h.elim
    · exact h.elim
  | exit id => intro bid Q f w h; exact wp_exit ⟨f, rfl, .refl _ _, h⟩
  | ret => intro bid Q f w h; exact wp_ret ⟨f, rfl, .refl _ _, h⟩
  | _ => intro bid Q f w h; exact h.elim

/-! ### a function -/
/-- the results are read; R of what is returned -/
def vcRes (P : Program) (f : Fr) (w : World) (R : Value → World → Prop) : List ResultVar → List TypeId → List Value → Prop
  | [], _, [v] => kv (fun v => R v.den w) v
  | [], _, vs => R (.tuple vs.reverse.toArray) w
  | .tmp t :: rs, _ :: ts, vs => kf (fun v => vcRes P f w R rs ts (v.den :: vs)) (fget f t)
  | .cell a t :: rs, _ :: ts, vs => match fget f a with
    | .val (.pointer (some ad)) => rd P (loadVar t ad) (tyVS P t) w fun x => kv (fun v => vcRes P f w R rs ts (v.den :: vs)) ((tyVS P t).val x)
    | _ => False
  | _, _, _ => False
def putArgs : List Value → Nat → Tr → Tr
  | [], _, t => t
  | v :: l, i, t => putArgs l (i + 1) (tset 16 t i (.val v))
def vcFn (P : Program) (H : Hints) (fn : Func) (args : List Value) (w : World) (R : Value → World → Prop) : Prop :=
  match fn.body with
  | some c => match decEq (Nat.ble fn.ntmps 65534 && Nat.ble args.length fn.ntmps) true with
    | .isTrue h => vc P H c 0 ⟨fun f w => vcRes P f w R fn.results.toList fn.resultTypes.toList [], fun _ _ _ => False, fun f w => vcRes P f w R fn.results.toList fn.resultTypes.toList []⟩
        ⟨fn.ntmps, by simp only [Bool.and_eq_true, Nat.ble_eq] at h; exact h.1, putArgs args 0 .leaf⟩ w
    | .isFalse _ => False
  | none => False
theorem tget_leaf : ∀ (k i : Nat), tget k .leaf i = .un
  | 0, _ => rfl
  | k + 1, i => by
    cases i with
    | zero => rfl
    | succ i =>
      simp only [tget, Tr.left, Tr.right]
      split <;> exact tget_leaf k _
theorem putArgs_get : ∀ (l : List Value) (i : Nat) (t : Tr) (j : Nat), i + l.length ≤ 65534 → tget 16 (putArgs l i t) j = if i ≤ j ∧ j < i + l.length then .val (l.getD (j - i) undef) else tget 16 t j
  | [], i, t, j, _ => by
    simp only [putArgs, List.length_nil, Nat.add_zero]
    rw [if_neg (by omega)]
  | v :: l, i, t, j, h => by
    simp only [List.length_cons] at h
    simp only [putArgs, List.length_cons]
    rw [putArgs_get l (i + 1) _ j (by omega), tget_tset 16 t i j _ (by show i + 1 < 65536; omega)]
    by_cases h1 : i + 1 ≤ j ∧ j < i + 1 + l.length
    · rw [if_pos h1, if_pos (by omega)]
      obtain ⟨k, hk⟩ : ∃ k, j - i = k + 1 := ⟨j - i - 1, by omega⟩
      rw [hk, show j - (i + 1) = k by omega]; rfl
    · rw [if_neg h1]
      by_cases h2 : i = j
      · subst h2; rw [if_pos rfl, if_pos (by omega)]; simp
      · rw [if_neg h2, if_neg (by omega)]
theorem act_pad {args : List Value} {n : Nat} (h : n ≤ 65534) (ha : args.length ≤ n) : act ⟨n, h, putArgs args 0 .leaf⟩ = { tmps := args.toArray ++ Array.replicate (n - args.toArray.size) undef, defers := [] } := by
  refine (eq_act (by simp; omega) rfl fun t => ?_).symm
  by_cases ht : t < n
  · rw [fget_in (f := ⟨n, h, putArgs args 0 .leaf⟩) ht, putArgs_get args 0 .leaf t (by omega), tget_leaf]
    by_cases h1 : t < args.length
    · rw [if_pos ⟨Nat.zero_le _, by omega⟩]
      simp [FV.den, Array.getElem?_append, h1]
    · rw [if_neg (by omega)]
      simp [FV.den, Array.getElem?_append, h1]
      have h2 : t - args.length < n - args.length := by omega
      simp [h2]
  · rw [fget_out (f := ⟨n, h, putArgs args 0 .leaf⟩) (by show n ≤ t; omega)]
    have h2 : ¬ t < args.length := by omega
    have h3 : ¬ t - args.length < n - args.length := by omega
    simp [FV.den, Array.getElem?_append, h2, h3]
def resSem (a : Act) : ResultVar → Sem Value
  | .tmp t => pure (a.tmps.getD t undef)
  | .cell c t => do loadVar t (← asAddr (a.tmps.getD c undef))
theorem vcRes_spec {P : Program} {f : Fr} {w : World} {R : Value → World → Prop} : ∀ (rs : List ResultVar) (ts : List TypeId) (vs : List Value), vcRes P f w R rs ts vs →
    ∃ us, (rs.mapM (resSem (act f))).run P w = .ok us w ∧ R (if (vs.reverse ++ us).length = 1 then (vs.reverse ++ us).getD 0 undef else .tuple (vs.reverse ++ us).toArray) w
  | [], ts, [v], h => by
    obtain ⟨x, rfl, hx⟩ := kv_spec (show kv (fun v => R v.den w) v from h)
    exact ⟨[], rfl, by simpa using hx⟩
  | [], ts, [], h => ⟨[], rfl, by simpa [vcRes] using h⟩
  | [], ts, u :: v :: vs, h => ⟨[], rfl, by
      have h' : R (.tuple (u :: v :: vs).reverse.toArray) w := h
      simpa using h'⟩
  | .tmp t :: rs, [], vs, h => by simp [vcRes] at h
  | .cell a t :: rs, [], vs, h => by simp [vcRes] at h
  | .tmp t :: rs, ty :: ts, vs, h => by
    obtain ⟨x, hx, h1⟩ := kf_spec (show kf (fun v => vcRes P f w R rs ts (v.den :: vs)) (fget f t) from h)
    obtain ⟨us, h2, h3⟩ := vcRes_spec rs ts _ h1
    refine ⟨x.den :: us, ?_, by simpa using h3⟩
    have hr : (resSem (act f) (.tmp t)).run P w = .ok x.den w := by
      rw [hx, ← den_fget]; rfl
    simp only [List.mapM_cons, Sem.run_bind, hr, Result.andThen_ok, h2, Sem.run_pure]
  | .cell a t :: rs, ty :: ts, vs, h => by
    unfold vcRes at h
    split at h
    · rename_i ad had
      obtain ⟨x, hx, h1⟩ := h
      obtain ⟨y, hy, h1⟩ := kv_spec h1
      obtain ⟨us, h2, h3⟩ := vcRes_spec rs ts _ h1
      refine ⟨y.den :: us, ?_, by simpa using h3⟩
      have hp : (act f).tmps.getD a undef = .pointer (some ad) := by
        have := den_fget f a
        rw [had] at this; exact this
      have hr : (resSem (act f) (.cell a t)).run P w = .ok y.den w := by
        have h4 := hx w (bel.refl _)
        rw [hy, ← h4]
        show (asAddr ((act f).tmps.getD a undef) >>= loadVar t).run P w = _
        rw [hp]
        rfl
      simp only [List.mapM_cons, Sem.run_bind, hr, Result.andThen_ok, h2, Sem.run_pure]
    · exact h.elim
theorem results_eq (fn : Func) (a : Act) : results fn a.tmps = (do let vs ← fn.results.mapM (resSem a); pure (if h : vs.size = 1 then vs[0] else .tuple vs)) := by
  unfold results
  congr 2

/-- a call that returns, with R of what it returns -/
def ret (R : Value → World → Prop) : Ending → World → Prop := fun e w' => ∃ v, e = .returned v ∧ R v w'
theorem vcFn_sound {P : Program} {H : Hints} {fi : FuncId} {fn : Func} {args : List Value} {w : World} {R : Value → World → Prop} (hm : P.follows .mixedOrders = true) (hf : P.funcs[fi]? = some fn)
    (h : vcFn P H fn args w R) : Calls P fi args.toArray w (ret R) := by
  unfold vcFn at h
  split at h
  · rename_i c hc
    split at h
    case h_2 => exact h.elim
    rename_i hb _
    have hb' := hb
    simp only [Bool.and_eq_true, Nat.ble_eq] at hb'
    refine calls_of_wp hf hc ?_
    rw [← act_pad hb'.1 hb'.2]
    refine Go.wp_mono (vc_sound hm c 0 _ _ w h) ?_
    have ret : ∀ f w, vcRes P f w R fn.results.toList fn.resultTypes.toList [] → (act f).defers = [] ∧ ∃ v, (results fn (act f).tmps).run P w = .ok v w ∧ ∃ v', Ending.returned v = .returned v' ∧ R v' w := by
      intro f w h
      obtain ⟨us, h1, h2⟩ := vcRes_spec _ _ _ h
      refine ⟨rfl, _, ?_, _, rfl, h2⟩
      rw [results_eq, ← Array.toArray_toList (xs := fn.results), List.mapM_toArray]
      simp only [Sem.run_bind, Sem.run_map, h1, Result.andThen_ok, Sem.run_pure, List.reverse_nil, List.nil_append, List.size_toArray]
      by_cases hl : us.length = 1
      · match us, hl with
        | [u], _ => rfl
      · simp [hl]
    intro e a w' hq
    cases e with
    | normal => obtain ⟨g, rfl, _, hk⟩ := hq; exact ret g w' hk
    | ret => obtain ⟨g, rfl, _, hk⟩ := hq; exact ret g w' hk
    | exit i => obtain ⟨g, _, _, hk⟩ := hq; exact hk.elim
    | goto l => exact hq
    | panic ch => exact hq.elim
    | outgrown => exact hq.elim
  · exact h.elim
end Go.V
