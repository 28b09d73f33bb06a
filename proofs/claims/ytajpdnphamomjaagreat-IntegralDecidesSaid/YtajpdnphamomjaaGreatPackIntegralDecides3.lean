import Derived.WalkLawsBesides
import Derived.Test.YtajpdnphamomjaaGreatOpen
import Derived.DataReads
import Derived.Laws.CopyRow
import Derived.KernelRfl
import Derived.Test.YtajpdnphamomjaaGreatPackIntegralDecides2

/- Sums and products that must be small, or a panic. -/



namespace Go.Proofs.YtajpdnphamomjaaGreat
open Go.RowKit Go.Q Go.Q.Num Go.V

abbrev failV : Value := .iface 92 (.agg #[])
def PnF (A : Prop) (w : World) : List PanicEntry → World → Prop := fun ch w' => A ∧ ch = [{ v := failV, recovered := false }] ∧ bel w w'
theorem PnF.up {A A' : Prop} {w w' : World} (hA : A → A') (hb : bel w w') (ch : List PanicEntry) (w'' : World) (h : PnF A w' ch w'') : PnF A' w ch w'' := ⟨hA h.1, h.2.1, hb.trans h.2.2⟩

theorem mustW (n d e : Int) (w : World) : Calls Tryz.prog 92 #[fracv n d, .int .i64 e] w fun en w' => (en = .returned (fracv n d) ∧ e = 0 ∧ bel w w') ∨ (en = .panicked [{ v := failV, recovered := false }] ∧ e ≠ 0 ∧ bel w w') := by
  unfold fracv
  go_enter Tryz.func92, Tryz.ntmps92
  go_wp2
  · refine ⟨rfl, .inr ⟨rfl, ?_, ?_⟩⟩
    · rename (e != 0) = true => h
      simpa using h
    · exact (bel_alloc w _).trans (bel_alloc _ _)
  · rename_i h
    have h0 : e = 0 := by simpa using h
    refine bodyPost_ret (v := fracv n d) ?_ rfl (.inl ⟨rfl, h0, (bel_alloc w _).trans (bel_alloc _ _)⟩)
    simp [results, Tryz.results92, go_sem, fracv]
theorem mustF (n d e : Int) (w : World) : callP Tryz.prog (PnF (e ≠ 0) w) 92 [fracv n d, .int .i64 e] (.one (.agg [.int .i64, .int .i64])) w (fun x w' => e = 0 ∧ x = (n, d, ()) ∧ bel w w') :=
  Calls.mono (mustW n d e w) fun en w' q => by
    rcases q with ⟨h1, h2, h3⟩ | ⟨h1, h2, h3⟩
    · exact .inl ⟨(n, d, ()), h1, h2, rfl, h3⟩
    · exact .inr ⟨_, h1, h2, rfl, h3⟩

def qv (r : Rat) : Int × Int × Unit := (r.num, ((r.den : Nat) : Int), ())
theorem fit_no {r : Rat} (h : ¬ Fits r) : fitT r = ((0, 0, ()), 8, ()) := by unfold fitT; rw [if_neg h]
theorem must_fit {r : Rat} {x : FE} {w w' : World} (hx : x = fitT r) (hb : bel w w') : callP Tryz.prog (PnF (¬ Fits r) w) 92 [fracv x.1.1 x.1.2.1, .int .i64 x.2.1] (.one (.agg [.int .i64, .int .i64])) w' (fun x w'' => x = qv r ∧ Fits r ∧ bel w w'') := by
  subst hx
  refine callP_mono (mustF _ _ _ w') (fun x w'' q => ?_) (fun ch w'' q => PnF.up (fun q => ?_) hb ch w'' q)
  · obtain ⟨h1, h2, h3⟩ := q
    by_cases hf : Fits r
    · rw [fit_fv hf] at h2; exact ⟨h2, hf, hb.trans h3⟩
    · rw [fit_no hf] at h1; cases h1
  · intro hf
    rw [fit_fv hf] at q; exact q rfl

theorem opT_any {r s : Rat} {f : Rat → Rat → Rat} (h : Fits r) (h' : Fits s) : opT r.num r.den s.num s.den f = fitT (f r s) := by
  unfold opT; rw [if_pos ⟨frac_fits h, frac_fits h'⟩, ratv_fits, ratv_fits]
theorem divT_any {r s : Rat} (h : Fits r) (h' : Fits s) (h0 : s.num ≠ 0) : divT r.num r.den s.num s.den = fitT (r / s) := by
  unfold divT; rw [if_pos ⟨frac_fits h, frac_fits h', h0⟩, ratv_fits, ratv_fits]


set_option maxHeartbeats 400000 in
theorem lAdd {r s : Rat} (w : World) (hr : Fits r) (hs : Fits s) : callP Tryz.prog (PnF (¬ Fits (r + s)) w) 89 [fracv r.num r.den, fracv s.num s.den] (.one (.agg [.int .i64, .int .i64])) w (fun x w' => x = qv (r + s) ∧ Fits (r + s) ∧ bel w w') := by
  have main : Calls Tryz.prog 89 #[fracv r.num r.den, fracv s.num s.den] w (retP (fun v w' => ∃ x, v = RS.val (.one (.agg [.int .i64, .int .i64])) x ∧ x = qv (r + s) ∧ Fits (r + s) ∧ bel w w') (some (PnF (¬ Fits (r + s)) w))) := by
    refine S89_calls _ _ _ _ w (PnF (¬ Fits (r + s)) w) _ ?_
    unfold S89
    refine wr_box fun p1 w1 X1 hb1 hp1 _ => ?_
    refine wr_box fun p2 w2 X2 hb2 hp2 _ => ?_
    refine wr_alloc (z := fracv 0 0) (by kernel_rfl) fun p3 w3 X3 hb3 hp3 _ => ?_
    refine rd_boxN ((X1.up hb2).up hb3) (by kernel_rfl) rfl ?_
    refine rd_boxN (X2.up hb3) (by kernel_rfl) rfl ?_
    have b3 : bel w w3 := (hb1.trans hb2).trans hb3
    refine callP_mono (callP_of (opA _ _ _ _ w3 (i64_fits hr) (i64_fits hs))) (fun x w4 q => ?_) (fun _ _ q => q)
    obtain ⟨hx, hb4⟩ := q
    rw [opT_any (f := fun r s => r + s) hr hs] at hx
    refine callP_mono (must_fit hx hb4) (fun y w5 q => ?_) (fun ch w' q => PnF.up id b3 ch w' q)
    obtain ⟨rfl, hf, hb5⟩ := q
    refine wu_box (X3.up hb5) (by kernel_rfl) (Nat.le_refl 2) rfl fun w6 X6 hg6 _ => ?_
    refine rd_boxV X6 (by kernel_rfl) rfl ?_
    exact ⟨_, rfl, rfl, hf, (b3.trans hb5).grownAt hg6 (by have := hb1.size; have := hb2.size; omega)⟩
  exact Calls.mono main fun e w' q => q.imp (fun ⟨v, he, x, hx, q⟩ => ⟨x, by rw [he, hx], q⟩) id

set_option maxHeartbeats 400000 in
theorem lSub {r s : Rat} (w : World) (hr : Fits r) (hs : Fits s) : callP Tryz.prog (PnF (¬ Fits (r + -s)) w) 67 [fracv r.num r.den, fracv s.num s.den] (.one (.agg [.int .i64, .int .i64])) w (fun x w' => x = qv (r + -s) ∧ Fits (r + -s) ∧ bel w w') := by
  have main : Calls Tryz.prog 67 #[fracv r.num r.den, fracv s.num s.den] w (retP (fun v w' => ∃ x, v = RS.val (.one (.agg [.int .i64, .int .i64])) x ∧ x = qv (r + -s) ∧ Fits (r + -s) ∧ bel w w') (some (PnF (¬ Fits (r + -s)) w))) := by
    refine S67_calls _ _ _ _ w (PnF (¬ Fits (r + -s)) w) _ ?_
    unfold S67
    refine wr_box fun p1 w1 X1 hb1 hp1 _ => ?_
    refine wr_box fun p2 w2 X2 hb2 hp2 _ => ?_
    refine wr_alloc (z := fracv 0 0) (by kernel_rfl) fun p3 w3 X3 hb3 hp3 _ => ?_
    refine rd_boxN ((X1.up hb2).up hb3) (by kernel_rfl) rfl ?_
    refine rd_boxN (X2.up hb3) (by kernel_rfl) rfl ?_
    have b3 : bel w w3 := (hb1.trans hb2).trans hb3
    refine callP_mono (callP_of (opS _ _ _ _ w3 (i64_fits hr) (i64_fits hs))) (fun x w4 q => ?_) (fun _ _ q => q)
    obtain ⟨hx, hb4⟩ := q
    rw [opT_any (f := fun r s => r + -s) hr hs] at hx
    refine callP_mono (must_fit hx hb4) (fun y w5 q => ?_) (fun ch w' q => PnF.up id b3 ch w' q)
    obtain ⟨rfl, hf, hb5⟩ := q
    refine wu_box (X3.up hb5) (by kernel_rfl) (Nat.le_refl 2) rfl fun w6 X6 hg6 _ => ?_
    refine rd_boxV X6 (by kernel_rfl) rfl ?_
    exact ⟨_, rfl, rfl, hf, (b3.trans hb5).grownAt hg6 (by have := hb1.size; have := hb2.size; omega)⟩
  exact Calls.mono main fun e w' q => q.imp (fun ⟨v, he, x, hx, q⟩ => ⟨x, by rw [he, hx], q⟩) id

set_option maxHeartbeats 400000 in
theorem lMul {r s : Rat} (w : World) (hr : Fits r) (hs : Fits s) : callP Tryz.prog (PnF (¬ Fits (r * s)) w) 90 [fracv r.num r.den, fracv s.num s.den] (.one (.agg [.int .i64, .int .i64])) w (fun x w' => x = qv (r * s) ∧ Fits (r * s) ∧ bel w w') := by
  have main : Calls Tryz.prog 90 #[fracv r.num r.den, fracv s.num s.den] w (retP (fun v w' => ∃ x, v = RS.val (.one (.agg [.int .i64, .int .i64])) x ∧ x = qv (r * s) ∧ Fits (r * s) ∧ bel w w') (some (PnF (¬ Fits (r * s)) w))) := by
    refine S90_calls _ _ _ _ w (PnF (¬ Fits (r * s)) w) _ ?_
    unfold S90
    refine wr_box fun p1 w1 X1 hb1 hp1 _ => ?_
    refine wr_box fun p2 w2 X2 hb2 hp2 _ => ?_
    refine wr_alloc (z := fracv 0 0) (by kernel_rfl) fun p3 w3 X3 hb3 hp3 _ => ?_
    refine rd_boxN ((X1.up hb2).up hb3) (by kernel_rfl) rfl ?_
    refine rd_boxN (X2.up hb3) (by kernel_rfl) rfl ?_
    have b3 : bel w w3 := (hb1.trans hb2).trans hb3
    refine callP_mono (callP_of (opM _ _ _ _ w3 (i64_fits hr) (i64_fits hs))) (fun x w4 q => ?_) (fun _ _ q => q)
    obtain ⟨hx, hb4⟩ := q
    rw [opT_any (f := fun r s => r * s) hr hs] at hx
    refine callP_mono (must_fit hx hb4) (fun y w5 q => ?_) (fun ch w' q => PnF.up id b3 ch w' q)
    obtain ⟨rfl, hf, hb5⟩ := q
    refine wu_box (X3.up hb5) (by kernel_rfl) (Nat.le_refl 2) rfl fun w6 X6 hg6 _ => ?_
    refine rd_boxV X6 (by kernel_rfl) rfl ?_
    exact ⟨_, rfl, rfl, hf, (b3.trans hb5).grownAt hg6 (by have := hb1.size; have := hb2.size; omega)⟩
  exact Calls.mono main fun e w' q => q.imp (fun ⟨v, he, x, hx, q⟩ => ⟨x, by rw [he, hx], q⟩) id

theorem lDiv {r s : Rat} (w : World) (hr : Fits r) (hs : Fits s) (h0 : s.num ≠ 0) : call Tryz.prog 93 [fracv r.num r.den, fracv s.num s.den] rFE w (fun x w' => x = fitT (r / s) ∧ bel w w') :=
  call_mono (opD _ _ _ _ w (i64_fits hr) (i64_fits hs)) fun x w' ⟨e, hb⟩ => ⟨by rw [e]; exact divT_any hr hs h0, hb⟩
theorem fits_of_int {n : Int} (h : -100000000000000000 ≤ n ∧ n ≤ 100000000000000000) : Fits (n : Rat) := ⟨h.1, h.2, by show (1 : Nat) ≤ _; omega⟩
theorem lWhole (n : Int) (w : World) : call Tryz.prog 66 [.int .i64 n] (.one (.agg [.int .i64, .int .i64])) w (fun x w' => x = qv (n : Rat) ∧ bel w w') := by
  refine call_of (S66_calls n w _ ?_)
  unfold S66
  refine boxF fun p1 w1 hb1 X1 hp1 => ?_
  refine rd_boxV X1 (by kernel_rfl) rfl ?_
  exact ⟨_, rfl, rfl, hb1⟩
end Go.Proofs.YtajpdnphamomjaaGreat

/- Arguments that came in: slices of any elements as lists; tables. -/



namespace Go.V
open Go Go.RowKit Go.Q

section
variable {P : Program} {w : World} {t e : TypeId}
theorem Read.elems {α : Type} {enc : α → List Value} {R : α → Prop} {sz : Nat} {cs : List Value} (he : ∀ x, (enc x).length = sz) (h0 : 0 < sz) (hE : ∀ ch, Go.Q.Read P w e ch → ∃ x, ch = enc x ∧ R x)
    (ht : P.underlying t = some (.slice e)) (hs : P.cellsOf e = sz) (h : Go.Q.Read P w t cs) : ∃ a n c, ∃ L : List α, cs = [.slice a n c] ∧ L.length = n ∧ Sl w a n c sz (L.flatMap enc) ∧ ∀ x ∈ L, R x := by
  obtain ⟨a, n, c, rfl, h1, h2, h3, h4⟩ := Go.Q.Read.slice ht h
  have ex : ∀ i : Fin n, ∃ x : α, ∃ ad, a = some ad ∧ w.cells? 0 (ad.add (i * sz)) sz = some (enc x) ∧ R x := fun i => by
    obtain ⟨ad, ch, e1, e2, e3⟩ := h4 i i.2
    obtain ⟨x, rfl, hx⟩ := hE ch e3
    rw [hs] at e2
    exact ⟨x, ad, e1, e2, hx⟩
  refine ⟨a, n, c, List.ofFn fun i => Classical.choose (ex i), rfl, by simp, ?_, ?_⟩
  · refine ⟨by rw [flat_len he]; simp, h1, h2, h3, fun j u hj => ?_⟩
    have hj' : j < n * sz := by
      have := (List.getElem?_eq_some_iff.1 hj).1
      rw [flat_len he] at this
      simpa using this
    have hi : j / sz < n := Nat.div_lt_of_lt_mul (by rwa [Nat.mul_comm])
    have ho : j % sz < sz := Nat.mod_lt _ h0
    obtain ⟨ad, e1, e2, _⟩ := Classical.choose_spec (ex ⟨j / sz, hi⟩)
    have hg := flat_get he (L := List.ofFn fun i => Classical.choose (ex i)) (j := j / sz) (p := Classical.choose (ex ⟨j / sz, hi⟩)) (by simp [hi]) ho
    rw [Nat.div_add_mod' j sz, hj] at hg
    obtain ⟨_, e4, e5⟩ := World.cells?_some e2
    have h6 := e5 (j % sz) ho
    rw [add_add] at h6
    simp only at h6
    rw [Nat.div_add_mod', ← hg] at h6
    refine ⟨ad, e1, h6, ?_⟩
    have := cell_lt h6
    rwa [add_block] at this
  · intro x hx
    rw [List.mem_ofFn] at hx
    obtain ⟨i, rfl⟩ := hx
    obtain ⟨ad, e1, e2, e3⟩ := Classical.choose_spec (ex i)
    exact e3
theorem Read.ones {α : Type} {g : α → Value} {R : α → Prop} {cs : List Value} (hE : ∀ ch, Go.Q.Read P w e ch → ∃ x, ch = [g x] ∧ R x)
    (ht : P.underlying t = some (.slice e)) (hs : P.cellsOf e = 1) (h : Go.Q.Read P w t cs) : ∃ a n c, ∃ L : List α, cs = [.slice a n c] ∧ L.length = n ∧ Sl w a n c 1 (L.map g) ∧ ∀ x ∈ L, R x := by
  obtain ⟨a, n, c, L, h1, h2, h3, h4⟩ := Read.elems (enc := fun x => [g x]) (R := R) (fun _ => rfl) Nat.one_pos hE ht hs h
  rw [← List.map_eq_flatMap] at h3
  exact ⟨a, n, c, L, h1, h2, h3, h4⟩
theorem Read.ints {k : IntKind} {cs : List Value} (ht : P.underlying t = some (.slice e)) (he : P.underlying e = some (.int k)) (hs : P.cellsOf e = 1) (h : Go.Q.Read P w t cs) :
    ∃ a n c, ∃ L : List Int, cs = [.slice a n c] ∧ L.length = n ∧ Sl w a n c 1 (ints k L) ∧ ∀ x ∈ L, (Lit.int k x).wf = true :=
  Read.ones (g := Value.int k) (fun _ h => Go.Q.Read.int he h) ht hs h
structure Tab {α : Type} (g : α → Value) (w : World) (h : Hdr) (T : List (List α)) : Prop where
  ex : ∃ hs : List Hdr, Sl w h.1 h.2.1 h.2.2 1 (hs.map hv) ∧ hs.length = T.length ∧ ∀ (i : Nat) (x : Hdr) (r : List α), hs[i]? = some x → T[i]? = some r → Sl w x.1 x.2.1 x.2.2 1 (r.map g)
abbrev TabI (k : IntKind) (w : World) (h : Hdr) (T : List (List Int)) : Prop := Tab (Value.int k) w h T
theorem Tab.len {α : Type} {g : α → Value} {h : Hdr} {T : List (List α)} (H : Tab g w h T) : T.length = h.2.1 := by
  obtain ⟨hs, h1, h2, _⟩ := H.ex
  have := h1.len
  simp at this
  omega
theorem Tab.up {α : Type} {g : α → Value} {h : Hdr} {T : List (List α)} {w' : World} (H : Tab g w h T) (hb : bel w w') : Tab g w' h T := by
  obtain ⟨hs, h1, h2, h3⟩ := H.ex
  exact ⟨hs, h1.kept hb, h2, fun i x r q1 q2 => (h3 i x r q1 q2).kept hb⟩
theorem Tab.at {α : Type} {g : α → Value} {h : Hdr} {T : List (List α)} (H : Tab g w h T) {z : Value} {bytes : Nat} (TS : TyS P t e z 1 bytes) (he : scal P e = true) {j : Nat} {k : IntKind} {i : Int} {K : (Option Addr × Nat × Nat) → Prop}
    (hj : i = (j : Int)) (hn : j < h.2.1) (hk : ∀ (x : Hdr) (r : List α), T[j]? = some r → Sl w x.1 x.2.1 x.2.2 1 (r.map g) → K x) :
    rdp P (Instr.indexAt t (.slice h.1 h.2.1 h.2.2) (.int k i)) (.one .addr) fun ad => rd P (Instr.loadAt e (.pointer (some ad))) (.one .slice) w K := by
  have hl := H.len
  obtain ⟨hs, h1, h2, h3⟩ := H.ex
  refine at_hdr TS he h1 hj hn fun x hx => ?_
  obtain ⟨r, hr⟩ : ∃ r, T[j]? = some r := ⟨_, List.getElem?_eq_getElem (by omega)⟩
  exact hk x r hr (h3 j x r hx hr)
theorem Arg.slice {v : Value} (ht : P.underlying t = some (.slice e)) (h : Arg P w t v) : ∃ a n c, v = .slice a n c ∧ Go.Q.Read P w t [v] := by
  obtain ⟨⟨r, b, ho⟩, hr⟩ := h
  unfold Value.okWide Cell.okWide Cell.ok at ho
  simp only [ht] at ho
  cases v with
  | slice a n c => exact ⟨a, n, c, rfl, hr⟩
  | _ => simp at ho
end
end Go.V

/- Loops in the calculus: counting loops, the search of slices.IndexFunc. -/

namespace Go.V
open Go Go.RowKit Go.Q

theorem _root_.Go.Q.Sl.up {w w' : World} {a : Option Addr} {n c sz : Nat} {xs : List Value} (h : Sl w a n c sz xs) (hb : bel w w') : Sl w' a n c sz xs := h.kept hb
theorem loop_up {w0 : World} {body : ((Int × Unit) → World → Prop) → (Int × Unit) → World → Prop} (n : Nat) (I : Nat → World → Prop) (h0 : I 0 w0)
    (h : ∀ i w, i ≤ n → I i w → ∀ again : (Int × Unit) → World → Prop, (∀ w', i < n → I (i + 1) w' → again ((i : Int) + 1, ()) w') → body again ((i : Int), ()) w) : loop (0, ()) w0 body := by
  refine loop_gh (G := Nat) (fun i s w' => s = ((i : Int), ()) ∧ i ≤ n ∧ I i w') (fun i => n - i) 0 ⟨rfl, Nat.zero_le _, h0⟩ ?_
  rintro i s w ⟨rfl, hi, hI⟩ again hag
  exact h i w hi hI again fun w' hlt hI' => hag (i + 1) _ _ ⟨rfl, hlt, hI'⟩ (by omega)
theorem loop_upA {A : Type} {a0 : A} {w0 : World} {body : ((A × Int × Unit) → World → Prop) → (A × Int × Unit) → World → Prop} (n : Nat) (I : Nat → A → World → Prop) (h0 : I 0 a0 w0)
    (h : ∀ i a w, i ≤ n → I i a w → ∀ again : (A × Int × Unit) → World → Prop, (∀ a' w', i < n → I (i + 1) a' w' → again (a', (i : Int) + 1, ()) w') → body again (a, (i : Int), ()) w) : loop (a0, 0, ()) w0 body := by
  refine loop_gh (G := Nat) (fun i s w' => s.2 = ((i : Int), ()) ∧ i ≤ n ∧ I i s.1 w') (fun i => n - i) 0 ⟨rfl, Nat.zero_le _, h0⟩ ?_
  rintro i ⟨a, s⟩ w ⟨rfl, hi, hI⟩ again hag
  exact h i a w hi hI again fun a' w' hlt hI' => hag (i + 1) _ _ ⟨rfl, hlt, hI'⟩ (by omega)
theorem pre_step {α : Type} {p : α → Prop} {l : List α} {i : Nat} {y : α} (h : ∀ j, j < i → ∀ x, l[j]? = some x → p x) (hy : l[i]? = some y) (hp : p y) : ∀ j, j < i + 1 → ∀ x, l[j]? = some x → p x := by
  intro j hj x hx
  rcases Nat.lt_or_ge j i with q | q
  · exact h j q x hx
  · have : j = i := by omega
    subst this
    rw [hy] at hx; cases hx; exact hp
theorem pre_zero {α : Type} {p : α → Prop} {l : List α} : ∀ j, j < 0 → ∀ x, l[j]? = some x → p x := fun j h => by omega
theorem pre_all {α : Type} {p : α → Prop} {l : List α} {n : Nat} (h : ∀ j, j < n → ∀ x, l[j]? = some x → p x) (hn : l.length ≤ n) : ∀ x ∈ l, p x := by
  intro x hx
  obtain ⟨j, hj, rfl⟩ := List.mem_iff_getElem.1 hx
  exact h j (by omega) _ (List.getElem?_eq_getElem hj)
theorem mem_at {α : Type} {l : List α} {i : Nat} {y : α} (h : l[i]? = some y) : y ∈ l := List.mem_of_getElem? h

theorem rdF_box0 {P : Program} {t : TypeId} {w : World} {a : Addr} {cs : List Value} {h : Nat} {fi ca : Array Value} {k : Nat → Array Value → Array Value → Prop} (ht : scal P t = true) (hb : Box w a cs) (hi : cs[0]? = some (.func (.func h) fi ca)) (hk : k h fi ca) :
    rdF P bel (Instr.loadAt t (.pointer (some a))) w k := ⟨h, fi, ca, fun w' hw => by rw [run_loadAt, run_loadVar1 ht (hw.cell (hb.cell0 hi))], hk⟩
theorem callX_of {P : Program} {h : Nat} {args args' : List Value} {r : RS} {w : World} {k : r.T → World → Prop} {fn : Func} (hf : P.funcs[h]? = some fn) (hp : plainF fn = true) (ha : args = args') (hc : call P h args' r w k) : callX P h args r w k := by
  unfold callX; rw [hf]; dsimp only; rw [hp]; subst ha; exact hc

theorem var_mk {P : Program} {e : TypeId} {z v : Value} {w : World} {k : Addr → World → Prop} (hz : zeroOf P e = some z) (hs : sizeIs P e v.cells.size = true) (hl : v.cells.size = z.cells.size) (hp : plainV v.cells.toList = true)
    (hk : ∀ a w', Box w' a v.cells.toList → bel w w' → a.block = w.heap.size → k a w') :
    wr P (Instr.alloc e true (.tuple #[])) (.one .addr) w fun x w1 => wu P (Instr.storeAt e (.pointer (some x)) v) w1 fun w2 => k x w2 := by
  refine wr_alloc hz fun a w1 Z h ha _ => ?_
  refine wu_box Z hs (by rw [hl]; simp) hp fun w2 Z hg _ => ?_
  have e2 : putAt z.cells.toList 0 v.cells.toList = v.cells.toList := by
    have key : ∀ (vs pre cs : List Value), cs.length = vs.length → putAt (pre ++ cs) pre.length vs = pre ++ vs := by
      intro vs
      induction vs with
      | nil => intro pre cs h; rw [List.eq_nil_of_length_eq_zero h]; rfl
      | cons x vs ih =>
        intro pre cs h
        cases cs with
        | nil => simp at h
        | cons c cs =>
          simp only [putAt]
          have h1 : (pre ++ c :: cs).set pre.length x = (pre ++ [x]) ++ cs := by simp
          rw [h1]
          have := ih (pre ++ [x]) cs (by simpa using h)
          simp only [List.length_append, List.length_cons, List.length_nil, Nat.zero_add] at this
          rw [this]; simp
    have := key v.cells.toList [] z.cells.toList (by simp [hl])
    simpa using this
  rw [e2] at Z
  exact hk _ _ Z (h.grownAt hg (by omega)) ha

def idxI {β : Type} (q : β → Bool) (ys : List β) : Int :=
  match ys.findIdx? q with
  | some i => (i : Int) | none => -1
theorem idxI_any {β : Type} (q : β → Bool) (ys : List β) : decide (idxI q ys ≥ 0) = ys.any q := by
  unfold idxI
  rw [← List.findIdx?_isSome]
  cases ys.findIdx? q with
  | none => rfl
  | some i => simp
theorem idx_loop {P : Program} {t e : TypeId} {vs : VS} {f : FuncId} {fargs : vs.T → List Value} {a : Option Addr} {n c : Nat} {R : Value → World → Prop} {w0 : World} {β : Type} (xs : List vs.T) (ys : List β) (q : β → Bool) (hn : xs.length = n) (hy : ys.length = n) (hm : n ≤ 9223372036854775807)
    (RD : ∀ (j : Nat) (x : vs.T), xs[j]? = some x → ∀ w', bel w0 w' → ∀ K : vs.T → Prop, K x → rdp P (Instr.indexAt t (.slice a n c) (.int .i64 (j : Int))) (.one .addr) fun ad => rd P (Instr.loadAt e (.pointer (some ad))) vs w' K)
    (CALL : ∀ (j : Nat) (x : vs.T) (y : β), xs[j]? = some x → ys[j]? = some y → ∀ w', bel w0 w' → call P f (fargs x) (.one (.one .bool)) w' fun b w'' => b = q y ∧ bel w' w'')
    (hk : ∀ w', bel w0 w' → R (.int .i64 (idxI q ys)) w') :
    loop (T := (Int × Unit)) (0, ()) w0 fun (again1 : (Int × Unit) → World → Prop) (s2 : (Int × Unit)) w3 => ∀ _ : Nat → Value,
      br (decide (s2.1 < ((n : Nat) : Int))) (rdp P (Instr.indexAt t (.slice a n c) (.int .i64 s2.1)) (.one .addr) fun (x4 : Addr) =>
      rd P (Instr.loadAt e (.pointer (some x4))) vs w3 fun x5 =>
      call P f (fargs x5) (.one (.one .bool)) w3 fun (x6 : Bool) (w7 : World) =>
      br x6 (R (.int .i64 s2.1) w7)
      (z (IntKind.wrap .i64 (s2.1 + 1)) fun (z8 : Int) =>
      again1 (z8, ()) w7))
      (R (.int .i64 (-1)) w3) := by
  refine loop_up n (fun i w' => bel w0 w' ∧ ∀ j, j < i → ∀ y, ys[j]? = some y → q y = false) ⟨bel.refl _, fun j h => by omega⟩ ?_
  rintro i w hi ⟨hb, hq⟩ again hag _
  refine br_dec (fun e => ?_) (fun e => ?_)
  · dsimp only at e
    have hi' : i < n := by omega
    have hx : xs[i]? = some (xs[i]'(by omega)) := List.getElem?_eq_getElem (by omega)
    have hy' : ys[i]? = some (ys[i]'(by omega)) := List.getElem?_eq_getElem (by omega)
    refine RD i _ hx w hb _ ?_
    refine call_mono (CALL i _ _ hx hy' w hb) ?_
    rintro b w2 ⟨rfl, hb2⟩
    refine br_mk (fun hq' => ?_) (fun hq' => ?_)
    · have : idxI q ys = (i : Int) := by
        unfold idxI
        rw [List.findIdx?_eq_some_iff_getElem.2 ⟨by omega, hq', fun j hj => by
          have := hq j hj _ (List.getElem?_eq_getElem (by omega))
          simp [this]⟩]
      rw [← this]
      exact hk _ (hb.trans hb2)
    · refine z_i64 (by dsimp only; omega) ?_
      refine hag _ hi' ⟨hb.trans hb2, fun j hj y hy2 => ?_⟩
      rcases Nat.lt_or_ge j i with h | h
      · exact hq j h y hy2
      · have : j = i := by omega
        subst this
        rw [hy'] at hy2; cases hy2; exact hq'
  · dsimp only at e
    have hi' : i = n := by omega
    have : idxI q ys = -1 := by
      unfold idxI
      rw [List.findIdx?_eq_none_iff.2 fun y hy' => by
        obtain ⟨j, hj, rfl⟩ := List.mem_iff_getElem.1 hy'
        exact hq j (by omega) _ (List.getElem?_eq_getElem hj)]
    rw [← this]
    exact hk _ hb
theorem idx_ints {P : Program} {t e : TypeId} {z0 : Value} {bytes : Nat} (TS : TyS P t e z0 1 bytes) (he : scal P e = true) {kk : IntKind} {f : FuncId} {fargs : Int → List Value} {a : Option Addr} {n c : Nat} {w0 : World} {xs : List Int} (H : Sl w0 a n c 1 (ints kk xs)) (q : Int → Bool)
    (CALL : ∀ (j : Nat) (x : Int), xs[j]? = some x → ∀ w', bel w0 w' → call P f (fargs x) (.one (.one .bool)) w' fun b w'' => b = q x ∧ bel w' w'') :
    loop (T := (Int × Unit)) (0, ()) w0 fun (again1 : (Int × Unit) → World → Prop) (s2 : (Int × Unit)) w3 => ∀ _ : Nat → Value,
      br (decide (s2.1 < ((n : Nat) : Int))) (rdp P (Instr.indexAt t (.slice a n c) (.int .i64 s2.1)) (.one .addr) fun (x4 : Addr) =>
      rd P (Instr.loadAt e (.pointer (some x4))) (.one (.int kk)) w3 fun (x5 : Int) =>
      call P f (fargs x5) (.one (.one .bool)) w3 fun (x6 : Bool) (w7 : World) =>
      br x6 ((fun (v : Value) (w' : World) => ∃ x : Int, v = (RS.one (.one (.int .i64))).val x ∧ x = idxI q xs ∧ bel w0 w') (.int .i64 s2.1) w7)
      (z (IntKind.wrap .i64 (s2.1 + 1)) fun (z8 : Int) =>
      again1 (z8, ()) w7))
      ((fun (v : Value) (w' : World) => ∃ x : Int, v = (RS.one (.one (.int .i64))).val x ∧ x = idxI q xs ∧ bel w0 w') (.int .i64 (-1)) w3) := by
  have hl := H.int
  refine idx_loop (R := (fun (v : Value) (w' : World) => ∃ x : Int, v = (RS.one (.one (.int .i64))).val x ∧ x = idxI q xs ∧ bel w0 w')) (vs := .one (.int kk)) (fargs := fargs) xs xs q hl hl H.le (fun j x hx w' hb K hk => ?_) (fun j x y hx hy w' hb => ?_) (fun w' hb => ⟨_, rfl, rfl, hb⟩)
  · have hx' : (xs : List Int)[j]? = some (x : Int) := hx
    exact at_int TS he (H.kept hb) rfl (by have := (List.getElem?_eq_some_iff.1 hx').1; omega) (fun y hy => by rw [hx'] at hy; cases hy; exact hk)
  · have hx' : (xs : List Int)[j]? = some (x : Int) := hx
    rw [hx'] at hy; cases hy
    exact CALL j x hx' w' hb
theorem idx_tab {P : Program} {t e : TypeId} {z0 : Value} {bytes : Nat} (TS : TyS P t e z0 1 bytes) (he : scal P e = true) {α : Type} {g : α → Value} {f : FuncId} {fargs : Hdr → List Value} {r : Hdr} {w0 : World} {T : List (List α)} (H : Tab g w0 r T) (q : List α → Bool)
    (CALL : ∀ (j : Nat) (x : Hdr) (y : List α), T[j]? = some y → Sl w0 x.1 x.2.1 x.2.2 1 (y.map g) → ∀ w', bel w0 w' → call P f (fargs x) (.one (.one .bool)) w' fun b w'' => b = q y ∧ bel w' w'') :
    loop (T := (Int × Unit)) (0, ()) w0 fun (again1 : (Int × Unit) → World → Prop) (s2 : (Int × Unit)) w3 => ∀ _ : Nat → Value,
      br (decide (s2.1 < ((r.2.1 : Nat) : Int))) (rdp P (Instr.indexAt t (.slice r.1 r.2.1 r.2.2) (.int .i64 s2.1)) (.one .addr) fun (x4 : Addr) =>
      rd P (Instr.loadAt e (.pointer (some x4))) (.one .slice) w3 fun (x5 : Option Addr × Nat × Nat) =>
      call P f (fargs x5) (.one (.one .bool)) w3 fun (x6 : Bool) (w7 : World) =>
      br x6 ((fun (v : Value) (w' : World) => ∃ x : Int, v = (RS.one (.one (.int .i64))).val x ∧ x = idxI q T ∧ bel w0 w') (.int .i64 s2.1) w7)
      (z (IntKind.wrap .i64 (s2.1 + 1)) fun (z8 : Int) =>
      again1 (z8, ()) w7))
      ((fun (v : Value) (w' : World) => ∃ x : Int, v = (RS.one (.one (.int .i64))).val x ∧ x = idxI q T ∧ bel w0 w') (.int .i64 (-1)) w3) := by
  obtain ⟨hs, h1, h2, h3⟩ := H.ex
  have hl : hs.length = r.2.1 := by have := h1.len; simpa using this
  refine idx_loop (R := (fun (v : Value) (w' : World) => ∃ x : Int, v = (RS.one (.one (.int .i64))).val x ∧ x = idxI q T ∧ bel w0 w')) (vs := .one .slice) (fargs := fargs) hs T q hl (by omega) h1.le (fun j x hx w' hb K hk => ?_) (fun j x y hx hy w' hb => ?_) (fun w' hb => ⟨_, rfl, rfl, hb⟩)
  · have hx' : (hs : List Hdr)[j]? = some (x : Hdr) := hx
    exact at_hdr TS he (h1.kept hb) rfl (by have := (List.getElem?_eq_some_iff.1 hx').1; omega) (fun y hy => by rw [hx'] at hy; cases hy; exact hk)
  · have hx' : (hs : List Hdr)[j]? = some (x : Hdr) := hx
    exact CALL j x y hy (h3 j x y hx' hy) w' hb
theorem idx_aggs {P : Program} {t e : TypeId} {z0 : Value} {sz bytes : Nat} (TS : TyS P t e z0 sz bytes) (ht : aggOf P e sz = true) {α : Type} {enc : α → List Value} (he : ∀ a, (enc a).length = sz) (h0 : 0 < sz) {l : List Sh} {dec : α → LT l} (hd : ∀ a, Lget l (enc a) = some (dec a)) {f : FuncId} {fargs : LT l → List Value} {a : Option Addr} {n c : Nat} {w0 : World} {L : List α} (H : Sl w0 a n c sz (L.flatMap enc)) (q : α → Bool)
    (CALL : ∀ (j : Nat) (x : α), L[j]? = some x → ∀ w', bel w0 w' → call P f (fargs (dec x)) (.one (.one .bool)) w' fun b w'' => b = q x ∧ bel w' w'') :
    loop (T := (Int × Unit)) (0, ()) w0 fun (again1 : (Int × Unit) → World → Prop) (s2 : (Int × Unit)) w3 => ∀ _ : Nat → Value,
      br (decide (s2.1 < ((n : Nat) : Int))) (rdp P (Instr.indexAt t (.slice a n c) (.int .i64 s2.1)) (.one .addr) fun (x4 : Addr) =>
      rd P (Instr.loadAt e (.pointer (some x4))) (.agg l) w3 fun (x5 : LT l) =>
      call P f (fargs x5) (.one (.one .bool)) w3 fun (x6 : Bool) (w7 : World) =>
      br x6 ((fun (v : Value) (w' : World) => ∃ x : Int, v = (RS.one (.one (.int .i64))).val x ∧ x = idxI q L ∧ bel w0 w') (.int .i64 s2.1) w7)
      (z (IntKind.wrap .i64 (s2.1 + 1)) fun (z8 : Int) =>
      again1 (z8, ()) w7))
      ((fun (v : Value) (w' : World) => ∃ x : Int, v = (RS.one (.one (.int .i64))).val x ∧ x = idxI q L ∧ bel w0 w') (.int .i64 (-1)) w3) := by
  have hl : L.length = n := by
    have := H.len
    rw [flat_len he] at this
    exact Nat.eq_of_mul_eq_mul_right h0 this
  refine idx_loop (R := (fun (v : Value) (w' : World) => ∃ x : Int, v = (RS.one (.one (.int .i64))).val x ∧ x = idxI q L ∧ bel w0 w')) (vs := .agg l) (fargs := fargs) (L.map dec) L q ((List.length_map ..).trans hl) hl H.le (fun j x hx w' hb K hk => ?_) (fun j x y hx hy w' hb => ?_) (fun w' hb => ⟨_, rfl, rfl, hb⟩)
  · have hx' : (L.map dec)[j]? = some x := hx
    rw [List.getElem?_map] at hx'
    cases hp : L[j]? with
    | none => rw [hp] at hx'; cases hx'
    | some p =>
      rw [hp] at hx'
      cases hx'
      exact at_agg TS ht he h0 (H.kept hb) rfl hp (hd p) hk
  · have hx' : (L.map dec)[j]? = some x := hx
    rw [List.getElem?_map, hy] at hx'
    cases hx'
    exact CALL j y hy w' hb
end Go.V

/- A block of one's own that others may write: relations for regions that tell their states. -/

namespace Go.V
open Go Go.RowKit Go.Q

abbrev Xg (b : Nat) : Rel := fun w w' => w.grownBy w' (some b)
theorem bel.xg {w w' : World} (h : bel w w') (b : Nat) : Xg b w w' := grown_of_bel h _
theorem Box.xg {w w' : World} {a : Addr} {cs : List Value} {b : Nat} (X : Box w a cs) (h : Xg b w w') (hne : a.block ≠ b) : Box w' a cs := X.grown h (by intro e; injection e; omega)
theorem _root_.Go.Q.Sl.xg {w w' : World} {a : Option Addr} {n c sz : Nat} {xs : List Value} {b : Nat} (S : Sl w a n c sz xs) (h : Xg b w w') (hne : ∀ ad, a = some ad → xs ≠ [] → ad.block ≠ b) : Sl w' a n c sz xs :=
  S.grown h fun ad ha hx e => hne ad ha hx (by injection e)
theorem Own.xg {w w' : World} {B : Nat} {e : TypeId} {sz : Nat} {a : Option Addr} {n c : Nat} {xs : List Value} {b : Nat} (O : Own w B e sz a n c xs) (h : Xg b w w') (hb : b < B) : Own w' B e sz a n c xs := by
  refine O.keptBy h ?_
  cases hk : blk a with
  | none => exact .inl rfl
  | some k => exact .inr fun q => by have := (O.lt k hk).1; injection q; omega
theorem rdE_box0 {P : Program} {E : Rel} {t : TypeId} {s : Sh} {w : World} {a : Addr} {cs : List Value} {v : Value} {x : s.T} {k : s.T → Prop} (ht : scal P t = true) (h : ∀ w', E w w' → Box w' a cs) (hi : cs[0]? = some v) (hx : s.get v = some x) (hk : k x) :
    rdE P E (Instr.loadAt t (.pointer (some a))) (.one s) w k := ⟨x, fun w' hw => by rw [run_loadAt, run_loadVar1 ht ((h w' hw).cell0 hi), Sh.get_spec hx]; rfl, hk⟩
theorem rdE_box {P : Program} {E : Rel} {t : TypeId} {s : Sh} {w : World} {a : Addr} {cs : List Value} {i : Nat} {v : Value} {x : s.T} {k : s.T → Prop} (ht : scal P t = true) (h : ∀ w', E w w' → Box w' a cs) (hi : cs[i]? = some v) (hx : s.get v = some x) (hk : k x) :
    rdE P E (Instr.loadAt t (.pointer (some (a.add i)))) (.one s) w k := ⟨x, fun w' hw => by rw [run_loadAt, run_loadVar1 ht ((h w' hw).cell hi), Sh.get_spec hx]; rfl, hk⟩
theorem flExC_mk {w0 : World} {B : Rel → (Nat → Rel) → ((Nat → Bool) → World → Prop) → Facts → Prop} (E : Rel) (G : Nat → Rel) (St : (Nat → Bool) → World → Prop) (Φ : Facts) (h1 : ∀ w, E w w) (h2 : ∀ a b c, E a b → E b c → E a c)
    (h3 : ∀ i j ags v w w', i ≠ j → Φ i ags v w → E w w' → G j w w' → Φ i ags v w') (h4 : St (fun _ => false) w0) (h5 : B E G St Φ) : flExC w0 B := ⟨E, G, St, Φ, h1, h2, h3, h4, h5⟩
theorem flcC_mk {St : (Nat → Bool) → World → Prop} {j : Nat} {E : Rel} {w0 : World} {pre : World → Prop} {ob : (Nat → Bool) → World → Prop} {T : Type} {nxt : T → Prop} (h1 : ∀ D w, D j = false → E w0 w → St D w → pre w → ob D w) (h2 : ∀ x, nxt x) : flcC St j E w0 pre ob nxt := ⟨h1, h2⟩
theorem flendC_mk {St : (Nat → Bool) → World → Prop} {L : List Nat} {E : Rel} {w0 : World} {pre k : World → Prop} (h : ∀ w, E w0 w → St (fun i => L.contains i) w → pre w → k w) : flendC St L E w0 pre k := h
theorem setD_self (D : Nat → Bool) (j : Nat) : setD D j j = true := by simp [setD]
theorem setD_ne {D : Nat → Bool} {i j : Nat} (h : i ≠ j) : setD D j i = D i := by simp [setD, h]
structure Xb (S : Nat → Prop) (w w' : World) : Prop where
  os : w'.os = w.os
  tape : w'.tape = w.tape
  output : w'.output = w.output
  size : w.heap.size ≤ w'.heap.size
  block : ∀ k, k < w.heap.size → ¬ S k → w'.heap[k]? = w.heap[k]?
theorem Xb.refl (S : Nat → Prop) (w : World) : Xb S w w := ⟨rfl, rfl, rfl, Nat.le_refl _, fun _ _ _ => rfl⟩
theorem Xb.trans {S : Nat → Prop} {a b c : World} (h : Xb S a b) (h' : Xb S b c) : Xb S a c :=
  ⟨h'.os.trans h.os, h'.tape.trans h.tape, h'.output.trans h.output, Nat.le_trans h.size h'.size, fun k hk hs => by rw [h'.block k (by have := h.size; omega) hs, h.block k hk hs]⟩
theorem Xb.of {S : Nat → Prop} {w w' : World} {o : Option Nat} (h : w.grownBy w' o) (ho : ∀ k, o = some k → S k) : Xb S w w' :=
  ⟨h.os, h.tape, h.output, h.size, fun k hk hs => h.block k hk (fun e => hs (ho k e.symm))⟩
theorem Xb.bel {S : Nat → Prop} {a w w' : World} (h : bel a w) (h' : Xb S w w') (hs : ∀ k, S k → a.heap.size ≤ k) : bel a w' :=
  ⟨h'.os.trans h.os, h'.tape.trans h.tape, h'.output.trans h.output, Nat.le_trans h.size h'.size, fun k hk => by rw [h'.block k (by have := h.size; omega) (fun q => by have := hs k q; omega), h.block k hk]⟩
theorem Xb.grown {S : Nat → Prop} {w w' : World} (h : Xb S w w') {o : Option Nat} (hs : ∀ k, S k → k < w.heap.size → o = some k) : w.grownBy w' o :=
  ⟨h.os, h.tape, h.output, h.size, fun k hk hne => h.block k hk fun q => hne (hs k q hk).symm⟩
theorem Xb.more {S S' : Nat → Prop} {a w w' : World} (h : Xb S a w) (h' : Xb S' w w') (hs : ∀ k, S' k → S k ∨ a.heap.size ≤ k) : Xb S a w' :=
  ⟨h'.os.trans h.os, h'.tape.trans h.tape, h'.output.trans h.output, Nat.le_trans h.size h'.size, fun k hk hn => by
    rw [h'.block k (by have := h.size; omega) (fun q => by
      rcases hs k q with q | q
      · exact hn q
      · omega), h.block k hk hn]⟩
theorem _root_.Go.Q.Sl.xb {S : Nat → Prop} {w w' : World} {a : Option Addr} {n c sz : Nat} {xs : List Value} (H : Sl w a n c sz xs) (hX : Xb S w w') (hne : ∀ ad, a = some ad → xs ≠ [] → ¬ S ad.block) : Sl w' a n c sz xs := by
  refine ⟨H.len, H.cap, H.most, H.nil', fun k u hu => ?_⟩
  obtain ⟨ad, q1, q2, q3⟩ := H.at' k u hu
  have hx : xs ≠ [] := by rintro rfl; simp at hu
  refine ⟨ad, q1, ?_, by have := hX.size; omega⟩
  have := hX.block ad.block q3 (hne ad q1 hx)
  unfold World.cell? at q2 ⊢
  rw [add_block] at q2 ⊢
  rw [this]; exact q2
theorem Box.xb {S : Nat → Prop} {w w' : World} {a : Addr} {cs : List Value} (X : Box w a cs) (hX : Xb S w w') (hne : ¬ S a.block) : Box w' a cs :=
  ⟨X.off, X.spot, by obtain ⟨T, hT⟩ := X.blk; exact ⟨T, by rw [hX.block _ X.lt hne]; exact hT⟩⟩
theorem Own.apart {w : World} {B B' : Nat} {e e' : TypeId} {sz sz' : Nat} {a a' : Option Addr} {n c n' c' : Nat} {xs ys : List Value} (h : Own w B e sz a n c xs) (h' : Own w B' e' sz' a' n' c' ys) (hne : e ≠ e') : ∀ k, blk a = some k → blk a' = some k → False := by
  intro k hk hk'
  obtain ⟨_, h2⟩ := h
  obtain ⟨_, h2'⟩ := h'
  rcases h2 with ⟨hv, _⟩ | ⟨g, cap, cur, hv, _, hh, _⟩
  · injection hv with ha; rw [ha] at hk; cases hk
  · rcases h2' with ⟨hv', _⟩ | ⟨g', cap', cur', hv', _, hh', _⟩
    · injection hv' with ha'; rw [ha'] at hk'; cases hk'
    · injection hv with ha
      injection hv' with ha'
      subst ha ha'
      have q1 : g = k := by simpa [blk] using hk
      have q2 : g' = k := by simpa [blk] using hk'
      subst q1
      subst q2
      rw [hh] at hh'
      injection hh' with hh'
      injection hh' with _ he _
      exact hne he
theorem xg_put {w w' w'' : World} {t : Nat} {o : Option Nat} (h : w.grownBy w' (some t)) (hg : w'.grownBy w'' o) (ho : ∀ k, o = some k → w.heap.size ≤ k ∨ k = t) : w.grownBy w'' (some t) :=
  ⟨hg.os.trans h.os, hg.tape.trans h.tape, hg.output.trans h.output, Nat.le_trans h.size hg.size, fun k hk hne => by
    rw [hg.block k (by have := h.size; omega) (fun e => by
      rcases ho k e.symm with q | q
      · omega
      · exact hne (by rw [q])), h.block k hk hne]⟩
end Go.V

/- copy, and regions with a relation. -/


namespace Go.V
open Go Go.RowKit Go.Q

theorem putAt_at : ∀ (vs pre cs : List Value), vs.length ≤ cs.length → putAt (pre ++ cs) pre.length vs = pre ++ vs ++ cs.drop vs.length
  | [], pre, cs, _ => by simp [putAt]
  | v :: vs, pre, [], h => by simp at h
  | v :: vs, pre, c :: cs, h => by
    simp only [putAt]
    have h1 : (pre ++ c :: cs).set pre.length v = (pre ++ [v]) ++ cs := by simp
    rw [h1]
    have := putAt_at vs (pre ++ [v]) cs (by simpa using h)
    simp only [List.length_append, List.length_cons, List.length_nil, Nat.zero_add] at this
    rw [this]; simp
theorem run_storeOwn {P : Program} {B : Nat} {e : TypeId} {ad : Addr} {n c : Nat} : ∀ (vs : List Value) (i : Nat) (w : World) (xs : List Value), Own w B e 1 (some ad) n c xs → i + vs.length ≤ xs.length → plainV vs = true →
    ∃ w', (storeCells ad vs i).run P w = .ok () w' ∧ Own w' B e 1 (some ad) n c (putAt xs i vs) ∧ w.grownBy w' (some ad.block) ∧ w'.heap.size = w.heap.size
  | [], i, w, xs, hb, _, _ => ⟨w, rfl, hb, grown_refl _ _, rfl⟩
  | v :: vs, i, w, xs, hb, hl, hp => by
    simp only [plainV, List.all_cons, Bool.and_eq_true] at hp
    simp only [List.length_cons] at hl
    obtain ⟨u, hu⟩ : ∃ u, xs[i]? = some u := ⟨_, List.getElem?_eq_getElem (by omega)⟩
    obtain ⟨ad', h1, hc, hfz, _⟩ := hb.cell (j := i) hu
    cases h1
    obtain ⟨w', h1, h2, h3, h4⟩ := run_storeOwn (P := P) vs (i + 1) (w.setCell (ad.add i) v) (xs.set i v) (hb.set i v) (by simp; omega) hp.2
    refine ⟨w', ?_, h2, ?_, by rw [h4, setCell_size]⟩
    · simp only [storeCells, Sem.run_bind]
      rw [run_store P w (ad.add i) v .plain hp.1, hc]
      simp only [hfz, Bool.false_eq_true, if_false, Result.andThen_ok, h1]
    · refine World.grownBy.trans ?_ h3
      have := setCell_grown w (ad.add i) v
      rwa [add_block] at this
theorem wr_copy {P : Program} {t e : TypeId} {z : Value} {bytes : Nat} (T : TyS P t e z 1 bytes) {w : World} {B : Nat} {a b : Option Addr} {n c m c' : Nat} {xs ys : List Value} {ty : TypeId} {k : Int → World → Prop}
    (O : Own w B e 1 a n c xs) (S : Sl w b m c' 1 ys) (hp : plainV ys = true)
    (hk : ∀ w', Own w' B e 1 a n c (ys.take n ++ xs.drop m) → w.grownBy w' (blk a) → w'.heap.size = w.heap.size → k ((Nat.min m n : Nat) : Int) w') :
    wr P (Builtin.copy_ #[t, t] ty #[.slice a n c, .slice b m c']) (.one (.int .i64)) w k := by
  obtain ⟨i, h1, _, h2, _⟩ := info_parts T.hi
  have hxs : xs.length = n := by have := O.1; omega
  have hys : ys.length = m := by have := S.len; omega
  have hi : i.size = 1 := h2
  have hmin : (Nat.min m n) = min m n := rfl
  have hcl : (ys.take n).length = Nat.min m n := by rw [List.length_take, hys, hmin]; omega
  have key : putAt xs 0 (ys.take n) = ys.take n ++ xs.drop m := by
    have := putAt_at (ys.take n) [] xs (by rw [hcl, hmin]; omega)
    simp only [List.nil_append, List.length_nil] at this
    rw [this, hcl, hmin]
    rcases Nat.le_total m n with q | q
    · rw [show min m n = m by omega]
    · rw [show min m n = n by omega, List.drop_of_length_le (by omega), List.drop_of_length_le (by omega)]
  have hpl : plainV (ys.take n) = true := by
    unfold plainV at hp ⊢
    rw [List.all_eq_true] at hp ⊢
    exact fun x hx => hp x (List.mem_of_mem_take hx)
  cases a with
  | none =>
    have hn0 : n = 0 := by
      rcases O.2 with ⟨hv, _⟩ | ⟨g, cap, cur, hv, _⟩
      · injection hv
      · cases hv
    subst hn0
    have hx0 : xs = [] := List.eq_nil_of_length_eq_zero hxs
    subst hx0
    refine ⟨(0 : Int), w, ?_, ?_⟩
    · cases b with
      | none => simp [Builtin.copy_, run_underlying T.ht, Builtin.lenOf, Builtin.firstCells, sizeOf, typeInfo, h1, goInt]; rfl
      | some b =>
        have hl := run_loadCells_list (P := P) w b [] (fun j v h => by simp at h)
        simp [Builtin.copy_, run_underlying T.ht, Builtin.lenOf, Builtin.firstCells, sizeOf, typeInfo, h1] at hl ⊢
        simp [hl, goInt]; rfl
    · have := hk w (by simpa using O) (grown_refl _ _) rfl
      simpa [hmin] using this
  | some ad =>
    obtain ⟨w', r1, r2, r3, r4⟩ := run_storeOwn (P := P) (ys.take n) 0 w xs O (by rw [hcl, hmin]; omega) hpl
    rw [key] at r2
    refine ⟨((Nat.min m n : Nat) : Int), w', ?_, hk w' r2 r3 r4⟩
    cases b with
    | none =>
      have hm0 : m = 0 := (S.nil' rfl).1
      subst hm0
      have hy0 : ys = [] := List.eq_nil_of_length_eq_zero hys
      subst hy0
      simp at r1
      simp [Builtin.copy_, run_underlying T.ht, Builtin.lenOf, Builtin.firstCells, sizeOf, typeInfo, h1, goInt, r1]; rfl
    | some b =>
      have hl := run_loadCells_list (P := P) w b (ys.take n) (fun j v h => by
        have hj : ys[j]? = some v := by
          rw [List.getElem?_take] at h
          split at h
          · exact h
          · cases h
        obtain ⟨ad', q1, q2, _⟩ := S.at' j v hj
        cases q1; exact q2)
      rw [hcl] at hl
      simp [Builtin.copy_, run_underlying T.ht, Builtin.lenOf, Builtin.firstCells, sizeOf, typeInfo, h1, hi, hl, r1, goInt]; rfl
theorem Own.putNew {w w' : World} {B : Nat} {e : TypeId} {sz : Nat} {a : Option Addr} {n c : Nat} {xs : List Value} {k : Nat} (O : Own w B e sz a n c xs) (h : w.grownBy w' (some k)) (hk : ∀ j, blk a = some j → j ≠ k) : Own w' B e sz a n c xs := by
  refine O.keptBy h ?_
  cases hj : blk a with
  | none => exact .inl rfl
  | some j => exact .inr fun q => hk j hj (by injection q)
theorem flExE_mk {B : Rel → Facts → Prop} (E : Rel) (Φ : Facts) (h1 : ∀ w, E w w) (h2 : ∀ a b c, E a b → E b c → E a c) (h3 : ∀ i ags v w w', Φ i ags v w → E w w' → Φ i ags v w') (h4 : B E Φ) : flExE B := ⟨E, Φ, h1, h2, h3, h4⟩
end Go.V

/- Elements of several cells are stored in rows of one's own. -/

namespace Go.V
open Go Go.RowKit Go.Q

theorem run_storeOwnA {P : Program} {B sz : Nat} {e : TypeId} {ad : Addr} {n c : Nat} : ∀ (vs : List Value) (i : Nat) (w : World) (xs : List Value), Own w B e sz (some ad) n c xs → i + vs.length ≤ xs.length → plainV vs = true →
    ∃ w', (storeCells ad vs i).run P w = .ok () w' ∧ Own w' B e sz (some ad) n c (putAt xs i vs) ∧ w.grownBy w' (some ad.block) ∧ w'.heap.size = w.heap.size
  | [], i, w, xs, hb, _, _ => ⟨w, rfl, hb, grown_refl _ _, rfl⟩
  | v :: vs, i, w, xs, hb, hl, hp => by
    simp only [plainV, List.all_cons, Bool.and_eq_true] at hp
    simp only [List.length_cons] at hl
    obtain ⟨u, hu⟩ : ∃ u, xs[i]? = some u := ⟨_, List.getElem?_eq_getElem (by omega)⟩
    obtain ⟨ad', h1, hc, hfz, _⟩ := hb.cell (j := i) hu
    cases h1
    obtain ⟨w', h1, h2, h3, h4⟩ := run_storeOwnA (P := P) vs (i + 1) (w.setCell (ad.add i) v) (xs.set i v) (hb.set i v) (by simp; omega) hp.2
    refine ⟨w', ?_, h2, ?_, by rw [h4, setCell_size]⟩
    · simp only [storeCells, Sem.run_bind]
      rw [run_store P w (ad.add i) v .plain hp.1, hc]
      simp only [hfz, Bool.false_eq_true, if_false, Result.andThen_ok, h1]
    · refine World.grownBy.trans ?_ h3
      have := setCell_grown w (ad.add i) v
      rwa [add_block] at this
theorem flat_set {α : Type} {enc : α → List Value} {sz : Nat} (he : ∀ a, (enc a).length = sz) (p : α) : ∀ (L : List α) (j : Nat), j < L.length → putAt (L.flatMap enc) (j * sz) (enc p) = (L.set j p).flatMap enc := by
  intro L j hj
  have h1 : L.flatMap enc = (L.take j).flatMap enc ++ (enc L[j] ++ (L.drop (j + 1)).flatMap enc) := by
    conv => lhs; rw [← List.take_append_drop j L, List.drop_eq_getElem_cons hj]
    rw [List.flatMap_append, List.flatMap_cons]
  have h2 : (L.set j p).flatMap enc = (L.take j).flatMap enc ++ (enc p ++ (L.drop (j + 1)).flatMap enc) := by
    rw [List.set_eq_take_append_cons_drop, if_pos hj, List.flatMap_append, List.flatMap_cons]
  have h3 : ((L.take j).flatMap enc).length = j * sz := by rw [flat_len he, List.length_take, Nat.min_eq_left (by omega)]
  rw [h1, h2, ← h3, putAt_at _ _ _ (by rw [List.length_append, he, he]; omega), List.drop_append_of_le_length (by rw [he, he]; omega), List.drop_of_length_le (by rw [he, he]; omega), List.nil_append, List.append_assoc]
theorem set_agg {P : Program} {t e : TypeId} {z : Value} {sz bytes : Nat} (T : TyS P t e z sz bytes) {α : Type} {enc : α → List Value} (he : ∀ a, (enc a).length = sz) {w : World} {B : Nat} {a : Option Addr} {n c j : Nat} {L : List α} (O : Own w B e sz a n c (L.flatMap enc)) {k : IntKind} {i : Int} {v : Value} {p : α} {K : World → Prop}
    (hj : i = (j : Int)) (hn : j < L.length) (hv : v.cells.toList = enc p) (h0 : 0 < sz) (hp : plainV (enc p) = true)
    (hk : ∀ w', Own w' B e sz a n c ((L.set j p).flatMap enc) → w.grownBy w' (blk a) → w'.heap.size = w.heap.size → K w') :
    rdp P (Instr.indexAt t (.slice a n c) (.int k i)) (.one .addr) fun ad => wu P (Instr.storeAt e (.pointer (some ad)) v) w K := by
  have hlen := O.1
  rw [flat_len he] at hlen
  have hL : L.length = n := Nat.eq_of_mul_eq_mul_right h0 hlen
  have hjs : j * sz + sz ≤ (L.flatMap enc).length := by
    rw [flat_len he]
    have : (j + 1) * sz ≤ L.length * sz := Nat.mul_le_mul_right _ hn
    rw [Nat.add_mul, Nat.one_mul] at this; exact this
  obtain ⟨u, hu⟩ : ∃ u, (L.flatMap enc)[j * sz]? = some u := ⟨_, List.getElem?_eq_getElem (by omega)⟩
  obtain ⟨ad, h1, _⟩ := O.cell (j := j * sz) hu
  subst h1
  refine idx_mk T hj (by omega) rfl ?_
  have hvs : v.cells.size = sz := by rw [← Array.length_toList, hv, he]
  have ht : sizeIs P e v.cells.size = true := by
    obtain ⟨i, h1, _, h2, _⟩ := info_parts T.hi
    unfold sizeIs; rw [h1, hvs]; simp [h2]
  obtain ⟨w', h1, h2, h3, h4⟩ := run_storeOwnA (P := P) v.cells.toList (j * sz) w _ O (by rw [hv, he]; exact hjs) (by rw [hv]; exact hp)
  rw [hv, flat_set he p L j hn] at h2
  refine ⟨w', ?_, hk w' h2 h3 h4⟩
  unfold Instr.storeAt Instr.sureAddr storeVar
  simp only [Sem.run_bind, Sem.run_pure, Result.andThen_ok, run_sizeOf ht]
  simp only [ne_eq, not_true_eq_false, if_false]
  rw [storeCells_add]; exact h1
theorem made_flat {α : Type} {enc : α → List Value} {sz : Nat} (he : ∀ a, (enc a).length = sz) (h0 : 0 < sz) (p : α) (cs : Array Value) (hc : cs.toList = enc p) (n : Nat) : (madeCells cs (n * sz)).toList = (List.replicate n p).flatMap enc := by
  refine List.ext_getElem? fun i => ?_
  have hcs : cs.size = sz := by rw [← Array.length_toList, hc, he]
  by_cases hi : i < n * sz
  · have h1 : (List.replicate n p)[i / sz]? = some p := by rw [List.getElem?_replicate, if_pos (Nat.div_lt_of_lt_mul (by rw [Nat.mul_comm]; exact hi))]
    have := flat_get he h1 (Nat.mod_lt i h0)
    rw [Nat.div_add_mod'] at this
    rw [this, ← hc]
    have hm : i % sz < cs.size := by rw [hcs]; exact Nat.mod_lt i h0
    simp [madeCells, hi, hcs]
    rw [getElem!_pos cs _ hm, Array.getElem?_eq_getElem hm]
  · rw [List.getElem?_eq_none (by rw [Array.length_toList, size_madeCells]; omega), List.getElem?_eq_none (by rw [flat_len he, List.length_replicate]; omega)]
end Go.V

/- The conditions of functions, printed by our tool; each is checked against the code by the kernel. -/



namespace Go.Proofs
open Go Go.V Go.RowKit
open Tryz (prog)
set_option maxRecDepth 100000
def S27 (n_ most_ : Int) (w0 : World) (R : KR) : Prop :=
 z (IntKind.wrap .i64 (0 - most_)) fun (z1 : Int) =>
 br (decide (n_ ≥ z1)) (R (.bool (decide (n_ ≤ most_))) w0)
 (R (.bool false) w0)
def H27 : Hints := ⟨[], [], [], []⟩
theorem S27_calls (n_ most_ : Int) (w0 : World) (R : KR) (h : S27 n_ most_ w0 R) : Calls prog 27 #[ji n_, ji most_] w0 (ret R) :=
 vcFn_sound (H := H27) follows_ Tryz.func27 (Eq.mpr (by kernel_rfl) h)
def S14 (s_0a : OA) (s_0n s_0c : Nat) (s_1a : OA) (s_1n s_1c : Nat) (s_2a : OA) (s_2n s_2c : Nat) (w0 : World) (R : KR) : Prop :=
 wr prog (Instr.box 29 (.agg #[.slice s_0a s_0n s_0c, .slice s_1a s_1n s_1c, .slice s_2a s_2n s_2c])) oA w0 fun (x1 : Addr) w2 =>
 rd prog (jL 26 x1) oS w2 fun (x3 : Hd3) =>
 br (decide (((x3.2.1 : Nat) : Int) > 200)) (R (ji 8) w2)
 (rd prog (jL 27 (Addr.add x1 1)) oS w2 fun (x4 : Hd3) =>
 br (decide (((x4.2.1 : Nat) : Int) > 100)) (R (ji 8) w2)
 (loop (T := (Int × Unit)) (0, ()) w2 fun (g5 : Int × Unit → World → Prop) (s6 : Int × Unit) w7 => ∀ _ : NV,
 rd prog (jL 26 x1) oS w7 fun (x8 : Hd3) =>
 br (decide (s6.1 < ((x8.2.1 : Nat) : Int))) (rd prog (jL 26 x1) oS w7 fun (x9 : Hd3) =>
 rdp prog (jI 26 x9 s6.1) oA fun (x10 : Addr) =>
 rd prog (jL 2 x10) oI w7 fun (x11 : Int) =>
 br (decide (x11 < 0)) (R (ji 8) w7)
 (rd prog (jL 26 x1) oS w7 fun (x12 : Hd3) =>
 rdp prog (jI 26 x12 s6.1) oA fun (x13 : Addr) =>
 rd prog (jL 2 x13) oI w7 fun (x14 : Int) =>
 br (decide (x14 > 1000000000)) (R (ji 8) w7)
 (z (IntKind.wrap .i64 (s6.1 + 1)) fun (z15 : Int) =>
 g5 (z15, ()) w7)))
 (loop (T := (Int × Unit)) (0, ()) w7 fun (g16 : Int × Unit → World → Prop) (s17 : Int × Unit) w18 => ∀ _ : NV,
 rd prog (jL 26 (Addr.add x1 2)) oS w18 fun (x19 : Hd3) =>
 br (decide (s17.1 < ((x19.2.1 : Nat) : Int))) (rd prog (jL 26 (Addr.add x1 2)) oS w18 fun (x20 : Hd3) =>
 rdp prog (jI 26 x20 s17.1) oA fun (x21 : Addr) =>
 rd prog (jL 2 x21) oI w18 fun (x22 : Int) =>
 call prog 27 [ji x22, ji 1000000000] (.one oB) w18 fun (x23 : Bool) w24 =>
 br (!x23) (R (ji 8) w24)
 (z (IntKind.wrap .i64 (s17.1 + 1)) fun (z25 : Int) =>
 g16 (z25, ()) w24))
 (loop (T := (Int × Unit)) (0, ()) w18 fun (g26 : Int × Unit → World → Prop) (s27 : Int × Unit) w28 => ∀ _ : NV,
 rd prog (jL 27 (Addr.add x1 1)) oS w28 fun (x29 : Hd3) =>
 br (decide (s27.1 < ((x29.2.1 : Nat) : Int))) (loop (T := (Int × Unit)) (0, ()) w28 fun (g30 : Int × Unit → World → Prop) (s31 : Int × Unit) w32 => ∀ _ : NV,
 rd prog (jL 27 (Addr.add x1 1)) oS w32 fun (x33 : Hd3) =>
 rdp prog (jI 27 x33 s27.1) oA fun (x34 : Addr) =>
 rd prog (jL 26 x34) oS w32 fun (x35 : Hd3) =>
 br (decide (s31.1 < ((x35.2.1 : Nat) : Int))) (rd prog (jL 27 (Addr.add x1 1)) oS w32 fun (x36 : Hd3) =>
 rdp prog (jI 27 x36 s27.1) oA fun (x37 : Addr) =>
 rd prog (jL 26 x37) oS w32 fun (x38 : Hd3) =>
 rdp prog (jI 26 x38 s31.1) oA fun (x39 : Addr) =>
 rd prog (jL 2 x39) oI w32 fun (x40 : Int) =>
 call prog 27 [ji x40, ji 1000000] (.one oB) w32 fun (x41 : Bool) w42 =>
 br (!x41) (R (ji 8) w42)
 (z (IntKind.wrap .i64 (s31.1 + 1)) fun (z43 : Int) =>
 g30 (z43, ()) w42))
 (z (IntKind.wrap .i64 (s27.1 + 1)) fun (z44 : Int) =>
 g26 (z44, ()) w32))
 (rd prog (jL 26 (Addr.add x1 2)) oS w28 fun (x45 : Hd3) =>
 rd prog (jL 27 (Addr.add x1 1)) oS w28 fun (x46 : Hd3) =>
 br (((x45.2.1 : Nat) : Int) != ((x46.2.1 : Nat) : Int)) (R (ji 9) w28)
 (loop (T := (Int × Unit)) (0, ()) w28 fun (g47 : Int × Unit → World → Prop) (s48 : Int × Unit) w49 => ∀ _ : NV,
 rd prog (jL 27 (Addr.add x1 1)) oS w49 fun (x50 : Hd3) =>
 br (decide (s48.1 < ((x50.2.1 : Nat) : Int))) (drw w49 fun w51 =>
 rd prog (jL 27 (Addr.add x1 1)) oS w51 fun (x52 : Hd3) =>
 rdp prog (jI 27 x52 s48.1) oA fun (x53 : Addr) =>
 rd prog (jL 26 x53) oS w51 fun (x54 : Hd3) =>
 rd prog (jL 26 x1) oS w51 fun (x55 : Hd3) =>
 br (((x54.2.1 : Nat) : Int) != ((x55.2.1 : Nat) : Int)) (R (ji 9) w51)
 (z (IntKind.wrap .i64 (s48.1 + 1)) fun (z56 : Int) =>
 g47 (z56, ()) w51))
 (R (ji 0) w49)))))))
def H14 : Hints := ⟨[(2, 0, [(3, (.one (.int .i64)))]), (2, 2, [(4, (.one (.int .i64)))]), (2, 4, [(5, (.one (.int .i64)))]), (2, 6, [(6, (.one (.int .i64)))]), (2, 8, [(7, (.one (.int .i64)))])], [(26, 9)], [], []⟩
theorem S14_calls (s_0a : OA) (s_0n s_0c : Nat) (s_1a : OA) (s_1n s_1c : Nat) (s_2a : OA) (s_2n s_2c : Nat) (w0 : World) (R : KR) (h : S14 s_0a s_0n s_0c s_1a s_1n s_1c s_2a s_2n s_2c w0 R) : Calls prog 14 #[.agg #[.slice s_0a s_0n s_0c, .slice s_1a s_1n s_1c, .slice s_2a s_2n s_2c]] w0 (ret R) :=
 vcFn_sound (H := H14) follows_ Tryz.func14 (Eq.mpr (by kernel_rfl) h)
def S34 (n_ low_ high_ : Int) (w0 : World) (R : KR) : Prop :=
 br (decide (n_ < low_)) (R (.bool true) w0)
 (R (.bool (decide (n_ > high_))) w0)
def H34 : Hints := ⟨[], [], [], []⟩
theorem S34_calls (n_ low_ high_ : Int) (w0 : World) (R : KR) (h : S34 n_ low_ high_ w0 R) : Calls prog 34 #[ji n_, ji low_, ji high_] w0 (ret R) :=
 vcFn_sound (H := H34) follows_ Tryz.func34 (Eq.mpr (by kernel_rfl) h)
def S33 (n_ : Int) (cap0 cap1 : Addr) (w0 : World) (R : KR) : Prop :=
 rd prog (jL 2 cap0) oI w0 fun (x1 : Int) =>
 rd prog (jL 2 cap1) oI w0 fun (x2 : Int) =>
 call prog 34 [ji n_, ji x1, ji x2] (.one oB) w0 fun (x3 : Bool) w4 =>
 R (.bool x3) w4
def H33 : Hints := ⟨[], [], [], []⟩
theorem S33_calls (n_ : Int) (cap0 cap1 : Addr) (w0 : World) (R : KR) (h : S33 n_ cap0 cap1 w0 R) : Calls prog 33 #[ji n_, jp cap0, jp cap1] w0 (ret R) :=
 vcFn_sound (H := H33) follows_ Tryz.func33 (Eq.mpr (by kernel_rfl) h)
def S58a (s_a : OA) (s_n s_c : Nat) (cap1_0 cap1_1 : Addr) (w0 : World) (R : KR) : Prop :=
 loop (T := (Int × Unit)) (0, ()) w0 fun (g1 : Int × Unit → World → Prop) (s2 : Int × Unit) w3 => ∀ _ : NV,
 br (decide (s2.1 < ((s_n : Nat) : Int))) (rdp prog (Instr.indexAt 26 (.slice s_a s_n s_c) (ji s2.1)) oA fun (x4 : Addr) =>
 rd prog (jL 2 x4) oI w3 fun (x5 : Int) =>
 call prog 33 [ji x5, jp cap1_0, jp cap1_1] (.one oB) w3 fun (x6 : Bool) w7 =>
 br x6 (R (ji s2.1) w7)
 (z (IntKind.wrap .i64 (s2.1 + 1)) fun (z8 : Int) =>
 g1 (z8, ()) w7))
 (R (ji (-1)) w3)
def H58a : Hints := ⟨[(2, 0, [(8, (.one (.int .i64)))])], [], [], []⟩
theorem S58a_calls (s_a : OA) (s_n s_c : Nat) (cap1_0 cap1_1 : Addr) (w0 : World) (R : KR) (h : S58a s_a s_n s_c cap1_0 cap1_1 w0 R) : Calls prog 58 #[.slice s_a s_n s_c, (.func (.func 33) #[] #[jp cap1_0, jp cap1_1])] w0 (ret R) :=
 vcFn_sound (H := H58a) follows_ Tryz.func58 (Eq.mpr (by kernel_rfl) h)
def S32a (s_a : OA) (s_n s_c : Nat) (cap1_0 cap1_1 : Addr) (w0 : World) (R : KR) : Prop :=
 call prog 58 [.slice s_a s_n s_c, (.func (.func 33) #[] #[jp cap1_0, jp cap1_1])] (.one oI) w0 fun (x1 : Int) w2 =>
 R (.bool (decide (x1 ≥ 0))) w2
def H32a : Hints := ⟨[], [], [], []⟩
theorem S32a_calls (s_a : OA) (s_n s_c : Nat) (cap1_0 cap1_1 : Addr) (w0 : World) (R : KR) (h : S32a s_a s_n s_c cap1_0 cap1_1 w0 R) : Calls prog 32 #[.slice s_a s_n s_c, (.func (.func 33) #[] #[jp cap1_0, jp cap1_1])] w0 (ret R) :=
 vcFn_sound (H := H32a) follows_ Tryz.func32 (Eq.mpr (by kernel_rfl) h)
def S31 (l_a : OA) (l_n l_c : Nat) (low_ high_ : Int) (w0 : World) (R : KR) : Prop :=
 wr prog (Instr.box 2 (ji low_)) oA w0 fun (x1 : Addr) w2 =>
 wr prog (Instr.box 2 (ji high_)) oA w2 fun (x3 : Addr) w4 =>
 call prog 32 [.slice l_a l_n l_c, (.func (.func 33) #[] #[jp x1, jp x3])] (.one oB) w4 fun (x5 : Bool) w6 =>
 R (.bool x5) w6
def H31 : Hints := ⟨[], [], [], []⟩
theorem S31_calls (l_a : OA) (l_n l_c : Nat) (low_ high_ : Int) (w0 : World) (R : KR) (h : S31 l_a l_n l_c low_ high_ w0 R) : Calls prog 31 #[.slice l_a l_n l_c, ji low_, ji high_] w0 (ret R) :=
 vcFn_sound (H := H31) follows_ Tryz.func31 (Eq.mpr (by kernel_rfl) h)
def S36 (r_a : OA) (r_n r_c : Nat) (cap0 : Addr) (w0 : World) (R : KR) : Prop :=
 rdF prog bel (jL 68 cap0) w0 fun (h1 : Nat) (h1f h1c : Array Value) =>
 callX prog h1 (h1f ++ (#[.slice r_a r_n r_c, ji (-1000000), ji 1000000] : Array Value) ++ h1c).toList (.one oB) w0 fun (x2 : Bool) w3 =>
 R (.bool x2) w3
def H36 : Hints := ⟨[], [], [], []⟩
theorem S36_calls (r_a : OA) (r_n r_c : Nat) (cap0 : Addr) (w0 : World) (R : KR) (h : S36 r_a r_n r_c cap0 w0 R) : Calls prog 36 #[.slice r_a r_n r_c, jp cap0] w0 (ret R) :=
 vcFn_sound (H := H36) follows_ Tryz.func36 (Eq.mpr (by kernel_rfl) h)
def S37 (_r_a : OA) (r_n _r_c : Nat) (cap0 : Addr) (w0 : World) (R : KR) : Prop :=
 rd prog (jL 26 cap0) oS w0 fun (x1 : Hd3) =>
 R (.bool (((r_n : Nat) : Int) != ((x1.2.1 : Nat) : Int))) w0
def H37 : Hints := ⟨[], [], [], []⟩
theorem S37_calls (r_a : OA) (r_n r_c : Nat) (cap0 : Addr) (w0 : World) (R : KR) (h : S37 r_a r_n r_c cap0 w0 R) : Calls prog 37 #[.slice r_a r_n r_c, jp cap0] w0 (ret R) :=
 vcFn_sound (H := H37) follows_ Tryz.func37 (Eq.mpr (by kernel_rfl) h)
def S59b (s_a : OA) (s_n s_c : Nat) (cap1_0 : Addr) (w0 : World) (R : KR) : Prop :=
 loop (T := (Int × Unit)) (0, ()) w0 fun (g1 : Int × Unit → World → Prop) (s2 : Int × Unit) w3 => ∀ _ : NV,
 br (decide (s2.1 < ((s_n : Nat) : Int))) (rdp prog (Instr.indexAt 27 (.slice s_a s_n s_c) (ji s2.1)) oA fun (x4 : Addr) =>
 rd prog (jL 26 x4) oS w3 fun (x5 : Hd3) =>
 call prog 36 [jw x5, jp cap1_0] (.one oB) w3 fun (x6 : Bool) w7 =>
 br x6 (R (ji s2.1) w7)
 (z (IntKind.wrap .i64 (s2.1 + 1)) fun (z8 : Int) =>
 g1 (z8, ()) w7))
 (R (ji (-1)) w3)
def H59b : Hints := ⟨[(2, 0, [(8, (.one (.int .i64)))])], [], [], []⟩
theorem S59b_calls (s_a : OA) (s_n s_c : Nat) (cap1_0 : Addr) (w0 : World) (R : KR) (h : S59b s_a s_n s_c cap1_0 w0 R) : Calls prog 59 #[.slice s_a s_n s_c, (.func (.func 36) #[] #[jp cap1_0])] w0 (ret R) :=
 vcFn_sound (H := H59b) follows_ Tryz.func59 (Eq.mpr (by kernel_rfl) h)
def S35b (s_a : OA) (s_n s_c : Nat) (cap1_0 : Addr) (w0 : World) (R : KR) : Prop :=
 call prog 59 [.slice s_a s_n s_c, (.func (.func 36) #[] #[jp cap1_0])] (.one oI) w0 fun (x1 : Int) w2 =>
 R (.bool (decide (x1 ≥ 0))) w2
def H35b : Hints := ⟨[], [], [], []⟩
theorem S35b_calls (s_a : OA) (s_n s_c : Nat) (cap1_0 : Addr) (w0 : World) (R : KR) (h : S35b s_a s_n s_c cap1_0 w0 R) : Calls prog 35 #[.slice s_a s_n s_c, (.func (.func 36) #[] #[jp cap1_0])] w0 (ret R) :=
 vcFn_sound (H := H35b) follows_ Tryz.func35 (Eq.mpr (by kernel_rfl) h)
def S59c (s_a : OA) (s_n s_c : Nat) (cap1_0 : Addr) (w0 : World) (R : KR) : Prop :=
 loop (T := (Int × Unit)) (0, ()) w0 fun (g1 : Int × Unit → World → Prop) (s2 : Int × Unit) w3 => ∀ _ : NV,
 br (decide (s2.1 < ((s_n : Nat) : Int))) (rdp prog (Instr.indexAt 27 (.slice s_a s_n s_c) (ji s2.1)) oA fun (x4 : Addr) =>
 rd prog (jL 26 x4) oS w3 fun (x5 : Hd3) =>
 call prog 37 [jw x5, jp cap1_0] (.one oB) w3 fun (x6 : Bool) w7 =>
 br x6 (R (ji s2.1) w7)
 (z (IntKind.wrap .i64 (s2.1 + 1)) fun (z8 : Int) =>
 g1 (z8, ()) w7))
 (R (ji (-1)) w3)
def H59c : Hints := ⟨[(2, 0, [(8, (.one (.int .i64)))])], [], [], []⟩
theorem S59c_calls (s_a : OA) (s_n s_c : Nat) (cap1_0 : Addr) (w0 : World) (R : KR) (h : S59c s_a s_n s_c cap1_0 w0 R) : Calls prog 59 #[.slice s_a s_n s_c, (.func (.func 37) #[] #[jp cap1_0])] w0 (ret R) :=
 vcFn_sound (H := H59c) follows_ Tryz.func59 (Eq.mpr (by kernel_rfl) h)
def S35c (s_a : OA) (s_n s_c : Nat) (cap1_0 : Addr) (w0 : World) (R : KR) : Prop :=
 call prog 59 [.slice s_a s_n s_c, (.func (.func 37) #[] #[jp cap1_0])] (.one oI) w0 fun (x1 : Int) w2 =>
 R (.bool (decide (x1 ≥ 0))) w2
def H35c : Hints := ⟨[], [], [], []⟩
theorem S35c_calls (s_a : OA) (s_n s_c : Nat) (cap1_0 : Addr) (w0 : World) (R : KR) (h : S35c s_a s_n s_c cap1_0 w0 R) : Calls prog 35 #[.slice s_a s_n s_c, (.func (.func 37) #[] #[jp cap1_0])] w0 (ret R) :=
 vcFn_sound (H := H35c) follows_ Tryz.func35 (Eq.mpr (by kernel_rfl) h)
def S18 (s_0a : OA) (s_0n s_0c : Nat) (s_1a : OA) (s_1n s_1c : Nat) (s_2a : OA) (s_2n s_2c : Nat) (w0 : World) (R : KR) : Prop :=
 wr prog (Instr.box 29 (.agg #[.slice s_0a s_0n s_0c, .slice s_1a s_1n s_1c, .slice s_2a s_2n s_2c])) oA w0 fun (x1 : Addr) w2 =>
 rd prog (jL 26 x1) oS w2 fun (x3 : Hd3) =>
 br (decide (((x3.2.1 : Nat) : Int) > 200)) (R (ji 8) w2)
 (rd prog (jL 27 (Addr.add x1 1)) oS w2 fun (x4 : Hd3) =>
 br (decide (((x4.2.1 : Nat) : Int) > 100)) (R (ji 8) w2)
 (wr prog (Instr.alloc 68 true (.tuple #[])) oA w2 fun (x5 : Addr) w6 =>
 wu prog (jS 68 x5 (.func (.func 31) #[] #[])) w6 fun w7 =>
 rdF prog bel (jL 68 x5) w7 fun (h8 : Nat) (h8f h8c : Array Value) =>
 rd prog (jL 26 x1) oS w7 fun (x9 : Hd3) =>
 callX prog h8 (h8f ++ (#[jw x9, ji 0, ji 1000000000] : Array Value) ++ h8c).toList (.one oB) w7 fun (x10 : Bool) w11 =>
 br x10 (R (ji 8) w11)
 (rdF prog bel (jL 68 x5) w11 fun (h12 : Nat) (h12f h12c : Array Value) =>
 rd prog (jL 26 (Addr.add x1 2)) oS w11 fun (x13 : Hd3) =>
 callX prog h12 (h12f ++ (#[jw x13, ji (-1000000000), ji 1000000000] : Array Value) ++ h12c).toList (.one oB) w11 fun (x14 : Bool) w15 =>
 br x14 (R (ji 8) w15)
 (rd prog (jL 27 (Addr.add x1 1)) oS w15 fun (x16 : Hd3) =>
 call prog 35 [jw x16, (.func (.func 36) #[] #[jp x5])] (.one oB) w15 fun (x17 : Bool) w18 =>
 br x17 (R (ji 8) w18)
 (rd prog (jL 26 (Addr.add x1 2)) oS w18 fun (x19 : Hd3) =>
 rd prog (jL 27 (Addr.add x1 1)) oS w18 fun (x20 : Hd3) =>
 br (((x19.2.1 : Nat) : Int) != ((x20.2.1 : Nat) : Int)) (R (ji 9) w18)
 (rd prog (jL 27 (Addr.add x1 1)) oS w18 fun (x21 : Hd3) =>
 call prog 35 [jw x21, (.func (.func 37) #[] #[jp x1])] (.one oB) w18 fun (x22 : Bool) w23 =>
 br x22 (R (ji 9) w23)
 (R (ji 0) w23)))))))
def H18 : Hints := ⟨[], [], [], []⟩
theorem S18_calls (s_0a : OA) (s_0n s_0c : Nat) (s_1a : OA) (s_1n s_1c : Nat) (s_2a : OA) (s_2n s_2c : Nat) (w0 : World) (R : KR) (h : S18 s_0a s_0n s_0c s_1a s_1n s_1c s_2a s_2n s_2c w0 R) : Calls prog 18 #[.agg #[.slice s_0a s_0n s_0c, .slice s_1a s_1n s_1c, .slice s_2a s_2n s_2c]] w0 (ret R) :=
 vcFn_sound (H := H18) follows_ Tryz.func18 (Eq.mpr (by kernel_rfl) h)
def S10 (s_0a : OA) (s_0n s_0c : Nat) (s_1a : OA) (s_1n s_1c : Nat) (s_2a : OA) (s_2n s_2c : Nat) (x_a : OA) (x_n x_c : Nat) (w0 : World) (R : KR) : Prop :=
 wr prog (Instr.box 29 (.agg #[.slice s_0a s_0n s_0c, .slice s_1a s_1n s_1c, .slice s_2a s_2n s_2c])) oA w0 fun (x1 : Addr) w2 =>
 loop (T := (Hd3 × Int × Unit)) ((none, 0, 0), 0, ()) w2 fun (g3 : Hd3 × Int × Unit → World → Prop) (s4 : Hd3 × Int × Unit) w5 => ∀ _ : NV,
 br (decide (s4.2.1 < ((x_n : Nat) : Int))) (rdp prog (Instr.indexAt 26 (.slice x_a x_n x_c) (ji s4.2.1)) oA fun (x6 : Addr) =>
 rd prog (jL 2 x6) oI w5 fun (x7 : Int) =>
 wr prog (Instr.buildSlice 32 1 #[(0, (.agg #[ji x7, ji 1]))]) oS w5 fun (x8 : Hd3) w9 =>
 wr prog (Builtin.append_ #[32, 32] 32 #[.slice s4.1.1 s4.1.2.1 s4.1.2.2, .slice x8.1 x8.2.1 x8.2.2]) oS w9 fun (x10 : Hd3) w11 =>
 z (IntKind.wrap .i64 (s4.2.1 + 1)) fun (z12 : Int) =>
 g3 ((x10.1, x10.2.1, x10.2.2), z12, ()) w11)
 (rd prog (jL 29 x1) aS w5 fun (x13 : TS) =>
 call prog 23 [.agg #[jw x13.1, jw x13.2.1, jw x13.2.2.1], jw s4.1] (.one oB) w5 fun (x14 : Bool) w15 =>
 R (.bool x14) w15)
def H10 : Hints := ⟨[(2, 0, [(5, (.one .slice)), (6, (.one (.int .i64)))])], [], [], []⟩
theorem S10_calls (s_0a : OA) (s_0n s_0c : Nat) (s_1a : OA) (s_1n s_1c : Nat) (s_2a : OA) (s_2n s_2c : Nat) (x_a : OA) (x_n x_c : Nat) (w0 : World) (R : KR) (h : S10 s_0a s_0n s_0c s_1a s_1n s_1c s_2a s_2n s_2c x_a x_n x_c w0 R) : Calls prog 10 #[.agg #[.slice s_0a s_0n s_0c, .slice s_1a s_1n s_1c, .slice s_2a s_2n s_2c], .slice x_a x_n x_c] w0 (ret R) :=
 vcFn_sound (H := H10) follows_ Tryz.func10 (Eq.mpr (by kernel_rfl) h)
def S23 (s_0a : OA) (s_0n s_0c : Nat) (s_1a : OA) (s_1n s_1c : Nat) (s_2a : OA) (s_2n s_2c : Nat) (x_a : OA) (x_n x_c : Nat) (w0 : World) (R : KR) : Prop :=
 wr prog (Instr.box 29 (.agg #[.slice s_0a s_0n s_0c, .slice s_1a s_1n s_1c, .slice s_2a s_2n s_2c])) oA w0 fun (x1 : Addr) w2 =>
 rd prog (jL 29 x1) aS w2 fun (x3 : TS) =>
 call prog 14 [.agg #[jw x3.1, jw x3.2.1, jw x3.2.2.1]] (.one oI) w2 fun (x4 : Int) w5 =>
 br (x4 != 0) (R (.bool false) w5)
 (rd prog (jL 26 x1) oS w5 fun (x6 : Hd3) =>
 br (((x_n : Nat) : Int) != ((x6.2.1 : Nat) : Int)) (R (.bool false) w5)
 (loop (T := (Int × Unit)) (0, ()) w5 fun (g7 : Int × Unit → World → Prop) (s8 : Int × Unit) w9 => ∀ _ : NV,
 br (decide (s8.1 < ((x_n : Nat) : Int))) (drw w9 fun w10 => flEx fun F11 =>
 rdp prog (Instr.indexAt 32 (.slice x_a x_n x_c) (ji s8.1)) oA fun (x12 : Addr) =>
 rd prog (jL 60 x12) aF w10 fun (x13 : TF) =>
 flc bel w10 (fun _w15 => True) (fun w14 =>
   call prog 46 [.agg #[ji x13.1, ji x13.2.1]] (.one oB) w14 fun (x16 : Bool) w17 =>
 (bel w14 w17 ∧ F11 4 [.agg #[ji x13.1, ji x13.2.1]] (.bool x16) w17))
  fun (x18 : Bool) =>
 br (!x18) (flend bel w10 (fun w20 => F11 4 [.agg #[ji x13.1, ji x13.2.1]] (.bool x18) w20 ∧ True) fun w19 =>
 R (.bool false) w19)
 (rdp prog (Instr.indexAt 32 (.slice x_a x_n x_c) (ji s8.1)) oA fun (x21 : Addr) =>
 rd prog (jL 2 x21) oI w10 fun (x22 : Int) =>
 br (decide (x22 < 0)) (flend bel w10 (fun w24 => F11 4 [.agg #[ji x13.1, ji x13.2.1]] (.bool x18) w24 ∧ True) fun w23 =>
 R (.bool false) w23)
 (rd prog (jL 26 x1) oS w10 fun (x25 : Hd3) =>
 rdp prog (jI 26 x25 s8.1) oA fun (x26 : Addr) =>
 rd prog (jL 2 x26) oI w10 fun (x27 : Int) =>
 flc bel w10 (fun w29 => F11 4 [.agg #[ji x13.1, ji x13.2.1]] (.bool x18) w29 ∧ True) (fun w28 =>
   call prog 48 [ji x27] (.one aN) w28 fun (x30 : Bool × Hd3 × Hd3 × Unit) w31 =>
 (bel w28 w31 ∧ F11 20 [ji x27] (.agg #[.bool x30.1, jw x30.2.1, jw x30.2.2.1]) w31))
  fun (x32 : Bool × Hd3 × Hd3 × Unit) =>
 rdp prog (Instr.indexAt 32 (.slice x_a x_n x_c) (ji s8.1)) oA fun (x33 : Addr) =>
 rd prog (jL 60 x33) aF w10 fun (x34 : TF) =>
 flend bel w10 (fun w36 => F11 20 [ji x27] (.agg #[.bool x32.1, jw x32.2.1, jw x32.2.2.1]) w36 ∧ F11 4 [.agg #[ji x13.1, ji x13.2.1]] (.bool x18) w36 ∧ True) fun w35 =>
 call prog 49 [.agg #[ji x34.1, ji x34.2.1]] (.one aN) w35 fun (x37 : Bool × Hd3 × Hd3 × Unit) w38 =>
 call prog 47 [.agg #[.bool x32.1, jw x32.2.1, jw x32.2.2.1], .agg #[.bool x37.1, jw x37.2.1, jw x37.2.2.1]] (.one oB) w38 fun (x39 : Bool) w40 =>
 br x39 (R (.bool false) w40)
 (z (IntKind.wrap .i64 (s8.1 + 1)) fun (z41 : Int) =>
 g7 (z41, ()) w40))))
 (loop (T := (Int × Unit)) (0, ()) w9 fun (g42 : Int × Unit → World → Prop) (s43 : Int × Unit) w44 => ∀ _ : NV,
 rd prog (jL 27 (Addr.add x1 1)) oS w44 fun (x45 : Hd3) =>
 br (decide (s43.1 < ((x45.2.1 : Nat) : Int))) (call prog 48 [ji 0] (.one aN) w44 fun (x46 : Bool × Hd3 × Hd3 × Unit) w47 =>
 wr prog (Instr.alloc 83 true (.tuple #[])) oA w47 fun (x48 : Addr) w49 =>
 wu prog (jS 83 x48 (.agg #[.bool x46.1, jw x46.2.1, jw x46.2.2.1])) w49 fun w50 =>
 loop (T := (Int × Unit)) (0, ()) w50 fun (g51 : Int × Unit → World → Prop) (s52 : Int × Unit) w53 => ∀ _ : NV,
 br (decide (s52.1 < ((x_n : Nat) : Int))) (join (T := Unit) (fun (_s55 : Unit) w56 => ∀ _ : NV,
 z (IntKind.wrap .i64 (s52.1 + 1)) fun (z57 : Int) =>
 g51 (z57, ()) w56)
  fun (K54 : Unit → World → Prop) =>
 rdp prog (Instr.indexAt 32 (.slice x_a x_n x_c) (ji s52.1)) oA fun (x58 : Addr) =>
 rd prog (jL 2 x58) oI w53 fun (x59 : Int) =>
 br (x59 != 0) (rd prog (jL 27 (Addr.add x1 1)) oS w53 fun (x60 : Hd3) =>
 rdp prog (jI 27 x60 s43.1) oA fun (x61 : Addr) =>
 rd prog (jL 26 x61) oS w53 fun (x62 : Hd3) =>
 rdp prog (jI 26 x62 s52.1) oA fun (x63 : Addr) =>
 rd prog (jL 2 x63) oI w53 fun (x64 : Int) =>
 br (x64 != 0) (drw w53 fun w65 => flEx fun F66 =>
 rd prog (jL 83 x48) aN w65 fun (x67 : Bool × Hd3 × Hd3 × Unit) =>
 rdp prog (Instr.indexAt 32 (.slice x_a x_n x_c) (ji s52.1)) oA fun (x68 : Addr) =>
 rd prog (jL 60 x68) aF w65 fun (x69 : TF) =>
 flc bel w65 (fun _w71 => True) (fun w70 =>
   call prog 49 [.agg #[ji x69.1, ji x69.2.1]] (.one aN) w70 fun (x72 : Bool × Hd3 × Hd3 × Unit) w73 =>
 (bel w70 w73 ∧ F66 5 [.agg #[ji x69.1, ji x69.2.1]] (.agg #[.bool x72.1, jw x72.2.1, jw x72.2.2.1]) w73))
  fun (x74 : Bool × Hd3 × Hd3 × Unit) =>
 rd prog (jL 27 (Addr.add x1 1)) oS w65 fun (x75 : Hd3) =>
 rdp prog (jI 27 x75 s43.1) oA fun (x76 : Addr) =>
 rd prog (jL 26 x76) oS w65 fun (x77 : Hd3) =>
 rdp prog (jI 26 x77 s52.1) oA fun (x78 : Addr) =>
 rd prog (jL 2 x78) oI w65 fun (x79 : Int) =>
 flc bel w65 (fun w81 => F66 5 [.agg #[ji x69.1, ji x69.2.1]] (.agg #[.bool x74.1, jw x74.2.1, jw x74.2.2.1]) w81 ∧ True) (fun w80 =>
   call prog 48 [ji x79] (.one aN) w80 fun (x82 : Bool × Hd3 × Hd3 × Unit) w83 =>
 (bel w80 w83 ∧ F66 14 [ji x79] (.agg #[.bool x82.1, jw x82.2.1, jw x82.2.2.1]) w83))
  fun (x84 : Bool × Hd3 × Hd3 × Unit) =>
 flc bel w65 (fun w86 => F66 14 [ji x79] (.agg #[.bool x84.1, jw x84.2.1, jw x84.2.2.1]) w86 ∧ F66 5 [.agg #[ji x69.1, ji x69.2.1]] (.agg #[.bool x74.1, jw x74.2.1, jw x74.2.2.1]) w86 ∧ True) (fun w85 =>
   call prog 51 [.agg #[.bool x74.1, jw x74.2.1, jw x74.2.2.1], .agg #[.bool x84.1, jw x84.2.1, jw x84.2.2.1]] (.one aN) w85 fun (x87 : Bool × Hd3 × Hd3 × Unit) w88 =>
 (bel w85 w88 ∧ F66 15 [.agg #[.bool x74.1, jw x74.2.1, jw x74.2.2.1], .agg #[.bool x84.1, jw x84.2.1, jw x84.2.2.1]] (.agg #[.bool x87.1, jw x87.2.1, jw x87.2.2.1]) w88))
  fun (x89 : Bool × Hd3 × Hd3 × Unit) =>
 flend bel w65 (fun w91 => F66 15 [.agg #[.bool x74.1, jw x74.2.1, jw x74.2.2.1], .agg #[.bool x84.1, jw x84.2.1, jw x84.2.2.1]] (.agg #[.bool x89.1, jw x89.2.1, jw x89.2.2.1]) w91 ∧ F66 14 [ji x79] (.agg #[.bool x84.1, jw x84.2.1, jw x84.2.2.1]) w91 ∧ F66 5 [.agg #[ji x69.1, ji x69.2.1]] (.agg #[.bool x74.1, jw x74.2.1, jw x74.2.2.1]) w91 ∧ True) fun w90 =>
 call prog 50 [.agg #[.bool x67.1, jw x67.2.1, jw x67.2.2.1], .agg #[.bool x89.1, jw x89.2.1, jw x89.2.2.1]] (.one aN) w90 fun (x92 : Bool × Hd3 × Hd3 × Unit) w93 =>
 wu prog (jS 83 x48 (.agg #[.bool x92.1, jw x92.2.1, jw x92.2.2.1])) w93 fun w94 =>
 K54 (()) w94)
 (K54 (()) w53))
 (K54 (()) w53))
 (drw w53 fun w95 => flEx fun F96 =>
 rd prog (jL 83 x48) aN w95 fun (x97 : Bool × Hd3 × Hd3 × Unit) =>
 rd prog (jL 26 (Addr.add x1 2)) oS w95 fun (x98 : Hd3) =>
 rdp prog (jI 26 x98 s43.1) oA fun (x99 : Addr) =>
 rd prog (jL 2 x99) oI w95 fun (x100 : Int) =>
 z (IntKind.wrap .i64 (0 - x100)) fun (z101 : Int) =>
 flc bel w95 (fun _w103 => True) (fun w102 =>
   call prog 48 [ji z101] (.one aN) w102 fun (x104 : Bool × Hd3 × Hd3 × Unit) w105 =>
 (bel w102 w105 ∧ F96 7 [ji z101] (.agg #[.bool x104.1, jw x104.2.1, jw x104.2.2.1]) w105))
  fun (x106 : Bool × Hd3 × Hd3 × Unit) =>
 flend bel w95 (fun w108 => F96 7 [ji z101] (.agg #[.bool x106.1, jw x106.2.1, jw x106.2.2.1]) w108 ∧ True) fun w107 =>
 call prog 50 [.agg #[.bool x97.1, jw x97.2.1, jw x97.2.2.1], .agg #[.bool x106.1, jw x106.2.1, jw x106.2.2.1]] (.one aN) w107 fun (x109 : Bool × Hd3 × Hd3 × Unit) w110 =>
 call prog 52 [.agg #[.bool x109.1, jw x109.2.1, jw x109.2.2.1]] (.one oI) w110 fun (x111 : Int) w112 =>
 br (x111 != 0) (R (.bool false) w112)
 (z (IntKind.wrap .i64 (s43.1 + 1)) fun (z113 : Int) =>
 g42 (z113, ()) w112)))
 (R (.bool true) w44))))
def H23 : Hints := ⟨[(2, 0, [(5, (.one (.int .i64)))]), (2, 2, [(6, (.one (.int .i64)))]), (2, 4, [(8, (.one (.int .i64)))]), (1, 5, [])], [(6, 25), (16, 16), (17, 8)], [], []⟩
theorem S23_calls (s_0a : OA) (s_0n s_0c : Nat) (s_1a : OA) (s_1n s_1c : Nat) (s_2a : OA) (s_2n s_2c : Nat) (x_a : OA) (x_n x_c : Nat) (w0 : World) (R : KR) (h : S23 s_0a s_0n s_0c s_1a s_1n s_1c s_2a s_2n s_2c x_a x_n x_c w0 R) : Calls prog 23 #[.agg #[.slice s_0a s_0n s_0c, .slice s_1a s_1n s_1c, .slice s_2a s_2n s_2c], .slice x_a x_n x_c] w0 (ret R) :=
 vcFn_sound (H := H23) follows_ Tryz.func23 (Eq.mpr (by kernel_rfl) h)
end Go.Proofs

/- Systems of equations: reading them, and when they are valid: the reference. -/



namespace Go.Proofs.YtajpdnphamomjaaGreat
open Go.RowKit Go.Q Go.Q.Num Go.V

theorem tyI64 : TyS Tryz.prog 26 2 (.int .i64 0) 1 8 := ⟨by kernel_rfl, by kernel_rfl⟩
theorem tyTab : TyS Tryz.prog 27 26 (.slice none 0 0) 1 24 := ⟨by kernel_rfl, by kernel_rfl⟩
theorem tyFr : TyS Tryz.prog 32 60 (.agg #[.int .i64 0, .int .i64 0]) 2 16 := ⟨by kernel_rfl, by kernel_rfl⟩
structure Sys (w : World) (u r b : Hdr) (up : List Int) (T : List (List Int)) (rt : List Int) : Prop where
  u : Sl w u.1 u.2.1 u.2.2 1 (ints .i64 up)
  r : TabI .i64 w r T
  b : Sl w b.1 b.2.1 b.2.2 1 (ints .i64 rt)
theorem Sys.up {w w' : World} {u r b : Hdr} {up : List Int} {T : List (List Int)} {rt : List Int} (H : Sys w u r b up T rt) (h : bel w w') : Sys w' u r b up T rt := ⟨H.u.kept h, H.r.up h, H.b.kept h⟩
abbrev sysv (u r b : Hdr) : Value := .agg #[.slice u.1 u.2.1 u.2.2, .slice r.1 r.2.1 r.2.2, .slice b.1 b.2.1 b.2.2]
abbrev sysc (u r b : Hdr) : List Value := [.slice u.1 u.2.1 u.2.2, .slice r.1 r.2.1 r.2.2, .slice b.1 b.2.1 b.2.2]

def SysR (up : List Int) (T : List (List Int)) (rt : List Int) : Prop :=
  (∀ x ∈ up, 0 ≤ x ∧ x ≤ 1000000000) ∧ (∀ x ∈ rt, -1000000000 ≤ x ∧ x ≤ 1000000000) ∧ (∀ r ∈ T, ∀ x ∈ r, -1000000 ≤ x ∧ x ≤ 1000000)
def SysA (up : List Int) (T : List (List Int)) (rt : List Int) : Prop := rt.length = T.length ∧ ∀ r ∈ T, r.length = up.length
instance (up : List Int) (T : List (List Int)) (rt : List Int) : Decidable (SysR up T rt) := by unfold SysR; infer_instance
instance (up : List Int) (T : List (List Int)) (rt : List Int) : Decidable (SysA up T rt) := by unfold SysA; infer_instance
def sysE (up : List Int) (T : List (List Int)) (rt : List Int) : Int :=
  if 200 < up.length ∨ 100 < T.length then 8 else if SysR up T rt then (if SysA up T rt then 0 else 9) else 8
section
variable {up : List Int} {T : List (List Int)} {rt : List Int}
theorem sysE_1 (h : 200 < up.length) : sysE up T rt = 8 := by unfold sysE; rw [if_pos (.inl h)]
theorem sysE_2 (h : 100 < T.length) : sysE up T rt = 8 := by unfold sysE; rw [if_pos (.inr h)]
theorem sysE_3 (h : ¬ SysR up T rt) : sysE up T rt = 8 := by unfold sysE; split <;> first | rfl | rw [if_neg h]
theorem sysE_4 (h1 : ¬ 200 < up.length) (h2 : ¬ 100 < T.length) (h3 : SysR up T rt) (h4 : ¬ SysA up T rt) : sysE up T rt = 9 := by unfold sysE; rw [if_neg (by rintro (h | h); exact h1 h; exact h2 h), if_pos h3, if_neg h4]
theorem sysE_0 (h1 : ¬ 200 < up.length) (h2 : ¬ 100 < T.length) (h3 : SysR up T rt) (h4 : SysA up T rt) : sysE up T rt = 0 := by unfold sysE; rw [if_neg (by rintro (h | h); exact h1 h; exact h2 h), if_pos h3, if_pos h4]
theorem sysE_ok (h : sysE up T rt = 0) : up.length ≤ 200 ∧ T.length ≤ 100 ∧ SysR up T rt ∧ SysA up T rt := by
  unfold sysE at h
  split at h
  · omega
  · rename_i hn
    split at h
    · split at h
      · rename_i h1 h2; exact ⟨by omega, by omega, h1, h2⟩
      · omega
    · omega
end

theorem withinF (n m : Int) (w : World) (h : 0 ≤ m ∧ m ≤ 1000000000) : call Tryz.prog 27 [.int .i64 n, .int .i64 m] (.one (.one .bool)) w (fun x w' => x = (decide (-m ≤ n) && decide (n ≤ m)) ∧ bel w w') := by
  refine call_of (S27_calls n m w _ ?_)
  unfold S27
  refine z_i64 (by omega) ?_
  refine br_dec (fun e => ⟨_, rfl, ?_, bel.refl _⟩) (fun e => ⟨_, rfl, ?_, bel.refl _⟩)
  · rw [decide_eq_true (show -m ≤ n by omega), Bool.true_and]
  · rw [decide_eq_false (show ¬ -m ≤ n by omega), Bool.false_and]

set_option maxHeartbeats 1000000 in
theorem valid11 (u r b : Hdr) (up : List Int) (T : List (List Int)) (rt : List Int) (w : World) (H : Sys w u r b up T rt) :
    call Tryz.prog 14 [sysv u r b] (.one (.one (.int .i64))) w (fun x w' => x = sysE up T rt ∧ bel w w') := by
  refine call_of (S14_calls u.1 u.2.1 u.2.2 r.1 r.2.1 r.2.2 b.1 b.2.1 b.2.2 w _ ?_)
  unfold S14
  have hu := H.u.int
  have hT := H.r.len
  have hb := H.b.int
  have ku := H.u.le
  have kb := H.b.le
  refine wr_box fun x1 w2 X h _ _ => ?_
  replace X : Box w2 x1 (sysc u r b) := X
  replace H := H.up h
  have kT : r.2.1 ≤ 9223372036854775807 := by obtain ⟨hs, q, _⟩ := H.r.ex; exact q.le
  refine rd_box0 (by kernel_rfl) X rfl rfl ?_
  refine br_dec (fun e => ⟨_, rfl, (sysE_1 (by dsimp only at e; omega)).symm, h⟩) (fun e1 => ?_)
  refine rd_box (by kernel_rfl) X (i := 1) rfl rfl ?_
  refine br_dec (fun e => ⟨_, rfl, (sysE_2 (by dsimp only at e; omega)).symm, h⟩) (fun e2 => ?_)
  dsimp only at e1 e2
  refine loop_up u.2.1 (fun i w' => bel w2 w' ∧ ∀ j, j < i → ∀ x, up[j]? = some x → 0 ≤ x ∧ x ≤ 1000000000) ⟨bel.refl _, pre_zero⟩ fun i w7 hi ⟨hw, hq⟩ again hag _ => ?_
  refine rd_box0 (by kernel_rfl) (X.up hw) rfl rfl ?_
  refine br_dec (fun e => ?_) (fun e => ?_)
  · dsimp only at e
    refine rd_box0 (by kernel_rfl) (X.up hw) rfl rfl ?_
    refine at_int tyI64 (by kernel_rfl) (H.up hw).u rfl (by omega) fun x hx => ?_
    refine br_dec (fun e3 => ⟨_, rfl, (sysE_3 fun q => ?_).symm, h.trans hw⟩) (fun e3 => ?_)
    · have := q.1 x (mem_at hx); omega
    refine rd_box0 (by kernel_rfl) (X.up hw) rfl rfl ?_
    refine at_int tyI64 (by kernel_rfl) (H.up hw).u rfl (by omega) fun y hy => ?_
    rw [hx] at hy; cases hy
    refine br_dec (fun e3 => ⟨_, rfl, (sysE_3 fun q => ?_).symm, h.trans hw⟩) (fun e4 => ?_)
    · have := q.1 x (mem_at hx); omega
    refine z_i64 (by dsimp only; omega) ?_
    exact hag _ (by omega) ⟨hw, pre_step hq hx (by omega)⟩
  dsimp only at e
  have Q1 := pre_all hq (by omega)
  clear hq hag again
  have h := h.trans hw; replace X := X.up hw; replace H := H.up hw; clear hw hi e
  refine loop_up b.2.1 (fun i w' => bel w7 w' ∧ ∀ j, j < i → ∀ x, rt[j]? = some x → -1000000000 ≤ x ∧ x ≤ 1000000000) ⟨bel.refl _, pre_zero⟩ fun i w8 hi ⟨hw, hq⟩ again hag _ => ?_
  refine rd_box (by kernel_rfl) (X.up hw) (i := 2) rfl rfl ?_
  refine br_dec (fun e => ?_) (fun e => ?_)
  · dsimp only at e
    refine rd_box (by kernel_rfl) (X.up hw) (i := 2) rfl rfl ?_
    refine at_int tyI64 (by kernel_rfl) (H.up hw).b rfl (by omega) fun x hx => ?_
    refine call_mono (withinF x 1000000000 w8 (by omega)) ?_
    rintro _ w9 ⟨rfl, h'⟩
    replace hw := hw.trans h'
    refine br_not (fun e3 => ⟨_, rfl, (sysE_3 fun q => ?_).symm, h.trans hw⟩) (fun e3 => ?_)
    · have := q.2.1 x (mem_at hx); simp at e3; omega
    refine z_i64 (by dsimp only; omega) ?_
    simp only [Bool.and_eq_true, decide_eq_true_eq] at e3
    exact hag _ (by omega) ⟨hw, pre_step hq hx e3⟩
  dsimp only at e
  have Q2 := pre_all hq (by omega)
  clear hq hag again
  replace h := h.trans hw; replace X := X.up hw; replace H := H.up hw; clear hw hi e
  refine loop_up r.2.1 (fun i w' => bel w8 w' ∧ ∀ j, j < i → ∀ q, T[j]? = some q → ∀ x ∈ q, -1000000 ≤ x ∧ x ≤ 1000000) ⟨bel.refl _, pre_zero⟩ fun i w9 hi ⟨hw, hq⟩ again hag _ => ?_
  refine rd_box (by kernel_rfl) (X.up hw) (i := 1) rfl rfl ?_
  refine br_dec (fun e => ?_) (fun e => ?_)
  · dsimp only at e
    obtain ⟨row, hrow⟩ : ∃ row, T[i]? = some row := ⟨_, List.getElem?_eq_getElem (by omega)⟩
    refine loop_up row.length (fun k w' => bel w9 w' ∧ ∀ j, j < k → ∀ x, row[j]? = some x → -1000000 ≤ x ∧ x ≤ 1000000) ⟨bel.refl _, pre_zero⟩ fun k w10 hk ⟨hw', hq'⟩ again' hag' _ => ?_
    have hwk := hw.trans hw'
    refine rd_box (by kernel_rfl) (X.up hwk) (i := 1) rfl rfl ?_
    refine (H.up hwk).r.at tyTab (by kernel_rfl) rfl (by omega) fun y row' h1 HR => ?_
    rw [hrow] at h1; cases h1
    have hrl : row.length = y.2.1 := Sl.int HR
    have krl := HR.le
    refine br_dec (fun e => ?_) (fun e => ?_)
    · dsimp only at e
      refine rd_box (by kernel_rfl) (X.up hwk) (i := 1) rfl rfl ?_
      refine (H.up hwk).r.at tyTab (by kernel_rfl) rfl (by omega) fun y' row' h1 HR' => ?_
      rw [hrow] at h1; cases h1
      have hrl' : row.length = y'.2.1 := Sl.int HR'
      refine at_int tyI64 (by kernel_rfl) HR' rfl (by omega) fun x hx => ?_
      refine call_mono (withinF x 1000000 w10 (by omega)) ?_
      rintro _ w11 ⟨rfl, h'⟩
      replace hw' := hw'.trans h'
      refine br_not (fun e3 => ⟨_, rfl, (sysE_3 fun q => ?_).symm, h.trans (hw.trans hw')⟩) (fun e3 => ?_)
      · have := q.2.2 row (mem_at hrow) x (mem_at hx); simp at e3; omega
      refine z_i64 (by dsimp only; omega) ?_
      simp only [Bool.and_eq_true, decide_eq_true_eq] at e3
      exact hag' _ (by omega) ⟨hw', pre_step hq' hx e3⟩
    · dsimp only at e
      refine z_i64 (by dsimp only; omega) ?_
      exact hag _ (by omega) ⟨hwk, pre_step hq hrow (pre_all hq' (by omega))⟩
  dsimp only at e
  have Q3 := pre_all hq (by omega)
  clear hq hag again
  replace h := h.trans hw; replace X := X.up hw; replace H := H.up hw; clear hw hi e
  have HR : SysR up T rt := ⟨Q1, Q2, Q3⟩
  refine rd_box (by kernel_rfl) X (i := 2) rfl rfl ?_
  refine rd_box (by kernel_rfl) X (i := 1) rfl rfl ?_
  refine br_ne (fun e => ⟨_, rfl, (sysE_4 (by omega) (by omega) HR fun q => ?_).symm, h⟩) (fun e4 => ?_)
  · have := q.1; dsimp only at e; omega
  dsimp only at e4
  refine loop_up r.2.1 (fun i w' => bel w9 w' ∧ ∀ j, j < i → ∀ q, T[j]? = some q → q.length = up.length) ⟨bel.refl _, pre_zero⟩ fun i w10 hi ⟨hw, hq⟩ again hag _ => ?_
  refine rd_box (by kernel_rfl) (X.up hw) (i := 1) rfl rfl ?_
  refine br_dec (fun e => ?_) (fun e => ?_)
  · dsimp only at e
    refine drw_mk fun w11 h' _ => ?_
    replace hw := hw.trans h'
    refine rd_box (by kernel_rfl) (X.up hw) (i := 1) rfl rfl ?_
    refine (H.up hw).r.at tyTab (by kernel_rfl) rfl (by omega) fun y row h1 HR' => ?_
    have hrl : row.length = y.2.1 := Sl.int HR'
    refine rd_box0 (by kernel_rfl) (X.up hw) rfl rfl ?_
    refine br_ne (fun e => ⟨_, rfl, (sysE_4 (by omega) (by omega) HR fun q => ?_).symm, h.trans hw⟩) (fun e5 => ?_)
    · have := q.2 row (mem_at h1); dsimp only at e; omega
    dsimp only at e5
    refine z_i64 (by dsimp only; omega) ?_
    exact hag _ (by omega) ⟨hw, pre_step hq h1 (by omega)⟩
  · dsimp only at e
    exact ⟨_, rfl, (sysE_0 (by omega) (by omega) HR ⟨by omega, pre_all hq (by omega)⟩).symm, h.trans hw⟩
abbrev OwnI (w : World) (B : Nat) (h : Hdr) (xs : List Int) : Prop := Own w B 2 1 h.1 h.2.1 h.2.2 (ints .i64 xs)
theorem OwnI.len {w : World} {B : Nat} {h : Hdr} {xs : List Int} (H : OwnI w B h xs) : xs.length = h.2.1 := H.sl.int
end Go.Proofs.YtajpdnphamomjaaGreat

/- When a system is valid: the program. -/

namespace Go.Proofs.YtajpdnphamomjaaGreat
open Go.RowKit Go.Q Go.Q.Num Go.V

def outB (lo hi n : Int) : Bool := decide (n < lo) || decide (n > hi)
theorem outB_f {lo hi n : Int} (h : outB lo hi n = false) : lo ≤ n ∧ n ≤ hi := by unfold outB at h; simp at h; omega
theorem outB_t {lo hi n : Int} (h : outB lo hi n = true) : ¬ (lo ≤ n ∧ n ≤ hi) := by unfold outB at h; simp at h; omega
theorem any_f {α : Type} {p : α → Bool} {l : List α} (h : l.any p = false) : ∀ x ∈ l, p x = false := by simpa using h
theorem any_t {α : Type} {p : α → Bool} {l : List α} (h : l.any p = true) : ∃ x ∈ l, p x = true := by simpa using h
theorem outsideF (n lo hi : Int) (w : World) : call Tryz.prog 34 [.int .i64 n, .int .i64 lo, .int .i64 hi] (.one (.one .bool)) w (fun x w' => x = outB lo hi n ∧ bel w w') := by
  refine call_of (S34_calls n lo hi w _ ?_)
  unfold S34
  refine br_dec (fun e => ⟨_, rfl, ?_, bel.refl _⟩) (fun e => ⟨_, rfl, ?_, bel.refl _⟩)
  · unfold outB; rw [decide_eq_true e, Bool.true_or]
  · unfold outB; rw [decide_eq_false e, Bool.false_or]
theorem valid11F (n lo hi : Int) (c0 c1 : Addr) (w : World) (X0 : Box w c0 [.int .i64 lo]) (X1 : Box w c1 [.int .i64 hi]) :
    call Tryz.prog 33 [.int .i64 n, .pointer (some c0), .pointer (some c1)] (.one (.one .bool)) w (fun x w' => x = outB lo hi n ∧ bel w w') := by
  refine call_of (S33_calls n c0 c1 w _ ?_)
  unfold S33
  refine rd_box0 (by kernel_rfl) X0 rfl rfl ?_
  refine rd_box0 (by kernel_rfl) X1 rfl rfl ?_
  refine call_mono (outsideF n lo hi w) ?_
  rintro x w2 ⟨rfl, h⟩
  exact ⟨_, rfl, rfl, h⟩
theorem hasA (a : Option Addr) (n c : Nat) (xs : List Int) (lo hi : Int) (c0 c1 : Addr) (w : World) (H : Sl w a n c 1 (ints .i64 xs)) (X0 : Box w c0 [.int .i64 lo]) (X1 : Box w c1 [.int .i64 hi]) :
    call Tryz.prog 32 [.slice a n c, .func (.func 33) #[] #[.pointer (some c0), .pointer (some c1)]] (.one (.one .bool)) w (fun x w' => x = xs.any (outB lo hi) ∧ bel w w') := by
  refine call_of (S32a_calls a n c c0 c1 w _ ?_)
  unfold S32a
  refine call_mono (r := .one (.one (.int .i64))) (Q := fun x w' => x = idxI (outB lo hi) xs ∧ bel w w') (call_of (S58a_calls a n c c0 c1 w _ ?_)) ?_
  · unfold S58a
    exact idx_ints tyI64 (by kernel_rfl) (fargs := fun x5 => [.int .i64 x5, .pointer (some c0), .pointer (some c1)]) H (outB lo hi) (fun j x hx w' hb => valid11F x lo hi c0 c1 w' (X0.up hb) (X1.up hb))
  · rintro x w2 ⟨rfl, hb⟩
    exact ⟨_, rfl, idxI_any _ _, hb⟩
theorem wideF (a : Option Addr) (n c : Nat) (xs : List Int) (lo hi : Int) (w : World) (H : Sl w a n c 1 (ints .i64 xs)) :
    call Tryz.prog 31 [.slice a n c, .int .i64 lo, .int .i64 hi] (.one (.one .bool)) w (fun x w' => x = xs.any (outB lo hi) ∧ bel w w') := by
  refine call_of (S31_calls a n c lo hi w _ ?_)
  unfold S31
  refine wr_box fun x1 w2 X h _ _ => ?_
  refine wr_box fun x3 w4 Y h' _ _ => ?_
  replace h := h.trans h'; replace X := X.up h'; clear h'
  refine call_mono (hasA a n c xs lo hi x1 x3 w4 (H.kept h) X Y) ?_
  rintro x w6 ⟨rfl, h'⟩
  exact ⟨_, rfl, rfl, h.trans h'⟩
set_option maxRecDepth 100000 in
theorem valid2F (a : Option Addr) (n c : Nat) (xs : List Int) (c0 : Addr) (w : World) (H : Sl w a n c 1 (ints .i64 xs)) (X0 : Box w c0 [.func (.func 31) #[] #[]]) :
    call Tryz.prog 36 [.slice a n c, .pointer (some c0)] (.one (.one .bool)) w (fun x w' => x = xs.any (outB (-1000000) 1000000) ∧ bel w w') := by
  refine call_of (S36_calls a n c c0 w _ ?_)
  unfold S36
  refine rdF_box0 (by kernel_rfl) X0 rfl ?_
  refine callX_of Tryz.func31 (by kernel_rfl) rfl ?_
  refine call_mono (wideF a n c xs _ _ w H) ?_
  rintro x w2 ⟨rfl, h⟩
  exact ⟨_, rfl, rfl, h⟩
theorem valid3F (a : Option Addr) (n c : Nat) (c0 : Addr) (v : Hdr) (v1 v2 : Value) (w : World) (X0 : Box w c0 [.slice v.1 v.2.1 v.2.2, v1, v2]) :
    call Tryz.prog 37 [.slice a n c, .pointer (some c0)] (.one (.one .bool)) w (fun x w' => x = ((n : Int) != (v.2.1 : Int)) ∧ bel w w') := by
  refine call_of (S37_calls a n c c0 w _ ?_)
  unfold S37
  refine rd_box0 (by kernel_rfl) X0 rfl rfl ?_
  exact ⟨_, rfl, rfl, bel.refl _⟩
theorem hasB (r : Hdr) (T : List (List Int)) (c0 : Addr) (w : World) (H : TabI .i64 w r T) (X0 : Box w c0 [.func (.func 31) #[] #[]]) :
    call Tryz.prog 35 [.slice r.1 r.2.1 r.2.2, .func (.func 36) #[] #[.pointer (some c0)]] (.one (.one .bool)) w (fun x w' => x = T.any (fun q => q.any (outB (-1000000) 1000000)) ∧ bel w w') := by
  refine call_of (S35b_calls r.1 r.2.1 r.2.2 c0 w _ ?_)
  unfold S35b
  refine call_mono (r := .one (.one (.int .i64))) (Q := fun x w' => x = idxI (fun q => q.any (outB (-1000000) 1000000)) T ∧ bel w w') (call_of (S59b_calls r.1 r.2.1 r.2.2 c0 w _ ?_)) ?_
  · unfold S59b
    exact idx_tab tyTab (by kernel_rfl) (fargs := fun x5 => [.slice x5.1 x5.2.1 x5.2.2, .pointer (some c0)]) H (fun q => q.any (outB (-1000000) 1000000)) (fun j x y hy hr w' hb => valid2F x.1 x.2.1 x.2.2 y c0 w' (hr.kept hb) (X0.up hb))
  · rintro x w2 ⟨rfl, hb⟩
    exact ⟨_, rfl, idxI_any _ _, hb⟩
theorem hasC (r : Hdr) (T : List (List Int)) (c0 : Addr) (v : Hdr) (v1 v2 : Value) (w : World) (H : TabI .i64 w r T) (X0 : Box w c0 [.slice v.1 v.2.1 v.2.2, v1, v2]) :
    call Tryz.prog 35 [.slice r.1 r.2.1 r.2.2, .func (.func 37) #[] #[.pointer (some c0)]] (.one (.one .bool)) w (fun x w' => x = T.any (fun q => (q.length : Int) != (v.2.1 : Int)) ∧ bel w w') := by
  refine call_of (S35c_calls r.1 r.2.1 r.2.2 c0 w _ ?_)
  unfold S35c
  refine call_mono (r := .one (.one (.int .i64))) (Q := fun x w' => x = idxI (fun q : List Int => (q.length : Int) != (v.2.1 : Int)) T ∧ bel w w') (call_of (S59c_calls r.1 r.2.1 r.2.2 c0 w _ ?_)) ?_
  · unfold S59c
    exact idx_tab tyTab (by kernel_rfl) (fargs := fun x5 => [.slice x5.1 x5.2.1 x5.2.2, .pointer (some c0)]) H (fun q : List Int => (q.length : Int) != (v.2.1 : Int)) (fun j x y hy hr w' hb => by rw [Sl.int hr]; exact valid3F x.1 x.2.1 x.2.2 c0 v v1 v2 w' (X0.up hb))
  · rintro x w2 ⟨rfl, hb⟩
    exact ⟨_, rfl, idxI_any _ _, hb⟩

set_option maxRecDepth 100000 in
theorem validL (u r b : Hdr) (up : List Int) (T : List (List Int)) (rt : List Int) (w : World) (H : Sys w u r b up T rt) :
    call Tryz.prog 18 [sysv u r b] (.one (.one (.int .i64))) w (fun x w' => x = sysE up T rt ∧ bel w w') := by
  refine call_of (S18_calls u.1 u.2.1 u.2.2 r.1 r.2.1 r.2.2 b.1 b.2.1 b.2.2 w _ ?_)
  unfold S18
  have hu := H.u.int
  have hT := H.r.len
  have hb := H.b.int
  refine wr_box fun x1 w2 X h _ _ => ?_
  replace X : Box w2 x1 (sysc u r b) := X
  replace H := H.up h
  refine rd_box0 (by kernel_rfl) X rfl rfl ?_
  refine br_dec (fun e => ⟨_, rfl, (sysE_1 (by dsimp only at e; omega)).symm, h⟩) (fun e1 => ?_)
  refine rd_box (by kernel_rfl) X (i := 1) rfl rfl ?_
  refine br_dec (fun e => ⟨_, rfl, (sysE_2 (by dsimp only at e; omega)).symm, h⟩) (fun e2 => ?_)
  dsimp only at e1 e2
  refine var_mk (z := .nilFunc) (by kernel_rfl) (by kernel_rfl) rfl rfl fun x5 w7 Y h' _ => ?_
  replace Y : Box w7 x5 [.func (.func 31) #[] #[]] := Y
  replace h := h.trans h'; replace X := X.up h'; replace H := H.up h'; clear h'
  refine rdF_box0 (by kernel_rfl) Y rfl ?_
  refine rd_box0 (by kernel_rfl) X rfl rfl ?_
  refine callX_of Tryz.func31 (by kernel_rfl) rfl ?_
  refine call_mono (wideF _ _ _ up _ _ w7 H.u) ?_
  rintro x w11 ⟨rfl, h'⟩
  replace h := h.trans h'; replace X := X.up h'; replace H := H.up h'; replace Y := Y.up h'; clear h'
  refine br_mk (fun e => ⟨_, rfl, (sysE_3 fun q => ?_).symm, h⟩) (fun e3 => ?_)
  · obtain ⟨x, hx, hq⟩ := any_t e; exact outB_t hq (q.1 x hx)
  refine rdF_box0 (by kernel_rfl) Y rfl ?_
  refine rd_box (by kernel_rfl) X (i := 2) rfl rfl ?_
  refine callX_of Tryz.func31 (by kernel_rfl) rfl ?_
  refine call_mono (wideF _ _ _ rt _ _ w11 H.b) ?_
  rintro x w15 ⟨rfl, h'⟩
  replace h := h.trans h'; replace X := X.up h'; replace H := H.up h'; replace Y := Y.up h'; clear h'
  refine br_mk (fun e => ⟨_, rfl, (sysE_3 fun q => ?_).symm, h⟩) (fun e4 => ?_)
  · obtain ⟨x, hx, hq⟩ := any_t e; exact outB_t hq (q.2.1 x hx)
  refine rd_box (by kernel_rfl) X (i := 1) rfl rfl ?_
  refine call_mono (hasB r T x5 w15 H.r Y) ?_
  rintro x w18 ⟨rfl, h'⟩
  replace h := h.trans h'; replace X := X.up h'; replace H := H.up h'; replace Y := Y.up h'; clear h'
  refine br_mk (fun e => ⟨_, rfl, (sysE_3 fun q => ?_).symm, h⟩) (fun e5 => ?_)
  · obtain ⟨x, hx, hq⟩ := any_t e
    obtain ⟨y, hy, hq⟩ := any_t hq
    exact outB_t hq (q.2.2 x hx y hy)
  have HR : SysR up T rt := ⟨fun x hx => outB_f (any_f e3 x hx), fun x hx => outB_f (any_f e4 x hx), fun q hq x hx => outB_f (any_f (any_f e5 q hq) x hx)⟩
  refine rd_box (by kernel_rfl) X (i := 2) rfl rfl ?_
  refine rd_box (by kernel_rfl) X (i := 1) rfl rfl ?_
  refine br_ne (fun e => ⟨_, rfl, (sysE_4 (by omega) (by omega) HR fun q => ?_).symm, h⟩) (fun e6 => ?_)
  · have := q.1; dsimp only at e; omega
  dsimp only at e6
  refine rd_box (by kernel_rfl) X (i := 1) rfl rfl ?_
  refine call_mono (hasC r T x1 u _ _ w18 H.r X) ?_
  rintro x w23 ⟨rfl, h'⟩
  replace h := h.trans h'; replace X := X.up h'; replace H := H.up h'; clear h'
  refine br_mk (fun e => ⟨_, rfl, (sysE_4 (by omega) (by omega) HR fun q => ?_).symm, h⟩) (fun e7 => ⟨_, rfl, (sysE_0 (by omega) (by omega) HR ⟨by omega, fun q hq => ?_⟩).symm, h⟩)
  · obtain ⟨x, hx, hq⟩ := any_t e
    have := q.2 x hx
    simp at hq; omega
  · have := any_f e7 q hq
    simp at this; omega
end Go.Proofs.YtajpdnphamomjaaGreat

/- The conditions of functions, printed by our tool; each is checked against the code by the kernel. -/



namespace Go.Proofs
open Go Go.V Go.RowKit
open Tryz (prog)
set_option maxRecDepth 100000
def S82 (n_ : Int) (w0 : World) (R : KR) : Prop :=
 wr prog (Instr.alloc 118 true (.tuple #[])) oA w0 fun (x1 : Addr) w2 =>
 call prog 96 [ji n_] (.one (.one (.int .u64))) w2 fun (x3 : Int) w4 =>
 call prog 105 [.int .u64 x3] (.one oS) w4 fun (x5 : Hd3) w6 =>
 call prog 105 [.int .u64 1] (.one oS) w6 fun (x7 : Hd3) w8 =>
 wu prog (jS 118 x1 (.agg #[.bool (decide (n_ < 0)), jw x5, jw x7])) w8 fun w9 =>
 rd prog (loadVar 118 x1) aN w9 fun (x10 : Bool × Hd3 × Hd3 × Unit) =>
 R (.agg #[.bool x10.1, jw x10.2.1, jw x10.2.2.1]) w9
def H82 : Hints := ⟨[], [], [], []⟩
theorem S82_calls (n_ : Int) (w0 : World) (R : KR) (h : S82 n_ w0 R) : Calls prog 82 #[ji n_] w0 (ret R) :=
 vcFn_sound (H := H82) follows_ Tryz.func82 (Eq.mpr (by kernel_rfl) h)
def S48 (n_ : Int) (w0 : World) (R : KR) : Prop :=
 wr prog (Instr.alloc 83 true (.tuple #[])) oA w0 fun (x1 : Addr) w2 =>
 call prog 71 [ji n_] (.one oS) w2 fun (x3 : Hd3) w4 =>
 wr prog (Instr.buildSlice 81 1 #[(0, (.int .u64 1))]) oS w4 fun (x5 : Hd3) w6 =>
 wu prog (jS 83 x1 (.agg #[.bool (decide (n_ < 0)), jw x3, jw x5])) w6 fun w7 =>
 rd prog (loadVar 83 x1) aN w7 fun (x8 : Bool × Hd3 × Hd3 × Unit) =>
 R (.agg #[.bool x8.1, jw x8.2.1, jw x8.2.2.1]) w7
def H48 : Hints := ⟨[], [], [], []⟩
theorem S48_calls (n_ : Int) (w0 : World) (R : KR) (h : S48 n_ w0 R) : Calls prog 48 #[ji n_] w0 (ret R) :=
 vcFn_sound (H := H48) follows_ Tryz.func48 (Eq.mpr (by kernel_rfl) h)
def S47 (a_0 : Bool) (a_1a : OA) (a_1n a_1c : Nat) (a_2a : OA) (a_2n a_2c : Nat) (b_0 : Bool) (b_1a : OA) (b_1n b_1c : Nat) (b_2a : OA) (b_2n b_2c : Nat) (w0 : World) (R : KR) : Prop :=
 wr prog (Instr.box 83 (.agg #[.bool a_0, .slice a_1a a_1n a_1c, .slice a_2a a_2n a_2c])) oA w0 fun (x1 : Addr) w2 =>
 wr prog (Instr.box 83 (.agg #[.bool b_0, .slice b_1a b_1n b_1c, .slice b_2a b_2n b_2c])) oA w2 fun (x3 : Addr) w4 =>
 drw w4 fun w5 => flEx fun F6 =>
 rd prog (jL 83 x1) aN w5 fun (x7 : Bool × Hd3 × Hd3 × Unit) =>
 rd prog (jL 83 x3) aN w5 fun (x8 : Bool × Hd3 × Hd3 × Unit) =>
 flc bel w5 (fun _w10 => True) (fun w9 =>
   call prog 72 [.agg #[.bool x8.1, jw x8.2.1, jw x8.2.2.1]] (.one aN) w9 fun (x11 : Bool × Hd3 × Hd3 × Unit) w12 =>
 (bel w9 w12 ∧ F6 2 [.agg #[.bool x8.1, jw x8.2.1, jw x8.2.2.1]] (.agg #[.bool x11.1, jw x11.2.1, jw x11.2.2.1]) w12))
  fun (x13 : Bool × Hd3 × Hd3 × Unit) =>
 flend bel w5 (fun w15 => F6 2 [.agg #[.bool x8.1, jw x8.2.1, jw x8.2.2.1]] (.agg #[.bool x13.1, jw x13.2.1, jw x13.2.2.1]) w15 ∧ True) fun w14 =>
 call prog 50 [.agg #[.bool x7.1, jw x7.2.1, jw x7.2.2.1], .agg #[.bool x13.1, jw x13.2.1, jw x13.2.2.1]] (.one aN) w14 fun (x16 : Bool × Hd3 × Hd3 × Unit) w17 =>
 call prog 52 [.agg #[.bool x16.1, jw x16.2.1, jw x16.2.2.1]] (.one oI) w17 fun (x18 : Int) w19 =>
 R (.bool (decide (x18 < 0))) w19
def H47 : Hints := ⟨[], [(1, 3)], [], []⟩
theorem S47_calls (a_0 : Bool) (a_1a : OA) (a_1n a_1c : Nat) (a_2a : OA) (a_2n a_2c : Nat) (b_0 : Bool) (b_1a : OA) (b_1n b_1c : Nat) (b_2a : OA) (b_2n b_2c : Nat) (w0 : World) (R : KR) (h : S47 a_0 a_1a a_1n a_1c a_2a a_2n a_2c b_0 b_1a b_1n b_1c b_2a b_2n b_2c w0 R) : Calls prog 47 #[.agg #[.bool a_0, .slice a_1a a_1n a_1c, .slice a_2a a_2n a_2c], .agg #[.bool b_0, .slice b_1a b_1n b_1c, .slice b_2a b_2n b_2c]] w0 (ret R) :=
 vcFn_sound (H := H47) follows_ Tryz.func47 (Eq.mpr (by kernel_rfl) h)
end Go.Proofs

/- Whole numbers as fractions; the reference's fractions as triples; comparisons. -/


namespace Go.Proofs.YtajpdnphamomjaaGreat
open Go.RowKit Go.Q Go.Q.Num Go.V

/-! ### the reference's fractions -/
abbrev NR (w : World) (s : Hd) (x : Nat) : Prop := NumAt 1000000000 .u64 w s.1 s.2.1 s.2.2 x
abbrev BX (L : Nat) (w : World) (t : TE) (r : Rat) : Prop := t.1 = decide (r.num < 0) ∧ NR w t.2.1 r.num.natAbs ∧ NR w t.2.2.1 r.den ∧ t.2.1.2.1 ≤ L ∧ t.2.2.1.2.1 ≤ L
theorem BX.up {L : Nat} {w w' : World} {t : TE} {r : Rat} (h : BX L w t r) (hb : bel w w') : BX L w' t r := ⟨h.1, h.2.1.kept hb, h.2.2.1.kept hb, h.2.2.2⟩
theorem BX.at {L : Nat} {w : World} {t : TE} {r : Rat} (h : BX L w t r) : BigAt L w (exV t) r := by
  obtain ⟨h1, h2, h3, h4, h5⟩ := h
  exact ⟨_, _, _, _, _, _, by rw [← h1], h2, h3, h4, h5⟩
theorem BX.le {L M : Nat} {w : World} {t : TE} {r : Rat} (h : BX L w t r) (hL : L ≤ M) : BX M w t r := ⟨h.1, h.2.1, h.2.2.1, Nat.le_trans h.2.2.2.1 hL, Nat.le_trans h.2.2.2.2 hL⟩
theorem EX.le {L M : Nat} {w : World} {t : TE} {r : Rat} (h : EX L w t r) (hL : L ≤ M) : EX M w t r := ⟨h.1, h.2.1, h.2.2.1, Nat.le_trans h.2.2.2.1 hL, Nat.le_trans h.2.2.2.2 hL⟩
theorem callBX {f : FuncId} {args : List Value} {w : World} {L : Nat} {r : Rat} (h : Calls Tryz.prog f args.toArray w (QBig L r w)) : call Tryz.prog f args (.one sBig) w (fun (x : TE) w' => BX L w' x r ∧ Fr w x.2.1.1 ∧ Fr w x.2.2.1.1 ∧ bel w w') :=
  Calls.mono h fun _ _ ⟨a, n, c, b, m, d, he, h1, h2, h3, h4, h5, h6, h7⟩ => ⟨(decide (r.num < 0), (a, n, c), (b, m, d), ()), he, ⟨rfl, h1, h2, h3, h4⟩, h6, h7, h5⟩
theorem timesX (t u : TE) (r s : Rat) (L M : Nat) (w : World) (h1 : BX L w t r) (h2 : BX M w u s) (hL : L ≤ 1000000) (hM : M ≤ 1000000) :
    call Tryz.prog 51 [exV t, exV u] (.one sBig) w (fun (x : TE) w' => BX (L + M + 1) w' x (r * s) ∧ Fr w x.2.1.1 ∧ Fr w x.2.2.1.1 ∧ bel w w') :=
  callBX (times10 _ _ _ _ _ _ w h1.at h2.at (by omega) (by omega))
theorem plusX (t u : TE) (r s : Rat) (L M : Nat) (w : World) (h1 : BX L w t r) (h2 : BX M w u s) (hL : L ≤ 1000000) (hM : M ≤ 1000000) :
    call Tryz.prog 50 [exV t, exV u] (.one sBig) w (fun (x : TE) w' => BX (L + M + 2) w' x (r + s) ∧ Fr w x.2.1.1 ∧ Fr w x.2.2.1.1 ∧ bel w w') :=
  callBX (plusAny _ _ _ _ _ _ w h1.at h2.at (by omega) (by omega))
theorem signX (t : TE) (r : Rat) (L : Nat) (w : World) (h1 : BX L w t r) (hL : L ≤ 1000000) : call Tryz.prog 52 [exV t] (.one (.one (.int .i64))) w (fun x w' => x = rsign r ∧ bel w w') :=
  callI (sign10 _ _ _ w h1.at (by omega))
theorem makeX {n d : Int} (w : World) (h : IsFrac n d) : call Tryz.prog 49 [fracv n d] (.one sBig) w (fun (x : TE) w' => BX 3 w' x (ratv n d) ∧ Fr w x.2.1.1 ∧ Fr w x.2.2.1.1 ∧ bel w w') := by
  have := callBX (f := 49) (args := [frac (ratv n d)]) (make10 (ratv n d) w (ratv_frac h).2.2)
  rw [frac_ratv h] at this; exact this
theorem turnedX (t : TE) (r : Rat) (L : Nat) (w : World) (h1 : BX L w t r) (hL : L ≤ 1000000) : call Tryz.prog 72 [exV t] (.one sBig) w (fun (x : TE) w' => BX L w' x (-r) ∧ bel w w') := by
  refine Calls.mono (turned10 _ _ _ w h1.at (by omega)) ?_
  rintro e w' ⟨v, he, ⟨a, n, c, b, m, d, hv, q1, q2, q3, q4⟩, hb⟩
  exact ⟨((decide ((-r).num < 0), (a, n, c), (b, m, d), ()) : TE), by rw [he, hv]; rfl, ⟨rfl, q1, q2, q3, q4⟩, hb⟩
theorem tyNum : TyS Tryz.prog 81 108 (.int .u64 0) 1 8 := ⟨by kernel_rfl, by kernel_rfl⟩
theorem dig1 : Dig 1000000000 [1] := ⟨by intro d hd; simp at hd; omega, by intro x hx; simp at hx; omega⟩
theorem callN' {f : FuncId} {args : List Value} {w : World} {x L : Nat} (h : Calls Tryz.prog f args.toArray w (QNum 1000000000 .u64 x L w)) : call Tryz.prog f args (.one (.one .slice)) w (fun (v : Hd) w' => NR w' v x ∧ v.2.1 ≤ L ∧ Fr w v.1 ∧ bel w w') :=
  Calls.mono h fun _ _ ⟨a, n, c, he, h1, h2, h3, h4⟩ => ⟨(a, n, c), he, h1, h2, h4, h3⟩
theorem exV_inj {t u : TE} (h : exV t = exV u) : t = u := by
  obtain ⟨a, ⟨b1, b2, b3⟩, ⟨c1, c2, c3⟩, _⟩ := t
  obtain ⟨a', ⟨b1', b2', b3'⟩, ⟨c1', c2', c3'⟩, _⟩ := u
  simp only [exV, Value.agg.injEq, Array.mk.injEq, List.cons.injEq, Value.bool.injEq, Value.slice.injEq, and_true] at h
  obtain ⟨rfl, ⟨rfl, rfl, rfl⟩, rfl, rfl, rfl⟩ := h
  rfl
theorem wholeX (n : Int) (w : World) (hn : I64 n) : call Tryz.prog 48 [.int .i64 n] (.one sBig) w (fun (x : TE) w' => BX 3 w' x (n : Rat) ∧ Fr w x.2.1.1 ∧ Fr w x.2.2.1.1 ∧ bel w w') := by
  refine call_of (S48_calls n w _ ?_)
  unfold S48
  refine wr_alloc (z := .agg #[.bool false, .slice none 0 0, .slice none 0 0]) (by kernel_rfl) fun x1 w2 X h hx _ => ?_
  have hne : w.heap.size ≤ x1.block := by omega
  refine call_mono (callN' (of10 n w2 hn.1 hn.2)) ?_
  rintro (o : Hd) w4 ⟨hO, hl, hF, h'⟩
  have fO : Fr w o.1 := hF.mono h.size
  have aO : Apart x1 o n.natAbs := Apart.fr X hF
  replace h := h.trans h'; replace X := X.up h'; clear h'
  refine wr_lit tyNum #[.int .u64 1] (fill_one 1 (.int .u64 1) _ rfl (by simp)) (by omega) (by omega) rfl (by unfold maxLen; omega) fun ad w6 O h' hbl _ => ?_
  have hN : NR w6 (some ad, 1, 1) 1 := ⟨[1], (O w4.heap.size (Nat.le_refl _)).sl, dig1, rfl⟩
  have aN : Apart x1 (some ad, 1, 1) 1 := fun a ha _ => by cases ha; have := X.lt; omega
  have fN : Fr w (some ad) := fun a ha => by cases ha; have := h.size; omega
  replace hO : NR w6 o n.natAbs := NumAt.kept hO h'
  replace h := h.trans h'; replace X := X.up h'; clear h'
  refine wu_box X (by kernel_rfl) (Nat.le_refl 3) rfl fun w7 X hg _ => ?_
  have hO' : NR w7 o n.natAbs := NumAt.grown hO hg fun a ha hv _ e => aO a ha hv (by injection e)
  have hN' : NR w7 (some ad, 1, 1) 1 := NumAt.grown hN hg fun a ha hv _ e => aN a ha hv (by injection e)
  exact rd_boxV X (by kernel_rfl) rfl ⟨((decide (n < 0), o, (some ad, 1, 1), ()) : TE), rfl, ⟨rfl, hO', hN', hl, by show 1 ≤ 3; omega⟩, fO, fN, h.grownAt hg hne⟩
theorem wholeF (n : Int) (w : World) (hn : I64 n) : call Tryz.prog 82 [.int .i64 n] (.one sBig) w (fun (x : TE) w' => EX 2 w' x (n : Rat) ∧ Fr w x.2.1.1 ∧ Fr w x.2.2.1.1 ∧ bel w w') := by
  refine call_of (S82_calls n w _ ?_)
  unfold S82
  refine wr_alloc (z := .agg #[.bool false, .slice none 0 0, .slice none 0 0]) (by kernel_rfl) fun x1 w2 X h hx _ => ?_
  have hne : w.heap.size ≤ x1.block := by omega
  refine call_mono (callU (sizeF n w2 hn.1 hn.2)) ?_
  rintro _ w3 ⟨rfl, h'⟩
  replace h := h.trans h'; replace X := X.up h'; clear h'
  refine call_mono (callF' (natOfF n.natAbs w3 (by omega))) ?_
  rintro (o : Hd) w4 ⟨hO, hl, hF, h'⟩
  have fO : Fr w o.1 := hF.mono h.size
  have aO : Apart x1 o n.natAbs := Apart.fr X hF
  replace h := h.trans h'; replace X := X.up h'; clear h'
  refine call_mono (callF' (natOfF 1 w4 (by omega))) ?_
  rintro (d : Hd) w6 ⟨hN, hl2, hF2, h'⟩
  have fN : Fr w d.1 := hF2.mono h.size
  have aN : Apart x1 d 1 := Apart.fr X hF2
  replace hO := hO.up h'
  replace h := h.trans h'; replace X := X.up h'; clear h'
  refine wu_box X (by kernel_rfl) (Nat.le_refl 3) rfl fun w7 X hg _ => ?_
  exact rd_boxV X (by kernel_rfl) rfl ⟨((decide (n < 0), o, d, ()) : TE), rfl, ⟨rfl, aO.grown hO hg, aN.grown hN hg, hl, hl2⟩, fO, fN, h.grownAt hg hne⟩
theorem lessX (t u : TE) (r s : Rat) (L M : Nat) (w : World) (h1 : BX L w t r) (h2 : BX M w u s) (hL : L ≤ 400000) (hM : M ≤ 400000) :
    call Tryz.prog 47 [exV t, exV u] (.one (.one .bool)) w (fun x w' => x = decide (rsign (r + -s) < 0) ∧ bel w w') := by
  obtain ⟨t0, tn, td, _⟩ := t
  obtain ⟨u0, un, ud, _⟩ := u
  refine call_of (S47_calls t0 tn.1 tn.2.1 tn.2.2 td.1 td.2.1 td.2.2 u0 un.1 un.2.1 un.2.2 ud.1 ud.2.1 ud.2.2 w _ ?_)
  unfold S47
  refine wr_box fun x1 w2 X h _ _ => ?_
  refine wr_box fun x3 w4 Y h' _ _ => ?_
  replace h := h.trans h'; replace X := X.up h'; clear h'
  refine drw_mk fun w5 h' _ => ?_
  replace h := h.trans h'; replace X := X.up h'; replace Y := Y.up h'; clear h'
  refine flEx_mk (fun _ _ v w' => ∃ t : TE, v = exV t ∧ BX M w' t (-s)) (fun _ _ _ _ _ ⟨t, e, q⟩ hb => ⟨t, e, q.up hb⟩) ?_
  refine rd_boxN X (by kernel_rfl) rfl ?_
  refine rd_boxN Y (by kernel_rfl) rfl ?_
  refine flc_mk (fun w9 hb _ => call_mono (turnedX (u0, un, ud, ()) s M w9 (h2.up (h.trans hb)) (by omega)) fun x w' ⟨q, hb'⟩ => ⟨hb', x, rfl, q⟩) (fun (x13 : TE) => ?_)
  refine flend_mk fun w14 hb hp => ?_
  obtain ⟨⟨t', ht, q⟩, _⟩ := hp
  have ht' := exV_inj (t := x13) ht
  subst ht'
  refine call_mono (plusX (t0, tn, td, ()) x13 r (-s) L M w14 (h1.up (h.trans hb)) q (by omega) (by omega)) ?_
  rintro (y : TE) w17 ⟨hy, _, _, h'⟩
  refine call_mono (signX y _ _ w17 hy (by omega)) ?_
  rintro _ w19 ⟨rfl, h2'⟩
  exact ⟨_, rfl, rfl, ((h.trans hb).trans h').trans h2'⟩

/-! ### signs and comparisons -/
theorem num_neg {r : Rat} : r.num < 0 ↔ r < 0 := by
  have := Rat.num_nonneg (q := r)
  rw [← Rat.not_le, ← this]; omega
theorem rsign_neg {r : Rat} : rsign r < 0 ↔ r < 0 := by
  rw [← num_neg]; unfold rsign
  split
  · omega
  · split <;> omega
theorem rsign_zero {r : Rat} : rsign r = 0 ↔ r = 0 := by
  rw [← Rat.num_eq_zero]; unfold rsign
  split
  · omega
  · split <;> omega
theorem cmpq_gt0 {r s : Rat} : cmpq r s > 0 ↔ s < r := by
  rw [Rat.lt_iff]; unfold cmpq cmpi
  split
  · omega
  · split <;> omega
theorem cmpq_lt0 {r s : Rat} : cmpq r s < 0 ↔ r < s := by
  rw [Rat.lt_iff]; unfold cmpq cmpi
  split
  · omega
  · split <;> omega
theorem less_iff {r s : Rat} : rsign (r + -s) < 0 ↔ r < s := by rw [rsign_neg]; grind
theorem same_iff {r s : Rat} : rsign (r + -s) = 0 ↔ r = s := by rw [rsign_zero]; grind
theorem cmpX (t u : TE) (r s : Rat) (L M : Nat) (w : World) (h1 : EX L w t r) (h2 : EX M w u s) (hL : L ≤ 1000000) (hM : M ≤ 1000000) : call Tryz.prog 86 [exV t, exV u] (.one (.one (.int .i64))) w (fun x w' => x = cmpq r s ∧ bel w w') := by
  have a : EX (max L M) w t r := h1.le (by omega)
  have b : EX (max L M) w u s := h2.le (by omega)
  exact callI (cmpE _ _ r s (max L M) w a.at b.at (by omega))
theorem fromX {n d : Int} (w : World) (h : IsFrac n d) : call Tryz.prog 84 [fracv n d] (.one sBig) w (fun (x : TE) w' => EX 2 w' x (ratv n d) ∧ bel w w') := by
  have := callE (f := 84) (args := [frac (ratv n d)]) ((fromF (ratv n d) w (ratv_frac h).2.2).mono fun _ _ h => h.at)
  rw [frac_ratv h] at this; exact this
end Go.Proofs.YtajpdnphamomjaaGreat

/- When numbers are a solution: the reference. -/

namespace Go.Proofs.YtajpdnphamomjaaGreat
open Go.RowKit Go.Q Go.Q.Num Go.V

def dotT (r : List Int) (L : List (Int × Int)) (k : Nat) : Rat :=
  match r[k]?, L[k]? with
  | some c, some p => ratv p.1 p.2 * (c : Rat)
  | _, _ => 0
def dotN (r : List Int) (L : List (Int × Int)) : Nat → Rat
  | 0 => 0
  | k + 1 => dotN r L k + dotT r L k
structure SolP (up : List Int) (T : List (List Int)) (rt : List Int) (L : List (Int × Int)) : Prop where
  ok : sysE up T rt = 0
  len : L.length = up.length
  each : ∀ (k : Nat) p u, L[k]? = some p → up[k]? = some u → IsFrac p.1 p.2 ∧ ¬ p.1 < 0 ∧ ¬ ((u : Rat) < ratv p.1 p.2)
  rows : ∀ (i : Nat) r b, T[i]? = some r → rt[i]? = some b → dotN r L up.length = (b : Rat)
theorem dotT_at {r : List Int} {L : List (Int × Int)} {k : Nat} {c : Int} {p : Int × Int} (h1 : r[k]? = some c) (h2 : L[k]? = some p) : dotT r L k = ratv p.1 p.2 * (c : Rat) := by unfold dotT; rw [h1, h2]
theorem ratv_zero (d : Int) : ratv 0 d = 0 := by unfold ratv; exact Rat.zero_mkRat _
theorem dotT_p0 {r : List Int} {L : List (Int × Int)} {k : Nat} {c : Int} {p : Int × Int} (h1 : r[k]? = some c) (h2 : L[k]? = some p) (h : p.1 = 0) : dotT r L k = 0 := by
  rw [dotT_at h1 h2, h, ratv_zero, Rat.zero_mul]
theorem dotT_c0 {r : List Int} {L : List (Int × Int)} {k : Nat} {c : Int} {p : Int × Int} (h1 : r[k]? = some c) (h2 : L[k]? = some p) (h : c = 0) : dotT r L k = 0 := by
  rw [dotT_at h1 h2, h]; exact Rat.mul_zero _
abbrev boxc (t : TE) : List Value := [.bool t.1, .slice t.2.1.1 t.2.1.2.1 t.2.1.2.2, .slice t.2.2.1.1 t.2.2.1.2.1 t.2.2.1.2.2]
abbrev ApT (x : Addr) (t : TE) (r : Rat) : Prop := Apart x t.2.1 r.num.natAbs ∧ Apart x t.2.2.1 r.den
theorem ApT.fr {x : Addr} {t : TE} {r : Rat} {w : World} {cs : List Value} (X : Box w x cs) (h1 : Fr w t.2.1.1) (h2 : Fr w t.2.2.1.1) : ApT x t r := ⟨Apart.fr X h1, Apart.fr X h2⟩
theorem EX.grownA {L : Nat} {w w' : World} {t : TE} {r : Rat} {x : Addr} (h : EX L w t r) (ha : ApT x t r) (hg : w.grownBy w' (some x.block)) : EX L w' t r := ⟨h.1, ha.1.grown h.2.1 hg, ha.2.grown h.2.2.1 hg, h.2.2.2⟩
theorem BX.grown {L : Nat} {w w' : World} {t : TE} {r : Rat} {x : Addr} (h : BX L w t r) (ha : ApT x t r) (hg : w.grownBy w' (some x.block)) : BX L w' t r :=
  ⟨h.1, NumAt.grown h.2.1 hg fun a q hv _ e => ha.1 a q hv (by injection e), NumAt.grown h.2.2.1 hg fun a q hv _ e => ha.2 a q hv (by injection e), h.2.2.2⟩
theorem ApT.old {x : Addr} {t : TE} {r : Rat} {L : Nat} {w : World} (h : BX L w t r) (hx : w.heap.size ≤ x.block) : ApT x t r :=
  ⟨fun ad ha hy e => by have := NumAt.lt_heap h.2.1 hy ad ha; omega, fun ad ha hy e => by have := NumAt.lt_heap h.2.2.1 hy ad ha; omega⟩
theorem ApT.oldE {x : Addr} {t : TE} {r : Rat} {L : Nat} {w : World} (h : EX L w t r) (hx : w.heap.size ≤ x.block) : ApT x t r :=
  ⟨Apart.old h.2.1 hx, Apart.old h.2.2.1 hx⟩
theorem at_fst {w : World} {a : Option Addr} {n c j : Nat} {L : List (Int × Int)} {p : Int × Int} {K : Int → Prop} (H : Sl w a n c 2 (L.flatMap encF)) {i : Int} (hj : i = (j : Int)) (hp : L[j]? = some p) (hk : K p.1) :
    rdp Tryz.prog (Instr.indexAt 32 (.slice a n c) (.int .i64 i)) (.one .addr) fun ad => rd Tryz.prog (Instr.loadAt 2 (.pointer (some ad))) (.one (.int .i64)) w K :=
  idx_agg tyFracs encF_len (by omega) H hj hp fun ad h => rd_cell (by kernel_rfl) (by have := h 0 _ rfl; rwa [Go.Q.add_zero] at this) rfl hk
theorem at_frac {w : World} {a : Option Addr} {n c j : Nat} {L : List (Int × Int)} {p : Int × Int} {K : Int × Int × Unit → Prop} (H : Sl w a n c 2 (L.flatMap encF)) {i : Int} (hj : i = (j : Int)) (hp : L[j]? = some p) (hk : K (p.1, p.2, ())) :
    rdp Tryz.prog (Instr.indexAt 32 (.slice a n c) (.int .i64 i)) (.one .addr) fun ad => rd Tryz.prog (Instr.loadAt 60 (.pointer (some ad))) (.agg [.int .i64, .int .i64]) w K :=
  at_agg tyFracs agFrac encF_len (by omega) H hj hp rfl hk
theorem fr_len {w : World} {a : Option Addr} {n c : Nat} {L : List (Int × Int)} (H : Sl w a n c 2 (L.flatMap encF)) : L.length = n := by
  have := H.len
  rw [flat_len encF_len] at this
  omega
theorem i64_of {x : Int} (h : -1000000000 ≤ x ∧ x ≤ 1000000000) : I64 x := ⟨by omega, by omega⟩

set_option maxHeartbeats 1600000 in
theorem sol11 (u r b x : Hdr) (up : List Int) (T : List (List Int)) (rt : List Int) (L : List (Int × Int)) (w : World) (H : Sys w u r b up T rt) (HL : Sl w x.1 x.2.1 x.2.2 2 (L.flatMap encF)) (hI : ∀ p ∈ L, I64 p.1 ∧ I64 p.2) :
    call Tryz.prog 23 [sysv u r b, .slice x.1 x.2.1 x.2.2] (.one (.one .bool)) w (fun v w' => (v = true ↔ SolP up T rt L) ∧ bel w w') := by
  refine call_of (S23_calls u.1 u.2.1 u.2.2 r.1 r.2.1 r.2.2 b.1 b.2.1 b.2.2 x.1 x.2.1 x.2.2 w _ ?_)
  unfold S23
  have hu := H.u.int
  have hT := H.r.len
  have hb := H.b.int
  have hl := fr_len HL
  have no : ∀ {w' : World}, bel w w' → (SolP up T rt L → False) → ∃ v : Bool, Value.bool false = (RS.one (.one .bool)).val v ∧ (v = true ↔ SolP up T rt L) ∧ bel w w' := fun hb q => ⟨false, rfl, ⟨fun e => (Bool.noConfusion e), fun s => (q s).elim⟩, hb⟩
  refine wr_box fun x1 w2 X h _ _ => ?_
  replace X : Box w2 x1 (sysc u r b) := X
  replace H := H.up h; replace HL := HL.up h
  refine rd_boxN X (by kernel_rfl) rfl ?_
  refine call_mono (valid11 u r b up T rt w2 H) ?_
  rintro x4 w5 ⟨rfl, h'⟩
  replace h := h.trans h'; replace X := X.up h'; replace H := H.up h'; replace HL := HL.up h'; clear h'
  have kl := HL.le
  refine br_ne (fun e => no h fun s => e s.ok) (fun e0 => ?_)
  obtain ⟨v1, v2, v3, v4⟩ := sysE_ok e0
  refine rd_box0 (by kernel_rfl) X rfl rfl ?_
  refine br_ne (fun e => no h fun s => ?_) (fun e1 => ?_)
  · have := s.len; dsimp only at e; omega
  dsimp only at e1
  refine loop_up x.2.1 (fun i w' => bel w5 w' ∧ ∀ j, j < i → ∀ p u, L[j]? = some p → up[j]? = some u → IsFrac p.1 p.2 ∧ ¬ p.1 < 0 ∧ ¬ ((u : Rat) < ratv p.1 p.2)) ⟨bel.refl _, fun j h => by omega⟩ fun i w9 hi ⟨hw, hq⟩ again hag _ => ?_
  refine br_dec (fun e => ?_) (fun e => ?_)
  · dsimp only at e
    obtain ⟨p, hp⟩ : ∃ p, L[i]? = some p := ⟨_, List.getElem?_eq_getElem (by omega)⟩
    obtain ⟨uu, huu⟩ : ∃ uu, up[i]? = some uu := ⟨_, List.getElem?_eq_getElem (by omega)⟩
    have hpi := hI p (mem_at hp)
    have hui := v3.1 uu (mem_at huu)
    refine drw_mk fun w10 h' _ => ?_
    replace hw := hw.trans h'
    refine flEx_mk (fun i _ v w' => (i = 4 → v = .bool (decide (IsFrac p.1 p.2))) ∧ (i = 20 → ∃ t : TE, v = exV t ∧ BX 3 w' t (uu : Rat))) (fun _ _ _ _ _ h hb => ⟨h.1, fun e => by obtain ⟨t, q1, q2⟩ := h.2 e; exact ⟨t, q1, q2.up hb⟩⟩) ?_
    refine at_frac (HL.up hw) rfl hp ?_
    refine flc_mk (fun w14 hb _ => call_mono (callB (valid10 p.1 p.2 w14 hpi.1.1 hpi.1.2 hpi.2.1 hpi.2.2)) fun y w' ⟨hy, hb'⟩ => ⟨hb', fun _ => by rw [hy], fun e => by omega⟩) (fun x18 => ?_)
    refine br_not (fun ev => flend_mk fun w19 hb hf => no (h.trans (hw.trans hb)) fun s => ?_) (fun ev => ?_)
    · have f1 : x18 = decide (IsFrac p.1 p.2) := by have := hf.1.1 rfl; injection this
      rw [ev, decide_eq_true (s.each i p uu hp huu).1] at f1
      cases f1
    refine at_fst (HL.up hw) rfl hp ?_
    refine br_dec (fun en => flend_mk fun w23 hb hf => no (h.trans (hw.trans hb)) fun s => (s.each i p uu hp huu).2.1 en) (fun en => ?_)
    refine rd_box0 (by kernel_rfl) (X.up hw) rfl rfl ?_
    refine at_int tyI64 (by kernel_rfl) (H.up hw).u rfl (by omega) fun y hy => ?_
    rw [huu] at hy; cases hy
    refine flc_mk (fun w28 hb _ => call_mono (wholeX uu w28 (i64_of (by omega))) fun y w' ⟨hy, _, _, hb'⟩ => ⟨hb', fun e => by omega, fun _ => ⟨y, rfl, hy⟩⟩) (fun (x32 : TE) => ?_)
    refine at_frac (HL.up hw) rfl hp ?_
    refine flend_mk fun w35 hb hf => ?_
    have f1 : x18 = decide (IsFrac p.1 p.2) := by have := hf.2.1.1 rfl; injection this
    obtain ⟨t, ht, hB⟩ := hf.1.2 rfl
    have ht' := exV_inj (t := x32) ht
    subst ht'
    have hF : IsFrac p.1 p.2 := by rw [ev] at f1; exact of_decide_eq_true f1.symm
    refine call_mono (makeX w35 hF) ?_
    rintro (y : TE) w38 ⟨hy, _, _, h2'⟩
    refine call_mono (lessX x32 y _ _ 3 3 w38 (hB.up h2') hy (by omega) (by omega)) ?_
    rintro _ w40 ⟨rfl, h3'⟩
    have hw' := ((hw.trans hb).trans h2').trans h3'
    refine br_dec (fun el => no (h.trans hw') fun s => (s.each i p uu hp huu).2.2 (less_iff.1 el)) (fun el => ?_)
    refine z_i64 (by dsimp only; omega) ?_
    refine hag _ (by omega) ⟨hw', fun j hj p' u' q1 q2 => ?_⟩
    rcases Nat.lt_or_ge j i with q | q
    · exact hq j q p' u' q1 q2
    · have : j = i := by omega
      subst this
      rw [hp] at q1; cases q1
      rw [huu] at q2; cases q2
      exact ⟨hF, en, fun q => el (less_iff.2 q)⟩
  dsimp only at e
  have Q1 : ∀ (k : Nat) p u, L[k]? = some p → up[k]? = some u → IsFrac p.1 p.2 ∧ ¬ p.1 < 0 ∧ ¬ ((u : Rat) < ratv p.1 p.2) := fun k p u q1 q2 => hq k (by have := (List.getElem?_eq_some_iff.1 q1).1; omega) p u q1 q2
  clear hq hag again
  replace h := h.trans hw; replace X := X.up hw; replace H := H.up hw; replace HL := HL.up hw; clear hw hi e
  refine loop_up r.2.1 (fun i w' => bel w9 w' ∧ ∀ j, j < i → ∀ q c, T[j]? = some q → rt[j]? = some c → dotN q L up.length = (c : Rat)) ⟨bel.refl _, fun j h => by omega⟩ fun i w44 hi ⟨hw, hq⟩ again hag _ => ?_
  refine rd_box (by kernel_rfl) (X.up hw) (i := 1) rfl rfl ?_
  refine br_dec (fun e => ?_) (fun e => ?_)
  · dsimp only at e
    obtain ⟨row, hrow⟩ : ∃ row, T[i]? = some row := ⟨_, List.getElem?_eq_getElem (by omega)⟩
    obtain ⟨cc, hcc⟩ : ∃ cc, rt[i]? = some cc := ⟨_, List.getElem?_eq_getElem (by have := v4.1; omega)⟩
    have hrl := v4.2 row (mem_at hrow)
    have hci := v3.2.1 cc (mem_at hcc)
    refine call_mono (wholeX 0 w44 ⟨by omega, by omega⟩) ?_
    rintro (t0 : TE) w47 ⟨hB0, _, _, h'⟩
    refine var_mk (z := .agg #[.bool false, .slice none 0 0, .slice none 0 0]) (by kernel_rfl) (by kernel_rfl) rfl rfl fun x48 w50 Y h2' hy => ?_
    replace Y : Box w50 x48 (boxc t0) := Y
    have A0 : ApT x48 t0 (0 : Rat) := ApT.old hB0 (by omega)
    have hn48 : w44.heap.size ≤ x48.block := by have := h'.size; omega
    refine loop_up x.2.1 (fun k w' => bel w44 w' ∧ ∃ t, Box w' x48 (boxc t) ∧ BX (3 + 9 * k) w' t (dotN row L k) ∧ ApT x48 t (dotN row L k)) ⟨h'.trans h2', t0, Y, hB0.up h2', A0⟩ fun k w53 hk ⟨hw2, t, Y, hB, hA⟩ again' hag' _ => ?_
    refine br_dec (fun e2 => ?_) (fun e2 => ?_)
    · dsimp only at e2
      obtain ⟨p, hp⟩ : ∃ p, L[k]? = some p := ⟨_, List.getElem?_eq_getElem (by omega)⟩
      obtain ⟨c, hc⟩ : ∃ c, row[k]? = some c := ⟨_, List.getElem?_eq_getElem (by omega)⟩
      obtain ⟨uu, huu⟩ : ∃ uu, up[k]? = some uu := ⟨_, List.getElem?_eq_getElem (by omega)⟩
      have hF := (Q1 k p uu hp huu).1
      have hc2 := v3.2.2 row (mem_at hrow) c (mem_at hc)
      refine join_mk (fun _ w' => bel w44 w' ∧ ∃ t, Box w' x48 (boxc t) ∧ BX (3 + 9 * (k + 1)) w' t (dotN row L (k + 1)) ∧ ApT x48 t (dotN row L (k + 1))) (fun K hK => ?_) (fun _ w' hh _ => z_i64 (by dsimp only; omega) (hag' _ (by omega) hh))
      have same : dotT row L k = 0 → K () w53 := fun q => by
        have e : dotN row L (k + 1) = dotN row L k := by
          show dotN row L k + dotT row L k = _
          rw [q, Rat.add_zero]
        exact hK _ _ ⟨hw2, t, Y, by rw [e]; exact hB.le (by omega), by rw [e]; exact hA⟩
      refine at_fst (HL.up (hw.trans hw2)) rfl hp ?_
      refine br_ne (fun n1 => ?_) (fun n1 => same (dotT_p0 hc hp n1))
      refine rd_box (by kernel_rfl) (X.up (hw.trans hw2)) (i := 1) rfl rfl ?_
      refine (H.up (hw.trans hw2)).r.at tyTab (by kernel_rfl) rfl (by omega) fun y row' h1 HR => ?_
      rw [hrow] at h1; cases h1
      refine at_int tyI64 (by kernel_rfl) HR rfl (by have := Sl.int HR; omega) fun c' hc' => ?_
      rw [hc] at hc'; cases hc'
      refine br_ne (fun n2 => ?_) (fun n2 => same (dotT_c0 hc hp n2))
      refine drw_mk fun w65 h3' _ => ?_
      have hw3 := hw2.trans h3'
      replace Y := Y.up h3'; replace hB := hB.up h3'
      refine flEx_mk (fun i _ v w' => (i = 5 → ∃ t : TE, v = exV t ∧ BX 3 w' t (ratv p.1 p.2)) ∧ (i = 14 → ∃ t : TE, v = exV t ∧ BX 3 w' t (c : Rat)) ∧ (i = 15 → ∃ t : TE, v = exV t ∧ BX 7 w' t (ratv p.1 p.2 * (c : Rat))))
        (fun _ _ _ _ _ h hb => ⟨fun e => by obtain ⟨t, q1, q2⟩ := h.1 e; exact ⟨t, q1, q2.up hb⟩, fun e => by obtain ⟨t, q1, q2⟩ := h.2.1 e; exact ⟨t, q1, q2.up hb⟩, fun e => by obtain ⟨t, q1, q2⟩ := h.2.2 e; exact ⟨t, q1, q2.up hb⟩⟩) ?_
      refine rd_boxN Y (by kernel_rfl) rfl ?_
      refine at_frac (HL.up (hw.trans hw3)) rfl hp ?_
      refine flc_mk (fun w70 hb _ => call_mono (makeX w70 hF) fun y w' ⟨hy, _, _, hb'⟩ => ⟨hb', fun _ => ⟨y, rfl, hy⟩, fun e => by omega, fun e => by omega⟩) (fun (x74 : TE) => ?_)
      refine rd_box (by kernel_rfl) (X.up (hw.trans hw3)) (i := 1) rfl rfl ?_
      refine (H.up (hw.trans hw3)).r.at tyTab (by kernel_rfl) rfl (by omega) fun y row' h1 HR => ?_
      rw [hrow] at h1; cases h1
      refine at_int tyI64 (by kernel_rfl) HR rfl (by have := Sl.int HR; omega) fun c' hc' => ?_
      rw [hc] at hc'; cases hc'
      refine flc_mk (fun w80 hb _ => call_mono (wholeX c w80 ⟨by omega, by omega⟩) fun y w' ⟨hy, _, _, hb'⟩ => ⟨hb', fun e => by omega, fun _ => ⟨y, rfl, hy⟩, fun e => by omega⟩) (fun (x84 : TE) => ?_)
      refine flc_mk (fun w85 hb hf => ?_) (fun (x89 : TE) => ?_)
      · obtain ⟨⟨_, g2, _⟩, ⟨g1, _⟩, _⟩ := hf
        obtain ⟨t1, e1, B1⟩ := g1 rfl
        obtain ⟨t2, e2, B2⟩ := g2 rfl
        have e1' := exV_inj (t := x74) e1
        have e2' := exV_inj (t := x84) e2
        subst e1' e2'
        exact call_mono (timesX x74 x84 _ _ 3 3 w85 B1 B2 (by omega) (by omega)) fun y w' ⟨hy, _, _, hb'⟩ => ⟨hb', fun e => by omega, fun e => by omega, fun _ => ⟨y, rfl, hy⟩⟩
      · refine flend_mk fun w90 hb hf => ?_
        obtain ⟨⟨_, _, g⟩, _⟩ := hf
        obtain ⟨t1, e1, B1⟩ := g rfl
        have e1' := exV_inj (t := x89) e1
        subst e1'
        refine call_mono (plusX t x89 _ _ (3 + 9 * k) 7 w90 (hB.up hb) B1 (by omega) (by omega)) ?_
        rintro (y : TE) w93 ⟨hy, f1, f2, h4'⟩
        have A' : ApT x48 y (dotN row L (k + 1)) := ApT.fr (Y.up hb) f1 f2
        have e : dotN row L (k + 1) = dotN row L k + ratv p.1 p.2 * (c : Rat) := by
          show dotN row L k + dotT row L k = _
          rw [dotT_at hc hp]
        rw [← e] at hy
        refine wu_box ((Y.up hb).up h4') (by kernel_rfl) (Nat.le_refl 3) rfl fun w94 Y' hg _ => ?_
        exact hK _ _ ⟨((hw3.trans hb).trans h4').grownAt hg hn48, y, Y', (hy.grown A' hg).le (by omega), A'⟩
    · dsimp only at e2
      have hk' : k = up.length := by omega
      subst hk'
      refine drw_mk fun w95 h3' _ => ?_
      have hw3 := hw2.trans h3'
      replace Y := Y.up h3'; replace hB := hB.up h3'
      refine flEx_mk (fun _ _ v w' => ∃ t : TE, v = exV t ∧ BX 3 w' t ((0 - cc : Int) : Rat)) (fun _ _ _ _ _ ⟨t, q1, q2⟩ hb => ⟨t, q1, q2.up hb⟩) ?_
      refine rd_boxN Y (by kernel_rfl) rfl ?_
      refine rd_box (by kernel_rfl) (X.up (hw.trans hw3)) (i := 2) rfl rfl ?_
      refine at_int tyI64 (by kernel_rfl) (H.up (hw.trans hw3)).b rfl (by have := v4.1; omega) fun c' hc' => ?_
      rw [hcc] at hc'; cases hc'
      refine z_i64 (by omega) ?_
      refine flc_mk (fun w102 hb _ => call_mono (wholeX (0 - cc) w102 ⟨by omega, by omega⟩) fun y w' ⟨hy, _, _, hb'⟩ => ⟨hb', y, rfl, hy⟩) (fun (x106 : TE) => ?_)
      refine flend_mk fun w107 hb hf => ?_
      obtain ⟨⟨t1, e1, B1⟩, _⟩ := hf
      have e1' := exV_inj (t := x106) e1
      subst e1'
      refine call_mono (plusX t x106 _ _ (3 + 9 * up.length) 3 w107 (hB.up hb) B1 (by omega) (by omega)) ?_
      rintro (y : TE) w110 ⟨hy, _, _, h4'⟩
      refine call_mono (signX y _ _ w110 hy (by omega)) ?_
      rintro _ w112 ⟨rfl, h5'⟩
      have hw' := ((hw3.trans hb).trans h4').trans h5'
      have key : rsign (dotN row L up.length + ((0 - cc : Int) : Rat)) = 0 ↔ dotN row L up.length = (cc : Rat) := by
        rw [Int.zero_sub, Rat.intCast_neg]; exact same_iff
      refine br_ne (fun el => no (h.trans (hw.trans hw')) fun s => el (key.2 (s.rows i row cc hrow hcc))) (fun el => ?_)
      refine z_i64 (by dsimp only; omega) ?_
      refine hag _ (by omega) ⟨hw.trans hw', fun j hj q c q1 q2 => ?_⟩
      rcases Nat.lt_or_ge j i with hlt | hge
      · exact hq j hlt q c q1 q2
      · have : j = i := by omega
        subst this
        rw [hrow] at q1; cases q1
        rw [hcc] at q2; cases q2
        exact key.1 el
  · dsimp only at e
    exact ⟨true, rfl, ⟨fun _ => ⟨e0, by omega, Q1, fun i q c q1 q2 => hq i (by have := (List.getElem?_eq_some_iff.1 q1).1; omega) q c q1 q2⟩, fun _ => rfl⟩, h.trans hw⟩
end Go.Proofs.YtajpdnphamomjaaGreat

/- When numbers are a solution: the program. -/

namespace Go.Proofs.YtajpdnphamomjaaGreat
open Go.RowKit Go.Q Go.Q.Num Go.V

end Go.Proofs.YtajpdnphamomjaaGreat

/- The laws LinearChecks and IntegralChecks: the walks. -/

namespace Go.Proofs.YtajpdnphamomjaaGreat
open Go.RowKit Go.Q Go.Q.Num Go.V

/-! ### whole numbers -/
def dotJ (r xs : List Int) (k : Nat) : Int :=
  match r[k]?, xs[k]? with
  | some c, some x => c * x
  | _, _ => 0
def dotI (r xs : List Int) : Nat → Int
  | 0 => 0
  | k + 1 => dotI r xs k + dotJ r xs k
abbrev one1s (xs : List Int) : List (Int × Int) := xs.map fun n => (n, 1)
theorem ratv_one (n : Int) : ratv n 1 = (n : Rat) := by unfold ratv; exact Rat.mkRat_one n
theorem dotN_int (r xs : List Int) : ∀ k, dotN r (one1s xs) k = ((dotI r xs k : Int) : Rat)
  | 0 => rfl
  | k + 1 => by
    show dotN r (one1s xs) k + dotT r (one1s xs) k = ((dotI r xs k + dotJ r xs k : Int) : Rat)
    rw [dotN_int r xs k]
    unfold dotT dotJ
    rw [List.getElem?_map]
    cases r[k]? with
    | none => simp [Rat.add_zero]
    | some c => cases xs[k]? with
      | none => simp [Rat.add_zero]
      | some x => simp only [Option.map_some]; rw [ratv_one, Rat.intCast_add, Rat.intCast_mul, Rat.mul_comm]
theorem dotI_step {r xs : List Int} {k : Nat} {c x : Int} (h1 : r[k]? = some c) (h2 : xs[k]? = some x) : dotI r xs (k + 1) = dotI r xs k + c * x := by
  show dotI r xs k + dotJ r xs k = _
  unfold dotJ
  rw [h1, h2]
theorem each_int {n u : Int} (hu : u ≤ 1000000000) : IsFrac n 1 ∧ ¬ n < 0 ∧ ¬ ((u : Rat) < ratv n 1) ↔ 0 ≤ n ∧ n ≤ u := by
  rw [ratv_one, Rat.intCast_lt_intCast]
  constructor
  · rintro ⟨_, h1, h2⟩; omega
  · rintro ⟨h1, h2⟩
    exact ⟨⟨by omega, by omega, by omega, by omega, Nat.gcd_one_right _⟩, by omega, by omega⟩

theorem chk12 (u r b x : Hdr) (up : List Int) (T : List (List Int)) (rt : List Int) (xs : List Int) (w : World) (H : Sys w u r b up T rt) (HL : Sl w x.1 x.2.1 x.2.2 1 (ints .i64 xs)) (hI : ∀ n ∈ xs, I64 n) (hs : xs.length ≤ 1000) :
    call Tryz.prog 10 [sysv u r b, .slice x.1 x.2.1 x.2.2] (.one (.one .bool)) w (fun v w' => (v = true ↔ SolP up T rt (one1s xs)) ∧ bel w w') := by
  refine call_of (S10_calls u.1 u.2.1 u.2.2 r.1 r.2.1 r.2.2 b.1 b.2.1 b.2.2 x.1 x.2.1 x.2.2 w _ ?_)
  unfold S10
  have hl := HL.int
  refine wr_box fun x1 w2 X h _ _ => ?_
  replace X : Box w2 x1 (sysc u r b) := X
  replace H := H.up h; replace HL := HL.up h
  refine loop_upA x.2.1 (fun i (a : Hdr) w' => bel w2 w' ∧ a.2.1 = i ∧ Own w' w2.heap.size 60 2 a.1 i a.2.2 ((one1s (xs.take i)).flatMap encF)) ⟨bel.refl _, rfl, Own.nil _ _ _ _⟩ fun i a w5 hi ⟨hw, ha, O⟩ again hag _ => ?_
  refine br_dec (fun e => ?_) (fun e => ?_)
  · dsimp only at e
    refine at_int tyI64 (by kernel_rfl) (HL.up hw) rfl (by omega) fun n hn => ?_
    dsimp only
    rw [ha]
    refine wr_app1 tyFracs O hw.size rfl (by omega) (by omega) rfl rfl (by omega) (by unfold maxLen; omega) fun a' c' w11 O' hg _ _ => ?_
    refine z_i64 (by omega) ?_
    refine hag (a', i + 1, c') w11 (by omega) ⟨hw.own O hg (Nat.le_refl _), rfl, ?_⟩
    have e : (one1s (xs.take (i + 1))).flatMap encF = (one1s (xs.take i)).flatMap encF ++ encF (n, 1) := by
      rw [List.take_add_one, hn]
      simp [one1s, List.flatMap_append]
    rw [e]; exact O'
  · dsimp only at e
    have hi' : i = xs.length := by omega
    subst hi'
    rw [List.take_of_length_le (Nat.le_refl _)] at O
    refine rd_boxN (X.up hw) (by kernel_rfl) rfl ?_
    dsimp only [jw]
    rw [ha]
    refine call_mono (sol11 u r b (a.1, xs.length, a.2.2) up T rt (one1s xs) w5 (H.up hw) O.sl ?_) ?_
    · intro p hp
      obtain ⟨n, hn, rfl⟩ := List.mem_map.1 hp
      exact ⟨hI n hn, ⟨by omega, by omega⟩⟩
    rintro x14 w15 ⟨hx, h'⟩
    exact ⟨_, rfl, hx, (h.trans hw).trans h'⟩

end Go.Proofs.YtajpdnphamomjaaGreat

/- The walk of IntegralChecks; arguments. -/

namespace Go.Proofs.YtajpdnphamomjaaGreat
open Go.RowKit Go.Q Go.Q.Num Go.V

theorem sl_inj {x : Option Addr × Nat × Nat} {h : Hdr} (e : Value.slice x.1 x.2.1 x.2.2 = hv h) : x = h := by
  obtain ⟨a, b, c⟩ := x
  obtain ⟨a', b', c'⟩ := h
  simp only [hv, Value.slice.injEq] at e
  obtain ⟨rfl, rfl, rfl⟩ := e
  rfl
/-! ### arguments -/
end Go.Proofs.YtajpdnphamomjaaGreat

/- The conditions of functions, printed by our tool; each is checked against the code by the kernel. -/



namespace Go.Proofs
open Go Go.V Go.RowKit
open Tryz (prog)
set_option maxRecDepth 100000
def S42d (s_a : OA) (s_n s_c : Nat) (w0 : World) (R : KR) : Prop :=
 loop (T := (Int × Unit)) (0, ()) w0 fun (g1 : Int × Unit → World → Prop) (s2 : Int × Unit) w3 => ∀ _ : NV,
 br (decide (s2.1 < ((s_n : Nat) : Int))) (rdp prog (Instr.indexAt 32 (.slice s_a s_n s_c) (ji s2.1)) oA fun (x4 : Addr) =>
 rd prog (jL 60 x4) aF w3 fun (x5 : TF) =>
 call prog 100 [.agg #[ji x5.1, ji x5.2.1]] (.one oB) w3 fun (x6 : Bool) w7 =>
 br x6 (R (ji s2.1) w7)
 (z (IntKind.wrap .i64 (s2.1 + 1)) fun (z8 : Int) =>
 g1 (z8, ()) w7))
 (R (ji (-1)) w3)
def H42d : Hints := ⟨[(2, 0, [(8, (.one (.int .i64)))])], [], [], []⟩
theorem S42d_calls (s_a : OA) (s_n s_c : Nat) (w0 : World) (R : KR) (h : S42d s_a s_n s_c w0 R) : Calls prog 42 #[.slice s_a s_n s_c, (.func (.func 100) #[] #[])] w0 (ret R) :=
 vcFn_sound (H := H42d) follows_ Tryz.func42 (Eq.mpr (by kernel_rfl) h)
def S87d (s_a : OA) (s_n s_c : Nat) (w0 : World) (R : KR) : Prop :=
 call prog 42 [.slice s_a s_n s_c, (.func (.func 100) #[] #[])] (.one oI) w0 fun (x1 : Int) w2 =>
 R (.bool (decide (x1 ≥ 0))) w2
def H87d : Hints := ⟨[], [], [], []⟩
theorem S87d_calls (s_a : OA) (s_n s_c : Nat) (w0 : World) (R : KR) (h : S87d s_a s_n s_c w0 R) : Calls prog 87 #[.slice s_a s_n s_c, (.func (.func 100) #[] #[])] w0 (ret R) :=
 vcFn_sound (H := H87d) follows_ Tryz.func87 (Eq.mpr (by kernel_rfl) h)
def S100 (f_0 f_1 : Int) (w0 : World) (R : KR) : Prop :=
 wr prog (Instr.box 60 (.agg #[ji f_0, ji f_1])) oA w0 fun (x1 : Addr) w2 =>
 rd prog (jL 60 x1) aF w2 fun (x3 : TF) =>
 call prog 68 [.agg #[ji x3.1, ji x3.2.1]] (.one oB) w2 fun (x4 : Bool) w5 =>
 R (.bool (!x4)) w5
def H100 : Hints := ⟨[], [], [], []⟩
theorem S100_calls (f_0 f_1 : Int) (w0 : World) (R : KR) (h : S100 f_0 f_1 w0 R) : Calls prog 100 #[.agg #[ji f_0, ji f_1]] w0 (ret R) :=
 vcFn_sound (H := H100) follows_ Tryz.func100 (Eq.mpr (by kernel_rfl) h)
def S103 (row_ : Int) (cap0 cap1 : Addr) (w0 : World) (R : KR) : Prop :=
 drw w0 fun w1 =>
 rd prog (jL 27 (Addr.add cap0 1)) oS w1 fun (x2 : Hd3) =>
 rdp prog (jI 27 x2 row_) oA fun (x3 : Addr) =>
 rd prog (jL 26 x3) oS w1 fun (x4 : Hd3) =>
 rd prog (jL 3 cap1) oI w1 fun (x5 : Int) =>
 rdp prog (jI 26 x4 x5) oA fun (x6 : Addr) =>
 rd prog (jL 2 x6) oI w1 fun (x7 : Int) =>
 R (ji x7) w1
def H103 : Hints := ⟨[], [(1, 6)], [], []⟩
theorem S103_calls (row_ : Int) (cap0 cap1 : Addr) (w0 : World) (R : KR) (h : S103 row_ cap0 cap1 w0 R) : Calls prog 103 #[ji row_, jp cap0, jp cap1] w0 (ret R) :=
 vcFn_sound (H := H103) follows_ Tryz.func103 (Eq.mpr (by kernel_rfl) h)
def S104 (row_ : Int) (cap0 : Addr) (w0 : World) (R : KR) : Prop :=
 rd prog (jL 26 (Addr.add cap0 2)) oS w0 fun (x1 : Hd3) =>
 rdp prog (jI 26 x1 row_) oA fun (x2 : Addr) =>
 rd prog (jL 2 x2) oI w0 fun (x3 : Int) =>
 R (ji x3) w0
def H104 : Hints := ⟨[], [], [], []⟩
theorem S104_calls (row_ : Int) (cap0 : Addr) (w0 : World) (R : KR) (h : S104 row_ cap0 w0 R) : Calls prog 104 #[ji row_, jp cap0] w0 (ret R) :=
 vcFn_sound (H := H104) follows_ Tryz.func104 (Eq.mpr (by kernel_rfl) h)
def S101c (cap0_0 cap0_1 cap0 : Addr) (w0 : World) (R : KR) : Prop :=
 wr prog (Instr.alloc 60 true (.tuple #[])) oA w0 fun (x1 : Addr) w2 =>
 call prog 82 [ji 0] (.one aN) w2 fun (x3 : Bool × Hd3 × Hd3 × Unit) w4 =>
 wr prog (Instr.alloc 118 true (.tuple #[])) oA w4 fun (x5 : Addr) w6 =>
 wu prog (jS 118 x5 (.agg #[.bool x3.1, jw x3.2.1, jw x3.2.2.1])) w6 fun w7 =>
 rd prog (jL 32 cap0) oS w7 fun (x8 : Hd3) =>
 loop (T := (Int × Unit)) (0, ()) w7 fun (g9 : Int × Unit → World → Prop) (s10 : Int × Unit) w11 => ∀ _ : NV,
 br (decide (s10.1 < ((x8.2.1 : Nat) : Int))) (join (T := Unit) (fun (_s13 : Unit) w14 => ∀ _ : NV,
 z (IntKind.wrap .i64 (s10.1 + 1)) fun (z15 : Int) =>
 g9 (z15, ()) w14)
  fun (K12 : Unit → World → Prop) =>
 rdp prog (jI 32 x8 s10.1) oA fun (x16 : Addr) =>
 rd prog (jL 60 x16) aF w11 fun (x17 : TF) =>
 wr prog (Instr.alloc 60 true (.tuple #[])) oA w11 fun (x18 : Addr) w19 =>
 wu prog (jS 60 x18 (.agg #[ji x17.1, ji x17.2.1])) w19 fun w20 =>
 call prog 103 [ji s10.1, jp cap0_0, jp cap0_1] (.one oI) w20 fun (x21 : Int) w22 =>
 br (x21 != 0) (rd prog (jL 2 x18) oI w22 fun (x23 : Int) =>
 br (x23 != 0) (drw w22 fun w24 => flEx fun F25 =>
 rd prog (jL 118 x5) aN w24 fun (x26 : Bool × Hd3 × Hd3 × Unit) =>
 rd prog (jL 60 x18) aF w24 fun (x27 : TF) =>
 flc bel w24 (fun _w29 => True) (fun w28 =>
   call prog 84 [.agg #[ji x27.1, ji x27.2.1]] (.one aN) w28 fun (x30 : Bool × Hd3 × Hd3 × Unit) w31 =>
 (bel w28 w31 ∧ F25 2 [.agg #[ji x27.1, ji x27.2.1]] (.agg #[.bool x30.1, jw x30.2.1, jw x30.2.2.1]) w31))
  fun (x32 : Bool × Hd3 × Hd3 × Unit) =>
 flc bel w24 (fun w34 => F25 2 [.agg #[ji x27.1, ji x27.2.1]] (.agg #[.bool x32.1, jw x32.2.1, jw x32.2.2.1]) w34 ∧ True) (fun w33 =>
   call prog 82 [ji x21] (.one aN) w33 fun (x35 : Bool × Hd3 × Hd3 × Unit) w36 =>
 (bel w33 w36 ∧ F25 4 [ji x21] (.agg #[.bool x35.1, jw x35.2.1, jw x35.2.2.1]) w36))
  fun (x37 : Bool × Hd3 × Hd3 × Unit) =>
 flc bel w24 (fun w39 => F25 4 [ji x21] (.agg #[.bool x37.1, jw x37.2.1, jw x37.2.2.1]) w39 ∧ F25 2 [.agg #[ji x27.1, ji x27.2.1]] (.agg #[.bool x32.1, jw x32.2.1, jw x32.2.2.1]) w39 ∧ True) (fun w38 =>
   call prog 85 [.agg #[.bool x32.1, jw x32.2.1, jw x32.2.2.1], .agg #[.bool x37.1, jw x37.2.1, jw x37.2.2.1]] (.one aN) w38 fun (x40 : Bool × Hd3 × Hd3 × Unit) w41 =>
 (bel w38 w41 ∧ F25 5 [.agg #[.bool x32.1, jw x32.2.1, jw x32.2.2.1], .agg #[.bool x37.1, jw x37.2.1, jw x37.2.2.1]] (.agg #[.bool x40.1, jw x40.2.1, jw x40.2.2.1]) w41))
  fun (x42 : Bool × Hd3 × Hd3 × Unit) =>
 flend bel w24 (fun w44 => F25 5 [.agg #[.bool x32.1, jw x32.2.1, jw x32.2.2.1], .agg #[.bool x37.1, jw x37.2.1, jw x37.2.2.1]] (.agg #[.bool x42.1, jw x42.2.1, jw x42.2.2.1]) w44 ∧ F25 4 [ji x21] (.agg #[.bool x37.1, jw x37.2.1, jw x37.2.2.1]) w44 ∧ F25 2 [.agg #[ji x27.1, ji x27.2.1]] (.agg #[.bool x32.1, jw x32.2.1, jw x32.2.2.1]) w44 ∧ True) fun w43 =>
 call prog 83 [.agg #[.bool x26.1, jw x26.2.1, jw x26.2.2.1], .agg #[.bool x42.1, jw x42.2.1, jw x42.2.2.1]] (.one aN) w43 fun (x45 : Bool × Hd3 × Hd3 × Unit) w46 =>
 wu prog (jS 118 x5 (.agg #[.bool x45.1, jw x45.2.1, jw x45.2.2.1])) w46 fun w47 =>
 K12 (()) w47)
 (K12 (()) w22))
 (K12 (()) w22))
 (rd prog (jL 118 x5) aN w11 fun (x48 : Bool × Hd3 × Hd3 × Unit) =>
 call prog 102 [.agg #[.bool x48.1, jw x48.2.1, jw x48.2.2.1]] (.many [aF, oB]) w11 fun (x49 : ((TF) × Bool × Unit)) w50 =>
 wu prog (jS 60 x1 (.agg #[ji x49.1.1, ji x49.1.2.1])) w50 fun w51 =>
 rd prog (loadVar 60 x1) aF w51 fun (x52 : TF) =>
 R (.tuple #[.agg #[ji x52.1, ji x52.2.1], .bool x49.2.1]) w51)
def H101c : Hints := ⟨[(2, 0, [(12, (.one (.int .i64)))]), (1, 1, [])], [(7, 6)], [], []⟩
theorem S101c_calls (cap0_0 cap0_1 cap0 : Addr) (w0 : World) (R : KR) (h : S101c cap0_0 cap0_1 cap0 w0 R) : Calls prog 101 #[(.func (.func 103) #[] #[jp cap0_0, jp cap0_1]), jp cap0] w0 (ret R) :=
 vcFn_sound (H := H101c) follows_ Tryz.func101 (Eq.mpr (by kernel_rfl) h)
def S101d (cap0_0 cap0 : Addr) (w0 : World) (R : KR) : Prop :=
 wr prog (Instr.alloc 60 true (.tuple #[])) oA w0 fun (x1 : Addr) w2 =>
 call prog 82 [ji 0] (.one aN) w2 fun (x3 : Bool × Hd3 × Hd3 × Unit) w4 =>
 wr prog (Instr.alloc 118 true (.tuple #[])) oA w4 fun (x5 : Addr) w6 =>
 wu prog (jS 118 x5 (.agg #[.bool x3.1, jw x3.2.1, jw x3.2.2.1])) w6 fun w7 =>
 rd prog (jL 32 cap0) oS w7 fun (x8 : Hd3) =>
 loop (T := (Int × Unit)) (0, ()) w7 fun (g9 : Int × Unit → World → Prop) (s10 : Int × Unit) w11 => ∀ _ : NV,
 br (decide (s10.1 < ((x8.2.1 : Nat) : Int))) (join (T := Unit) (fun (_s13 : Unit) w14 => ∀ _ : NV,
 z (IntKind.wrap .i64 (s10.1 + 1)) fun (z15 : Int) =>
 g9 (z15, ()) w14)
  fun (K12 : Unit → World → Prop) =>
 rdp prog (jI 32 x8 s10.1) oA fun (x16 : Addr) =>
 rd prog (jL 60 x16) aF w11 fun (x17 : TF) =>
 wr prog (Instr.alloc 60 true (.tuple #[])) oA w11 fun (x18 : Addr) w19 =>
 wu prog (jS 60 x18 (.agg #[ji x17.1, ji x17.2.1])) w19 fun w20 =>
 call prog 104 [ji s10.1, jp cap0_0] (.one oI) w20 fun (x21 : Int) w22 =>
 br (x21 != 0) (rd prog (jL 2 x18) oI w22 fun (x23 : Int) =>
 br (x23 != 0) (drw w22 fun w24 => flEx fun F25 =>
 rd prog (jL 118 x5) aN w24 fun (x26 : Bool × Hd3 × Hd3 × Unit) =>
 rd prog (jL 60 x18) aF w24 fun (x27 : TF) =>
 flc bel w24 (fun _w29 => True) (fun w28 =>
   call prog 84 [.agg #[ji x27.1, ji x27.2.1]] (.one aN) w28 fun (x30 : Bool × Hd3 × Hd3 × Unit) w31 =>
 (bel w28 w31 ∧ F25 2 [.agg #[ji x27.1, ji x27.2.1]] (.agg #[.bool x30.1, jw x30.2.1, jw x30.2.2.1]) w31))
  fun (x32 : Bool × Hd3 × Hd3 × Unit) =>
 flc bel w24 (fun w34 => F25 2 [.agg #[ji x27.1, ji x27.2.1]] (.agg #[.bool x32.1, jw x32.2.1, jw x32.2.2.1]) w34 ∧ True) (fun w33 =>
   call prog 82 [ji x21] (.one aN) w33 fun (x35 : Bool × Hd3 × Hd3 × Unit) w36 =>
 (bel w33 w36 ∧ F25 4 [ji x21] (.agg #[.bool x35.1, jw x35.2.1, jw x35.2.2.1]) w36))
  fun (x37 : Bool × Hd3 × Hd3 × Unit) =>
 flc bel w24 (fun w39 => F25 4 [ji x21] (.agg #[.bool x37.1, jw x37.2.1, jw x37.2.2.1]) w39 ∧ F25 2 [.agg #[ji x27.1, ji x27.2.1]] (.agg #[.bool x32.1, jw x32.2.1, jw x32.2.2.1]) w39 ∧ True) (fun w38 =>
   call prog 85 [.agg #[.bool x32.1, jw x32.2.1, jw x32.2.2.1], .agg #[.bool x37.1, jw x37.2.1, jw x37.2.2.1]] (.one aN) w38 fun (x40 : Bool × Hd3 × Hd3 × Unit) w41 =>
 (bel w38 w41 ∧ F25 5 [.agg #[.bool x32.1, jw x32.2.1, jw x32.2.2.1], .agg #[.bool x37.1, jw x37.2.1, jw x37.2.2.1]] (.agg #[.bool x40.1, jw x40.2.1, jw x40.2.2.1]) w41))
  fun (x42 : Bool × Hd3 × Hd3 × Unit) =>
 flend bel w24 (fun w44 => F25 5 [.agg #[.bool x32.1, jw x32.2.1, jw x32.2.2.1], .agg #[.bool x37.1, jw x37.2.1, jw x37.2.2.1]] (.agg #[.bool x42.1, jw x42.2.1, jw x42.2.2.1]) w44 ∧ F25 4 [ji x21] (.agg #[.bool x37.1, jw x37.2.1, jw x37.2.2.1]) w44 ∧ F25 2 [.agg #[ji x27.1, ji x27.2.1]] (.agg #[.bool x32.1, jw x32.2.1, jw x32.2.2.1]) w44 ∧ True) fun w43 =>
 call prog 83 [.agg #[.bool x26.1, jw x26.2.1, jw x26.2.2.1], .agg #[.bool x42.1, jw x42.2.1, jw x42.2.2.1]] (.one aN) w43 fun (x45 : Bool × Hd3 × Hd3 × Unit) w46 =>
 wu prog (jS 118 x5 (.agg #[.bool x45.1, jw x45.2.1, jw x45.2.2.1])) w46 fun w47 =>
 K12 (()) w47)
 (K12 (()) w22))
 (K12 (()) w22))
 (rd prog (jL 118 x5) aN w11 fun (x48 : Bool × Hd3 × Hd3 × Unit) =>
 call prog 102 [.agg #[.bool x48.1, jw x48.2.1, jw x48.2.2.1]] (.many [aF, oB]) w11 fun (x49 : ((TF) × Bool × Unit)) w50 =>
 wu prog (jS 60 x1 (.agg #[ji x49.1.1, ji x49.1.2.1])) w50 fun w51 =>
 rd prog (loadVar 60 x1) aF w51 fun (x52 : TF) =>
 R (.tuple #[.agg #[ji x52.1, ji x52.2.1], .bool x49.2.1]) w51)
def H101d : Hints := ⟨[(2, 0, [(12, (.one (.int .i64)))]), (1, 1, [])], [(7, 6)], [], []⟩
theorem S101d_calls (cap0_0 cap0 : Addr) (w0 : World) (R : KR) (h : S101d cap0_0 cap0 w0 R) : Calls prog 101 #[(.func (.func 104) #[] #[jp cap0_0]), jp cap0] w0 (ret R) :=
 vcFn_sound (H := H101d) follows_ Tryz.func101 (Eq.mpr (by kernel_rfl) h)
def S79 (s_0a : OA) (s_0n s_0c : Nat) (s_1a : OA) (s_1n s_1c : Nat) (s_2a : OA) (s_2n s_2c : Nat) (m_a : OA) (m_n m_c : Nat) (w0 : World) (R : KR) : Prop :=
 wr prog (Instr.box 29 (.agg #[.slice s_0a s_0n s_0c, .slice s_1a s_1n s_1c, .slice s_2a s_2n s_2c])) oA w0 fun (x1 : Addr) w2 =>
 wr prog (Instr.box 32 (.slice m_a m_n m_c)) oA w2 fun (x3 : Addr) w4 =>
 wr prog (Instr.alloc 60 true (.tuple #[])) oA w4 fun (x5 : Addr) w6 =>
 rd prog (jL 29 x1) aS w6 fun (x7 : TS) =>
 call prog 18 [.agg #[jw x7.1, jw x7.2.1, jw x7.2.2.1]] (.one oI) w6 fun (x8 : Int) w9 =>
 br (x8 != 0) (wu prog (jS 60 x5 (.agg #[ji 0, ji 0])) w9 fun w10 =>
 rd prog (loadVar 60 x5) aF w10 fun (x11 : TF) =>
 R (.tuple #[.slice none 0 0, .agg #[ji x11.1, ji x11.2.1], ji x8]) w10)
 (rd prog (jL 32 x3) oS w9 fun (x12 : Hd3) =>
 rd prog (jL 27 (Addr.add x1 1)) oS w9 fun (x13 : Hd3) =>
 br (((x12.2.1 : Nat) : Int) != ((x13.2.1 : Nat) : Int)) (wu prog (jS 60 x5 (.agg #[ji 0, ji 0])) w9 fun w14 =>
 rd prog (loadVar 60 x5) aF w14 fun (x15 : TF) =>
 R (.tuple #[.slice none 0 0, .agg #[ji x15.1, ji x15.2.1], ji 9]) w14)
 (rd prog (jL 32 x3) oS w9 fun (x16 : Hd3) =>
 call prog 87 [jw x16, (.func (.func 100) #[] #[])] (.one oB) w9 fun (x17 : Bool) w18 =>
 br x17 (wu prog (jS 60 x5 (.agg #[ji 0, ji 0])) w18 fun w19 =>
 rd prog (loadVar 60 x5) aF w19 fun (x20 : TF) =>
 R (.tuple #[.slice none 0 0, .agg #[ji x20.1, ji x20.2.1], ji 1]) w19)
 (rd prog (jL 26 x1) oS w18 fun (x21 : Hd3) =>
 loop (T := (Hd3 × Int × Unit)) ((none, 0, 0), 0, ()) w18 fun (g22 : Hd3 × Int × Unit → World → Prop) (s23 : Hd3 × Int × Unit) w24 => ∀ _ : NV,
 br (decide (s23.2.1 < ((x21.2.1 : Nat) : Int))) (wr prog (Instr.alloc 3 true (.tuple #[])) oA w24 fun (x25 : Addr) w26 =>
 wu prog (jS 3 x25 (ji s23.2.1)) w26 fun w27 =>
 call prog 101 [(.func (.func 103) #[] #[jp x1, jp x25]), jp x3] (.many [aF, oB]) w27 fun (x28 : ((TF) × Bool × Unit)) w29 =>
 wr prog (Instr.alloc 60 true (.tuple #[])) oA w29 fun (x30 : Addr) w31 =>
 wu prog (jS 60 x30 (.agg #[ji x28.1.1, ji x28.1.2.1])) w31 fun w32 =>
 br (!x28.2.1) (wu prog (jS 60 x5 (.agg #[ji 0, ji 0])) w32 fun w33 =>
 rd prog (loadVar 60 x5) aF w33 fun (x34 : TF) =>
 R (.tuple #[.slice none 0 0, .agg #[ji x34.1, ji x34.2.1], ji 8]) w33)
 (rd prog (jL 60 x30) aF w32 fun (x35 : TF) =>
 wr prog (Instr.buildSlice 32 1 #[(0, (.agg #[ji x35.1, ji x35.2.1]))]) oS w32 fun (x36 : Hd3) w37 =>
 wr prog (Builtin.append_ #[32, 32] 32 #[.slice s23.1.1 s23.1.2.1 s23.1.2.2, .slice x36.1 x36.2.1 x36.2.2]) oS w37 fun (x38 : Hd3) w39 =>
 z (IntKind.wrap .i64 (s23.2.1 + 1)) fun (z40 : Int) =>
 g22 ((x38.1, x38.2.1, x38.2.2), z40, ()) w39))
 (call prog 101 [(.func (.func 104) #[] #[jp x1]), jp x3] (.many [aF, oB]) w24 fun (x41 : ((TF) × Bool × Unit)) w42 =>
 wr prog (Instr.alloc 60 true (.tuple #[])) oA w42 fun (x43 : Addr) w44 =>
 wu prog (jS 60 x43 (.agg #[ji x41.1.1, ji x41.1.2.1])) w44 fun w45 =>
 br (!x41.2.1) (wu prog (jS 60 x5 (.agg #[ji 0, ji 0])) w45 fun w46 =>
 rd prog (loadVar 60 x5) aF w46 fun (x47 : TF) =>
 R (.tuple #[.slice none 0 0, .agg #[ji x47.1, ji x47.2.1], ji 8]) w46)
 (drw w45 fun w48 =>
 rd prog (jL 60 x43) aF w48 fun (x49 : TF) =>
 wu prog (jS 60 x5 (.agg #[ji x49.1, ji x49.2.1])) w48 fun w50 =>
 rd prog (loadVar 60 x5) aF w50 fun (x51 : TF) =>
 R (.tuple #[jw s23.1, .agg #[ji x51.1, ji x51.2.1], ji 0]) w50)))))
def H79 : Hints := ⟨[(2, 0, [(9, (.one .slice)), (35, (.one (.int .i64)))])], [(21, 3)], [], []⟩
theorem S79_calls (s_0a : OA) (s_0n s_0c : Nat) (s_1a : OA) (s_1n s_1c : Nat) (s_2a : OA) (s_2n s_2c : Nat) (m_a : OA) (m_n m_c : Nat) (w0 : World) (R : KR) (h : S79 s_0a s_0n s_0c s_1a s_1n s_1c s_2a s_2n s_2c m_a m_n m_c w0 R) : Calls prog 79 #[.agg #[.slice s_0a s_0n s_0c, .slice s_1a s_1n s_1c, .slice s_2a s_2n s_2c], .slice m_a m_n m_c] w0 (ret R) :=
 vcFn_sound (H := H79) follows_ Tryz.func79 (Eq.mpr (by kernel_rfl) h)
def S78 (s_0a : OA) (s_0n s_0c : Nat) (s_1a : OA) (s_1n s_1c : Nat) (s_2a : OA) (s_2n s_2c : Nat) (m_a : OA) (m_n m_c : Nat) (w0 : World) (R : KR) : Prop :=
 wr prog (Instr.box 29 (.agg #[.slice s_0a s_0n s_0c, .slice s_1a s_1n s_1c, .slice s_2a s_2n s_2c])) oA w0 fun (x1 : Addr) w2 =>
 wr prog (Instr.alloc 83 true (.tuple #[])) oA w2 fun (x3 : Addr) w4 =>
 rd prog (jL 29 x1) aS w4 fun (x5 : TS) =>
 call prog 14 [.agg #[jw x5.1, jw x5.2.1, jw x5.2.2.1]] (.one oI) w4 fun (x6 : Int) w7 =>
 br (x6 != 0) (wu prog (jS 83 x3 (.agg #[.bool false, .slice none 0 0, .slice none 0 0])) w7 fun w8 =>
 rd prog (loadVar 83 x3) aN w8 fun (x9 : Bool × Hd3 × Hd3 × Unit) =>
 R (.tuple #[.slice none 0 0, .agg #[.bool x9.1, jw x9.2.1, jw x9.2.2.1], ji x6]) w8)
 (rd prog (jL 27 (Addr.add x1 1)) oS w7 fun (x10 : Hd3) =>
 br (((m_n : Nat) : Int) != ((x10.2.1 : Nat) : Int)) (wu prog (jS 83 x3 (.agg #[.bool false, .slice none 0 0, .slice none 0 0])) w7 fun w11 =>
 rd prog (loadVar 83 x3) aN w11 fun (x12 : Bool × Hd3 × Hd3 × Unit) =>
 R (.tuple #[.slice none 0 0, .agg #[.bool x12.1, jw x12.2.1, jw x12.2.2.1], ji 9]) w11)
 (loop (T := (Int × Unit)) (0, ()) w7 fun (g13 : Int × Unit → World → Prop) (s14 : Int × Unit) w15 => ∀ _ : NV,
 br (decide (s14.1 < ((m_n : Nat) : Int))) (rdp prog (Instr.indexAt 32 (.slice m_a m_n m_c) (ji s14.1)) oA fun (x16 : Addr) =>
 rd prog (jL 60 x16) aF w15 fun (x17 : TF) =>
 call prog 46 [.agg #[ji x17.1, ji x17.2.1]] (.one oB) w15 fun (x18 : Bool) w19 =>
 br (!x18) (wu prog (jS 83 x3 (.agg #[.bool false, .slice none 0 0, .slice none 0 0])) w19 fun w20 =>
 rd prog (loadVar 83 x3) aN w20 fun (x21 : Bool × Hd3 × Hd3 × Unit) =>
 R (.tuple #[.slice none 0 0, .agg #[.bool x21.1, jw x21.2.1, jw x21.2.2.1], ji 1]) w20)
 (z (IntKind.wrap .i64 (s14.1 + 1)) fun (z22 : Int) =>
 g13 (z22, ()) w19))
 (loop (T := (Hd3 × Int × Unit)) ((none, 0, 0), 0, ()) w15 fun (g23 : Hd3 × Int × Unit → World → Prop) (s24 : Hd3 × Int × Unit) w25 => ∀ _ : NV,
 rd prog (jL 26 x1) oS w25 fun (x26 : Hd3) =>
 br (decide (s24.2.1 < ((x26.2.1 : Nat) : Int))) (call prog 48 [ji 0] (.one aN) w25 fun (x27 : Bool × Hd3 × Hd3 × Unit) w28 =>
 wr prog (Instr.alloc 83 true (.tuple #[])) oA w28 fun (x29 : Addr) w30 =>
 wu prog (jS 83 x29 (.agg #[.bool x27.1, jw x27.2.1, jw x27.2.2.1])) w30 fun w31 =>
 loop (T := (Int × Unit)) (0, ()) w31 fun (g32 : Int × Unit → World → Prop) (s33 : Int × Unit) w34 => ∀ _ : NV,
 br (decide (s33.1 < ((m_n : Nat) : Int))) (join (T := Unit) (fun (_s36 : Unit) w37 => ∀ _ : NV,
 z (IntKind.wrap .i64 (s33.1 + 1)) fun (z38 : Int) =>
 g32 (z38, ()) w37)
  fun (K35 : Unit → World → Prop) =>
 rdp prog (Instr.indexAt 32 (.slice m_a m_n m_c) (ji s33.1)) oA fun (x39 : Addr) =>
 rd prog (jL 2 x39) oI w34 fun (x40 : Int) =>
 br (x40 != 0) (rd prog (jL 27 (Addr.add x1 1)) oS w34 fun (x41 : Hd3) =>
 rdp prog (jI 27 x41 s33.1) oA fun (x42 : Addr) =>
 rd prog (jL 26 x42) oS w34 fun (x43 : Hd3) =>
 rdp prog (jI 26 x43 s24.2.1) oA fun (x44 : Addr) =>
 rd prog (jL 2 x44) oI w34 fun (x45 : Int) =>
 br (x45 != 0) (drw w34 fun w46 => flEx fun F47 =>
 rd prog (jL 83 x29) aN w46 fun (x48 : Bool × Hd3 × Hd3 × Unit) =>
 rdp prog (Instr.indexAt 32 (.slice m_a m_n m_c) (ji s33.1)) oA fun (x49 : Addr) =>
 rd prog (jL 60 x49) aF w46 fun (x50 : TF) =>
 flc bel w46 (fun _w52 => True) (fun w51 =>
   call prog 49 [.agg #[ji x50.1, ji x50.2.1]] (.one aN) w51 fun (x53 : Bool × Hd3 × Hd3 × Unit) w54 =>
 (bel w51 w54 ∧ F47 5 [.agg #[ji x50.1, ji x50.2.1]] (.agg #[.bool x53.1, jw x53.2.1, jw x53.2.2.1]) w54))
  fun (x55 : Bool × Hd3 × Hd3 × Unit) =>
 rd prog (jL 27 (Addr.add x1 1)) oS w46 fun (x56 : Hd3) =>
 rdp prog (jI 27 x56 s33.1) oA fun (x57 : Addr) =>
 rd prog (jL 26 x57) oS w46 fun (x58 : Hd3) =>
 rdp prog (jI 26 x58 s24.2.1) oA fun (x59 : Addr) =>
 rd prog (jL 2 x59) oI w46 fun (x60 : Int) =>
 flc bel w46 (fun w62 => F47 5 [.agg #[ji x50.1, ji x50.2.1]] (.agg #[.bool x55.1, jw x55.2.1, jw x55.2.2.1]) w62 ∧ True) (fun w61 =>
   call prog 48 [ji x60] (.one aN) w61 fun (x63 : Bool × Hd3 × Hd3 × Unit) w64 =>
 (bel w61 w64 ∧ F47 14 [ji x60] (.agg #[.bool x63.1, jw x63.2.1, jw x63.2.2.1]) w64))
  fun (x65 : Bool × Hd3 × Hd3 × Unit) =>
 flc bel w46 (fun w67 => F47 14 [ji x60] (.agg #[.bool x65.1, jw x65.2.1, jw x65.2.2.1]) w67 ∧ F47 5 [.agg #[ji x50.1, ji x50.2.1]] (.agg #[.bool x55.1, jw x55.2.1, jw x55.2.2.1]) w67 ∧ True) (fun w66 =>
   call prog 51 [.agg #[.bool x55.1, jw x55.2.1, jw x55.2.2.1], .agg #[.bool x65.1, jw x65.2.1, jw x65.2.2.1]] (.one aN) w66 fun (x68 : Bool × Hd3 × Hd3 × Unit) w69 =>
 (bel w66 w69 ∧ F47 15 [.agg #[.bool x55.1, jw x55.2.1, jw x55.2.2.1], .agg #[.bool x65.1, jw x65.2.1, jw x65.2.2.1]] (.agg #[.bool x68.1, jw x68.2.1, jw x68.2.2.1]) w69))
  fun (x70 : Bool × Hd3 × Hd3 × Unit) =>
 flend bel w46 (fun w72 => F47 15 [.agg #[.bool x55.1, jw x55.2.1, jw x55.2.2.1], .agg #[.bool x65.1, jw x65.2.1, jw x65.2.2.1]] (.agg #[.bool x70.1, jw x70.2.1, jw x70.2.2.1]) w72 ∧ F47 14 [ji x60] (.agg #[.bool x65.1, jw x65.2.1, jw x65.2.2.1]) w72 ∧ F47 5 [.agg #[ji x50.1, ji x50.2.1]] (.agg #[.bool x55.1, jw x55.2.1, jw x55.2.2.1]) w72 ∧ True) fun w71 =>
 call prog 50 [.agg #[.bool x48.1, jw x48.2.1, jw x48.2.2.1], .agg #[.bool x70.1, jw x70.2.1, jw x70.2.2.1]] (.one aN) w71 fun (x73 : Bool × Hd3 × Hd3 × Unit) w74 =>
 wu prog (jS 83 x29 (.agg #[.bool x73.1, jw x73.2.1, jw x73.2.2.1])) w74 fun w75 =>
 K35 (()) w75)
 (K35 (()) w34))
 (K35 (()) w34))
 (rd prog (jL 83 x29) aN w34 fun (x76 : Bool × Hd3 × Hd3 × Unit) =>
 wr prog (Instr.buildSlice 112 1 #[(0, (.agg #[.bool x76.1, jw x76.2.1, jw x76.2.2.1]))]) oS w34 fun (x77 : Hd3) w78 =>
 wr prog (Builtin.append_ #[112, 112] 112 #[.slice s24.1.1 s24.1.2.1 s24.1.2.2, .slice x77.1 x77.2.1 x77.2.2]) oS w78 fun (x79 : Hd3) w80 =>
 z (IntKind.wrap .i64 (s24.2.1 + 1)) fun (z81 : Int) =>
 g23 ((x79.1, x79.2.1, x79.2.2), z81, ()) w80))
 (call prog 48 [ji 0] (.one aN) w25 fun (x82 : Bool × Hd3 × Hd3 × Unit) w83 =>
 wr prog (Instr.alloc 83 true (.tuple #[])) oA w83 fun (x84 : Addr) w85 =>
 wu prog (jS 83 x84 (.agg #[.bool x82.1, jw x82.2.1, jw x82.2.2.1])) w85 fun w86 =>
 loop (T := (Int × Unit)) (0, ()) w86 fun (g87 : Int × Unit → World → Prop) (s88 : Int × Unit) w89 => ∀ _ : NV,
 br (decide (s88.1 < ((m_n : Nat) : Int))) (drw w89 fun w90 => flEx fun F91 =>
 rd prog (jL 83 x84) aN w90 fun (x92 : Bool × Hd3 × Hd3 × Unit) =>
 rdp prog (Instr.indexAt 32 (.slice m_a m_n m_c) (ji s88.1)) oA fun (x93 : Addr) =>
 rd prog (jL 60 x93) aF w90 fun (x94 : TF) =>
 flc bel w90 (fun _w96 => True) (fun w95 =>
   call prog 49 [.agg #[ji x94.1, ji x94.2.1]] (.one aN) w95 fun (x97 : Bool × Hd3 × Hd3 × Unit) w98 =>
 (bel w95 w98 ∧ F91 5 [.agg #[ji x94.1, ji x94.2.1]] (.agg #[.bool x97.1, jw x97.2.1, jw x97.2.2.1]) w98))
  fun (x99 : Bool × Hd3 × Hd3 × Unit) =>
 rd prog (jL 26 (Addr.add x1 2)) oS w90 fun (x100 : Hd3) =>
 rdp prog (jI 26 x100 s88.1) oA fun (x101 : Addr) =>
 rd prog (jL 2 x101) oI w90 fun (x102 : Int) =>
 flc bel w90 (fun w104 => F91 5 [.agg #[ji x94.1, ji x94.2.1]] (.agg #[.bool x99.1, jw x99.2.1, jw x99.2.2.1]) w104 ∧ True) (fun w103 =>
   call prog 48 [ji x102] (.one aN) w103 fun (x105 : Bool × Hd3 × Hd3 × Unit) w106 =>
 (bel w103 w106 ∧ F91 11 [ji x102] (.agg #[.bool x105.1, jw x105.2.1, jw x105.2.2.1]) w106))
  fun (x107 : Bool × Hd3 × Hd3 × Unit) =>
 flc bel w90 (fun w109 => F91 11 [ji x102] (.agg #[.bool x107.1, jw x107.2.1, jw x107.2.2.1]) w109 ∧ F91 5 [.agg #[ji x94.1, ji x94.2.1]] (.agg #[.bool x99.1, jw x99.2.1, jw x99.2.2.1]) w109 ∧ True) (fun w108 =>
   call prog 51 [.agg #[.bool x99.1, jw x99.2.1, jw x99.2.2.1], .agg #[.bool x107.1, jw x107.2.1, jw x107.2.2.1]] (.one aN) w108 fun (x110 : Bool × Hd3 × Hd3 × Unit) w111 =>
 (bel w108 w111 ∧ F91 12 [.agg #[.bool x99.1, jw x99.2.1, jw x99.2.2.1], .agg #[.bool x107.1, jw x107.2.1, jw x107.2.2.1]] (.agg #[.bool x110.1, jw x110.2.1, jw x110.2.2.1]) w111))
  fun (x112 : Bool × Hd3 × Hd3 × Unit) =>
 flend bel w90 (fun w114 => F91 12 [.agg #[.bool x99.1, jw x99.2.1, jw x99.2.2.1], .agg #[.bool x107.1, jw x107.2.1, jw x107.2.2.1]] (.agg #[.bool x112.1, jw x112.2.1, jw x112.2.2.1]) w114 ∧ F91 11 [ji x102] (.agg #[.bool x107.1, jw x107.2.1, jw x107.2.2.1]) w114 ∧ F91 5 [.agg #[ji x94.1, ji x94.2.1]] (.agg #[.bool x99.1, jw x99.2.1, jw x99.2.2.1]) w114 ∧ True) fun w113 =>
 call prog 50 [.agg #[.bool x92.1, jw x92.2.1, jw x92.2.2.1], .agg #[.bool x112.1, jw x112.2.1, jw x112.2.2.1]] (.one aN) w113 fun (x115 : Bool × Hd3 × Hd3 × Unit) w116 =>
 wu prog (jS 83 x84 (.agg #[.bool x115.1, jw x115.2.1, jw x115.2.2.1])) w116 fun w117 =>
 z (IntKind.wrap .i64 (s88.1 + 1)) fun (z118 : Int) =>
 g87 (z118, ()) w117)
 (drw w89 fun w119 =>
 rd prog (jL 83 x84) aN w119 fun (x120 : Bool × Hd3 × Hd3 × Unit) =>
 wu prog (jS 83 x3 (.agg #[.bool x120.1, jw x120.2.1, jw x120.2.2.1])) w119 fun w121 =>
 rd prog (loadVar 83 x3) aN w121 fun (x122 : Bool × Hd3 × Hd3 × Unit) =>
 R (.tuple #[jw s24.1, .agg #[.bool x122.1, jw x122.2.1, jw x122.2.2.1], ji 0]) w121)))))
def H78 : Hints := ⟨[(2, 0, [(8, (.one (.int .i64)))]), (2, 2, [(9, (.one .slice)), (10, (.one (.int .i64)))]), (2, 4, [(12, (.one (.int .i64)))]), (1, 5, []), (2, 6, [(14, (.one (.int .i64)))])], [(20, 16), (26, 13), (27, 3)], [], []⟩
theorem S78_calls (s_0a : OA) (s_0n s_0c : Nat) (s_1a : OA) (s_1n s_1c : Nat) (s_2a : OA) (s_2n s_2c : Nat) (m_a : OA) (m_n m_c : Nat) (w0 : World) (R : KR) (h : S78 s_0a s_0n s_0c s_1a s_1n s_1c s_2a s_2n s_2c m_a m_n m_c w0 R) : Calls prog 78 #[.agg #[.slice s_0a s_0n s_0c, .slice s_1a s_1n s_1c, .slice s_2a s_2n s_2c], .slice m_a m_n m_c] w0 (ret R) :=
 vcFn_sound (H := H78) follows_ Tryz.func78 (Eq.mpr (by kernel_rfl) h)
def S77 (s_0a : OA) (s_0n s_0c : Nat) (s_1a : OA) (s_1n s_1c : Nat) (s_2a : OA) (s_2n s_2c : Nat) (m_a : OA) (m_n m_c : Nat) (w0 : World) (R : KR) : Prop :=
 wr prog (Instr.box 29 (.agg #[.slice s_0a s_0n s_0c, .slice s_1a s_1n s_1c, .slice s_2a s_2n s_2c])) oA w0 fun (x1 : Addr) w2 =>
 wr prog (Instr.alloc 60 true (.tuple #[])) oA w2 fun (x3 : Addr) w4 =>
 rd prog (jL 29 x1) aS w4 fun (x5 : TS) =>
 call prog 78 [.agg #[jw x5.1, jw x5.2.1, jw x5.2.2.1], .slice m_a m_n m_c] (.many [oS, aN, oI]) w4 fun (x6 : (Hd3 × (Bool × Hd3 × Hd3 × Unit) × Int × Unit)) w7 =>
 wr prog (Instr.alloc 83 true (.tuple #[])) oA w7 fun (x8 : Addr) w9 =>
 wu prog (jS 83 x8 (.agg #[.bool x6.2.1.1, jw x6.2.1.2.1, jw x6.2.1.2.2.1])) w9 fun w10 =>
 br (x6.2.2.1 != 0) (wu prog (jS 60 x3 (.agg #[ji 0, ji 0])) w10 fun w11 =>
 rd prog (loadVar 60 x3) aF w11 fun (x12 : TF) =>
 R (.tuple #[.slice none 0 0, .agg #[ji x12.1, ji x12.2.1], ji x6.2.2.1]) w11)
 (loop (T := (Hd3 × Int × Unit)) ((none, 0, 0), 0, ()) w10 fun (g13 : Hd3 × Int × Unit → World → Prop) (s14 : Hd3 × Int × Unit) w15 => ∀ _ : NV,
 br (decide (s14.2.1 < ((x6.1.2.1 : Nat) : Int))) (rdp prog (jI 112 x6.1 s14.2.1) oA fun (x16 : Addr) =>
 rd prog (jL 83 x16) aN w15 fun (x17 : Bool × Hd3 × Hd3 × Unit) =>
 call prog 99 [.agg #[.bool x17.1, jw x17.2.1, jw x17.2.2.1]] (.many [aF, oI]) w15 fun (x18 : ((TF) × Int × Unit)) w19 =>
 wr prog (Instr.alloc 60 true (.tuple #[])) oA w19 fun (x20 : Addr) w21 =>
 wu prog (jS 60 x20 (.agg #[ji x18.1.1, ji x18.1.2.1])) w21 fun w22 =>
 br (x18.2.1 != 0) (wu prog (jS 60 x3 (.agg #[ji 0, ji 0])) w22 fun w23 =>
 rd prog (loadVar 60 x3) aF w23 fun (x24 : TF) =>
 R (.tuple #[.slice none 0 0, .agg #[ji x24.1, ji x24.2.1], ji x18.2.1]) w23)
 (rd prog (jL 60 x20) aF w22 fun (x25 : TF) =>
 wr prog (Instr.buildSlice 32 1 #[(0, (.agg #[ji x25.1, ji x25.2.1]))]) oS w22 fun (x26 : Hd3) w27 =>
 wr prog (Builtin.append_ #[32, 32] 32 #[.slice s14.1.1 s14.1.2.1 s14.1.2.2, .slice x26.1 x26.2.1 x26.2.2]) oS w27 fun (x28 : Hd3) w29 =>
 z (IntKind.wrap .i64 (s14.2.1 + 1)) fun (z30 : Int) =>
 g13 ((x28.1, x28.2.1, x28.2.2), z30, ()) w29))
 (rd prog (jL 83 x8) aN w15 fun (x31 : Bool × Hd3 × Hd3 × Unit) =>
 call prog 99 [.agg #[.bool x31.1, jw x31.2.1, jw x31.2.2.1]] (.many [aF, oI]) w15 fun (x32 : ((TF) × Int × Unit)) w33 =>
 wr prog (Instr.alloc 60 true (.tuple #[])) oA w33 fun (x34 : Addr) w35 =>
 wu prog (jS 60 x34 (.agg #[ji x32.1.1, ji x32.1.2.1])) w35 fun w36 =>
 br (x32.2.1 != 0) (wu prog (jS 60 x3 (.agg #[ji 0, ji 0])) w36 fun w37 =>
 rd prog (loadVar 60 x3) aF w37 fun (x38 : TF) =>
 R (.tuple #[.slice none 0 0, .agg #[ji x38.1, ji x38.2.1], ji x32.2.1]) w37)
 (drw w36 fun w39 =>
 rd prog (jL 60 x34) aF w39 fun (x40 : TF) =>
 wu prog (jS 60 x3 (.agg #[ji x40.1, ji x40.2.1])) w39 fun w41 =>
 rd prog (loadVar 60 x3) aF w41 fun (x42 : TF) =>
 R (.tuple #[jw s14.1, .agg #[ji x42.1, ji x42.2.1], ji 0]) w41)))
def H77 : Hints := ⟨[(2, 0, [(10, (.one .slice)), (11, (.one (.int .i64)))])], [(15, 3)], [], []⟩
theorem S77_calls (s_0a : OA) (s_0n s_0c : Nat) (s_1a : OA) (s_1n s_1c : Nat) (s_2a : OA) (s_2n s_2c : Nat) (m_a : OA) (m_n m_c : Nat) (w0 : World) (R : KR) (h : S77 s_0a s_0n s_0c s_1a s_1n s_1c s_2a s_2n s_2c m_a m_n m_c w0 R) : Calls prog 77 #[.agg #[.slice s_0a s_0n s_0c, .slice s_1a s_1n s_1c, .slice s_2a s_2n s_2c], .slice m_a m_n m_c] w0 (ret R) :=
 vcFn_sound (H := H77) follows_ Tryz.func77 (Eq.mpr (by kernel_rfl) h)
def S54 (s_0a : OA) (s_0n s_0c : Nat) (s_1a : OA) (s_1n s_1c : Nat) (s_2a : OA) (s_2n s_2c : Nat) (m_a : OA) (m_n m_c : Nat) (w0 : World) (R : KR) : Prop :=
 wr prog (Instr.box 29 (.agg #[.slice s_0a s_0n s_0c, .slice s_1a s_1n s_1c, .slice s_2a s_2n s_2c])) oA w0 fun (x1 : Addr) w2 =>
 rd prog (jL 29 x1) aS w2 fun (x3 : TS) =>
 call prog 77 [.agg #[jw x3.1, jw x3.2.1, jw x3.2.2.1], .slice m_a m_n m_c] (.many [oS, aF, oI]) w2 fun (x4 : (Hd3 × (TF) × Int × Unit)) w5 =>
 wr prog (Instr.alloc 60 true (.tuple #[])) oA w5 fun (x6 : Addr) w7 =>
 wu prog (jS 60 x6 (.agg #[ji x4.2.1.1, ji x4.2.1.2.1])) w7 fun w8 =>
 br (x4.2.2.1 != 0) (R (.bool false) w8)
 (loop (T := (Int × Unit)) (0, ()) w8 fun (g9 : Int × Unit → World → Prop) (s10 : Int × Unit) w11 => ∀ _ : NV,
 br (decide (s10.1 < ((x4.1.2.1 : Nat) : Int))) (rdp prog (jI 32 x4.1 s10.1) oA fun (x12 : Addr) =>
 rd prog (jL 2 (Addr.add x12 1)) oI w11 fun (x13 : Int) =>
 br (x13 != 1) (R (.bool false) w11)
 (z (IntKind.wrap .i64 (s10.1 + 1)) fun (z14 : Int) =>
 g9 (z14, ()) w11))
 (rd prog (jL 2 (Addr.add x6 1)) oI w11 fun (x15 : Int) =>
 R (.bool (x15 != 1)) w11))
def H54 : Hints := ⟨[(2, 0, [(8, (.one (.int .i64)))])], [], [], []⟩
theorem S54_calls (s_0a : OA) (s_0n s_0c : Nat) (s_1a : OA) (s_1n s_1c : Nat) (s_2a : OA) (s_2n s_2c : Nat) (m_a : OA) (m_n m_c : Nat) (w0 : World) (R : KR) (h : S54 s_0a s_0n s_0c s_1a s_1n s_1c s_2a s_2n s_2c m_a m_n m_c w0 R) : Calls prog 54 #[.agg #[.slice s_0a s_0n s_0c, .slice s_1a s_1n s_1c, .slice s_2a s_2n s_2c], .slice m_a m_n m_c] w0 (ret R) :=
 vcFn_sound (H := H54) follows_ Tryz.func54 (Eq.mpr (by kernel_rfl) h)
def S58b (s_a : OA) (s_n s_c : Nat) (w0 : World) (R : KR) : Prop :=
 loop (T := (Int × Unit)) (0, ()) w0 fun (g1 : Int × Unit → World → Prop) (s2 : Int × Unit) w3 => ∀ _ : NV,
 br (decide (s2.1 < ((s_n : Nat) : Int))) (rdp prog (Instr.indexAt 26 (.slice s_a s_n s_c) (ji s2.1)) oA fun (x4 : Addr) =>
 rd prog (jL 2 x4) oI w3 fun (x5 : Int) =>
 call prog 81 [ji x5] (.one oB) w3 fun (x6 : Bool) w7 =>
 br x6 (R (ji s2.1) w7)
 (z (IntKind.wrap .i64 (s2.1 + 1)) fun (z8 : Int) =>
 g1 (z8, ()) w7))
 (R (ji (-1)) w3)
def H58b : Hints := ⟨[(2, 0, [(8, (.one (.int .i64)))])], [], [], []⟩
theorem S58b_calls (s_a : OA) (s_n s_c : Nat) (w0 : World) (R : KR) (h : S58b s_a s_n s_c w0 R) : Calls prog 58 #[.slice s_a s_n s_c, (.func (.func 81) #[] #[])] w0 (ret R) :=
 vcFn_sound (H := H58b) follows_ Tryz.func58 (Eq.mpr (by kernel_rfl) h)
def S32b (s_a : OA) (s_n s_c : Nat) (w0 : World) (R : KR) : Prop :=
 call prog 58 [.slice s_a s_n s_c, (.func (.func 81) #[] #[])] (.one oI) w0 fun (x1 : Int) w2 =>
 R (.bool (decide (x1 ≥ 0))) w2
def H32b : Hints := ⟨[], [], [], []⟩
theorem S32b_calls (s_a : OA) (s_n s_c : Nat) (w0 : World) (R : KR) (h : S32b s_a s_n s_c w0 R) : Calls prog 32 #[.slice s_a s_n s_c, (.func (.func 81) #[] #[])] w0 (ret R) :=
 vcFn_sound (H := H32b) follows_ Tryz.func32 (Eq.mpr (by kernel_rfl) h)
def S81 (n_ : Int) (w0 : World) (R : KR) : Prop :=
 call prog 34 [ji n_, ji (-1000000000), ji 1000000000] (.one oB) w0 fun (x1 : Bool) w2 =>
 R (.bool x1) w2
def H81 : Hints := ⟨[], [], [], []⟩
theorem S81_calls (n_ : Int) (w0 : World) (R : KR) (h : S81 n_ w0 R) : Calls prog 81 #[ji n_] w0 (ret R) :=
 vcFn_sound (H := H81) follows_ Tryz.func81 (Eq.mpr (by kernel_rfl) h)
def S80 (l_a : OA) (l_n l_c : Nat) (cap0 : Addr) (w0 : World) (R : KR) : Prop :=
 rd prog (jL 26 cap0) oS w0 fun (x1 : Hd3) =>
 br (((l_n : Nat) : Int) != ((x1.2.1 : Nat) : Int)) (R (.bool true) w0)
 (call prog 32 [.slice l_a l_n l_c, (.func (.func 81) #[] #[])] (.one oB) w0 fun (x2 : Bool) w3 =>
 R (.bool x2) w3)
def H80 : Hints := ⟨[], [], [], []⟩
theorem S80_calls (l_a : OA) (l_n l_c : Nat) (cap0 : Addr) (w0 : World) (R : KR) (h : S80 l_a l_n l_c cap0 w0 R) : Calls prog 80 #[.slice l_a l_n l_c, jp cap0] w0 (ret R) :=
 vcFn_sound (H := H80) follows_ Tryz.func80 (Eq.mpr (by kernel_rfl) h)
def S56 (s_0a : OA) (s_0n s_0c : Nat) (s_1a : OA) (s_1n s_1c : Nat) (s_2a : OA) (s_2n s_2c : Nat) (lower_a : OA) (lower_n lower_c : Nat) (upper_a : OA) (upper_n upper_c : Nat) (m_a : OA) (m_n m_c : Nat) (w0 : World) (R : KR) : Prop :=
 wr prog (Instr.box 29 (.agg #[.slice s_0a s_0n s_0c, .slice s_1a s_1n s_1c, .slice s_2a s_2n s_2c])) oA w0 fun (x1 : Addr) w2 =>
 rd prog (jL 29 x1) aS w2 fun (x3 : TS) =>
 call prog 79 [.agg #[jw x3.1, jw x3.2.1, jw x3.2.2.1], .slice m_a m_n m_c] (.many [oS, aF, oI]) w2 fun (x4 : (Hd3 × (TF) × Int × Unit)) w5 =>
 wr prog (Instr.alloc 60 true (.tuple #[])) oA w5 fun (x6 : Addr) w7 =>
 wu prog (jS 60 x6 (.agg #[ji x4.2.1.1, ji x4.2.1.2.1])) w7 fun w8 =>
 br (x4.2.2.1 != 0) (R (.bool false) w8)
 (call prog 80 [.slice lower_a lower_n lower_c, jp x1] (.one oB) w8 fun (x9 : Bool) w10 =>
 br x9 (R (.bool false) w10)
 (call prog 80 [.slice upper_a upper_n upper_c, jp x1] (.one oB) w10 fun (x11 : Bool) w12 =>
 br x11 (R (.bool false) w12)
 (call prog 82 [ji 0] (.one aN) w12 fun (x13 : Bool × Hd3 × Hd3 × Unit) w14 =>
 call prog 82 [ji 0] (.one aN) w14 fun (x15 : Bool × Hd3 × Hd3 × Unit) w16 =>
 wr prog (Instr.alloc 118 true (.tuple #[])) oA w16 fun (x17 : Addr) w18 =>
 wr prog (Instr.alloc 118 true (.tuple #[])) oA w18 fun (x19 : Addr) w20 =>
 wu prog (jS 118 x17 (.agg #[.bool x13.1, jw x13.2.1, jw x13.2.2.1])) w20 fun w21 =>
 wu prog (jS 118 x19 (.agg #[.bool x15.1, jw x15.2.1, jw x15.2.2.1])) w21 fun w22 =>
 loop (T := (Int × Unit)) (0, ()) w22 fun (g23 : Int × Unit → World → Prop) (s24 : Int × Unit) w25 => ∀ _ : NV,
 br (decide (s24.1 < ((x4.1.2.1 : Nat) : Int))) (join (T := Unit) (fun (_s27 : Unit) w28 => ∀ _ : NV,
 z (IntKind.wrap .i64 (s24.1 + 1)) fun (z29 : Int) =>
 g23 (z29, ()) w28)
  fun (K26 : Unit → World → Prop) =>
 rdp prog (jI 32 x4.1 s24.1) oA fun (x30 : Addr) =>
 rd prog (jL 60 x30) aF w25 fun (x31 : TF) =>
 wr prog (Instr.alloc 60 true (.tuple #[])) oA w25 fun (x32 : Addr) w33 =>
 wu prog (jS 60 x32 (.agg #[ji x31.1, ji x31.2.1])) w33 fun w34 =>
 drw w34 fun w35 =>
 rdp prog (Instr.indexAt 26 (.slice lower_a lower_n lower_c) (ji s24.1)) oA fun (x36 : Addr) =>
 rd prog (jL 2 x36) oI w35 fun (x37 : Int) =>
 rdp prog (Instr.indexAt 26 (.slice upper_a upper_n upper_c) (ji s24.1)) oA fun (x38 : Addr) =>
 rd prog (jL 2 x38) oI w35 fun (x39 : Int) =>
 br (decide (x37 > x39)) (R (.bool true) w35)
 (rd prog (jL 2 x32) oI w35 fun (x40 : Int) =>
 br (x40 == 0) (K26 (()) w35)
 (join (T := TF) (fun (s42 : TF) w43 => ∀ _ : NV,
 drw w43 fun w44 => flEx fun F45 =>
 rd prog (jL 118 x17) aN w44 fun (x46 : Bool × Hd3 × Hd3 × Unit) =>
 rd prog (jL 60 x32) aF w44 fun (x47 : TF) =>
 flc bel w44 (fun _w49 => True) (fun w48 =>
   call prog 84 [.agg #[ji x47.1, ji x47.2.1]] (.one aN) w48 fun (x50 : Bool × Hd3 × Hd3 × Unit) w51 =>
 (bel w48 w51 ∧ F45 2 [.agg #[ji x47.1, ji x47.2.1]] (.agg #[.bool x50.1, jw x50.2.1, jw x50.2.2.1]) w51))
  fun (x52 : Bool × Hd3 × Hd3 × Unit) =>
 flc bel w44 (fun w54 => F45 2 [.agg #[ji x47.1, ji x47.2.1]] (.agg #[.bool x52.1, jw x52.2.1, jw x52.2.2.1]) w54 ∧ True) (fun w53 =>
   call prog 82 [ji s42.1] (.one aN) w53 fun (x55 : Bool × Hd3 × Hd3 × Unit) w56 =>
 (bel w53 w56 ∧ F45 4 [ji s42.1] (.agg #[.bool x55.1, jw x55.2.1, jw x55.2.2.1]) w56))
  fun (x57 : Bool × Hd3 × Hd3 × Unit) =>
 flc bel w44 (fun w59 => F45 4 [ji s42.1] (.agg #[.bool x57.1, jw x57.2.1, jw x57.2.2.1]) w59 ∧ F45 2 [.agg #[ji x47.1, ji x47.2.1]] (.agg #[.bool x52.1, jw x52.2.1, jw x52.2.2.1]) w59 ∧ True) (fun w58 =>
   call prog 85 [.agg #[.bool x52.1, jw x52.2.1, jw x52.2.2.1], .agg #[.bool x57.1, jw x57.2.1, jw x57.2.2.1]] (.one aN) w58 fun (x60 : Bool × Hd3 × Hd3 × Unit) w61 =>
 (bel w58 w61 ∧ F45 5 [.agg #[.bool x52.1, jw x52.2.1, jw x52.2.2.1], .agg #[.bool x57.1, jw x57.2.1, jw x57.2.2.1]] (.agg #[.bool x60.1, jw x60.2.1, jw x60.2.2.1]) w61))
  fun (x62 : Bool × Hd3 × Hd3 × Unit) =>
 flend bel w44 (fun w64 => F45 5 [.agg #[.bool x52.1, jw x52.2.1, jw x52.2.2.1], .agg #[.bool x57.1, jw x57.2.1, jw x57.2.2.1]] (.agg #[.bool x62.1, jw x62.2.1, jw x62.2.2.1]) w64 ∧ F45 4 [ji s42.1] (.agg #[.bool x57.1, jw x57.2.1, jw x57.2.2.1]) w64 ∧ F45 2 [.agg #[ji x47.1, ji x47.2.1]] (.agg #[.bool x52.1, jw x52.2.1, jw x52.2.2.1]) w64 ∧ True) fun w63 =>
 call prog 83 [.agg #[.bool x46.1, jw x46.2.1, jw x46.2.2.1], .agg #[.bool x62.1, jw x62.2.1, jw x62.2.2.1]] (.one aN) w63 fun (x65 : Bool × Hd3 × Hd3 × Unit) w66 =>
 wu prog (jS 118 x17 (.agg #[.bool x65.1, jw x65.2.1, jw x65.2.2.1])) w66 fun w67 =>
 drw w67 fun w68 => flEx fun F69 =>
 rd prog (jL 118 x19) aN w68 fun (x70 : Bool × Hd3 × Hd3 × Unit) =>
 rd prog (jL 60 x32) aF w68 fun (x71 : TF) =>
 flc bel w68 (fun _w73 => True) (fun w72 =>
   call prog 84 [.agg #[ji x71.1, ji x71.2.1]] (.one aN) w72 fun (x74 : Bool × Hd3 × Hd3 × Unit) w75 =>
 (bel w72 w75 ∧ F69 2 [.agg #[ji x71.1, ji x71.2.1]] (.agg #[.bool x74.1, jw x74.2.1, jw x74.2.2.1]) w75))
  fun (x76 : Bool × Hd3 × Hd3 × Unit) =>
 flc bel w68 (fun w78 => F69 2 [.agg #[ji x71.1, ji x71.2.1]] (.agg #[.bool x76.1, jw x76.2.1, jw x76.2.2.1]) w78 ∧ True) (fun w77 =>
   call prog 82 [ji s42.2.1] (.one aN) w77 fun (x79 : Bool × Hd3 × Hd3 × Unit) w80 =>
 (bel w77 w80 ∧ F69 4 [ji s42.2.1] (.agg #[.bool x79.1, jw x79.2.1, jw x79.2.2.1]) w80))
  fun (x81 : Bool × Hd3 × Hd3 × Unit) =>
 flc bel w68 (fun w83 => F69 4 [ji s42.2.1] (.agg #[.bool x81.1, jw x81.2.1, jw x81.2.2.1]) w83 ∧ F69 2 [.agg #[ji x71.1, ji x71.2.1]] (.agg #[.bool x76.1, jw x76.2.1, jw x76.2.2.1]) w83 ∧ True) (fun w82 =>
   call prog 85 [.agg #[.bool x76.1, jw x76.2.1, jw x76.2.2.1], .agg #[.bool x81.1, jw x81.2.1, jw x81.2.2.1]] (.one aN) w82 fun (x84 : Bool × Hd3 × Hd3 × Unit) w85 =>
 (bel w82 w85 ∧ F69 5 [.agg #[.bool x76.1, jw x76.2.1, jw x76.2.2.1], .agg #[.bool x81.1, jw x81.2.1, jw x81.2.2.1]] (.agg #[.bool x84.1, jw x84.2.1, jw x84.2.2.1]) w85))
  fun (x86 : Bool × Hd3 × Hd3 × Unit) =>
 flend bel w68 (fun w88 => F69 5 [.agg #[.bool x76.1, jw x76.2.1, jw x76.2.2.1], .agg #[.bool x81.1, jw x81.2.1, jw x81.2.2.1]] (.agg #[.bool x86.1, jw x86.2.1, jw x86.2.2.1]) w88 ∧ F69 4 [ji s42.2.1] (.agg #[.bool x81.1, jw x81.2.1, jw x81.2.2.1]) w88 ∧ F69 2 [.agg #[ji x71.1, ji x71.2.1]] (.agg #[.bool x76.1, jw x76.2.1, jw x76.2.2.1]) w88 ∧ True) fun w87 =>
 call prog 83 [.agg #[.bool x70.1, jw x70.2.1, jw x70.2.2.1], .agg #[.bool x86.1, jw x86.2.1, jw x86.2.2.1]] (.one aN) w87 fun (x89 : Bool × Hd3 × Hd3 × Unit) w90 =>
 wu prog (jS 118 x19 (.agg #[.bool x89.1, jw x89.2.1, jw x89.2.2.1])) w90 fun w91 =>
 K26 (()) w91)
  fun (K41 : TF → World → Prop) =>
 rd prog (jL 2 x32) oI w35 fun (x92 : Int) =>
 br (decide (x92 < 0)) (K41 (x39, x37, ()) w35)
 (K41 (x37, x39, ()) w35))))
 (drw w25 fun w93 => flEx fun F94 =>
 rd prog (jL 118 x17) aN w93 fun (x95 : Bool × Hd3 × Hd3 × Unit) =>
 rd prog (jL 60 x6) aF w93 fun (x96 : TF) =>
 flc bel w93 (fun _w98 => True) (fun w97 =>
   call prog 84 [.agg #[ji x96.1, ji x96.2.1]] (.one aN) w97 fun (x99 : Bool × Hd3 × Hd3 × Unit) w100 =>
 (bel w97 w100 ∧ F94 2 [.agg #[ji x96.1, ji x96.2.1]] (.agg #[.bool x99.1, jw x99.2.1, jw x99.2.2.1]) w100))
  fun (x101 : Bool × Hd3 × Hd3 × Unit) =>
 flc bel w93 (fun w103 => F94 2 [.agg #[ji x96.1, ji x96.2.1]] (.agg #[.bool x101.1, jw x101.2.1, jw x101.2.2.1]) w103 ∧ True) (fun w102 =>
   call prog 86 [.agg #[.bool x95.1, jw x95.2.1, jw x95.2.2.1], .agg #[.bool x101.1, jw x101.2.1, jw x101.2.2.1]] (.one oI) w102 fun (x104 : Int) w105 =>
 (bel w102 w105 ∧ F94 3 [.agg #[.bool x95.1, jw x95.2.1, jw x95.2.2.1], .agg #[.bool x101.1, jw x101.2.1, jw x101.2.2.1]] (ji x104) w105))
  fun (x106 : Int) =>
 br (decide (x106 > 0)) (flend bel w93 (fun w108 => F94 3 [.agg #[.bool x95.1, jw x95.2.1, jw x95.2.2.1], .agg #[.bool x101.1, jw x101.2.1, jw x101.2.2.1]] (ji x106) w108 ∧ F94 2 [.agg #[ji x96.1, ji x96.2.1]] (.agg #[.bool x101.1, jw x101.2.1, jw x101.2.2.1]) w108 ∧ True) fun w107 =>
 R (.bool true) w107)
 (rd prog (jL 118 x19) aN w93 fun (x109 : Bool × Hd3 × Hd3 × Unit) =>
 rd prog (jL 60 x6) aF w93 fun (x110 : TF) =>
 flc bel w93 (fun w112 => F94 3 [.agg #[.bool x95.1, jw x95.2.1, jw x95.2.2.1], .agg #[.bool x101.1, jw x101.2.1, jw x101.2.2.1]] (ji x106) w112 ∧ F94 2 [.agg #[ji x96.1, ji x96.2.1]] (.agg #[.bool x101.1, jw x101.2.1, jw x101.2.2.1]) w112 ∧ True) (fun w111 =>
   call prog 84 [.agg #[ji x110.1, ji x110.2.1]] (.one aN) w111 fun (x113 : Bool × Hd3 × Hd3 × Unit) w114 =>
 (bel w111 w114 ∧ F94 8 [.agg #[ji x110.1, ji x110.2.1]] (.agg #[.bool x113.1, jw x113.2.1, jw x113.2.2.1]) w114))
  fun (x115 : Bool × Hd3 × Hd3 × Unit) =>
 flend bel w93 (fun w117 => F94 8 [.agg #[ji x110.1, ji x110.2.1]] (.agg #[.bool x115.1, jw x115.2.1, jw x115.2.2.1]) w117 ∧ F94 3 [.agg #[.bool x95.1, jw x95.2.1, jw x95.2.2.1], .agg #[.bool x101.1, jw x101.2.1, jw x101.2.2.1]] (ji x106) w117 ∧ F94 2 [.agg #[ji x96.1, ji x96.2.1]] (.agg #[.bool x101.1, jw x101.2.1, jw x101.2.2.1]) w117 ∧ True) fun w116 =>
 call prog 86 [.agg #[.bool x109.1, jw x109.2.1, jw x109.2.2.1], .agg #[.bool x115.1, jw x115.2.1, jw x115.2.2.1]] (.one oI) w116 fun (x118 : Int) w119 =>
 R (.bool (decide (x118 < 0))) w119)))))
def H56 : Hints := ⟨[(2, 0, [(43, (.one (.int .i64)))]), (0, 64, [(17, (.one (.int .i64))), (18, (.one (.int .i64)))]), (1, 1, [])], [(9, 9), (15, 6), (16, 6), (18, 9)], [], []⟩
theorem S56_calls (s_0a : OA) (s_0n s_0c : Nat) (s_1a : OA) (s_1n s_1c : Nat) (s_2a : OA) (s_2n s_2c : Nat) (lower_a : OA) (lower_n lower_c : Nat) (upper_a : OA) (upper_n upper_c : Nat) (m_a : OA) (m_n m_c : Nat) (w0 : World) (R : KR) (h : S56 s_0a s_0n s_0c s_1a s_1n s_1c s_2a s_2n s_2c lower_a lower_n lower_c upper_a upper_n upper_c m_a m_n m_c w0 R) : Calls prog 56 #[.agg #[.slice s_0a s_0n s_0c, .slice s_1a s_1n s_1c, .slice s_2a s_2n s_2c], .slice lower_a lower_n lower_c, .slice upper_a upper_n upper_c, .slice m_a m_n m_c] w0 (ret R) :=
 vcFn_sound (H := H56) follows_ Tryz.func56 (Eq.mpr (by kernel_rfl) h)
def S53 (s_0a : OA) (s_0n s_0c : Nat) (s_1a : OA) (s_1n s_1c : Nat) (s_2a : OA) (s_2n s_2c : Nat) (lower_a : OA) (lower_n lower_c : Nat) (upper_a : OA) (upper_n upper_c : Nat) (m_a : OA) (m_n m_c : Nat) (w0 : World) (R : KR) : Prop :=
 wr prog (Instr.box 29 (.agg #[.slice s_0a s_0n s_0c, .slice s_1a s_1n s_1c, .slice s_2a s_2n s_2c])) oA w0 fun (x1 : Addr) w2 =>
 rd prog (jL 29 x1) aS w2 fun (x3 : TS) =>
 call prog 77 [.agg #[jw x3.1, jw x3.2.1, jw x3.2.2.1], .slice m_a m_n m_c] (.many [oS, aF, oI]) w2 fun (x4 : (Hd3 × (TF) × Int × Unit)) w5 =>
 wr prog (Instr.alloc 60 true (.tuple #[])) oA w5 fun (x6 : Addr) w7 =>
 wu prog (jS 60 x6 (.agg #[ji x4.2.1.1, ji x4.2.1.2.1])) w7 fun w8 =>
 br (x4.2.2.1 != 0) (R (.bool false) w8)
 (rd prog (jL 26 x1) oS w8 fun (x9 : Hd3) =>
 br (((lower_n : Nat) : Int) != ((x9.2.1 : Nat) : Int)) (R (.bool false) w8)
 (rd prog (jL 26 x1) oS w8 fun (x10 : Hd3) =>
 br (((upper_n : Nat) : Int) != ((x10.2.1 : Nat) : Int)) (R (.bool false) w8)
 (loop (T := (Int × Unit)) (0, ()) w8 fun (g11 : Int × Unit → World → Prop) (s12 : Int × Unit) w13 => ∀ _ : NV,
 br (decide (s12.1 < ((lower_n : Nat) : Int))) (rdp prog (Instr.indexAt 26 (.slice lower_a lower_n lower_c) (ji s12.1)) oA fun (x14 : Addr) =>
 rd prog (jL 2 x14) oI w13 fun (x15 : Int) =>
 call prog 27 [ji x15, ji 1000000000] (.one oB) w13 fun (x16 : Bool) w17 =>
 br (!x16) (R (.bool false) w17)
 (rdp prog (Instr.indexAt 26 (.slice upper_a upper_n upper_c) (ji s12.1)) oA fun (x18 : Addr) =>
 rd prog (jL 2 x18) oI w17 fun (x19 : Int) =>
 call prog 27 [ji x19, ji 1000000000] (.one oB) w17 fun (x20 : Bool) w21 =>
 br (!x20) (R (.bool false) w21)
 (z (IntKind.wrap .i64 (s12.1 + 1)) fun (z22 : Int) =>
 g11 (z22, ()) w21)))
 (loop (T := (Int × Unit)) (0, ()) w13 fun (g23 : Int × Unit → World → Prop) (s24 : Int × Unit) w25 => ∀ _ : NV,
 br (decide (s24.1 < ((lower_n : Nat) : Int))) (drw w25 fun w26 =>
 rdp prog (Instr.indexAt 26 (.slice lower_a lower_n lower_c) (ji s24.1)) oA fun (x27 : Addr) =>
 rd prog (jL 2 x27) oI w26 fun (x28 : Int) =>
 rdp prog (Instr.indexAt 26 (.slice upper_a upper_n upper_c) (ji s24.1)) oA fun (x29 : Addr) =>
 rd prog (jL 2 x29) oI w26 fun (x30 : Int) =>
 br (decide (x28 > x30)) (R (.bool true) w26)
 (z (IntKind.wrap .i64 (s24.1 + 1)) fun (z31 : Int) =>
 g23 (z31, ()) w26))
 (rd prog (jL 29 x1) aS w25 fun (x32 : TS) =>
 call prog 78 [.agg #[jw x32.1, jw x32.2.1, jw x32.2.2.1], .slice m_a m_n m_c] (.many [oS, aN, oI]) w25 fun (x33 : (Hd3 × (Bool × Hd3 × Hd3 × Unit) × Int × Unit)) w34 =>
 wr prog (Instr.alloc 83 true (.tuple #[])) oA w34 fun (x35 : Addr) w36 =>
 wu prog (jS 83 x35 (.agg #[.bool x33.2.1.1, jw x33.2.1.2.1, jw x33.2.1.2.2.1])) w36 fun w37 =>
 call prog 48 [ji 0] (.one aN) w37 fun (x38 : Bool × Hd3 × Hd3 × Unit) w39 =>
 call prog 48 [ji 0] (.one aN) w39 fun (x40 : Bool × Hd3 × Hd3 × Unit) w41 =>
 wr prog (Instr.alloc 83 true (.tuple #[])) oA w41 fun (x42 : Addr) w43 =>
 wr prog (Instr.alloc 83 true (.tuple #[])) oA w43 fun (x44 : Addr) w45 =>
 wu prog (jS 83 x42 (.agg #[.bool x38.1, jw x38.2.1, jw x38.2.2.1])) w45 fun w46 =>
 wu prog (jS 83 x44 (.agg #[.bool x40.1, jw x40.2.1, jw x40.2.2.1])) w46 fun w47 =>
 loop (T := (Int × Unit)) (0, ()) w47 fun (g48 : Int × Unit → World → Prop) (s49 : Int × Unit) w50 => ∀ _ : NV,
 br (decide (s49.1 < ((x33.1.2.1 : Nat) : Int))) (join (T := Unit) (fun (_s52 : Unit) w53 => ∀ _ : NV,
 z (IntKind.wrap .i64 (s49.1 + 1)) fun (z54 : Int) =>
 g48 (z54, ()) w53)
  fun (K51 : Unit → World → Prop) =>
 drw w50 fun w55 => flEx fun F56 =>
 rdp prog (jI 112 x33.1 s49.1) oA fun (x57 : Addr) =>
 rd prog (jL 83 x57) aN w55 fun (x58 : Bool × Hd3 × Hd3 × Unit) =>
 rdp prog (Instr.indexAt 26 (.slice lower_a lower_n lower_c) (ji s49.1)) oA fun (x59 : Addr) =>
 rd prog (jL 2 x59) oI w55 fun (x60 : Int) =>
 flc bel w55 (fun _w62 => True) (fun w61 =>
   call prog 48 [ji x60] (.one aN) w61 fun (x63 : Bool × Hd3 × Hd3 × Unit) w64 =>
 (bel w61 w64 ∧ F56 8 [ji x60] (.agg #[.bool x63.1, jw x63.2.1, jw x63.2.2.1]) w64))
  fun (x65 : Bool × Hd3 × Hd3 × Unit) =>
 flc bel w55 (fun w67 => F56 8 [ji x60] (.agg #[.bool x65.1, jw x65.2.1, jw x65.2.2.1]) w67 ∧ True) (fun w66 =>
   call prog 51 [.agg #[.bool x58.1, jw x58.2.1, jw x58.2.2.1], .agg #[.bool x65.1, jw x65.2.1, jw x65.2.2.1]] (.one aN) w66 fun (x68 : Bool × Hd3 × Hd3 × Unit) w69 =>
 (bel w66 w69 ∧ F56 9 [.agg #[.bool x58.1, jw x58.2.1, jw x58.2.2.1], .agg #[.bool x65.1, jw x65.2.1, jw x65.2.2.1]] (.agg #[.bool x68.1, jw x68.2.1, jw x68.2.2.1]) w69))
  fun (x70 : Bool × Hd3 × Hd3 × Unit) =>
 rdp prog (jI 112 x33.1 s49.1) oA fun (x71 : Addr) =>
 rd prog (jL 83 x71) aN w55 fun (x72 : Bool × Hd3 × Hd3 × Unit) =>
 rdp prog (Instr.indexAt 26 (.slice upper_a upper_n upper_c) (ji s49.1)) oA fun (x73 : Addr) =>
 rd prog (jL 2 x73) oI w55 fun (x74 : Int) =>
 flc bel w55 (fun w76 => F56 9 [.agg #[.bool x58.1, jw x58.2.1, jw x58.2.2.1], .agg #[.bool x65.1, jw x65.2.1, jw x65.2.2.1]] (.agg #[.bool x70.1, jw x70.2.1, jw x70.2.2.1]) w76 ∧ F56 8 [ji x60] (.agg #[.bool x65.1, jw x65.2.1, jw x65.2.2.1]) w76 ∧ True) (fun w75 =>
   call prog 48 [ji x74] (.one aN) w75 fun (x77 : Bool × Hd3 × Hd3 × Unit) w78 =>
 (bel w75 w78 ∧ F56 18 [ji x74] (.agg #[.bool x77.1, jw x77.2.1, jw x77.2.2.1]) w78))
  fun (x79 : Bool × Hd3 × Hd3 × Unit) =>
 flc bel w55 (fun w81 => F56 18 [ji x74] (.agg #[.bool x79.1, jw x79.2.1, jw x79.2.2.1]) w81 ∧ F56 9 [.agg #[.bool x58.1, jw x58.2.1, jw x58.2.2.1], .agg #[.bool x65.1, jw x65.2.1, jw x65.2.2.1]] (.agg #[.bool x70.1, jw x70.2.1, jw x70.2.2.1]) w81 ∧ F56 8 [ji x60] (.agg #[.bool x65.1, jw x65.2.1, jw x65.2.2.1]) w81 ∧ True) (fun w80 =>
   call prog 51 [.agg #[.bool x72.1, jw x72.2.1, jw x72.2.2.1], .agg #[.bool x79.1, jw x79.2.1, jw x79.2.2.1]] (.one aN) w80 fun (x82 : Bool × Hd3 × Hd3 × Unit) w83 =>
 (bel w80 w83 ∧ F56 19 [.agg #[.bool x72.1, jw x72.2.1, jw x72.2.2.1], .agg #[.bool x79.1, jw x79.2.1, jw x79.2.2.1]] (.agg #[.bool x82.1, jw x82.2.1, jw x82.2.2.1]) w83))
  fun (x84 : Bool × Hd3 × Hd3 × Unit) =>
 flc bel w55 (fun _w86 => True) (fun w85 =>
   wr prog (Instr.alloc 83 true (.tuple #[])) oA w85 fun (x87 : Addr) w88 =>
 (bel w85 w88 ∧ F56 20 [] (jp x87) w88))
  fun (x89 : Addr) =>
 flc bel w55 (fun _w91 => True) (fun w90 =>
   wr prog (Instr.alloc 83 true (.tuple #[])) oA w90 fun (x92 : Addr) w93 =>
 (bel w90 w93 ∧ F56 21 [] (jp x92) w93))
  fun (x94 : Addr) =>
 flend bel w55 (fun w96 => (F56 21 [] (jp x94) w96 ∧ F56 20 [] (jp x89) w96 ∧ F56 19 [.agg #[.bool x72.1, jw x72.2.1, jw x72.2.2.1], .agg #[.bool x79.1, jw x79.2.1, jw x79.2.2.1]] (.agg #[.bool x84.1, jw x84.2.1, jw x84.2.2.1]) w96 ∧ F56 18 [ji x74] (.agg #[.bool x79.1, jw x79.2.1, jw x79.2.2.1]) w96 ∧ F56 9 [.agg #[.bool x58.1, jw x58.2.1, jw x58.2.2.1], .agg #[.bool x65.1, jw x65.2.1, jw x65.2.2.1]] (.agg #[.bool x70.1, jw x70.2.1, jw x70.2.2.1]) w96 ∧ F56 8 [ji x60] (.agg #[.bool x65.1, jw x65.2.1, jw x65.2.2.1]) w96 ∧ True) ∧ List.Pairwise (fun a b => vblk a ≠ vblk b) ([jp x94, jp x89] : List Value)) fun w95 =>
 wu prog (jS 83 x89 (.agg #[.bool x70.1, jw x70.2.1, jw x70.2.2.1])) w95 fun w97 =>
 wu prog (jS 83 x94 (.agg #[.bool x84.1, jw x84.2.1, jw x84.2.2.1])) w97 fun w98 =>
 join (T := Unit) (fun (_s100 : Unit) w101 => ∀ _ : NV,
 drw w101 fun w102 => flEx fun F103 =>
 rd prog (jL 83 x42) aN w102 fun (x104 : Bool × Hd3 × Hd3 × Unit) =>
 rd prog (jL 83 x89) aN w102 fun (x105 : Bool × Hd3 × Hd3 × Unit) =>
 flc bel w102 (fun _w107 => True) (fun w106 =>
   call prog 50 [.agg #[.bool x104.1, jw x104.2.1, jw x104.2.2.1], .agg #[.bool x105.1, jw x105.2.1, jw x105.2.2.1]] (.one aN) w106 fun (x108 : Bool × Hd3 × Hd3 × Unit) w109 =>
 (bel w106 w109 ∧ F103 2 [.agg #[.bool x104.1, jw x104.2.1, jw x104.2.2.1], .agg #[.bool x105.1, jw x105.2.1, jw x105.2.2.1]] (.agg #[.bool x108.1, jw x108.2.1, jw x108.2.2.1]) w109))
  fun (x110 : Bool × Hd3 × Hd3 × Unit) =>
 rd prog (jL 83 x44) aN w102 fun (x111 : Bool × Hd3 × Hd3 × Unit) =>
 rd prog (jL 83 x94) aN w102 fun (x112 : Bool × Hd3 × Hd3 × Unit) =>
 flend bel w102 (fun w114 => F103 2 [.agg #[.bool x104.1, jw x104.2.1, jw x104.2.2.1], .agg #[.bool x105.1, jw x105.2.1, jw x105.2.2.1]] (.agg #[.bool x110.1, jw x110.2.1, jw x110.2.2.1]) w114 ∧ True) fun w113 =>
 call prog 50 [.agg #[.bool x111.1, jw x111.2.1, jw x111.2.2.1], .agg #[.bool x112.1, jw x112.2.1, jw x112.2.2.1]] (.one aN) w113 fun (x115 : Bool × Hd3 × Hd3 × Unit) w116 =>
 wu prog (jS 83 x42 (.agg #[.bool x110.1, jw x110.2.1, jw x110.2.2.1])) w116 fun w117 =>
 wu prog (jS 83 x44 (.agg #[.bool x115.1, jw x115.2.1, jw x115.2.2.1])) w117 fun w118 =>
 K51 (()) w118)
  fun (K99 : Unit → World → Prop) =>
 rdp prog (jI 112 x33.1 s49.1) oA fun (x119 : Addr) =>
 rd prog (jL 83 x119) aN w98 fun (x120 : Bool × Hd3 × Hd3 × Unit) =>
 call prog 52 [.agg #[.bool x120.1, jw x120.2.1, jw x120.2.2.1]] (.one oI) w98 fun (x121 : Int) w122 =>
 br (decide (x121 < 0)) (rd prog (jL 83 x94) aN w122 fun (x123 : Bool × Hd3 × Hd3 × Unit) =>
 rd prog (jL 83 x89) aN w122 fun (x124 : Bool × Hd3 × Hd3 × Unit) =>
 wu prog (jS 83 x89 (.agg #[.bool x123.1, jw x123.2.1, jw x123.2.2.1])) w122 fun w125 =>
 wu prog (jS 83 x94 (.agg #[.bool x124.1, jw x124.2.1, jw x124.2.2.1])) w125 fun w126 =>
 K99 (()) w126)
 (K99 (()) w122))
 (rd prog (jL 83 x35) aN w50 fun (x127 : Bool × Hd3 × Hd3 × Unit) =>
 rd prog (jL 83 x42) aN w50 fun (x128 : Bool × Hd3 × Hd3 × Unit) =>
 call prog 47 [.agg #[.bool x127.1, jw x127.2.1, jw x127.2.2.1], .agg #[.bool x128.1, jw x128.2.1, jw x128.2.2.1]] (.one oB) w50 fun (x129 : Bool) w130 =>
 br x129 (R (.bool true) w130)
 (rd prog (jL 83 x44) aN w130 fun (x131 : Bool × Hd3 × Hd3 × Unit) =>
 rd prog (jL 83 x35) aN w130 fun (x132 : Bool × Hd3 × Hd3 × Unit) =>
 call prog 47 [.agg #[.bool x131.1, jw x131.2.1, jw x131.2.2.1], .agg #[.bool x132.1, jw x132.2.1, jw x132.2.2.1]] (.one oB) w130 fun (x133 : Bool) w134 =>
 R (.bool x133) w134)))))))
def H53 : Hints := ⟨[(2, 0, [(12, (.one (.int .i64)))]), (2, 2, [(13, (.one (.int .i64)))]), (2, 4, [(19, (.one (.int .i64)))]), (0, 122, []), (1, 5, [])], [(12, 8), (19, 22), (22, 5)], [], []⟩
theorem S53_calls (s_0a : OA) (s_0n s_0c : Nat) (s_1a : OA) (s_1n s_1c : Nat) (s_2a : OA) (s_2n s_2c : Nat) (lower_a : OA) (lower_n lower_c : Nat) (upper_a : OA) (upper_n upper_c : Nat) (m_a : OA) (m_n m_c : Nat) (w0 : World) (R : KR) (h : S53 s_0a s_0n s_0c s_1a s_1n s_1c s_2a s_2n s_2c lower_a lower_n lower_c upper_a upper_n upper_c m_a m_n m_c w0 R) : Calls prog 53 #[.agg #[.slice s_0a s_0n s_0c, .slice s_1a s_1n s_1c, .slice s_2a s_2n s_2c], .slice lower_a lower_n lower_c, .slice upper_a upper_n upper_c, .slice m_a m_n m_c] w0 (ret R) :=
 vcFn_sound (H := H53) follows_ Tryz.func53 (Eq.mpr (by kernel_rfl) h)
end Go.Proofs

/- Combinations of rows: the program. -/


namespace Go.Proofs.YtajpdnphamomjaaGreat
open Go.RowKit Go.Q Go.Q.Num Go.V

def colI (T : List (List Int)) (k : Nat) : List Int := T.map fun r => r.getD k 0
def colQ (T : List (List Int)) (M : List (Int × Int)) (k : Nat) : Rat := dotN (colI T k) M T.length
def rhsQ (T : List (List Int)) (rt : List Int) (M : List (Int × Int)) : Rat := dotN rt M T.length
def fpair (r : Rat) : Int × Int := (r.num, ((r.den : Nat) : Int))
def cols (_up : List Int) (T : List (List Int)) (M : List (Int × Int)) (n : Nat) : List (Int × Int) := (List.range n).map fun k => fpair (colQ T M k)
def combE (up : List Int) (T : List (List Int)) (rt : List Int) (M : List (Int × Int)) : Int :=
  if sysE up T rt ≠ 0 then sysE up T rt else if M.length ≠ T.length then 9 else if ∀ p ∈ M, IsFrac p.1 p.2 then (if (∀ k, k < up.length → Fits (colQ T M k)) ∧ Fits (rhsQ T rt M) then 0 else 8) else 1
section
variable {up : List Int} {T : List (List Int)} {rt : List Int} {M : List (Int × Int)}
theorem combE_1 (h : sysE up T rt ≠ 0) : combE up T rt M = sysE up T rt := by unfold combE; rw [if_pos h]
theorem combE_2 (h : sysE up T rt = 0) (h2 : M.length ≠ T.length) : combE up T rt M = 9 := by unfold combE; rw [if_neg (by omega), if_pos h2]
theorem combE_3 (h : sysE up T rt = 0) (h2 : M.length = T.length) (h3 : ¬ ∀ p ∈ M, IsFrac p.1 p.2) : combE up T rt M = 1 := by unfold combE; rw [if_neg (by omega), if_neg (by omega), if_neg h3]
theorem combE_4 (h : sysE up T rt = 0) (h2 : M.length = T.length) (h3 : ∀ p ∈ M, IsFrac p.1 p.2) (h4 : ¬ ((∀ k, k < up.length → Fits (colQ T M k)) ∧ Fits (rhsQ T rt M))) : combE up T rt M = 8 := by unfold combE; rw [if_neg (by omega), if_neg (by omega), if_pos h3, if_neg h4]
theorem combE_0 (h : sysE up T rt = 0) (h2 : M.length = T.length) (h3 : ∀ p ∈ M, IsFrac p.1 p.2) (h4 : (∀ k, k < up.length → Fits (colQ T M k)) ∧ Fits (rhsQ T rt M)) : combE up T rt M = 0 := by unfold combE; rw [if_neg (by omega), if_neg (by omega), if_pos h3, if_pos h4]
theorem combE_ok (h : combE up T rt M = 0) : sysE up T rt = 0 ∧ M.length = T.length ∧ (∀ p ∈ M, IsFrac p.1 p.2) ∧ (∀ k, k < up.length → Fits (colQ T M k)) ∧ Fits (rhsQ T rt M) := by
  by_cases h1 : sysE up T rt = 0
  · by_cases h2 : M.length = T.length
    · by_cases h3 : ∀ p ∈ M, IsFrac p.1 p.2
      · by_cases h4 : (∀ k, k < up.length → Fits (colQ T M k)) ∧ Fits (rhsQ T rt M)
        · exact ⟨h1, h2, h3, h4⟩
        · rw [combE_4 h1 h2 h3 h4] at h; omega
      · rw [combE_3 h1 h2 h3] at h; omega
    · rw [combE_2 h1 h2] at h; omega
  · rw [combE_1 h1] at h; exact absurd h h1
end
abbrev CT := Hdr × (Int × Int × Unit) × Int × Unit
abbrev rCT : RS := .many [.one .slice, .agg [.int .i64, .int .i64], .one (.int .i64)]
def CombR (up : List Int) (T : List (List Int)) (rt : List Int) (M : List (Int × Int)) (x : CT) (w : World) : Prop :=
  x.2.2.1 = combE up T rt M ∧ (combE up T rt M = 0 → Sl w x.1.1 x.1.2.1 x.1.2.2 2 ((cols up T M up.length).flatMap encF) ∧ x.2.1 = ((rhsQ T rt M).num, (((rhsQ T rt M).den : Nat) : Int), ())) ∧ (combE up T rt M ≠ 0 → x.1 = (none, 0, 0) ∧ x.2.1 = (0, 0, ()))
theorem CombR.bad {up : List Int} {T : List (List Int)} {rt : List Int} {M : List (Int × Int)} {e : Int} {w : World} (he : combE up T rt M = e) (h0 : e ≠ 0) : CombR up T rt M ((none, 0, 0), (0, 0, ()), e, ()) w :=
  ⟨he.symm, fun q => absurd (he.symm.trans q) h0, fun _ => ⟨rfl, rfl⟩⟩
theorem cols_len (up : List Int) (T : List (List Int)) (M : List (Int × Int)) (n : Nat) : (cols up T M n).length = n := by simp [cols]
theorem cols_snoc (up : List Int) (T : List (List Int)) (M : List (Int × Int)) (n : Nat) : cols up T M (n + 1) = cols up T M n ++ [fpair (colQ T M n)] := by simp [cols, List.range_succ]
theorem cols_get {up : List Int} {T : List (List Int)} {M : List (Int × Int)} {n k : Nat} (h : k < n) : (cols up T M n)[k]? = some (fpair (colQ T M k)) := by simp [cols, h]
theorem colI_get {T : List (List Int)} {i k : Nat} {row : List Int} {c : Int} (h1 : T[i]? = some row) (h2 : row[k]? = some c) : (colI T k)[i]? = some c := by
  unfold colI; rw [List.getElem?_map, h1]; simp [List.getD, h2]
theorem colI_len (T : List (List Int)) (k : Nat) : (colI T k).length = T.length := by simp [colI]

/-! ### tests over fractions -/
theorem dec_frac : ∀ p : Int × Int, Lget [.int .i64, .int .i64] (encF p) = some (p.1, p.2, ()) := fun _ => rfl
theorem comb1F (p : Int × Int) (w : World) (h : I64 p.1 ∧ I64 p.2) : call Tryz.prog 100 [.agg #[.int .i64 p.1, .int .i64 p.2]] (.one (.one .bool)) w (fun x w' => x = (!decide (IsFrac p.1 p.2)) ∧ bel w w') := by
  refine call_of (S100_calls p.1 p.2 w _ ?_)
  unfold S100
  refine wr_box fun x1 w2 X h' _ _ => ?_
  refine rd_boxN X (by kernel_rfl) rfl ?_
  refine call_mono (callB (validF p.1 p.2 w2 h.1.1 h.1.2 h.2.1 h.2.2)) ?_
  rintro x w5 ⟨rfl, h2⟩
  exact ⟨_, rfl, rfl, h'.trans h2⟩
theorem hasD (m : Hdr) (M : List (Int × Int)) (w : World) (H : Sl w m.1 m.2.1 m.2.2 2 (M.flatMap encF)) (hI : ∀ p ∈ M, I64 p.1 ∧ I64 p.2) :
    call Tryz.prog 87 [.slice m.1 m.2.1 m.2.2, .func (.func 100) #[] #[]] (.one (.one .bool)) w (fun x w' => x = M.any (fun p => !decide (IsFrac p.1 p.2)) ∧ bel w w') := by
  refine call_of (S87d_calls m.1 m.2.1 m.2.2 w _ ?_)
  unfold S87d
  refine call_mono (r := .one (.one (.int .i64))) (Q := fun x w' => x = idxI (fun p : Int × Int => !decide (IsFrac p.1 p.2)) M ∧ bel w w') (call_of (S42d_calls m.1 m.2.1 m.2.2 w _ ?_)) ?_
  · unfold S42d
    exact idx_aggs tyFracs agFrac encF_len (by omega) (l := [.int .i64, .int .i64]) (dec := fun p => (p.1, p.2, ())) dec_frac (fargs := fun (x5 : Int × Int × Unit) => [.agg #[.int .i64 x5.1, .int .i64 x5.2.1]]) H (fun p => !decide (IsFrac p.1 p.2)) (fun j p hp w' hb => comb1F p w' (hI p (mem_at hp)))
  · rintro x w2 ⟨rfl, hb⟩
    exact ⟨_, rfl, idxI_any _ _, hb⟩

/-! ### the numbers that are summed -/
theorem of3 (u r b : Hdr) (up : List Int) (T : List (List Int)) (rt : List Int) (c0 c1 : Addr) (k i : Nat) (row : List Int) (c : Int) (w : World) (H : Sys w u r b up T rt) (X : Box w c0 (sysc u r b)) (Y : Box w c1 [.int .i64 (k : Int)]) (h1 : T[i]? = some row) (h2 : row[k]? = some c) :
    call Tryz.prog 103 [.int .i64 (i : Int), .pointer (some c0), .pointer (some c1)] (.one (.one (.int .i64))) w (fun x w' => x = c ∧ bel w w') := by
  refine call_of (S103_calls (i : Int) c0 c1 w _ ?_)
  unfold S103
  have hT := H.r.len
  have hi := (List.getElem?_eq_some_iff.1 h1).1
  refine drw_mk fun w1 h _ => ?_
  replace H := H.up h; replace X := X.up h; replace Y := Y.up h
  refine rd_box (by kernel_rfl) X (i := 1) rfl rfl ?_
  refine H.r.at tyTab (by kernel_rfl) rfl (by omega) fun y row' q HR => ?_
  rw [h1] at q; cases q
  refine rd_box0 (by kernel_rfl) Y rfl rfl ?_
  refine at_int tyI64 (by kernel_rfl) HR rfl (by have := Sl.int HR; have := (List.getElem?_eq_some_iff.1 h2).1; omega) fun c' q => ?_
  rw [h2] at q; cases q
  exact ⟨_, rfl, rfl, h⟩
theorem of4 (u r b : Hdr) (up : List Int) (T : List (List Int)) (rt : List Int) (c0 : Addr) (i : Nat) (c : Int) (w : World) (H : Sys w u r b up T rt) (X : Box w c0 (sysc u r b)) (h1 : rt[i]? = some c) :
    call Tryz.prog 104 [.int .i64 (i : Int), .pointer (some c0)] (.one (.one (.int .i64))) w (fun x w' => x = c ∧ bel w w') := by
  refine call_of (S104_calls (i : Int) c0 w _ ?_)
  unfold S104
  have hb := H.b.int
  have hi := (List.getElem?_eq_some_iff.1 h1).1
  refine rd_box (by kernel_rfl) X (i := 2) rfl rfl ?_
  refine at_int tyI64 (by kernel_rfl) H.b rfl (by omega) fun c' q => ?_
  rw [h1] at q; cases q
  exact ⟨_, rfl, rfl, bel.refl _⟩

set_option maxHeartbeats 800000 in
theorem sumc (c0 c1 cm : Addr) (m : Hdr) (M : List (Int × Int)) (col : List Int) (w : World) (C : Box w cm [.slice m.1 m.2.1 m.2.2]) (HM : Sl w m.1 m.2.1 m.2.2 2 (M.flatMap encF)) (hF : ∀ p ∈ M, IsFrac p.1 p.2) (hl : col.length = M.length) (hm : M.length ≤ 1000) (hc : ∀ c ∈ col, I64 c)
    (OF : ∀ (i : Nat) c, col[i]? = some c → ∀ w', bel w w' → call Tryz.prog 103 [.int .i64 (i : Int), .pointer (some c0), .pointer (some c1)] (.one (.one (.int .i64))) w' (fun x w'' => x = c ∧ bel w' w'')) :
    call Tryz.prog 101 [.func (.func 103) #[] #[.pointer (some c0), .pointer (some c1)], .pointer (some cm)] rFB w (fun x w' => x = fracT (dotN col M M.length) ∧ bel w w') := by
  refine call_of (S101c_calls c0 c1 cm w _ ?_)
  unfold S101c
  have hmn := fr_len HM
  refine wr_alloc (z := fracv 0 0) (by kernel_rfl) fun x1 w2 X h hx _ => ?_
  have hne : w.heap.size ≤ x1.block := by omega
  refine call_mono (wholeF 0 w2 ⟨by omega, by omega⟩) ?_
  rintro (t0 : TE) w4 ⟨hB0, _, _, h'⟩
  replace h := h.trans h'; replace X := X.up h'; clear h'
  refine var_mk (z := .agg #[.bool false, .slice none 0 0, .slice none 0 0]) (by kernel_rfl) (by kernel_rfl) rfl rfl fun x5 w7 Y h2' hy => ?_
  replace Y : Box w7 x5 (boxc t0) := Y
  have A0 : ApT x5 t0 (0 : Rat) := ApT.oldE hB0 (by omega)
  have hn5 : w4.heap.size ≤ x5.block := by omega
  refine rd_box0 (by kernel_rfl) (C.up (h.trans h2')) rfl rfl ?_
  refine loop_up m.2.1 (fun k w' => bel w4 w' ∧ ∃ t, Box w' x5 (boxc t) ∧ EX (2 + 5 * k) w' t (dotN col M k) ∧ ApT x5 t (dotN col M k)) ⟨h2', t0, Y, hB0.up h2', A0⟩ fun k w11 hk ⟨hw, t, Y, hB, hA⟩ again hag _ => ?_
  refine br_dec (fun e2 => ?_) (fun e2 => ?_)
  · dsimp only at e2
    obtain ⟨p, hp⟩ : ∃ p, M[k]? = some p := ⟨_, List.getElem?_eq_getElem (by omega)⟩
    obtain ⟨c, hcc⟩ : ∃ c, col[k]? = some c := ⟨_, List.getElem?_eq_getElem (by omega)⟩
    have hFp := hF p (mem_at hp)
    have hci := hc c (mem_at hcc)
    refine join_mk (fun _ w' => bel w4 w' ∧ ∃ t, Box w' x5 (boxc t) ∧ EX (2 + 5 * (k + 1)) w' t (dotN col M (k + 1)) ∧ ApT x5 t (dotN col M (k + 1))) (fun K hK => ?_) (fun _ w' hh _ => z_i64 (by dsimp only; omega) (hag _ (by omega) hh))
    refine at_frac (HM.up (h.trans hw)) rfl hp ?_
    refine boxF fun x18 w20 h' Z _ => ?_
    replace hw := hw.trans h'; replace Y := Y.up h'; replace hB := hB.up h'
    refine call_mono (OF k c hcc w20 (h.trans hw)) ?_
    rintro x21 w22 ⟨hx21, h'⟩
    have hx22 : c = x21 := hx21.symm
    subst hx22
    replace hw := hw.trans h'; replace Y := Y.up h'; replace hB := hB.up h'; replace Z := Z.up h'
    have same : dotT col M k = 0 → K () w22 := fun q => by
      have e : dotN col M (k + 1) = dotN col M k := by
        show dotN col M k + dotT col M k = _
        rw [q, Rat.add_zero]
      exact hK _ _ ⟨hw, t, Y, by rw [e]; exact hB.le (by omega), by rw [e]; exact hA⟩
    refine br_ne (fun n2 => ?_) (fun n2 => same (dotT_c0 hcc hp n2))
    refine rd_box0 (by kernel_rfl) Z rfl rfl ?_
    refine br_ne (fun n1 => ?_) (fun n1 => same (dotT_p0 hcc hp n1))
    refine drw_mk fun w24 h3' _ => ?_
    replace hw := hw.trans h3'; replace Y := Y.up h3'; replace hB := hB.up h3'; replace Z := Z.up h3'
    refine flEx_mk (fun i _ v w' => (i = 2 → ∃ t : TE, v = exV t ∧ EX 2 w' t (ratv p.1 p.2)) ∧ (i = 4 → ∃ t : TE, v = exV t ∧ EX 2 w' t (c : Rat)) ∧ (i = 5 → ∃ t : TE, v = exV t ∧ EX 4 w' t (ratv p.1 p.2 * (c : Rat))))
      (fun _ _ _ _ _ h hb => ⟨fun e => by obtain ⟨t, q1, q2⟩ := h.1 e; exact ⟨t, q1, q2.up hb⟩, fun e => by obtain ⟨t, q1, q2⟩ := h.2.1 e; exact ⟨t, q1, q2.up hb⟩, fun e => by obtain ⟨t, q1, q2⟩ := h.2.2 e; exact ⟨t, q1, q2.up hb⟩⟩) ?_
    refine rd_boxN Y (by kernel_rfl) rfl ?_
    refine rd_boxN Z (by kernel_rfl) rfl ?_
    refine flc_mk (fun w70 hb _ => call_mono (fromX w70 hFp) fun y w' ⟨hy, hb'⟩ => ⟨hb', fun _ => ⟨y, rfl, hy⟩, fun e => by omega, fun e => by omega⟩) (fun (x75 : TE) => ?_)
    refine flc_mk (fun w80 hb _ => call_mono (wholeF c w80 hci) fun y w' ⟨hy, _, _, hb'⟩ => ⟨hb', fun e => by omega, fun _ => ⟨y, rfl, hy⟩, fun e => by omega⟩) (fun (x80 : TE) => ?_)
    refine flc_mk (fun w85 hb hf => ?_) (fun (x85 : TE) => ?_)
    · obtain ⟨⟨_, g2, _⟩, ⟨g1, _⟩, _⟩ := hf
      obtain ⟨t1, e1, B1⟩ := g1 rfl
      obtain ⟨t2, e2, B2⟩ := g2 rfl
      have e1' := exV_inj (t := x75) e1
      have e2' := exV_inj (t := x80) e2
      subst e1' e2'
      exact call_mono (mulE x75 x80 _ _ 2 2 w85 B1 B2 (by omega) (by omega)) fun y w' ⟨hy, _, _, hb'⟩ => ⟨hb', fun e => by omega, fun e => by omega, fun _ => ⟨y, rfl, hy⟩⟩
    · refine flend_mk fun w90 hb hf => ?_
      obtain ⟨⟨_, _, g⟩, _⟩ := hf
      obtain ⟨t1, e1, B1⟩ := g rfl
      have e1' := exV_inj (t := x85) e1
      subst e1'
      refine call_mono (addE t x85 _ _ (2 + 5 * k) 4 w90 (hB.up hb) B1 (by omega) (by omega)) ?_
      rintro (y : TE) w93 ⟨hy, f1, f2, h4'⟩
      have A' : ApT x5 y (dotN col M (k + 1)) := ApT.fr (Y.up hb) f1 f2
      have e : dotN col M (k + 1) = dotN col M k + ratv p.1 p.2 * (c : Rat) := by
        show dotN col M k + dotT col M k = _
        rw [dotT_at hcc hp]
      rw [← e] at hy
      refine wu_box ((Y.up hb).up h4') (by kernel_rfl) (Nat.le_refl 3) rfl fun w94 Y' hg _ => ?_
      exact hK _ _ ⟨((hw.trans hb).trans h4').grownAt hg hn5, y, Y', (hy.grownA A' hg).le (by omega), A'⟩
  · dsimp only at e2
    have hk' : k = M.length := by omega
    subst hk'
    refine rd_boxN Y (by kernel_rfl) rfl ?_
    refine call_mono (fracE t _ _ w11 hB) ?_
    rintro x49 w50 ⟨rfl, h'⟩
    replace h := (h.trans hw).trans h'
    replace X := (X.up hw).up h'
    refine wu_box X (by kernel_rfl) (Nat.le_refl 2) rfl fun w51 X' hg _ => ?_
    exact rd_boxV X' (by kernel_rfl) rfl ⟨_, rfl, rfl, h.grownAt hg hne⟩

set_option maxHeartbeats 800000 in
theorem sumd (c0 cm : Addr) (m : Hdr) (M : List (Int × Int)) (col : List Int) (w : World) (C : Box w cm [.slice m.1 m.2.1 m.2.2]) (HM : Sl w m.1 m.2.1 m.2.2 2 (M.flatMap encF)) (hF : ∀ p ∈ M, IsFrac p.1 p.2) (hl : col.length = M.length) (hm : M.length ≤ 1000) (hc : ∀ c ∈ col, I64 c)
    (OF : ∀ (i : Nat) c, col[i]? = some c → ∀ w', bel w w' → call Tryz.prog 104 [.int .i64 (i : Int), .pointer (some c0)] (.one (.one (.int .i64))) w' (fun x w'' => x = c ∧ bel w' w'')) :
    call Tryz.prog 101 [.func (.func 104) #[] #[.pointer (some c0)], .pointer (some cm)] rFB w (fun x w' => x = fracT (dotN col M M.length) ∧ bel w w') := by
  refine call_of (S101d_calls c0 cm w _ ?_)
  unfold S101d
  have hmn := fr_len HM
  refine wr_alloc (z := fracv 0 0) (by kernel_rfl) fun x1 w2 X h hx _ => ?_
  have hne : w.heap.size ≤ x1.block := by omega
  refine call_mono (wholeF 0 w2 ⟨by omega, by omega⟩) ?_
  rintro (t0 : TE) w4 ⟨hB0, _, _, h'⟩
  replace h := h.trans h'; replace X := X.up h'; clear h'
  refine var_mk (z := .agg #[.bool false, .slice none 0 0, .slice none 0 0]) (by kernel_rfl) (by kernel_rfl) rfl rfl fun x5 w7 Y h2' hy => ?_
  replace Y : Box w7 x5 (boxc t0) := Y
  have A0 : ApT x5 t0 (0 : Rat) := ApT.oldE hB0 (by omega)
  have hn5 : w4.heap.size ≤ x5.block := by omega
  refine rd_box0 (by kernel_rfl) (C.up (h.trans h2')) rfl rfl ?_
  refine loop_up m.2.1 (fun k w' => bel w4 w' ∧ ∃ t, Box w' x5 (boxc t) ∧ EX (2 + 5 * k) w' t (dotN col M k) ∧ ApT x5 t (dotN col M k)) ⟨h2', t0, Y, hB0.up h2', A0⟩ fun k w11 hk ⟨hw, t, Y, hB, hA⟩ again hag _ => ?_
  refine br_dec (fun e2 => ?_) (fun e2 => ?_)
  · dsimp only at e2
    obtain ⟨p, hp⟩ : ∃ p, M[k]? = some p := ⟨_, List.getElem?_eq_getElem (by omega)⟩
    obtain ⟨c, hcc⟩ : ∃ c, col[k]? = some c := ⟨_, List.getElem?_eq_getElem (by omega)⟩
    have hFp := hF p (mem_at hp)
    have hci := hc c (mem_at hcc)
    refine join_mk (fun _ w' => bel w4 w' ∧ ∃ t, Box w' x5 (boxc t) ∧ EX (2 + 5 * (k + 1)) w' t (dotN col M (k + 1)) ∧ ApT x5 t (dotN col M (k + 1))) (fun K hK => ?_) (fun _ w' hh _ => z_i64 (by dsimp only; omega) (hag _ (by omega) hh))
    refine at_frac (HM.up (h.trans hw)) rfl hp ?_
    refine boxF fun x18 w20 h' Z _ => ?_
    replace hw := hw.trans h'; replace Y := Y.up h'; replace hB := hB.up h'
    refine call_mono (OF k c hcc w20 (h.trans hw)) ?_
    rintro x21 w22 ⟨hx21, h'⟩
    have hx22 : c = x21 := hx21.symm
    subst hx22
    replace hw := hw.trans h'; replace Y := Y.up h'; replace hB := hB.up h'; replace Z := Z.up h'
    have same : dotT col M k = 0 → K () w22 := fun q => by
      have e : dotN col M (k + 1) = dotN col M k := by
        show dotN col M k + dotT col M k = _
        rw [q, Rat.add_zero]
      exact hK _ _ ⟨hw, t, Y, by rw [e]; exact hB.le (by omega), by rw [e]; exact hA⟩
    refine br_ne (fun n2 => ?_) (fun n2 => same (dotT_c0 hcc hp n2))
    refine rd_box0 (by kernel_rfl) Z rfl rfl ?_
    refine br_ne (fun n1 => ?_) (fun n1 => same (dotT_p0 hcc hp n1))
    refine drw_mk fun w24 h3' _ => ?_
    replace hw := hw.trans h3'; replace Y := Y.up h3'; replace hB := hB.up h3'; replace Z := Z.up h3'
    refine flEx_mk (fun i _ v w' => (i = 2 → ∃ t : TE, v = exV t ∧ EX 2 w' t (ratv p.1 p.2)) ∧ (i = 4 → ∃ t : TE, v = exV t ∧ EX 2 w' t (c : Rat)) ∧ (i = 5 → ∃ t : TE, v = exV t ∧ EX 4 w' t (ratv p.1 p.2 * (c : Rat))))
      (fun _ _ _ _ _ h hb => ⟨fun e => by obtain ⟨t, q1, q2⟩ := h.1 e; exact ⟨t, q1, q2.up hb⟩, fun e => by obtain ⟨t, q1, q2⟩ := h.2.1 e; exact ⟨t, q1, q2.up hb⟩, fun e => by obtain ⟨t, q1, q2⟩ := h.2.2 e; exact ⟨t, q1, q2.up hb⟩⟩) ?_
    refine rd_boxN Y (by kernel_rfl) rfl ?_
    refine rd_boxN Z (by kernel_rfl) rfl ?_
    refine flc_mk (fun w70 hb _ => call_mono (fromX w70 hFp) fun y w' ⟨hy, hb'⟩ => ⟨hb', fun _ => ⟨y, rfl, hy⟩, fun e => by omega, fun e => by omega⟩) (fun (x75 : TE) => ?_)
    refine flc_mk (fun w80 hb _ => call_mono (wholeF c w80 hci) fun y w' ⟨hy, _, _, hb'⟩ => ⟨hb', fun e => by omega, fun _ => ⟨y, rfl, hy⟩, fun e => by omega⟩) (fun (x80 : TE) => ?_)
    refine flc_mk (fun w85 hb hf => ?_) (fun (x85 : TE) => ?_)
    · obtain ⟨⟨_, g2, _⟩, ⟨g1, _⟩, _⟩ := hf
      obtain ⟨t1, e1, B1⟩ := g1 rfl
      obtain ⟨t2, e2, B2⟩ := g2 rfl
      have e1' := exV_inj (t := x75) e1
      have e2' := exV_inj (t := x80) e2
      subst e1' e2'
      exact call_mono (mulE x75 x80 _ _ 2 2 w85 B1 B2 (by omega) (by omega)) fun y w' ⟨hy, _, _, hb'⟩ => ⟨hb', fun e => by omega, fun e => by omega, fun _ => ⟨y, rfl, hy⟩⟩
    · refine flend_mk fun w90 hb hf => ?_
      obtain ⟨⟨_, _, g⟩, _⟩ := hf
      obtain ⟨t1, e1, B1⟩ := g rfl
      have e1' := exV_inj (t := x85) e1
      subst e1'
      refine call_mono (addE t x85 _ _ (2 + 5 * k) 4 w90 (hB.up hb) B1 (by omega) (by omega)) ?_
      rintro (y : TE) w93 ⟨hy, f1, f2, h4'⟩
      have A' : ApT x5 y (dotN col M (k + 1)) := ApT.fr (Y.up hb) f1 f2
      have e : dotN col M (k + 1) = dotN col M k + ratv p.1 p.2 * (c : Rat) := by
        show dotN col M k + dotT col M k = _
        rw [dotT_at hcc hp]
      rw [← e] at hy
      refine wu_box ((Y.up hb).up h4') (by kernel_rfl) (Nat.le_refl 3) rfl fun w94 Y' hg _ => ?_
      exact hK _ _ ⟨((hw.trans hb).trans h4').grownAt hg hn5, y, Y', (hy.grownA A' hg).le (by omega), A'⟩
  · dsimp only at e2
    have hk' : k = M.length := by omega
    subst hk'
    refine rd_boxN Y (by kernel_rfl) rfl ?_
    refine call_mono (fracE t _ _ w11 hB) ?_
    rintro x49 w50 ⟨rfl, h'⟩
    replace h := (h.trans hw).trans h'
    replace X := (X.up hw).up h'
    refine wu_box X (by kernel_rfl) (Nat.le_refl 2) rfl fun w51 X' hg _ => ?_
    exact rd_boxV X' (by kernel_rfl) rfl ⟨_, rfl, rfl, h.grownAt hg hne⟩

set_option maxHeartbeats 800000 in
theorem combL (u r b m : Hdr) (up : List Int) (T : List (List Int)) (rt : List Int) (M : List (Int × Int)) (w : World) (H : Sys w u r b up T rt) (HM : Sl w m.1 m.2.1 m.2.2 2 (M.flatMap encF)) (hI : ∀ p ∈ M, I64 p.1 ∧ I64 p.2) :
    call Tryz.prog 79 [sysv u r b, .slice m.1 m.2.1 m.2.2] rCT w (fun x w' => CombR up T rt M x w' ∧ bel w w') := by
  refine call_of (S79_calls u.1 u.2.1 u.2.2 r.1 r.2.1 r.2.2 b.1 b.2.1 b.2.2 m.1 m.2.1 m.2.2 w _ ?_)
  unfold S79
  have hu := H.u.int
  have hT := H.r.len
  have hb := H.b.int
  have hm := fr_len HM
  refine wr_box fun x1 w2 X h _ _ => ?_
  replace X : Box w2 x1 (sysc u r b) := X
  replace H := H.up h; replace HM := HM.up h
  refine wr_box fun x3 w4 C h' _ _ => ?_
  replace C : Box w4 x3 [.slice m.1 m.2.1 m.2.2] := C
  replace h := h.trans h'; replace X := X.up h'; replace H := H.up h'; replace HM := HM.up h'; clear h'
  refine wr_alloc (z := fracv 0 0) (by kernel_rfl) fun x5 w6 Z h' hz _ => ?_
  have hne : w.heap.size ≤ x5.block := by rw [hz]; exact h.size
  replace h := h.trans h'; replace X := X.up h'; replace H := H.up h'; replace HM := HM.up h'; replace C := C.up h'; clear h'
  have bad : ∀ {w' : World} {e : Int} {cs : List Value}, cs.length = 2 → bel w w' → Box w' x5 cs → combE up T rt M = e → e ≠ 0 →
      wu Tryz.prog (Instr.storeAt 60 (.pointer (some x5)) (.agg #[.int .i64 0, .int .i64 0])) w' fun w10 => rd Tryz.prog (loadVar 60 x5) (.agg [.int .i64, .int .i64]) w10 fun x11 =>
        ∃ x : CT, Value.tuple #[.slice none 0 0, .agg #[.int .i64 x11.1, .int .i64 x11.2.1], .int .i64 e] = rCT.val x ∧ CombR up T rt M x w10 ∧ bel w w10 := by
    intro w' e cs hl h Z he h0
    refine wu_box Z (by kernel_rfl) (by rw [hl]; exact Nat.le_refl 2) rfl fun w5 Z' hg _ => ?_
    have Z2 : Box w5 x5 [.int .i64 0, .int .i64 0] := by
      match cs, hl with
      | [_, _], _ => exact Z'
    exact rd_boxV Z2 (by kernel_rfl) rfl ⟨(((none, 0, 0), (0, 0, ()), e, ()) : CT), rfl, CombR.bad he h0, h.grownAt hg hne⟩
  refine rd_boxN X (by kernel_rfl) rfl ?_
  refine call_mono (validL u r b up T rt w6 H) ?_
  rintro x8 w9 ⟨rfl, h'⟩
  replace h := h.trans h'; replace X := X.up h'; replace H := H.up h'; replace HM := HM.up h'; replace C := C.up h'; replace Z := Z.up h'; clear h'
  refine br_ne (fun e0 => bad rfl h Z (combE_1 e0) e0) (fun e0 => ?_)
  obtain ⟨v1, v2, v3, v4⟩ := sysE_ok e0
  refine rd_box0 (by kernel_rfl) C rfl rfl ?_
  refine rd_box (by kernel_rfl) X (i := 1) rfl rfl ?_
  refine br_ne (fun e1 => bad rfl h Z (combE_2 e0 (by dsimp only at e1; omega)) (by omega)) (fun e1 => ?_)
  dsimp only at e1
  have hML : M.length = T.length := by omega
  refine rd_box0 (by kernel_rfl) C rfl rfl ?_
  refine call_mono (hasD m M w9 HM hI) ?_
  rintro x17 w18 ⟨rfl, h'⟩
  replace h := h.trans h'; replace X := X.up h'; replace H := H.up h'; replace HM := HM.up h'; replace C := C.up h'; replace Z := Z.up h'; clear h'
  refine br_mk (fun e => bad rfl h Z (combE_3 e0 hML fun q => ?_) (by omega)) (fun e => ?_)
  · obtain ⟨p, hp, hq⟩ := any_t e
    rw [decide_eq_true (q p hp)] at hq; cases hq
  have hF : ∀ p ∈ M, IsFrac p.1 p.2 := fun p hp => by have := any_f e p hp; simpa using this
  refine rd_box0 (by kernel_rfl) X rfl rfl ?_
  have Z0 := Z.lt
  refine loop_upA u.2.1 (fun i (a : Hdr) w' => bel w18 w' ∧ a.2.1 = i ∧ Own w' w18.heap.size 60 2 a.1 i a.2.2 ((cols up T M i).flatMap encF) ∧ ∀ k, k < i → Fits (colQ T M k)) ⟨bel.refl _, rfl, Own.nil _ _ _ _, fun k h => by omega⟩ fun i a w24 hi ⟨hw, ha, O, hq⟩ again hag _ => ?_
  refine br_dec (fun e => ?_) (fun e => ?_)
  · dsimp only at e
    refine var_mk (z := .int .i64 0) (v := .int .i64 (i : Int)) (by kernel_rfl) (by kernel_rfl) rfl rfl fun x25 w27 V h' _ => ?_
    replace V : Box w27 x25 [.int .i64 (i : Int)] := V
    have hw1 := hw.trans h'
    refine call_mono (sumc x1 x25 x3 m M (colI T i) w27 (C.up hw1) (HM.up hw1) hF (by rw [colI_len]; omega) (by omega) (fun c hc => ?_) (fun j c hj w' hb => ?_)) ?_
    · obtain ⟨row, hrow, rfl⟩ := List.mem_map.1 hc
      have := v3.2.2 row hrow
      rw [List.getD_eq_getElem?_getD]
      cases hg : row[i]? with
      | none => exact ⟨by decide, by decide⟩
      | some c => have := this c (mem_at hg); exact ⟨by simp; omega, by simp; omega⟩
    · obtain ⟨row, hrow⟩ : ∃ row, T[j]? = some row := ⟨_, List.getElem?_eq_getElem (by have := (List.getElem?_eq_some_iff.1 hj).1; rw [colI_len] at this; exact this)⟩
      have hrl := v4.2 row (mem_at hrow)
      obtain ⟨c', hc'⟩ : ∃ c', row[i]? = some c' := ⟨_, List.getElem?_eq_getElem (by omega)⟩
      have := colI_get hrow hc'
      rw [hj] at this; cases this
      exact of3 u r b up T rt x1 x25 i j row c w' (H.up (hw1.trans hb)) (X.up (hw1.trans hb)) (V.up hb) hrow hc'
    rintro x28 w29 ⟨rfl, h2'⟩
    have hw2 := hw1.trans h2'
    have eq : dotN (colI T i) M M.length = colQ T M i := by unfold colQ; rw [hML]
    rw [eq]
    refine boxF fun x30 w32 h3' Y _ => ?_
    have hw3 := hw2.trans h3'
    by_cases hft : Fits (colQ T M i)
    · have eT : fracT (colQ T M i) = (((colQ T M i).num, (((colQ T M i).den : Nat) : Int), ()), true, ()) := by unfold fracT; rw [if_pos hft]
      rw [eT] at Y ⊢
      refine br_f rfl ?_
      refine rd_boxN Y (by kernel_rfl) rfl ?_
      dsimp only
      rw [ha]
      refine wr_app1 tyFracs (O.kept ((h'.trans h2').trans h3')) (by have := hw3.size; omega) rfl (by omega) (by omega) rfl rfl (by omega) (by unfold maxLen; omega) fun a' c' w39 O' hg _ _ => ?_
      refine z_i64 (by omega) ?_
      refine hag (a', i + 1, c') w39 (by omega) ⟨hw3.own (O.kept ((h'.trans h2').trans h3')) hg (Nat.le_refl _), rfl, ?_, fun k hk => ?_⟩
      · rw [cols_snoc, List.flatMap_append]; exact O'
      · rcases Nat.lt_or_ge k i with q | q
        · exact hq k q
        · have : k = i := by omega
          subst this; exact hft
    · have eT : fracT (colQ T M i) = ((0, 0, ()), false, ()) := by unfold fracT; rw [if_neg hft]
      rw [eT]
      exact br_t rfl (bad rfl (h.trans hw3) (Z.up hw3) (combE_4 e0 hML hF fun q => hft (q.1 i (by omega))) (by omega))
  · dsimp only at e
    have hi' : i = up.length := by omega
    subst hi'
    refine call_mono (sumd x1 x3 m M rt w24 (C.up hw) (HM.up hw) hF (by have := v4.1; omega) (by omega) (fun c hc => ?_) (fun j c hj w' hb => of4 u r b up T rt x1 j c w' (H.up (hw.trans hb)) (X.up (hw.trans hb)) hj)) ?_
    · have := v3.2.1 c hc; exact ⟨by omega, by omega⟩
    rintro x41 w42 ⟨rfl, h2'⟩
    have hw2 := hw.trans h2'
    have eq : dotN rt M M.length = rhsQ T rt M := by unfold rhsQ; rw [hML]
    rw [eq]
    refine boxF fun x43 w45 h3' Y _ => ?_
    have hw3 := hw2.trans h3'
    by_cases hft : Fits (rhsQ T rt M)
    · have eT : fracT (rhsQ T rt M) = (((rhsQ T rt M).num, (((rhsQ T rt M).den : Nat) : Int), ()), true, ()) := by unfold fracT; rw [if_pos hft]
      rw [eT] at Y ⊢
      refine br_f rfl ?_
      refine drw_mk fun w48 h4' _ => ?_
      have hw4 := hw3.trans h4'
      refine rd_boxN (Y.up h4') (by kernel_rfl) rfl ?_
      refine wu_box (Z.up hw4) (by kernel_rfl) (Nat.le_refl 2) rfl fun w50 Z' hg _ => ?_
      refine rd_boxV Z' (by kernel_rfl) rfl ⟨(((a.1, a.2.1, a.2.2), ((rhsQ T rt M).num, (((rhsQ T rt M).den : Nat) : Int), ()), 0, ()) : CT), rfl, ⟨(combE_0 e0 hML hF ⟨hq, hft⟩).symm, fun _ => ⟨?_, rfl⟩, fun q => absurd (combE_0 e0 hML hF ⟨hq, hft⟩) q⟩, (h.trans hw4).grownAt hg hne⟩
      dsimp only
      rw [ha]
      refine ((O.kept ((h2'.trans h3').trans h4')).keptBy hg ?_).sl
      cases hb' : blk a.1 with
      | none => exact .inl rfl
      | some k => exact .inr fun q => by have := (O.lt k hb').1; have := Z0; injection q; omega
    · have eT : fracT (rhsQ T rt M) = ((0, 0, ()), false, ()) := by unfold fracT; rw [if_neg hft]
      rw [eT]
      exact br_t rfl (bad rfl (h.trans hw3) (Z.up hw3) (combE_4 e0 hML hF fun q => hft q.2) (by omega))
end Go.Proofs.YtajpdnphamomjaaGreat

/- Combinations of rows: the reference. -/

namespace Go.Proofs.YtajpdnphamomjaaGreat
open Go.RowKit Go.Q Go.Q.Num Go.V

theorem tyBigs : TyS Tryz.prog 112 83 (.agg #[.bool false, .slice none 0 0, .slice none 0 0]) 3 56 := ⟨by kernel_rfl, by kernel_rfl⟩
theorem agBig : aggOf Tryz.prog 83 3 = true := by kernel_rfl
theorem boxc_len (t : TE) : (boxc t).length = 3 := rfl
abbrev OffQ (o : Option Nat) (t : TE) (r : Rat) : Prop := (∀ ad, t.2.1.1 = some ad → r.num.natAbs ≠ 0 → some ad.block ≠ o) ∧ (∀ ad, t.2.2.1.1 = some ad → r.den ≠ 0 → some ad.block ≠ o)
theorem BX.grownO {L : Nat} {w w' : World} {t : TE} {r : Rat} {o : Option Nat} (h : BX L w t r) (ha : OffQ o t r) (hg : w.grownBy w' o) : BX L w' t r :=
  ⟨h.1, NumAt.grown h.2.1 hg fun a q hv _ => ha.1 a q hv, NumAt.grown h.2.2.1 hg fun a q hv _ => ha.2 a q hv, h.2.2.2⟩
abbrev FrT (w : World) (t : TE) : Prop := Fr w t.2.1.1 ∧ Fr w t.2.2.1.1
theorem FrT.mono {w w' : World} {t : TE} (h : FrT w' t) (hb : w.heap.size ≤ w'.heap.size) : FrT w t := ⟨Fr.mono h.1 hb, Fr.mono h.2 hb⟩
theorem FrT.off {w : World} {t : TE} (h : FrT w t) {o : Option Nat} (ho : ∀ k, o = some k → k < w.heap.size) (r : Rat) : OffQ o t r :=
  ⟨fun ad ha _ e => by have := h.1 ad ha; have := ho _ e.symm; omega, fun ad ha _ e => by have := h.2 ad ha; have := ho _ e.symm; omega⟩
theorem BX.offNew {L : Nat} {w : World} {t : TE} {r : Rat} (h : BX L w t r) {o : Option Nat} (ho : ∀ k, o = some k → w.heap.size ≤ k) : OffQ o t r :=
  ⟨fun ad ha hv e => by have := NumAt.lt_heap h.2.1 hv ad ha; have := ho _ e.symm; omega, fun ad ha hv e => by have := NumAt.lt_heap h.2.2.1 hv ad ha; have := ho _ e.symm; omega⟩

def preE (up : List Int) (T : List (List Int)) (rt : List Int) (M : List (Int × Int)) : Int :=
  if sysE up T rt ≠ 0 then sysE up T rt else if M.length ≠ T.length then 9 else if ∀ p ∈ M, IsFrac p.1 p.2 then 0 else 1
section
variable {up : List Int} {T : List (List Int)} {rt : List Int} {M : List (Int × Int)}
theorem preE_1 (h : sysE up T rt ≠ 0) : preE up T rt M = sysE up T rt := by unfold preE; rw [if_pos h]
theorem preE_2 (h : sysE up T rt = 0) (h2 : M.length ≠ T.length) : preE up T rt M = 9 := by unfold preE; rw [if_neg (by omega), if_pos h2]
theorem preE_3 (h : sysE up T rt = 0) (h2 : M.length = T.length) (h3 : ¬ ∀ p ∈ M, IsFrac p.1 p.2) : preE up T rt M = 1 := by unfold preE; rw [if_neg (by omega), if_neg (by omega), if_neg h3]
theorem preE_0 (h : sysE up T rt = 0) (h2 : M.length = T.length) (h3 : ∀ p ∈ M, IsFrac p.1 p.2) : preE up T rt M = 0 := by unfold preE; rw [if_neg (by omega), if_neg (by omega), if_pos h3]
theorem preE_ok (h : preE up T rt M = 0) : sysE up T rt = 0 ∧ M.length = T.length ∧ (∀ p ∈ M, IsFrac p.1 p.2) := by
  by_cases h1 : sysE up T rt = 0
  · by_cases h2 : M.length = T.length
    · by_cases h3 : ∀ p ∈ M, IsFrac p.1 p.2
      · exact ⟨h1, h2, h3⟩
      · rw [preE_3 h1 h2 h3] at h; omega
    · rw [preE_2 h1 h2] at h; omega
  · rw [preE_1 h1] at h; exact absurd h h1
theorem combE_pre (h : preE up T rt M ≠ 0) : combE up T rt M = preE up T rt M := by
  by_cases h1 : sysE up T rt = 0
  · by_cases h2 : M.length = T.length
    · by_cases h3 : ∀ p ∈ M, IsFrac p.1 p.2
      · exact absurd (preE_0 h1 h2 h3) h
      · rw [preE_3 h1 h2 h3, combE_3 h1 h2 h3]
    · rw [preE_2 h1 h2, combE_2 h1 h2]
  · rw [preE_1 h1, combE_1 h1]
end
abbrev BT := Hdr × TE × Int × Unit
abbrev rBT : RS := .many [.one .slice, sBig, .one (.int .i64)]
def BigR (up : List Int) (T : List (List Int)) (rt : List Int) (M : List (Int × Int)) (x : BT) (w : World) : Prop :=
  x.2.2.1 = preE up T rt M ∧ (preE up T rt M = 0 → (∃ ts : List TE, Sl w x.1.1 x.1.2.1 x.1.2.2 3 (ts.flatMap boxc) ∧ ts.length = up.length ∧ ∀ (k : Nat) t, ts[k]? = some t → BX 1000 w t (colQ T M k)) ∧ BX 1000 w x.2.1 (rhsQ T rt M))

set_option maxHeartbeats 3200000 in
theorem comb11 (u r b m : Hdr) (up : List Int) (T : List (List Int)) (rt : List Int) (M : List (Int × Int)) (w : World) (H : Sys w u r b up T rt) (HM : Sl w m.1 m.2.1 m.2.2 2 (M.flatMap encF)) (hI : ∀ p ∈ M, I64 p.1 ∧ I64 p.2) :
    call Tryz.prog 78 [sysv u r b, .slice m.1 m.2.1 m.2.2] rBT w (fun x w' => BigR up T rt M x w' ∧ bel w w') := by
  refine call_of (S78_calls u.1 u.2.1 u.2.2 r.1 r.2.1 r.2.2 b.1 b.2.1 b.2.2 m.1 m.2.1 m.2.2 w _ ?_)
  unfold S78
  have hu := H.u.int
  have hT := H.r.len
  have hb := H.b.int
  have hm := fr_len HM
  have km := HM.le
  refine wr_box fun x1 w2 X h _ _ => ?_
  replace X : Box w2 x1 (sysc u r b) := X
  replace H := H.up h; replace HM := HM.up h
  refine wr_alloc (z := .agg #[.bool false, .slice none 0 0, .slice none 0 0]) (by kernel_rfl) fun x3 w4 Z h' hz _ => ?_
  have hne : w.heap.size ≤ x3.block := by rw [hz]; exact h.size
  replace h := h.trans h'; replace X := X.up h'; replace H := H.up h'; replace HM := HM.up h'; clear h'
  have bad : ∀ {w' : World} {e : Int} {cs : List Value}, cs.length = 3 → bel w w' → Box w' x3 cs → preE up T rt M = e → e ≠ 0 →
      wu Tryz.prog (Instr.storeAt 83 (.pointer (some x3)) (.agg #[.bool false, .slice none 0 0, .slice none 0 0])) w' fun w10 => rd Tryz.prog (loadVar 83 x3) (.agg [.bool, .slice, .slice]) w10 fun (x11 : TE) =>
        ∃ x : BT, Value.tuple #[.slice none 0 0, .agg #[.bool x11.1, .slice x11.2.1.1 x11.2.1.2.1 x11.2.1.2.2, .slice x11.2.2.1.1 x11.2.2.1.2.1 x11.2.2.1.2.2], .int .i64 e] = rBT.val x ∧ BigR up T rt M x w10 ∧ bel w w10 := by
    intro w' e cs hl h Z he h0
    refine wu_box Z (by kernel_rfl) (by rw [hl]; exact Nat.le_refl 3) rfl fun w5 Z' hg _ => ?_
    have Z2 : Box w5 x3 [.bool false, .slice none 0 0, .slice none 0 0] := by
      match cs, hl with
      | [_, _, _], _ => exact Z'
    exact rd_boxV Z2 (by kernel_rfl) rfl ⟨(((none, 0, 0), (false, (none, 0, 0), (none, 0, 0), ()), e, ()) : BT), rfl, ⟨he.symm, fun q => absurd (he.symm.trans q) h0⟩, h.grownAt hg hne⟩
  refine rd_boxN X (by kernel_rfl) rfl ?_
  refine call_mono (valid11 u r b up T rt w4 H) ?_
  rintro x6 w7 ⟨rfl, h'⟩
  replace h := h.trans h'; replace X := X.up h'; replace H := H.up h'; replace HM := HM.up h'; replace Z := Z.up h'; clear h'
  refine br_ne (fun e0 => bad rfl h Z (preE_1 e0) e0) (fun e0 => ?_)
  obtain ⟨v1, v2, v3, v4⟩ := sysE_ok e0
  refine rd_box (by kernel_rfl) X (i := 1) rfl rfl ?_
  refine br_ne (fun e1 => bad rfl h Z (preE_2 e0 (by dsimp only at e1; omega)) (by omega)) (fun e1 => ?_)
  dsimp only at e1
  have hML : M.length = T.length := by omega
  refine loop_up m.2.1 (fun i w' => bel w7 w' ∧ ∀ j, j < i → ∀ p, M[j]? = some p → IsFrac p.1 p.2) ⟨bel.refl _, pre_zero⟩ fun i w15 hi ⟨hw, hq⟩ again hag _ => ?_
  refine br_dec (fun e => ?_) (fun e => ?_)
  · dsimp only at e
    obtain ⟨p, hp⟩ : ∃ p, M[i]? = some p := ⟨_, List.getElem?_eq_getElem (by omega)⟩
    have hpi := hI p (mem_at hp)
    refine at_frac (HM.up hw) rfl hp ?_
    refine call_mono (callB (valid10 p.1 p.2 w15 hpi.1.1 hpi.1.2 hpi.2.1 hpi.2.2)) ?_
    rintro _ w19 ⟨rfl, h'⟩
    replace hw := hw.trans h'
    refine br_not (fun ev => bad rfl (h.trans hw) (Z.up hw) (preE_3 e0 hML fun q => ?_) (by omega)) (fun ev => ?_)
    · rw [decide_eq_true (q p (mem_at hp))] at ev; cases ev
    refine z_i64 (by dsimp only; omega) ?_
    exact hag _ (by omega) ⟨hw, pre_step hq hp (of_decide_eq_true ev)⟩
  dsimp only at e
  have hF := pre_all hq (by omega)
  clear hq hag again
  replace h := h.trans hw; replace X := X.up hw; replace H := H.up hw; replace HM := HM.up hw; replace Z := Z.up hw; clear hw hi e
  have Z0 := Z.lt
  -- a step of a sum
  have term : ∀ (x : Addr) (col : List Int) (k : Nat) (p : Int × Int) (c : Int) (t : TE) (w65 w5 : World), M[k]? = some p → col[k]? = some c → I64 c → k < 200 → bel w15 w65 → bel w5 w65 → w5.heap.size ≤ x.block → Box w65 x (boxc t) → BX (3 + 9 * k) w65 t (dotN col M k) →
      ∀ (x74 x84 x89 : TE) (w90 : World), bel w65 w90 → BX 7 w90 x89 (ratv p.1 p.2 * (c : Rat)) → ∀ K : World → Prop, (∀ (y : TE) w94, bel w5 w94 → Box w94 x (boxc y) → BX (3 + 9 * (k + 1)) w94 y (dotN col M (k + 1)) → ApT x y (dotN col M (k + 1)) → FrT w65 y → K w94) →
      call Tryz.prog 50 [exV t, exV x89] (.one sBig) w90 fun (x92 : TE) w93 => wu Tryz.prog (Instr.storeAt 83 (.pointer (some x)) (exV x92)) w93 fun w94 => K w94 := by
    intro x col k p c t w65 w5 hp hc hci hk hw3 hw5 hnx Y hB _ _ x89 w90 hb B1 K hK
    refine call_mono (plusX t x89 _ _ (3 + 9 * k) 7 w90 (hB.up hb) B1 (by omega) (by omega)) ?_
    rintro (y : TE) w93 ⟨hy, f1, f2, h4'⟩
    have A' : ApT x y (dotN col M (k + 1)) := ApT.fr (Y.up hb) f1 f2
    have e : dotN col M (k + 1) = dotN col M k + ratv p.1 p.2 * (c : Rat) := by
      show dotN col M k + dotT col M k = _
      rw [dotT_at hc hp]
    rw [← e] at hy
    refine wu_box ((Y.up hb).up h4') (by kernel_rfl) (Nat.le_refl 3) rfl fun w94 Y' hg _ => ?_
    exact hK y w94 (((hw5.trans hb).trans h4').grownAt hg hnx) Y' ((hy.grown A' hg).le (by omega)) A' (FrT.mono ⟨f1, f2⟩ hb.size)
  refine loop_upA u.2.1 (fun i (a : Hdr) w' => bel w15 w' ∧ a.2.1 = i ∧ ∃ ts : List TE, Own w' w15.heap.size 83 3 a.1 i a.2.2 (ts.flatMap boxc) ∧ ts.length = i ∧ ∀ (k : Nat) t, ts[k]? = some t → BX 1000 w' t (colQ T M k) ∧ FrT w15 t ∧ OffQ (blk a.1) t (colQ T M k)) ⟨bel.refl _, rfl, [], Own.nil _ _ _ _, rfl, fun k t h => by simp at h⟩ fun i a w25 hi ⟨hw, ha, ts, O, hts, hE⟩ again hag _ => ?_
  refine rd_box0 (by kernel_rfl) (X.up hw) rfl rfl ?_
  refine br_dec (fun e => ?_) (fun e => ?_)
  · dsimp only at e
    refine call_mono (wholeX 0 w25 ⟨by omega, by omega⟩) ?_
    rintro (t0 : TE) w28 ⟨hB0, f1, f2, h'⟩
    refine var_mk (z := .agg #[.bool false, .slice none 0 0, .slice none 0 0]) (by kernel_rfl) (by kernel_rfl) rfl rfl fun x29 w31 Y h2' hy => ?_
    replace Y : Box w31 x29 (boxc t0) := Y
    have A0 : ApT x29 t0 (0 : Rat) := ApT.old hB0 (by omega)
    have hn : w25.heap.size ≤ x29.block := by have := h'.size; omega
    refine loop_up m.2.1 (fun k w' => bel w25 w' ∧ ∃ t, Box w' x29 (boxc t) ∧ BX (3 + 9 * k) w' t (dotN (colI T i) M k) ∧ ApT x29 t (dotN (colI T i) M k) ∧ FrT w25 t) ⟨h'.trans h2', t0, Y, hB0.up h2', A0, f1, f2⟩ fun k w34 hk ⟨hw2, t, Y, hB, hA, hFt⟩ again' hag' _ => ?_
    refine br_dec (fun e2 => ?_) (fun e2 => ?_)
    · dsimp only at e2
      obtain ⟨p, hp⟩ : ∃ p, M[k]? = some p := ⟨_, List.getElem?_eq_getElem (by omega)⟩
      obtain ⟨row, hrow⟩ : ∃ row, T[k]? = some row := ⟨_, List.getElem?_eq_getElem (by omega)⟩
      have hrl := v4.2 row (mem_at hrow)
      obtain ⟨c, hc⟩ : ∃ c, row[i]? = some c := ⟨_, List.getElem?_eq_getElem (by omega)⟩
      have hcol := colI_get hrow hc
      have hF1 := hF p (mem_at hp)
      have hc2 := v3.2.2 row (mem_at hrow) c (mem_at hc)
      refine join_mk (fun _ w' => bel w25 w' ∧ ∃ t, Box w' x29 (boxc t) ∧ BX (3 + 9 * (k + 1)) w' t (dotN (colI T i) M (k + 1)) ∧ ApT x29 t (dotN (colI T i) M (k + 1)) ∧ FrT w25 t) (fun K hK => ?_) (fun _ w' hh _ => z_i64 (by dsimp only; omega) (hag' _ (by omega) hh))
      have same : dotT (colI T i) M k = 0 → K () w34 := fun q => by
        have e : dotN (colI T i) M (k + 1) = dotN (colI T i) M k := by
          show dotN (colI T i) M k + dotT (colI T i) M k = _
          rw [q, Rat.add_zero]
        exact hK _ _ ⟨hw2, t, Y, by rw [e]; exact hB.le (by omega), by rw [e]; exact hA, hFt⟩
      refine at_fst (HM.up (hw.trans hw2)) rfl hp ?_
      refine br_ne (fun n1 => ?_) (fun n1 => same (dotT_p0 hcol hp n1))
      refine rd_box (by kernel_rfl) (X.up (hw.trans hw2)) (i := 1) rfl rfl ?_
      refine (H.up (hw.trans hw2)).r.at tyTab (by kernel_rfl) rfl (by omega) fun y row' h1 HR => ?_
      rw [hrow] at h1; cases h1
      refine at_int tyI64 (by kernel_rfl) HR rfl (by have := Sl.int HR; omega) fun c' hc' => ?_
      rw [hc] at hc'; cases hc'
      refine br_ne (fun n2 => ?_) (fun n2 => same (dotT_c0 hcol hp n2))
      refine drw_mk fun w65 h3' _ => ?_
      have hw3 := hw2.trans h3'
      replace Y := Y.up h3'; replace hB := hB.up h3'
      refine flEx_mk (fun i _ v w' => (i = 5 → ∃ t : TE, v = exV t ∧ BX 3 w' t (ratv p.1 p.2)) ∧ (i = 14 → ∃ t : TE, v = exV t ∧ BX 3 w' t (c : Rat)) ∧ (i = 15 → ∃ t : TE, v = exV t ∧ BX 7 w' t (ratv p.1 p.2 * (c : Rat))))
        (fun _ _ _ _ _ h hb => ⟨fun e => by obtain ⟨t, q1, q2⟩ := h.1 e; exact ⟨t, q1, q2.up hb⟩, fun e => by obtain ⟨t, q1, q2⟩ := h.2.1 e; exact ⟨t, q1, q2.up hb⟩, fun e => by obtain ⟨t, q1, q2⟩ := h.2.2 e; exact ⟨t, q1, q2.up hb⟩⟩) ?_
      refine rd_boxN Y (by kernel_rfl) rfl ?_
      refine at_frac (HM.up (hw.trans hw3)) rfl hp ?_
      refine flc_mk (fun w70 hb _ => call_mono (makeX w70 hF1) fun y w' ⟨hy, _, _, hb'⟩ => ⟨hb', fun _ => ⟨y, rfl, hy⟩, fun e => by omega, fun e => by omega⟩) (fun (x74 : TE) => ?_)
      refine rd_box (by kernel_rfl) (X.up (hw.trans hw3)) (i := 1) rfl rfl ?_
      refine (H.up (hw.trans hw3)).r.at tyTab (by kernel_rfl) rfl (by omega) fun y row' h1 HR => ?_
      rw [hrow] at h1; cases h1
      refine at_int tyI64 (by kernel_rfl) HR rfl (by have := Sl.int HR; omega) fun c' hc' => ?_
      rw [hc] at hc'; cases hc'
      refine flc_mk (fun w80 hb _ => call_mono (wholeX c w80 ⟨by omega, by omega⟩) fun y w' ⟨hy, _, _, hb'⟩ => ⟨hb', fun e => by omega, fun _ => ⟨y, rfl, hy⟩, fun e => by omega⟩) (fun (x84 : TE) => ?_)
      refine flc_mk (fun w85 hb hf => ?_) (fun (x89 : TE) => ?_)
      · obtain ⟨⟨_, g2, _⟩, ⟨g1, _⟩, _⟩ := hf
        obtain ⟨t1, e1, B1⟩ := g1 rfl
        obtain ⟨t2, e2, B2⟩ := g2 rfl
        have e1' := exV_inj (t := x74) e1
        have e2' := exV_inj (t := x84) e2
        subst e1' e2'
        exact call_mono (timesX x74 x84 _ _ 3 3 w85 B1 B2 (by omega) (by omega)) fun y w' ⟨hy, _, _, hb'⟩ => ⟨hb', fun e => by omega, fun e => by omega, fun _ => ⟨y, rfl, hy⟩⟩
      · refine flend_mk fun w90 hb hf => ?_
        obtain ⟨⟨_, _, g⟩, _⟩ := hf
        obtain ⟨t1, e1, B1⟩ := g rfl
        have e1' := exV_inj (t := x89) e1
        subst e1'
        exact term x29 (colI T i) k p c t w65 w25 hp hcol ⟨by omega, by omega⟩ (by omega) (hw.trans hw3) hw3 hn Y hB x74 x84 x89 w90 hb B1 _ fun y w94 q1 q2 q3 q4 q5 => hK _ _ ⟨q1, y, q2, q3, q4, q5.mono hw3.size⟩
    · dsimp only at e2
      have hk' : k = T.length := by omega
      subst hk'
      have hO1 : OffQ (blk a.1) t (colQ T M i) := hFt.off (fun k hk => (O.lt k hk).2) _
      replace O := O.kept hw2
      have hE2 : ∀ (k : Nat) t, ts[k]? = some t → BX 1000 w34 t (colQ T M k) ∧ FrT w15 t ∧ OffQ (blk a.1) t (colQ T M k) := fun k t q => ⟨(hE k t q).1.up hw2, (hE k t q).2⟩
      refine rd_boxN Y (by kernel_rfl) rfl ?_
      dsimp only
      rw [ha]
      refine wr_app1 tyBigs O (hw.trans hw2).size rfl (by omega) (by omega) rfl rfl (by omega) (by unfold maxLen; omega) fun a' c' w39 O' hg hnew _ => ?_
      refine z_i64 (by omega) ?_
      refine hag (a', i + 1, c') w39 (by omega) ⟨(hw.trans hw2).own O hg (Nat.le_refl _), rfl, ts ++ [t], ?_, by simp [hts], fun k t' hk' => ?_⟩
      · rw [List.flatMap_append]; exact O'
      · have key : BX 1000 w34 t' (colQ T M k) ∧ FrT w15 t' ∧ OffQ (blk a.1) t' (colQ T M k) := by
          rcases Nat.lt_or_ge k ts.length with q | q
          · rw [List.getElem?_append_left q] at hk'
            exact hE2 k t' hk'
          · rw [List.getElem?_append_right q] at hk'
            have e : k - ts.length = 0 := by
              rcases Nat.eq_zero_or_pos (k - ts.length) with q2 | q2
              · exact q2
              · rw [List.getElem?_eq_none (by simp; omega)] at hk'; cases hk'
            rw [e] at hk'
            cases hk'
            have : k = i := by omega
            subst this
            exact ⟨BX.le hB (by omega), hFt.mono hw.size, hO1⟩
        obtain ⟨k1, k2, k3⟩ := key
        refine ⟨k1.grownO k3 hg, k2, ?_⟩
        rcases hnew with q | q
        · dsimp only; rw [q]; exact k3
        · exact k1.offNew q
  · dsimp only at e
    have hi' : i = up.length := by omega
    subst hi'
    refine call_mono (wholeX 0 w25 ⟨by omega, by omega⟩) ?_
    rintro (t0 : TE) w28 ⟨hB0, f1, f2, h'⟩
    refine var_mk (z := .agg #[.bool false, .slice none 0 0, .slice none 0 0]) (by kernel_rfl) (by kernel_rfl) rfl rfl fun x84 w31 Y h2' hy => ?_
    replace Y : Box w31 x84 (boxc t0) := Y
    have A0 : ApT x84 t0 (0 : Rat) := ApT.old hB0 (by omega)
    have hn : w25.heap.size ≤ x84.block := by have := h'.size; omega
    refine loop_up m.2.1 (fun k w' => bel w25 w' ∧ ∃ t, Box w' x84 (boxc t) ∧ BX (3 + 9 * k) w' t (dotN rt M k) ∧ ApT x84 t (dotN rt M k) ∧ FrT w25 t) ⟨h'.trans h2', t0, Y, hB0.up h2', A0, f1, f2⟩ fun k w89 hk ⟨hw2, t, Y, hB, hA, hFt⟩ again' hag' _ => ?_
    refine br_dec (fun e2 => ?_) (fun e2 => ?_)
    · dsimp only at e2
      obtain ⟨p, hp⟩ : ∃ p, M[k]? = some p := ⟨_, List.getElem?_eq_getElem (by omega)⟩
      obtain ⟨c, hc⟩ : ∃ c, rt[k]? = some c := ⟨_, List.getElem?_eq_getElem (by have := v4.1; omega)⟩
      have hF1 := hF p (mem_at hp)
      have hc2 := v3.2.1 c (mem_at hc)
      refine drw_mk fun w65 h3' _ => ?_
      have hw3 := hw2.trans h3'
      replace Y := Y.up h3'; replace hB := hB.up h3'
      refine flEx_mk (fun i _ v w' => (i = 5 → ∃ t : TE, v = exV t ∧ BX 3 w' t (ratv p.1 p.2)) ∧ (i = 11 → ∃ t : TE, v = exV t ∧ BX 3 w' t (c : Rat)) ∧ (i = 12 → ∃ t : TE, v = exV t ∧ BX 7 w' t (ratv p.1 p.2 * (c : Rat))))
        (fun _ _ _ _ _ h hb => ⟨fun e => by obtain ⟨t, q1, q2⟩ := h.1 e; exact ⟨t, q1, q2.up hb⟩, fun e => by obtain ⟨t, q1, q2⟩ := h.2.1 e; exact ⟨t, q1, q2.up hb⟩, fun e => by obtain ⟨t, q1, q2⟩ := h.2.2 e; exact ⟨t, q1, q2.up hb⟩⟩) ?_
      refine rd_boxN Y (by kernel_rfl) rfl ?_
      refine at_frac (HM.up (hw.trans hw3)) rfl hp ?_
      refine flc_mk (fun w70 hb _ => call_mono (makeX w70 hF1) fun y w' ⟨hy, _, _, hb'⟩ => ⟨hb', fun _ => ⟨y, rfl, hy⟩, fun e => by omega, fun e => by omega⟩) (fun (x74 : TE) => ?_)
      refine rd_box (by kernel_rfl) (X.up (hw.trans hw3)) (i := 2) rfl rfl ?_
      refine at_int tyI64 (by kernel_rfl) (H.up (hw.trans hw3)).b rfl (by have := v4.1; omega) fun c' hc' => ?_
      rw [hc] at hc'; cases hc'
      refine flc_mk (fun w80 hb _ => call_mono (wholeX c w80 ⟨by omega, by omega⟩) fun y w' ⟨hy, _, _, hb'⟩ => ⟨hb', fun e => by omega, fun _ => ⟨y, rfl, hy⟩, fun e => by omega⟩) (fun (x107 : TE) => ?_)
      refine flc_mk (fun w85 hb hf => ?_) (fun (x112 : TE) => ?_)
      · obtain ⟨⟨_, g2, _⟩, ⟨g1, _⟩, _⟩ := hf
        obtain ⟨t1, e1, B1⟩ := g1 rfl
        obtain ⟨t2, e2, B2⟩ := g2 rfl
        have e1' := exV_inj (t := x74) e1
        have e2' := exV_inj (t := x107) e2
        subst e1' e2'
        exact call_mono (timesX x74 x107 _ _ 3 3 w85 B1 B2 (by omega) (by omega)) fun y w' ⟨hy, _, _, hb'⟩ => ⟨hb', fun e => by omega, fun e => by omega, fun _ => ⟨y, rfl, hy⟩⟩
      · refine flend_mk fun w90 hb hf => ?_
        obtain ⟨⟨_, _, g⟩, _⟩ := hf
        obtain ⟨t1, e1, B1⟩ := g rfl
        have e1' := exV_inj (t := x112) e1
        subst e1'
        exact term x84 rt k p c t w65 w25 hp hc ⟨by omega, by omega⟩ (by omega) (hw.trans hw3) hw3 hn Y hB x74 x107 x112 w90 hb B1 _ fun y w94 q1 q2 q3 q4 q5 => z_i64 (by dsimp only; omega) (hag' _ (by omega) ⟨q1, y, q2, q3, q4, q5.mono hw3.size⟩)
    · dsimp only at e2
      have hk' : k = T.length := by omega
      subst hk'
      refine drw_mk fun w119 h3' _ => ?_
      have hw3 := hw2.trans h3'
      have hw4 := hw.trans hw3
      refine rd_boxN (Y.up h3') (by kernel_rfl) rfl ?_
      refine wu_box (Z.up hw4) (by kernel_rfl) (Nat.le_refl 3) rfl fun w121 Z' hg _ => ?_
      have hx3 : ∀ k, some x3.block = some k → k < w15.heap.size := fun k q => by injection q; omega
      refine rd_boxV Z' (by kernel_rfl) rfl ⟨(((a.1, a.2.1, a.2.2), t, 0, ()) : BT), rfl, ⟨(preE_0 e0 hML hF).symm, fun _ => ⟨⟨ts, ?_, hts, fun k t' hk' => ?_⟩, ?_⟩⟩, (h.trans hw4).grownAt hg hne⟩
      · dsimp only
        rw [ha]
        refine ((O.kept hw3).keptBy hg ?_).sl
        cases hb' : blk a.1 with
        | none => exact .inl rfl
        | some k => exact .inr fun q => by have := (O.lt k hb').1; injection q; omega
      · obtain ⟨k1, k2, _⟩ := hE k t' hk'
        exact (k1.up hw3).grownO (k2.off hx3 _) hg
      · exact BX.le (((hB.up h3')).grownO ((hFt.mono hw.size).off hx3 _) hg) (by omega)
end Go.Proofs.YtajpdnphamomjaaGreat

/- Combinations: the reference's Combine; comparing lists of fractions; lattices. -/

namespace Go.Proofs.YtajpdnphamomjaaGreat
open Go.RowKit Go.Q Go.Q.Num Go.V

set_option maxHeartbeats 800000 in
theorem combR11 (u r b m : Hdr) (up : List Int) (T : List (List Int)) (rt : List Int) (M : List (Int × Int)) (w : World) (H : Sys w u r b up T rt) (HM : Sl w m.1 m.2.1 m.2.2 2 (M.flatMap encF)) (hI : ∀ p ∈ M, I64 p.1 ∧ I64 p.2) :
    call Tryz.prog 77 [sysv u r b, .slice m.1 m.2.1 m.2.2] rCT w (fun x w' => CombR up T rt M x w' ∧ bel w w') := by
  refine call_of (S77_calls u.1 u.2.1 u.2.2 r.1 r.2.1 r.2.2 b.1 b.2.1 b.2.2 m.1 m.2.1 m.2.2 w _ ?_)
  unfold S77
  have hu := H.u.int
  refine wr_box fun x1 w2 X h _ _ => ?_
  replace X : Box w2 x1 (sysc u r b) := X
  replace H := H.up h; replace HM := HM.up h
  refine wr_alloc (z := fracv 0 0) (by kernel_rfl) fun x3 w4 Z h' hz _ => ?_
  have hne : w.heap.size ≤ x3.block := by rw [hz]; exact h.size
  replace h := h.trans h'; replace X := X.up h'; replace H := H.up h'; replace HM := HM.up h'; clear h'
  have bad : ∀ {w' : World} {e : Int} {cs : List Value}, cs.length = 2 → bel w w' → Box w' x3 cs → combE up T rt M = e → e ≠ 0 →
      wu Tryz.prog (Instr.storeAt 60 (.pointer (some x3)) (.agg #[.int .i64 0, .int .i64 0])) w' fun w10 => rd Tryz.prog (loadVar 60 x3) (.agg [.int .i64, .int .i64]) w10 fun x11 =>
        ∃ x : CT, Value.tuple #[.slice none 0 0, .agg #[.int .i64 x11.1, .int .i64 x11.2.1], .int .i64 e] = rCT.val x ∧ CombR up T rt M x w10 ∧ bel w w10 := by
    intro w' e cs hl h Z he h0
    refine wu_box Z (by kernel_rfl) (by rw [hl]; exact Nat.le_refl 2) rfl fun w5 Z' hg _ => ?_
    have Z2 : Box w5 x3 [.int .i64 0, .int .i64 0] := by
      match cs, hl with
      | [_, _], _ => exact Z'
    exact rd_boxV Z2 (by kernel_rfl) rfl ⟨(((none, 0, 0), (0, 0, ()), e, ()) : CT), rfl, CombR.bad he h0, h.grownAt hg hne⟩
  refine rd_boxN X (by kernel_rfl) rfl ?_
  refine call_mono (comb11 u r b m up T rt M w4 H HM hI) ?_
  rintro (x6 : BT) w7 ⟨⟨he, hR⟩, h'⟩
  replace h := h.trans h'; replace X := X.up h'; replace H := H.up h'; replace HM := HM.up h'; replace Z := Z.up h'; clear h'
  refine var_mk (z := .agg #[.bool false, .slice none 0 0, .slice none 0 0]) (by kernel_rfl) (by kernel_rfl) rfl rfl fun x8 w10 V hv _ => ?_
  replace V : Box w10 x8 (boxc x6.2.1) := V
  refine br_ne (fun e0 => bad rfl (h.trans hv) (Z.up hv) (by rw [combE_pre (by rw [← he]; exact e0), he]) e0) (fun e0 => ?_)
  obtain ⟨⟨ts, hS, hts, hB⟩, hBr⟩ := hR (by rw [← he]; exact e0)
  obtain ⟨p1, p2, p3⟩ := preE_ok (by rw [← he]; exact e0)
  obtain ⟨v1, v2, v3, v4⟩ := sysE_ok p1
  replace hS := hS.up hv
  replace hB : ∀ (k : Nat) t, ts[k]? = some t → BX 1000 w10 t (colQ T M k) := fun k t q => (hB k t q).up hv
  replace hBr := hBr.up hv
  replace h := h.trans hv; replace X := X.up hv; replace H := H.up hv; replace HM := HM.up hv; replace Z := Z.up hv; clear hv
  have hln : ts.length = x6.1.2.1 := by
    have := hS.len
    rw [flat_len boxc_len] at this
    omega
  refine loop_upA x6.1.2.1 (fun i (a : Hdr) w' => bel w10 w' ∧ a.2.1 = i ∧ Own w' w10.heap.size 60 2 a.1 i a.2.2 ((cols up T M i).flatMap encF) ∧ ∀ k, k < i → Fits (colQ T M k)) ⟨bel.refl _, rfl, Own.nil _ _ _ _, fun k h => by omega⟩ fun i a w15 hi ⟨hw, ha, O, hq⟩ again hag _ => ?_
  have Z0 := Z.lt
  refine br_dec (fun e => ?_) (fun e => ?_)
  · dsimp only at e
    obtain ⟨t, ht⟩ : ∃ t, ts[i]? = some t := ⟨_, List.getElem?_eq_getElem (by omega)⟩
    refine at_agg tyBigs agBig boxc_len (by omega) (hS.up hw) rfl ht rfl ?_
    refine call_mono (fit10 _ _ _ w15 ((hB i t ht).up hw).at) ?_
    rintro (x18 : FE) w19 ⟨rfl, h1'⟩
    have hw1 := hw.trans h1'
    refine boxF fun x20 w22 h2' Y _ => ?_
    have hw2 := hw1.trans h2'
    by_cases hft : Fits (colQ T M i)
    · have eT : fitT (colQ T M i) = (((colQ T M i).num, (((colQ T M i).den : Nat) : Int), ()), 0, ()) := by unfold fitT; rw [if_pos hft]
      rw [eT] at Y ⊢
      refine br_f rfl ?_
      refine rd_boxN Y (by kernel_rfl) rfl ?_
      dsimp only
      rw [ha]
      refine wr_app1 tyFracs (O.kept (h1'.trans h2')) hw2.size rfl (by omega) (by omega) rfl rfl (by omega) (by unfold maxLen; omega) fun a' c' w39 O' hg _ _ => ?_
      refine z_i64 (by omega) ?_
      refine hag (a', i + 1, c') w39 (by omega) ⟨hw2.own (O.kept (h1'.trans h2')) hg (Nat.le_refl _), rfl, ?_, fun k hk => ?_⟩
      · rw [cols_snoc, List.flatMap_append]; exact O'
      · rcases Nat.lt_or_ge k i with q | q
        · exact hq k q
        · have : k = i := by omega
          subst this; exact hft
    · have eT : fitT (colQ T M i) = ((0, 0, ()), 8, ()) := by unfold fitT; rw [if_neg hft]
      rw [eT]
      exact br_t rfl (bad rfl (h.trans hw2) (Z.up hw2) (combE_4 p1 p2 p3 fun q => hft (q.1 i (by omega))) (by decide))
  · dsimp only at e
    have hi' : i = up.length := by omega
    subst hi'
    refine rd_boxN (V.up hw) (by kernel_rfl) rfl ?_
    refine call_mono (fit10 _ _ _ w15 (hBr.up hw).at) ?_
    rintro (x32 : FE) w33 ⟨rfl, h1'⟩
    have hw1 := hw.trans h1'
    refine boxF fun x34 w36 h2' Y _ => ?_
    have hw2 := hw1.trans h2'
    by_cases hft : Fits (rhsQ T rt M)
    · have eT : fitT (rhsQ T rt M) = (((rhsQ T rt M).num, (((rhsQ T rt M).den : Nat) : Int), ()), 0, ()) := by unfold fitT; rw [if_pos hft]
      rw [eT] at Y ⊢
      refine br_f rfl ?_
      refine drw_mk fun w39 h3' _ => ?_
      have hw3 := hw2.trans h3'
      refine rd_boxN (Y.up h3') (by kernel_rfl) rfl ?_
      refine wu_box (Z.up hw3) (by kernel_rfl) (Nat.le_refl 2) rfl fun w41 Z' hg _ => ?_
      have hE := combE_0 p1 p2 p3 ⟨hq, hft⟩
      refine rd_boxV Z' (by kernel_rfl) rfl ⟨(((a.1, a.2.1, a.2.2), ((rhsQ T rt M).num, (((rhsQ T rt M).den : Nat) : Int), ()), 0, ()) : CT), rfl, ⟨hE.symm, fun _ => ⟨?_, rfl⟩, fun q => absurd hE q⟩, (h.trans hw3).grownAt hg hne⟩
      dsimp only
      rw [ha]
      refine ((O.kept ((h1'.trans h2').trans h3')).keptBy hg ?_).sl
      cases hb' : blk a.1 with
      | none => exact .inl rfl
      | some k => exact .inr fun q => by have := (O.lt k hb').1; injection q; omega
    · have eT : fitT (rhsQ T rt M) = ((0, 0, ()), 8, ()) := by unfold fitT; rw [if_neg hft]
      rw [eT]
      exact br_t rfl (bad rfl (h.trans hw2) (Z.up hw2) (combE_4 p1 p2 p3 fun q => hft q.2) (by decide))

/-! ### lattices -/
structure LatP (up : List Int) (T : List (List Int)) (rt : List Int) (M : List (Int × Int)) : Prop where
  ok : combE up T rt M = 0
  whole : ∀ p ∈ cols up T M up.length, p.2 = 1
  part : (((rhsQ T rt M).den : Nat) : Int) ≠ 1
theorem lat11 (u r b m : Hdr) (up : List Int) (T : List (List Int)) (rt : List Int) (M : List (Int × Int)) (w : World) (H : Sys w u r b up T rt) (HM : Sl w m.1 m.2.1 m.2.2 2 (M.flatMap encF)) (hI : ∀ p ∈ M, I64 p.1 ∧ I64 p.2) :
    call Tryz.prog 54 [sysv u r b, .slice m.1 m.2.1 m.2.2] (.one (.one .bool)) w (fun x w' => (x = true ↔ LatP up T rt M) ∧ bel w w') := by
  refine call_of (S54_calls u.1 u.2.1 u.2.2 r.1 r.2.1 r.2.2 b.1 b.2.1 b.2.2 m.1 m.2.1 m.2.2 w _ ?_)
  unfold S54
  refine wr_box fun x1 w2 X h _ _ => ?_
  replace X : Box w2 x1 (sysc u r b) := X
  refine rd_boxN X (by kernel_rfl) rfl ?_
  refine call_mono (combR11 u r b m up T rt M w2 (H.up h) (HM.up h) hI) ?_
  rintro (x4 : CT) w5 ⟨⟨q1, q2, q3⟩, h'⟩
  replace h := h.trans h'
  refine boxF fun x6 w8 h2' Y _ => ?_
  replace h := h.trans h2'
  refine br_ne (fun e => ⟨false, rfl, ⟨fun c => (Bool.noConfusion c), fun s => absurd (q1.trans s.ok) e⟩, h⟩) (fun e => ?_)
  obtain ⟨g1, g2⟩ := q2 (q1.symm.trans e)
  have g3 : x4.2.1.2.1 = (((rhsQ T rt M).den : Nat) : Int) := by rw [g2]
  have hl := fr_len g1
  have kl := g1.le
  replace g1 := g1.up h2'
  refine loop_up x4.1.2.1 (fun i w' => bel w8 w' ∧ ∀ j, j < i → ∀ p, (cols up T M up.length)[j]? = some p → p.2 = 1) ⟨bel.refl _, pre_zero⟩ fun i w11 hi ⟨hw, hq⟩ again hag _ => ?_
  refine br_dec (fun e2 => ?_) (fun e2 => ?_)
  · dsimp only at e2
    obtain ⟨p, hp⟩ : ∃ p, (cols up T M up.length)[i]? = some p := ⟨_, List.getElem?_eq_getElem (by omega)⟩
    refine idx_agg tyFracs encF_len (by omega) (g1.up hw) rfl hp fun ad had => ?_
    refine rd_cell (by kernel_rfl) (had 1 _ rfl) rfl ?_
    refine br_ne (fun e3 => ⟨false, rfl, ⟨fun c => (Bool.noConfusion c), fun s => absurd (s.whole p (mem_at hp)) e3⟩, h.trans hw⟩) (fun e3 => ?_)
    refine z_i64 (by dsimp only; omega) ?_
    exact hag _ (by omega) ⟨hw, pre_step hq hp e3⟩
  · dsimp only at e2
    refine rd_box (by kernel_rfl) (Y.up hw) (i := 1) rfl rfl ?_
    refine ⟨_, rfl, ⟨fun c => ⟨q1.symm.trans e, pre_all hq (by omega), fun q => ?_⟩, fun s => ?_⟩, h.trans hw⟩
    · have : x4.2.1.2.1 = 1 := g3.trans q
      simp [this] at c
    · have := s.part
      rw [← g3] at this
      exact bne_iff_ne.2 this
end Go.Proofs.YtajpdnphamomjaaGreat
