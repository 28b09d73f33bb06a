/- Transactions that run step by step, as plain functions: the model of the walk. -/
namespace Go.Proofs.Sc

structure Sp where
  kind : Nat
  key : Nat
  val : Int
structure Wr where
  v : Int
  t : Nat
  c : Nat
structure Lk where
  k : Nat
  x : Bool
structure Ev where
  kind : Nat
  t : Nat
  key : Nat
  val : Int
  fr : Int
structure Tx where
  steps : List Sp
  at_ : Nat
  begun : Bool
  ended : Bool
  snap : Nat
  wants : Option Lk
  sh : Nat → Bool
  ex : Nat → Bool
structure St where
  tx : Nat → Tx
  ver : Nat → List Wr
  ev : List Ev

def upd {α : Type} (f : Nat → α) (i : Nat) (v : α) : Nat → α := fun j => if j = i then v else f j
theorem upd_same {α : Type} (f : Nat → α) (i : Nat) (v : α) : upd f i v i = v := by simp [upd]
theorem upd_ne {α : Type} (f : Nat → α) {i j : Nat} (v : α) (h : j ≠ i) : upd f i v j = f j := by simp [upd, h]
def clm (n : Int) : Int := min (max n (-1000000000)) 1000000000

def blocks (x : Tx) (l : Lk) : Bool := !x.ended && (x.ex l.k || (l.x && x.sh l.k))
def others (n : Nat) (s : St) (t : Nat) (l : Lk) : List Nat := (List.range n).filter fun i => i != t && blocks (s.tx i) l
def bfs (n : Nat) (s : St) (t : Nat) : Nat → (Nat → Bool) → List Nat → Bool
  | 0, _, _ => false
  | _ + 1, _, [] => false
  | f + 1, seen, i :: q =>
    match (s.tx i).ended, (s.tx i).wants with
    | false, some l =>
      if (others n s i l).contains t then true
      else bfs n s t f (fun j => seen j || (others n s i l).contains j) (q ++ (others n s i l).filter (fun j => !seen j))
    | _, _ => bfs n s t f seen q
def waits (n : Nat) (s : St) (t : Nat) : Bool := bfs n s t (n + 1) (fun _ => false) [t]

def setT (s : St) (t : Nat) (x : Tx) : St := { s with tx := upd s.tx t x }
def noteE (s : St) (e : Ev) : St := { s with ev := s.ev ++ [e] }
def endT (s : St) (t : Nat) : St := setT s t { s.tx t with ended := true }
def abortT (s : St) (t : Nat) : St := { tx := (endT s t).tx, ver := fun k => (s.ver k).filter (fun w => w.t != t), ev := s.ev ++ [⟨4, t, 0, 0, 0⟩] }
def insAt (l : List Wr) : Nat := l.length - (l.reverse.takeWhile (fun w => w.c == 0)).length
def restR (t : Nat) (l : List Wr) : List Wr := l.filter (fun w => w.t != t)
def ownR (c t : Nat) (l : List Wr) : List Wr := (l.filter (fun w => w.t == t)).map (fun w => ⟨w.v, w.t, c⟩)
def commitR (c t : Nat) (l : List Wr) : List Wr := (restR t l).take (insAt (restR t l)) ++ ownR c t l ++ (restR t l).drop (insAt (restR t l))
def commitT (s : St) (t : Nat) : St := { tx := (endT s t).tx, ver := fun k => commitR (s.ev.length + 1) t (s.ver k), ev := s.ev ++ [⟨3, t, 0, 0, 0⟩] }
def confl (K : Nat) (s : St) (t : Nat) : Bool :=
  (List.range K).any fun k => (s.ver k).any (fun w => w.t == t) && (s.ver k).any (fun w => w.t != t && decide ((s.tx t).snap < w.c))
def pickR (lev t snap : Nat) (b : Int × Int) (w : Wr) : Int × Int :=
  if w.t = t ∨ lev = 3 then (w.v, (w.t : Int)) else if b.2 = (t : Int) then b else if 0 < w.c ∧ (lev = 1 ∨ w.c ≤ snap) then (w.v, (w.t : Int)) else b
def readV (lev : Nat) (start : Nat → Int) (s : St) (t k : Nat) : Int × Int := (s.ver k).foldl (pickR lev t (s.tx t).snap) (start k, -1)
def need (lev : Nat) (x : Sp) : Option Lk :=
  if x.kind = 1 then (if lev = 3 then some ⟨x.key, false⟩ else none)
  else if x.kind = 2 ∨ x.kind = 3 then (if lev = 2 then none else some ⟨x.key, true⟩)
  else none
def beginT (s : St) (t : Nat) : St :=
  if (s.tx t).begun then s
  else { tx := upd s.tx t { s.tx t with begun := true, snap := s.ev.length + 1 }, ver := s.ver, ev := s.ev ++ [⟨5, t, 0, 0, 0⟩] }
def takeX (x : Tx) (l : Lk) : Tx := { x with wants := none, ex := if l.x then upd x.ex l.k true else x.ex, sh := if l.x then x.sh else upd x.sh l.k true }
def takeL (s : St) (t : Nat) (l : Lk) : St := setT s t (takeX (s.tx t) l)
def wantL (s : St) (t : Nat) (l : Lk) : St := setT s t { s.tx t with wants := some l }
def putW (s : St) (t k : Nat) (v : Int) : St := { tx := s.tx, ver := upd s.ver k (s.ver k ++ [⟨v, t, 0⟩]), ev := s.ev ++ [⟨2, t, k, v, 0⟩] }
def noteR (lev : Nat) (start : Nat → Int) (s : St) (t k : Nat) : St := noteE s ⟨1, t, k, (readV lev start s t k).1, (readV lev start s t k).2⟩
def bump (s : St) (t : Nat) : St := setT s t { s.tx t with at_ := (s.tx t).at_ + 1 }
def doneT (lev K : Nat) (s : St) (t : Nat) : St := if lev = 2 ∧ confl K s t = true then abortT s t else commitT s t
/-- a step, when it has its lock -/
def actT (lev K : Nat) (start : Nat → Int) (s : St) (t : Nat) (p : Sp) : St :=
  if p.kind = 1 then noteR lev start s t p.key
  else if p.kind = 2 then putW s t p.key p.val
  else if p.kind = 3 then putW (noteR lev start s t p.key) t p.key (clm ((readV lev start s t p.key).1 + p.val))
  else if p.kind = 4 then abortT s t
  else if p.kind = 5 then doneT lev K s t
  else s
def stepOf (x : Tx) : Sp := x.steps.getD x.at_ ⟨0, 0, 0⟩
def goT (lev K : Nat) (start : Nat → Int) (s : St) (t : Nat) : St := actT lev K start (bump s t) t (stepOf (s.tx t))
def tryT (lev n K : Nat) (start : Nat → Int) (s : St) (t : Nat) : St :=
  match need lev (stepOf (s.tx t)) with
  | none => goT lev K start s t
  | some l =>
    if others n s t l = [] then goT lev K start (takeL s t l) t
    else if waits n (wantL s t l) t = true then abortT (wantL s t l) t else wantL s t l
def turnT (lev n K : Nat) (start : Nat → Int) (s : St) (t : Nat) : St := tryT lev n K start (beginT s t) t
def turn1 (lev n K : Nat) (start : Nat → Int) (s : St) (t : Int) : St :=
  if 0 ≤ t ∧ t < (n : Int) ∧ (s.tx t.toNat).ended = false then turnT lev n K start s t.toNat else s
def fin1 (s : St) (t : Nat) : St := if (s.tx t).begun = true ∧ (s.tx t).ended = false then abortT s t else s
def tx0 (steps : List Sp) : Tx := ⟨steps, 0, false, false, 0, none, fun _ => false, fun _ => false⟩
def st0 (P : List (List Sp)) : St := ⟨fun t => tx0 (P.getD t []), fun _ => [], []⟩
def wholeP (p : List Sp) : List Sp :=
  match p.getLast? with
  | some x => if x.kind = 4 ∨ x.kind = 5 then p else p ++ [⟨5, 0, 0⟩]
  | none => [⟨5, 0, 0⟩]
def turns (lev n K : Nat) (start : Nat → Int) (s : St) (o : List Int) : St := o.foldl (turn1 lev n K start) s
def runS (lev : Nat) (start : List Int) (P : List (List Sp)) (o : List Int) : St :=
  (List.range P.length).foldl fin1 (turns lev P.length start.length (fun k => start.getD k 0) (st0 (P.map wholeP)) o)

/-! ### what the events say -/
def isEnd (e : Ev) : Bool := e.kind == 3 || e.kind == 4
def endedE (ev : List Ev) (t : Nat) : Bool := ev.any fun e => isEnd e && e.t == t
def isW (k : Nat) (e : Ev) : Bool := e.kind == 2 && e.key == k
def wrs (ev : List Ev) (t k : Nat) : List Int := (ev.filter fun e => isW k e && e.t == t).map (·.val)
def comE (ev : List Ev) (k j : Nat) : List Wr :=
  match ev[j]? with
  | some e => if e.kind = 3 then (wrs (ev.take j) e.t k).map (fun v => ⟨v, e.t, j + 1⟩) else []
  | none => []
def comm (ev : List Ev) (k : Nat) : List Wr := (List.range ev.length).flatMap (comE ev k)
def unc (ev : List Ev) (k : Nat) : List Wr := (ev.filter fun e => isW k e && !endedE ev e.t).map fun e => ⟨e.val, e.t, 0⟩
/-- the last one -/
def lastL (l : List Wr) (d : Int × Int) : Int × Int := l.foldl (fun _ w => (w.v, (w.t : Int))) d
theorem lastL_append (a b : List Wr) (d : Int × Int) : lastL (a ++ b) d = lastL b (lastL a d) := by simp [lastL]

theorem endedE_snoc (ev : List Ev) (e : Ev) (t : Nat) : endedE (ev ++ [e]) t = (endedE ev t || (isEnd e && e.t == t)) := by simp [endedE]
theorem wrs_snoc (ev : List Ev) (e : Ev) (t k : Nat) : wrs (ev ++ [e]) t k = wrs ev t k ++ (if isW k e = true ∧ e.t = t then [e.val] else []) := by
  unfold wrs
  rw [List.filter_append, List.map_append]
  congr 1
  by_cases h : isW k e = true ∧ e.t = t
  · rw [if_pos h, List.filter_cons_of_pos (by simp [h])]; rfl
  · rw [if_neg h, List.filter_cons_of_neg (by simpa using h)]; rfl
theorem comE_snoc {ev : List Ev} {e : Ev} {k j : Nat} (h : j < ev.length) : comE (ev ++ [e]) k j = comE ev k j := by
  unfold comE
  rw [List.getElem?_append_left h, List.take_append_of_le_length (by omega)]
theorem flatMap_congr' {α β : Type} {l : List α} {f g : α → List β} (h : ∀ x ∈ l, f x = g x) : l.flatMap f = l.flatMap g := by
  induction l with
  | nil => rfl
  | cons a l ih => rw [List.flatMap_cons, List.flatMap_cons, h a (by simp), ih fun x hx => h x (by simp [hx])]
theorem comm_snoc (ev : List Ev) (e : Ev) (k : Nat) : comm (ev ++ [e]) k = comm ev k ++ (if e.kind = 3 then (wrs ev e.t k).map (fun v => ⟨v, e.t, ev.length + 1⟩) else []) := by
  unfold comm
  rw [List.length_append, List.length_singleton, List.range_succ, List.flatMap_append]
  congr 1
  · exact flatMap_congr' fun j hj => comE_snoc (List.mem_range.1 hj)
  · rw [List.flatMap_cons, List.flatMap_nil, List.append_nil]
    unfold comE
    rw [List.getElem?_append_right (Nat.le_refl _), Nat.sub_self, List.take_left]
    rfl
theorem unc_snoc_n {ev : List Ev} {e : Ev} (h : isEnd e = false) (k : Nat) : unc (ev ++ [e]) k = unc ev k ++ (if isW k e = true ∧ endedE ev e.t = false then [⟨e.val, e.t, 0⟩] else []) := by
  unfold unc
  have he : ∀ t, endedE (ev ++ [e]) t = endedE ev t := fun t => by rw [endedE_snoc, h]; simp
  simp only [he]
  rw [List.filter_append, List.map_append]
  congr 1
  by_cases h : isW k e = true ∧ endedE ev e.t = false
  · rw [if_pos h, List.filter_cons_of_pos (by simp [h])]; rfl
  · rw [if_neg h, List.filter_cons_of_neg (by simpa using h)]; rfl
theorem isW_end {e : Ev} (h : isEnd e = true) (k : Nat) : isW k e = false := by
  unfold isEnd at h; unfold isW
  simp only [Bool.or_eq_true, beq_iff_eq] at h
  rcases h with h | h <;> rw [h] <;> rfl
theorem unc_snoc_e {ev : List Ev} {e : Ev} (h : isEnd e = true) (k : Nat) : unc (ev ++ [e]) k = (unc ev k).filter (fun w => w.t != e.t) := by
  unfold unc
  rw [List.filter_append, List.filter_cons_of_neg (by rw [isW_end h]; simp), List.filter_nil, List.append_nil, List.filter_map, List.filter_filter]
  congr 1
  refine List.filter_congr fun x _ => ?_
  rw [endedE_snoc, h]
  simp only [Function.comp]
  by_cases hx : x.t = e.t
  · simp [hx]
  · have : (e.t == x.t) = false := by simpa using fun h => hx h.symm
    rw [this]; simp [hx]
end Go.Proofs.Sc
