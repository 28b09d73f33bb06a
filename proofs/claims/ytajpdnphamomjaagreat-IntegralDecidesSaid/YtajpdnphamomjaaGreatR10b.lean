/- Numbers of any size of the reference of layer 10: plus, minus. -/
import Derived.Test.YtajpdnphamomjaaGreatR10a
import Derived.Test.YtajpdnphamomjaaGreatNumB
import Derived.Deep.LoopGhost
namespace Go.Proofs.YtajpdnphamomjaaGreat
open Go.RowKit Go.Q Go.Q.Num

theorem infoU64 : (Tryz.prog.info? 108).map (fun i => (i.zero, i.size, i.bytes)) = some (some (.int .u64 0), 1, 8) := by kernel_rfl

theorem NumAt.len_le {B : Nat} (hB : 1 < B) {k : IntKind} {w : World} {a : Option Addr} {n c v : Nat} (h : NumAt B k w a n c v) {L : Nat} (hv : v < B ^ L) : n ≤ L := by
  obtain ⟨l, h1, h2, h3⟩ := h
  have := h2.len_le hB (L := L) (by omega)
  have := h1.nat
  omega
theorem NumAt.lt {B : Nat} (hB : 1 < B) {k : IntKind} {w : World} {a : Option Addr} {n c v : Nat} (h : NumAt B k w a n c v) : v < B ^ n := by
  obtain ⟨l, h1, h2, h3⟩ := h
  have := val_lt (by omega) h2.low
  rw [h3, h1.nat] at this
  exact this

def Plus10 (w : World) (B0 k : Nat) (la lb : List Nat) (v c : Value) (wr : World) : Prop :=
  ∃ (oa : Option Addr) (oc cc : Nat) (out : List Nat), v = .slice oa k oc ∧ c = .int .u64 (cc : Int) ∧ cc ≤ 1 ∧ Own wr B0 108 1 oa k oc (nats .u64 out) ∧
    Low 1000000000 out ∧ val 1000000000 out + 1000000000 ^ k * cc = val 1000000000 (la.take k) + val 1000000000 (lb.take k) ∧ Below B0 w wr ∧ B0 ≤ wr.heap.size

/-- what a round of plus hands on -/
theorem plus_rel {w w' : World} {B0 k : Nat} {la lb out : List Nat} {oa' : Option Addr} {oc' cc t : Nat} {u : Int} {c' : Value} (hown : Own w' B0 108 1 oa' (k + 1) oc' (nats .u64 out ++ [.int .u64 u]))
    (hl : Low 1000000000 out) (hlen : out.length = k) (hv : val 1000000000 out + 1000000000 ^ k * cc = val 1000000000 (la.take k) + val 1000000000 (lb.take k)) (hcc : cc ≤ 1)
    (hla : Low 1000000000 la) (hlb : Low 1000000000 lb) (ht : t = cc + dg la k + dg lb k) (hu : u = ((t % 1000000000 : Nat) : Int)) (hc : c' = .int .u64 ((t / 1000000000 : Nat) : Int)) (hb : Below B0 w w') (hB : B0 ≤ w'.heap.size) :
    Plus10 w B0 (k + 1) la lb (.slice oa' (k + 1) oc') c' w' := by
  have h1 := hla.dg (by omega) k
  have h2 := hlb.dg (by omega) k
  subst ht hu hc
  refine ⟨oa', oc', (cc + dg la k + dg lb k) / 1000000000, out ++ [(cc + dg la k + dg lb k) % 1000000000], rfl, rfl, by omega, ?_, hl.snoc (Nat.mod_lt _ (by omega)), plus_step hlen hv, hb, hB⟩
  rw [nats_app]; exact hown

set_option maxHeartbeats 800000 in
theorem plus10 (a b : Option Addr) (n m ca cb x y : Nat) (w : World) (ha : NumAt 1000000000 .u64 w a n ca x) (hb : NumAt 1000000000 .u64 w b m cb y) (hn : n ≤ 1000000000000) (hm : m ≤ 1000000000000) :
    Calls Tryz.prog 75 #[.slice a n ca, .slice b m cb] w (QNum 1000000000 .u64 (x + y) (max n m + 1) w) := by
  obtain ⟨la, hs, hl, hx⟩ := ha
  obtain ⟨lb, hs', hl', hy⟩ := hb
  have HL := Lib.hid hs.nat
  have HL' := Lib.hid hs'.nat
  have HX := Lib.hid hx
  have HY := Lib.hid hy
  have HD := Lib.hid hl
  have HD' := Lib.hid hl'
  obtain ⟨B0, hB⟩ : ∃ B0, B0 = w.heap.size := ⟨_, rfl⟩
  have hb0 : Below B0 w w := Below.refl _ _
  have hB' : B0 ≤ w.heap.size := by omega
  have HB := Lib.hid hB
  obtain ⟨N, hN⟩ : ∃ N, N = max n m := ⟨_, rfl⟩
  have HN := Lib.hid hN
  have hnN : n ≤ N := by omega
  have hmN : m ≤ N := by omega
  have hN9 : N ≤ 1000000000000 := by omega
  clear hx hy hl hl' hB hN
  go_enter Tryz.func75, Tryz.ntmps75
  go_wp2
  go_loopg [5, 6, 7] N (fun g v c i wr => ∃ k : Nat, g = N - k ∧ k ≤ N ∧ i = .int .i64 k ∧ Plus10 w B0 k la lb v c wr)
  case atStart => exact ⟨0, by omega, by omega, rfl, none, 0, 0, [], rfl, rfl, by omega, Own.nil _ _ _ _, Low.nil _, by simp [val], hb0, hB'⟩
  case round =>
    obtain ⟨k, hg, hk, rfl, oa, oc, cc, out, rfl, rfl, hcc, hown, hlow, hv, hbel, hBr⟩ := hrel
    have HG := Lib.hid hg
    have HV := Lib.hid hv
    have HW := Lib.hid hlow
    have HO : Hid (out.length = k) := by have := hown.1; rw [nats_len, Nat.mul_one] at this; exact this
    clear hg hv hlow
    by_cases hkn : k < n
    · obtain ⟨ad, p, rfl, h1, hp, _⟩ := (hs.below hbel (by rw [HB.out]; exact hs.lt)).getn hkn
      have hp9 : p < 1000000000 := HD.out.low.get hp.out
      by_cases hkm : k < m
      · obtain ⟨bd, q, rfl, h2, hq, _⟩ := (hs'.below hbel (by rw [HB.out]; exact hs'.lt)).getn hkm
        have hq9 : q < 1000000000 := HD'.out.low.get hq.out
        go_wp2_with (at_builtin; refine app1 81 108 (.int .u64 0) 1 8 Tryz.underlying81 infoU64 rfl (by decide) (by decide) rfl _ _ rfl B0 _ _ _ _ hown hbel hBr rfl rfl rfl (by simp [Value.oneCell']) (by omega) ?_)
        intro a' c' w1 hap hb1 hB1
        go_wp2
        go_roundg (N - (k + 1))
        case measure => have := HG.out; omega
        case rel => exact ⟨k + 1, rfl, by omega, by go_num, plus_rel hap.own HW.out HO.out HV.out hcc HD.out.low HD'.out.low (t := cc + p + q) (by rw [dg_some hp.out, dg_some hq.out]) (by simp) (by simp) hb1 hB1⟩
      · go_wp2_with (at_builtin; refine app1 81 108 (.int .u64 0) 1 8 Tryz.underlying81 infoU64 rfl (by decide) (by decide) rfl _ _ rfl B0 _ _ _ _ hown hbel hBr rfl rfl rfl (by simp [Value.oneCell']) (by omega) ?_)
        intro a' c' w1 hap hb1 hB1
        go_wp2
        go_roundg (N - (k + 1))
        case measure => have := HG.out; omega
        case rel => exact ⟨k + 1, rfl, by omega, by go_num, plus_rel hap.own HW.out HO.out HV.out hcc HD.out.low HD'.out.low (t := cc + p) (by rw [dg_some hp.out, dg_none (by rw [HL'.out]; omega)]; omega) (by simp) (by simp) hb1 hB1⟩
    · by_cases hkm : k < m
      · obtain ⟨bd, q, rfl, h2, hq, _⟩ := (hs'.below hbel (by rw [HB.out]; exact hs'.lt)).getn hkm
        have hq9 : q < 1000000000 := HD'.out.low.get hq.out
        go_wp2_with (at_builtin; refine app1 81 108 (.int .u64 0) 1 8 Tryz.underlying81 infoU64 rfl (by decide) (by decide) rfl _ _ rfl B0 _ _ _ _ hown hbel hBr rfl rfl rfl (by simp [Value.oneCell']) (by omega) ?_)
        intro a' c' w1 hap hb1 hB1
        go_wp2
        go_roundg (N - (k + 1))
        case measure => have := HG.out; omega
        case rel => exact ⟨k + 1, rfl, by omega, by go_num, plus_rel hap.own HW.out HO.out HV.out hcc HD.out.low HD'.out.low (t := cc + q) (by rw [dg_some hq.out, dg_none (by rw [HL.out]; omega)]; omega) (by simp) (by simp) hb1 hB1⟩
      · have HF : Hid (val 1000000000 (out ++ [cc]) = x + y ∧ Low 1000000000 (out ++ [cc])) := by
          refine ⟨?_, HW.out.snoc (by omega)⟩
          have h := HV.out
          rw [List.take_of_length_le (by rw [HL.out]; omega), List.take_of_length_le (by rw [HL'.out]; omega), HX.out, HY.out] at h
          rw [val_snoc, HO.out]; exact h
        go_wp2_with (at_builtin; refine app1 81 108 (.int .u64 0) 1 8 Tryz.underlying81 infoU64 rfl (by decide) (by decide) rfl _ _ rfl B0 _ _ _ _ hown hbel hBr rfl rfl rfl (by simp [Value.oneCell']) (by omega) ?_)
        intro a' c' w1 hap hb1 hB1
        have hsl : Sl w1 a' (k + 1) c' 1 (nats .u64 (out ++ [cc])) := by rw [nats_app]; exact hap.own.sl
        go_wp2_with fail
        refine (trim10 1000000000 _ _ _ _ _ hsl HF.out.2).mono ?_
        rintro e w2 ⟨n', rfl, hnum, hn', hd⟩
        rw [HF.out.1] at hnum
        go_wp2
        go_ret
        exact ⟨_, n', c', rfl, hnum, by have := HN.out; omega, by rw [← HB.out]; exact Below.dr hb1 hd, hap.own.fr HB.out⟩
end Go.Proofs.YtajpdnphamomjaaGreat
