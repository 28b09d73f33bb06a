/- Closed facts of the row, each by itself (the kernel reckons them). -/
import Derived.Test.YtcfghfmlfgaeaaaGreatDoorRows
import Derived.Test.YtcfghfmlfgaeaaaGreatDoorCards
import Derived.ProofKit
import Derived.SevenTiedAt
import Derived.JoinedOf
namespace Go.Proofs.YtcfghfmlfgaeaaaGreatDoor.topPrivate
open Go
set_option maxRecDepth 100000

theorem and_i {a b : Bool} (ha : a = true) (hb : b = true) : (a && b) = true := by rw [ha, hb]; rfl
theorem fNamed : Tryz.pinned.checked.prog.funcNamed Rows.topPrivateRow.func = some 3 := by kernel_rfl
theorem cInPlace : (Rows.topPrivateRow.inPlace == Tryz.pinned.checked.prog.inPlace 3) = true := by kernel_rfl
theorem cUnf : (Rows.topPrivateRow.unfollowed == Tryz.pinned.checked.prog.unfollowed 3) = true := by kernel_rfl
theorem cRec : (Rows.topPrivateRow.recurses == Tryz.pinned.checked.prog.recurses 3) = true := by kernel_rfl
theorem cNamed : (Rows.topPrivateRow.named == Tryz.pinned.checked.prog.varsNamed 3) = true := by kernel_rfl
set_option maxHeartbeats 40000000 in
theorem closed : joinedFacts Tryz.pinned.checked.prog 3 Tryz.f3 Rows.topPrivateSpec Rows.topPrivateRow = true := by
  unfold joinedFacts
  exact and_i (and_i (and_i (and_i (and_i (and_i (and_i (and_i (and_i (and_i (and_i (and_i (and_i (and_i (and_i (and_i (and_i (and_i (and_i (and_i (and_i (and_i (and_i (and_i (and_i (and_i (and_i (and_i (and_i (and_i (and_i (by as_aux_lemma => kernel_rfl) (by as_aux_lemma => kernel_rfl)) (by as_aux_lemma => kernel_rfl)) (by as_aux_lemma => kernel_rfl)) (by as_aux_lemma => kernel_rfl)) (by as_aux_lemma => kernel_rfl)) (by as_aux_lemma => kernel_rfl)) (by as_aux_lemma => kernel_rfl)) (by as_aux_lemma => kernel_rfl)) cInPlace) cUnf) cRec) cNamed) (by as_aux_lemma => kernel_rfl)) (by as_aux_lemma => kernel_rfl)) (by as_aux_lemma => kernel_rfl)) (by as_aux_lemma => kernel_rfl)) (by as_aux_lemma => kernel_rfl)) (by as_aux_lemma => kernel_rfl)) (by as_aux_lemma => kernel_rfl)) (by as_aux_lemma => kernel_rfl)) (by as_aux_lemma => kernel_rfl)) (by as_aux_lemma => kernel_rfl)) (by as_aux_lemma => kernel_rfl)) (by as_aux_lemma => kernel_rfl)) (by as_aux_lemma => kernel_rfl)) (by as_aux_lemma => kernel_rfl)) (by as_aux_lemma => kernel_rfl)) (by as_aux_lemma => kernel_rfl)) (by as_aux_lemma => kernel_rfl)) (by as_aux_lemma => kernel_rfl)) (by as_aux_lemma => kernel_rfl)
theorem inst : Tryz.f3.isInstance Tryz.pinned.checked.prog Rows.topPrivateRow.origin Rows.topPrivateRow.targs := of_decide_eq_true (by kernel_rfl)
theorem wrap : Tryz.f3.isWrapper Tryz.pinned.checked.prog Rows.topPrivateRow.wrapper Rows.topPrivateRow.mainSum := by
  unfold Func.isWrapper
  first
    | (rw [if_pos (by decide +kernel)]; kernel_rfl)
    | (rw [if_neg (by decide +kernel)]; exact ⟨rfl, rfl⟩)
theorem wfT : Rows.topPrivateRow.wfByText (OpenSpec.ofChange Rows.topPrivateSpec) = true := by kernel_rfl
theorem goesT : false = Rows.topPrivateRow.goesBy Tryz.pinned.checked.prog := by kernel_rfl
theorem mainT : Tryz.pinned.checked.prog.mainIs = some (Rows.topPrivateCard.stood.harness.1, Rows.topPrivateCard.stood.harness.2.toList) := by kernel_rfl
theorem looksT : false = Tryz.pinned.checked.prog.looks [] := by kernel_rfl
theorem own : ownKnob Tryz.prog.godebug = none := by kernel_rfl
theorem laidOut : laidOutB Tryz.prog = true := by kernel_rfl
theorem noInit : Tryz.prog.inits.idxOf? 3 = none := by kernel_rfl
end Go.Proofs.YtcfghfmlfgaeaaaGreatDoor.topPrivate
