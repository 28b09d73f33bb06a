/-
  No cell of these rows narrows 'for every input' (looked for: loops, veiled, ifaces, maps, wideKeys, modest, calm, conditions, laid).
  DERIVED. THE GIVEN ROWS OF THIS SEAT. 5 by the template 'for every input the law returns true; each argument reads behind the call as it read before'; 0 by the template 'total and deterministic' (their statements: YtalagcggmbeddaaTotals.lean).
  GIVEN WITH THE SEED: the statements are not yours to turn. If you find one false, say at which input.
  Laid BY PROGRAM, IN A SANDBOX (cutbox-rows.mjs): the forced cells as the released guide's own fill.sh prints them over the translation 14774be1c699137d… (all of the seat's roots in one cut). By AI agents, Wed Nov 11 2026. No macro, syntax, notation, axiom, sorry.
-/
import Derived.Test.YtalagcggmbeddaaChecked
import GoSem.Claim
import GoSem.ClaimJoined
import GoSem.ClaimMapViews
import Derived.JoinedTies
import Derived.KernelRfl
namespace Go.Proofs.Ytalagcggmbeddaa
/- THE CELL 'sum', in the pinned program and in every row, IS THE sha256 OF THE DUMP (.gsa) THAT YtalagcggmbeddaaProg.lean LOADS. Nothing in Lean hashes anything: it is a label: what it is worth is what the hold of that sum in a sandbox is worth. -/
noncomputable def Try.pinned : Pinned := { name := "ytalagcggmbeddaa", sum := "14774be1c699137d03290a7c705d9121cee012a97233c189cf73c53a589b5b7d", checked := Try.checked }
namespace Rows
def none {H : Type} : Left H := { results := [], args := [] }

/-- 'querylablaw07.BagTells': WHATEVER THE INPUT: true; the input reads as it did. -/
def bagTellsSpec : ChangeSpec := { name := "bagTells", fn := fun _ => fun
  | [d1, d2] => { results := [.lit (.bool true)], args := [d1, d2] }
  | _ => none }
def bagTellsRow : OpenClaim := { program := "ytalagcggmbeddaa", sum := "14774be1c699137d03290a7c705d9121cee012a97233c189cf73c53a589b5b7d", func := "querylab/querylablaw07.BagTells", spec := "bagTells", unfollowed := true, recurses := true, apart := false }
def BagTellsSaid : Prop := bagTellsRow.holds Try.pinned (OpenSpec.ofChange bagTellsSpec)

/-- ITS FALSE NEIGHBOUR: 'it returns false'. Refute it at one input. -/
def bagTellsWrong : ChangeSpec := { name := "bagTells", fn := fun _ => fun
  | [d1, d2] => { results := [.lit (.bool false)], args := [d1, d2] }
  | _ => none }
def BagTellsWrongFalsely : Prop := bagTellsRow.holds Try.pinned (OpenSpec.ofChange bagTellsWrong)

/-- 'querylablaw07.BagOrders': WHATEVER THE INPUT: true; the input reads as it did. -/
def bagOrdersSpec : ChangeSpec := { name := "bagOrders", fn := fun _ => fun
  | [d1, d2] => { results := [.lit (.bool true)], args := [d1, d2] }
  | _ => none }
def bagOrdersRow : OpenClaim := { program := "ytalagcggmbeddaa", sum := "14774be1c699137d03290a7c705d9121cee012a97233c189cf73c53a589b5b7d", func := "querylab/querylablaw07.BagOrders", spec := "bagOrders", unfollowed := true, recurses := true, apart := false }
def BagOrdersSaid : Prop := bagOrdersRow.holds Try.pinned (OpenSpec.ofChange bagOrdersSpec)

/-- ITS FALSE NEIGHBOUR: 'it returns false'. Refute it at one input. -/
def bagOrdersWrong : ChangeSpec := { name := "bagOrders", fn := fun _ => fun
  | [d1, d2] => { results := [.lit (.bool false)], args := [d1, d2] }
  | _ => none }
def BagOrdersWrongFalsely : Prop := bagOrdersRow.holds Try.pinned (OpenSpec.ofChange bagOrdersWrong)

/-- 'querylablaw07.BagCounts': WHATEVER THE INPUT: true; the input reads as it did. -/
def bagCountsSpec : ChangeSpec := { name := "bagCounts", fn := fun _ => fun
  | [d1, d2, d3] => { results := [.lit (.bool true)], args := [d1, d2, d3] }
  | _ => none }
def bagCountsRow : OpenClaim := { program := "ytalagcggmbeddaa", sum := "14774be1c699137d03290a7c705d9121cee012a97233c189cf73c53a589b5b7d", func := "querylab/querylablaw07.BagCounts", spec := "bagCounts", unfollowed := true, recurses := true, apart := false }
def BagCountsSaid : Prop := bagCountsRow.holds Try.pinned (OpenSpec.ofChange bagCountsSpec)

/-- ITS FALSE NEIGHBOUR: 'it returns false'. Refute it at one input. -/
def bagCountsWrong : ChangeSpec := { name := "bagCounts", fn := fun _ => fun
  | [d1, d2, d3] => { results := [.lit (.bool false)], args := [d1, d2, d3] }
  | _ => none }
def BagCountsWrongFalsely : Prop := bagCountsRow.holds Try.pinned (OpenSpec.ofChange bagCountsWrong)

/-- 'querylablaw07.BagLaws': WHATEVER THE INPUT: true; the input reads as it did. -/
def bagLawsSpec : ChangeSpec := { name := "bagLaws", fn := fun _ => fun
  | [d1, d2] => { results := [.lit (.bool true)], args := [d1, d2] }
  | _ => none }
def bagLawsRow : OpenClaim := { program := "ytalagcggmbeddaa", sum := "14774be1c699137d03290a7c705d9121cee012a97233c189cf73c53a589b5b7d", func := "querylab/querylablaw07.BagLaws", spec := "bagLaws", unfollowed := true, recurses := true, apart := false }
def BagLawsSaid : Prop := bagLawsRow.holds Try.pinned (OpenSpec.ofChange bagLawsSpec)

/-- ITS FALSE NEIGHBOUR: 'it returns false'. Refute it at one input. -/
def bagLawsWrong : ChangeSpec := { name := "bagLaws", fn := fun _ => fun
  | [d1, d2] => { results := [.lit (.bool false)], args := [d1, d2] }
  | _ => none }
def BagLawsWrongFalsely : Prop := bagLawsRow.holds Try.pinned (OpenSpec.ofChange bagLawsWrong)

/-- 'querylablaw07.BagExact': WHATEVER THE INPUT: true; the input reads as it did. -/
def bagExactSpec : ChangeSpec := { name := "bagExact", fn := fun _ => fun
  | [d1, d2, d3] => { results := [.lit (.bool true)], args := [d1, d2, d3] }
  | _ => none }
def bagExactRow : OpenClaim := { program := "ytalagcggmbeddaa", sum := "14774be1c699137d03290a7c705d9121cee012a97233c189cf73c53a589b5b7d", func := "querylab/querylablaw07.BagExact", spec := "bagExact", unfollowed := true, recurses := true, apart := false }
def BagExactSaid : Prop := bagExactRow.holds Try.pinned (OpenSpec.ofChange bagExactSpec)

/-- ITS FALSE NEIGHBOUR: 'it returns false'. Refute it at one input. -/
def bagExactWrong : ChangeSpec := { name := "bagExact", fn := fun _ => fun
  | [d1, d2, d3] => { results := [.lit (.bool false)], args := [d1, d2, d3] }
  | _ => none }
def BagExactWrongFalsely : Prop := bagExactRow.holds Try.pinned (OpenSpec.ofChange bagExactWrong)

/- THE SECOND FORM. 'bulk': how many values and letters a reading holds, each counted each time it is reached (what is shared counts as often as it is met; a slice's spare places count too). A statement '..UptoSaid' is the law's where the arguments, and the package variables that the reading takes, are together of bulk at most 1048576: NARROWER than '..Said'. Prove '..Said' where nothing that the law and all that it calls make is longer than what came in: it says more and counts as full. Else prove '..UptoSaid'. A law counts once. -/
mutual
def uptoBulk {H : Type} : DataW H → Nat
  | .lit (.string bytes) => bytes.length + 1
  | .lit _ => 1
  | .nil => 1
  | .ptr d => uptoBulk d + 1
  | .slice elems spare => uptoBulkAll elems + uptoBulkAll spare + 1
  | .agg parts => uptoBulkAll parts + 1
  | .iface _ d => uptoBulk d + 1
  | .map entries => uptoBulkEntries entries + 1
  | .held _ => 1
def uptoBulkAll {H : Type} : List (DataW H) → Nat
  | [] => 0
  | d :: r => uptoBulk d + uptoBulkAll r
def uptoBulkEntries {H : Type} : List (Lit × DataW H) → Nat
  | [] => 0
  | x :: r => uptoBulkEntry x + uptoBulkEntries r
def uptoBulkEntry {H : Type} : Lit × DataW H → Nat
  | (.string bytes, d) => bytes.length + uptoBulk d + 1
  | (_, d) => uptoBulk d + 1
 end
def uptoSmall : (H : Type) → List (DataW H) → Bool := fun _ ds => decide (uptoBulkAll ds ≤ 1048576)
def OpenSpec.upto (s : _root_.Go.ChangeSpec) : _root_.Go.OpenSpec := { _root_.Go.OpenSpec.ofChange s with cond := some uptoSmall }

/-- 'querylablaw07.BagTells', WHERE WHAT IT READS IS OF BULK AT MOST 1048576: true; the input reads as it did. -/
def bagTellsUptoRow : OpenClaim := { program := "ytalagcggmbeddaa", sum := "14774be1c699137d03290a7c705d9121cee012a97233c189cf73c53a589b5b7d", func := "querylab/querylablaw07.BagTells", spec := "bagTells", unfollowed := true, recurses := true, apart := false, narrowed := true }
def BagTellsUptoSaid : Prop := bagTellsUptoRow.holds Try.pinned (OpenSpec.upto bagTellsSpec)

/-- 'querylablaw07.BagOrders', WHERE WHAT IT READS IS OF BULK AT MOST 1048576: true; the input reads as it did. -/
def bagOrdersUptoRow : OpenClaim := { program := "ytalagcggmbeddaa", sum := "14774be1c699137d03290a7c705d9121cee012a97233c189cf73c53a589b5b7d", func := "querylab/querylablaw07.BagOrders", spec := "bagOrders", unfollowed := true, recurses := true, apart := false, narrowed := true }
def BagOrdersUptoSaid : Prop := bagOrdersUptoRow.holds Try.pinned (OpenSpec.upto bagOrdersSpec)

/-- 'querylablaw07.BagCounts', WHERE WHAT IT READS IS OF BULK AT MOST 1048576: true; the input reads as it did. -/
def bagCountsUptoRow : OpenClaim := { program := "ytalagcggmbeddaa", sum := "14774be1c699137d03290a7c705d9121cee012a97233c189cf73c53a589b5b7d", func := "querylab/querylablaw07.BagCounts", spec := "bagCounts", unfollowed := true, recurses := true, apart := false, narrowed := true }
def BagCountsUptoSaid : Prop := bagCountsUptoRow.holds Try.pinned (OpenSpec.upto bagCountsSpec)

/-- 'querylablaw07.BagLaws', WHERE WHAT IT READS IS OF BULK AT MOST 1048576: true; the input reads as it did. -/
def bagLawsUptoRow : OpenClaim := { program := "ytalagcggmbeddaa", sum := "14774be1c699137d03290a7c705d9121cee012a97233c189cf73c53a589b5b7d", func := "querylab/querylablaw07.BagLaws", spec := "bagLaws", unfollowed := true, recurses := true, apart := false, narrowed := true }
def BagLawsUptoSaid : Prop := bagLawsUptoRow.holds Try.pinned (OpenSpec.upto bagLawsSpec)

/-- 'querylablaw07.BagExact', WHERE WHAT IT READS IS OF BULK AT MOST 1048576: true; the input reads as it did. -/
def bagExactUptoRow : OpenClaim := { program := "ytalagcggmbeddaa", sum := "14774be1c699137d03290a7c705d9121cee012a97233c189cf73c53a589b5b7d", func := "querylab/querylablaw07.BagExact", spec := "bagExact", unfollowed := true, recurses := true, apart := false, narrowed := true }
def BagExactUptoSaid : Prop := bagExactUptoRow.holds Try.pinned (OpenSpec.upto bagExactSpec)

end Rows
end Go.Proofs.Ytalagcggmbeddaa
