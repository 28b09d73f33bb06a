/-
  No cell of these rows narrows 'for every input' (looked for: loops, veiled, ifaces, maps, wideKeys, modest, calm, conditions, laid).
  DERIVED. THE GIVEN ROWS OF THIS SEAT. 4 by the template 'for every input the law returns true; each argument reads behind the call as it read before'; 0 by the template 'total and deterministic' (their statements: YtinmlgolbikoeaaTotals.lean).
  GIVEN WITH THE SEED: the statements are not yours to turn. If you find one false, say at which input.
  Laid BY PROGRAM, IN A SANDBOX (cutbox-rows.mjs): the forced cells as the released guide's own fill.sh prints them over the translation 245b83fc7ef20f6f… (all of the seat's roots in one cut). By AI agents, Wed Nov 11 2026. No macro, syntax, notation, axiom, sorry.
-/
import Derived.Test.YtinmlgolbikoeaaChecked
import GoSem.Claim
import GoSem.ClaimJoined
import GoSem.ClaimMapViews
import Derived.JoinedTies
import Derived.KernelRfl
namespace Go.Proofs.Ytinmlgolbikoeaa
/- THE CELL 'sum', in the pinned program and in every row, IS THE sha256 OF THE DUMP (.gsa) THAT YtinmlgolbikoeaaProg.lean LOADS. Nothing in Lean hashes anything: it is a label: what it is worth is what the hold of that sum in a sandbox is worth. -/
noncomputable def Try.pinned : Pinned := { name := "ytinmlgolbikoeaa", sum := "245b83fc7ef20f6fa04395eab8fd948eb6c9c634392d3d90756a5a99669df145", checked := Try.checked }
namespace Rows
def none {H : Type} : Left H := { results := [], args := [] }

/-- 'querylablaw10.FractionOrders': WHATEVER THE INPUT: true; the input reads as it did. -/
def fractionOrdersSpec : ChangeSpec := { name := "fractionOrders", fn := fun _ => fun
  | [d1, d2, d3] => { results := [.lit (.bool true)], args := [d1, d2, d3] }
  | _ => none }
def fractionOrdersRow : OpenClaim := { program := "ytinmlgolbikoeaa", sum := "245b83fc7ef20f6fa04395eab8fd948eb6c9c634392d3d90756a5a99669df145", func := "querylab/querylablaw10.FractionOrders", spec := "fractionOrders", apart := false }
def FractionOrdersSaid : Prop := fractionOrdersRow.holds Try.pinned (OpenSpec.ofChange fractionOrdersSpec)

/-- ITS FALSE NEIGHBOUR: 'it returns false'. Refute it at one input. -/
def fractionOrdersWrong : ChangeSpec := { name := "fractionOrders", fn := fun _ => fun
  | [d1, d2, d3] => { results := [.lit (.bool false)], args := [d1, d2, d3] }
  | _ => none }
def FractionOrdersWrongFalsely : Prop := fractionOrdersRow.holds Try.pinned (OpenSpec.ofChange fractionOrdersWrong)

/-- 'querylablaw10.FractionExact': WHATEVER THE INPUT: true; the input reads as it did. -/
def fractionExactSpec : ChangeSpec := { name := "fractionExact", fn := fun _ => fun
  | [d1, d2] => { results := [.lit (.bool true)], args := [d1, d2] }
  | _ => none }
def fractionExactRow : OpenClaim := { program := "ytinmlgolbikoeaa", sum := "245b83fc7ef20f6fa04395eab8fd948eb6c9c634392d3d90756a5a99669df145", func := "querylab/querylablaw10.FractionExact", spec := "fractionExact", unfollowed := true, recurses := true, apart := false }
def FractionExactSaid : Prop := fractionExactRow.holds Try.pinned (OpenSpec.ofChange fractionExactSpec)

/-- ITS FALSE NEIGHBOUR: 'it returns false'. Refute it at one input. -/
def fractionExactWrong : ChangeSpec := { name := "fractionExact", fn := fun _ => fun
  | [d1, d2] => { results := [.lit (.bool false)], args := [d1, d2] }
  | _ => none }
def FractionExactWrongFalsely : Prop := fractionExactRow.holds Try.pinned (OpenSpec.ofChange fractionExactWrong)

/-- 'querylablaw10.FractionLimits': WHATEVER THE INPUT: true; the input reads as it did. -/
def fractionLimitsSpec : ChangeSpec := { name := "fractionLimits", fn := fun _ => fun
  | [d1, d2] => { results := [.lit (.bool true)], args := [d1, d2] }
  | _ => none }
def fractionLimitsRow : OpenClaim := { program := "ytinmlgolbikoeaa", sum := "245b83fc7ef20f6fa04395eab8fd948eb6c9c634392d3d90756a5a99669df145", func := "querylab/querylablaw10.FractionLimits", spec := "fractionLimits", unfollowed := true, recurses := true, apart := false }
def FractionLimitsSaid : Prop := fractionLimitsRow.holds Try.pinned (OpenSpec.ofChange fractionLimitsSpec)

/-- ITS FALSE NEIGHBOUR: 'it returns false'. Refute it at one input. -/
def fractionLimitsWrong : ChangeSpec := { name := "fractionLimits", fn := fun _ => fun
  | [d1, d2] => { results := [.lit (.bool false)], args := [d1, d2] }
  | _ => none }
def FractionLimitsWrongFalsely : Prop := fractionLimitsRow.holds Try.pinned (OpenSpec.ofChange fractionLimitsWrong)

/-- 'querylablaw10.FractionField': WHATEVER THE INPUT: true; the input reads as it did. -/
def fractionFieldSpec : ChangeSpec := { name := "fractionField", fn := fun _ => fun
  | [d] => { results := [.lit (.bool true)], args := [d] }
  | _ => none }
def fractionFieldRow : OpenClaim := { program := "ytinmlgolbikoeaa", sum := "245b83fc7ef20f6fa04395eab8fd948eb6c9c634392d3d90756a5a99669df145", func := "querylab/querylablaw10.FractionField", spec := "fractionField", unfollowed := true, recurses := true, apart := false }
def FractionFieldSaid : Prop := fractionFieldRow.holds Try.pinned (OpenSpec.ofChange fractionFieldSpec)

/-- ITS FALSE NEIGHBOUR: 'it returns false'. Refute it at one input. -/
def fractionFieldWrong : ChangeSpec := { name := "fractionField", fn := fun _ => fun
  | [d] => { results := [.lit (.bool false)], args := [d] }
  | _ => none }
def FractionFieldWrongFalsely : Prop := fractionFieldRow.holds Try.pinned (OpenSpec.ofChange fractionFieldWrong)

/- THE SECOND FORM. 'bulk': how many values and letters a reading holds, each counted each time it is reached (what is shared counts as often as it is met; a slice's spare places count too). A statement '..UptoSaid' is the law's where the arguments, and the package variables that the reading takes, are together of bulk at most 1048576: NARROWER than '..Said'. Prove '..Said' where nothing that the law and all that it calls make is longer than what came in: it says more and counts as full. Else prove '..UptoSaid'. A law counts once. -/
mutual
def uptoBulk {H : Type} : DataW H → Nat
  | .lit (.string bytes) => bytes.length + 1
  | .lit _ => 1
  | .nil => 1
  | .ptr d => uptoBulk d + 1
  | .slice elems spare => uptoBulkAll elems + uptoBulkAll spare + 1
  | .agg parts => uptoBulkAll parts + 1
  | .iface _ d => uptoBulk d + 1
  | .map entries => uptoBulkEntries entries + 1
  | .held _ => 1
def uptoBulkAll {H : Type} : List (DataW H) → Nat
  | [] => 0
  | d :: r => uptoBulk d + uptoBulkAll r
def uptoBulkEntries {H : Type} : List (Lit × DataW H) → Nat
  | [] => 0
  | x :: r => uptoBulkEntry x + uptoBulkEntries r
def uptoBulkEntry {H : Type} : Lit × DataW H → Nat
  | (.string bytes, d) => bytes.length + uptoBulk d + 1
  | (_, d) => uptoBulk d + 1
 end
def uptoSmall : (H : Type) → List (DataW H) → Bool := fun _ ds => decide (uptoBulkAll ds ≤ 1048576)
def OpenSpec.upto (s : _root_.Go.ChangeSpec) : _root_.Go.OpenSpec := { _root_.Go.OpenSpec.ofChange s with cond := some uptoSmall }

/-- 'querylablaw10.FractionOrders', WHERE WHAT IT READS IS OF BULK AT MOST 1048576: true; the input reads as it did. -/
def fractionOrdersUptoRow : OpenClaim := { program := "ytinmlgolbikoeaa", sum := "245b83fc7ef20f6fa04395eab8fd948eb6c9c634392d3d90756a5a99669df145", func := "querylab/querylablaw10.FractionOrders", spec := "fractionOrders", apart := false, narrowed := true }
def FractionOrdersUptoSaid : Prop := fractionOrdersUptoRow.holds Try.pinned (OpenSpec.upto fractionOrdersSpec)

/-- 'querylablaw10.FractionExact', WHERE WHAT IT READS IS OF BULK AT MOST 1048576: true; the input reads as it did. -/
def fractionExactUptoRow : OpenClaim := { program := "ytinmlgolbikoeaa", sum := "245b83fc7ef20f6fa04395eab8fd948eb6c9c634392d3d90756a5a99669df145", func := "querylab/querylablaw10.FractionExact", spec := "fractionExact", unfollowed := true, recurses := true, apart := false, narrowed := true }
def FractionExactUptoSaid : Prop := fractionExactUptoRow.holds Try.pinned (OpenSpec.upto fractionExactSpec)

/-- 'querylablaw10.FractionLimits', WHERE WHAT IT READS IS OF BULK AT MOST 1048576: true; the input reads as it did. -/
def fractionLimitsUptoRow : OpenClaim := { program := "ytinmlgolbikoeaa", sum := "245b83fc7ef20f6fa04395eab8fd948eb6c9c634392d3d90756a5a99669df145", func := "querylab/querylablaw10.FractionLimits", spec := "fractionLimits", unfollowed := true, recurses := true, apart := false, narrowed := true }
def FractionLimitsUptoSaid : Prop := fractionLimitsUptoRow.holds Try.pinned (OpenSpec.upto fractionLimitsSpec)

/-- 'querylablaw10.FractionField', WHERE WHAT IT READS IS OF BULK AT MOST 1048576: true; the input reads as it did. -/
def fractionFieldUptoRow : OpenClaim := { program := "ytinmlgolbikoeaa", sum := "245b83fc7ef20f6fa04395eab8fd948eb6c9c634392d3d90756a5a99669df145", func := "querylab/querylablaw10.FractionField", spec := "fractionField", unfollowed := true, recurses := true, apart := false, narrowed := true }
def FractionFieldUptoSaid : Prop := fractionFieldUptoRow.holds Try.pinned (OpenSpec.upto fractionFieldSpec)

end Rows
end Go.Proofs.Ytinmlgolbikoeaa
