/-
  No cell of these rows narrows 'for every input' (looked for: loops, veiled, ifaces, maps, wideKeys, modest, calm, conditions, laid).
  DERIVED. THE GIVEN ROWS OF THIS SEAT. 6 by the template 'for every input the law returns true; each argument reads behind the call as it read before'; 0 by the template 'total and deterministic' (their statements: YtckgpiboelhefaaTotals.lean).
  GIVEN WITH THE SEED: the statements are not yours to turn. If you find one false, say at which input.
  Laid BY PROGRAM, IN A SANDBOX (cutbox-rows.mjs): the forced cells as the released guide's own fill.sh prints them over the translation 9db25f44e6b18804… (all of the seat's roots in one cut). By AI agents, Wed Nov 11 2026. No macro, syntax, notation, axiom, sorry.
-/
import Derived.Test.YtckgpiboelhefaaChecked
import GoSem.Claim
import GoSem.ClaimJoined
import GoSem.ClaimMapViews
import Derived.JoinedTies
import Derived.KernelRfl
namespace Go.Proofs.Ytckgpiboelhefaa
/- THE CELL 'sum', in the pinned program and in every row, IS THE sha256 OF THE DUMP (.gsa) THAT YtckgpiboelhefaaProg.lean LOADS. Nothing in Lean hashes anything: it is a label: what it is worth is what the hold of that sum in a sandbox is worth. -/
noncomputable def Try.pinned : Pinned := { name := "ytckgpiboelhefaa", sum := "9db25f44e6b188047e012793e802ee8c44788fbe0b71bbe5781d786cc186f64e", checked := Try.checked }
namespace Rows
def none {H : Type} : Left H := { results := [], args := [] }

/-- 'querylablaw20.DistributionApportions': WHATEVER THE INPUT: true; the input reads as it did. -/
def distributionApportionsSpec : ChangeSpec := { name := "distributionApportions", fn := fun _ => fun
  | [d1, d2] => { results := [.lit (.bool true)], args := [d1, d2] }
  | _ => none }
def distributionApportionsRow : OpenClaim := { program := "ytckgpiboelhefaa", sum := "9db25f44e6b188047e012793e802ee8c44788fbe0b71bbe5781d786cc186f64e", func := "querylab/querylablaw20.DistributionApportions", spec := "distributionApportions", unfollowed := true, recurses := true, apart := false }
def DistributionApportionsSaid : Prop := distributionApportionsRow.holds Try.pinned (OpenSpec.ofChange distributionApportionsSpec)

/-- ITS FALSE NEIGHBOUR: 'it returns false'. Refute it at one input. -/
def distributionApportionsWrong : ChangeSpec := { name := "distributionApportions", fn := fun _ => fun
  | [d1, d2] => { results := [.lit (.bool false)], args := [d1, d2] }
  | _ => none }
def DistributionApportionsWrongFalsely : Prop := distributionApportionsRow.holds Try.pinned (OpenSpec.ofChange distributionApportionsWrong)

/-- 'querylablaw20.DistributionQuotas': WHATEVER THE INPUT: true; the input reads as it did. -/
def distributionQuotasSpec : ChangeSpec := { name := "distributionQuotas", fn := fun _ => fun
  | [d1, d2] => { results := [.lit (.bool true)], args := [d1, d2] }
  | _ => none }
def distributionQuotasRow : OpenClaim := { program := "ytckgpiboelhefaa", sum := "9db25f44e6b188047e012793e802ee8c44788fbe0b71bbe5781d786cc186f64e", func := "querylab/querylablaw20.DistributionQuotas", spec := "distributionQuotas", unfollowed := true, recurses := true, apart := false }
def DistributionQuotasSaid : Prop := distributionQuotasRow.holds Try.pinned (OpenSpec.ofChange distributionQuotasSpec)

/-- ITS FALSE NEIGHBOUR: 'it returns false'. Refute it at one input. -/
def distributionQuotasWrong : ChangeSpec := { name := "distributionQuotas", fn := fun _ => fun
  | [d1, d2] => { results := [.lit (.bool false)], args := [d1, d2] }
  | _ => none }
def DistributionQuotasWrongFalsely : Prop := distributionQuotasRow.holds Try.pinned (OpenSpec.ofChange distributionQuotasWrong)

/-- 'querylablaw20.DistributionSpreads': WHATEVER THE INPUT: true; the input reads as it did. -/
def distributionSpreadsSpec : ChangeSpec := { name := "distributionSpreads", fn := fun _ => fun
  | [d1, d2, d3, d4, d5, d6, d7] => { results := [.lit (.bool true)], args := [d1, d2, d3, d4, d5, d6, d7] }
  | _ => none }
def distributionSpreadsRow : OpenClaim := { program := "ytckgpiboelhefaa", sum := "9db25f44e6b188047e012793e802ee8c44788fbe0b71bbe5781d786cc186f64e", func := "querylab/querylablaw20.DistributionSpreads", spec := "distributionSpreads", unfollowed := true, recurses := true, apart := false }
def DistributionSpreadsSaid : Prop := distributionSpreadsRow.holds Try.pinned (OpenSpec.ofChange distributionSpreadsSpec)

/-- ITS FALSE NEIGHBOUR: 'it returns false'. Refute it at one input. -/
def distributionSpreadsWrong : ChangeSpec := { name := "distributionSpreads", fn := fun _ => fun
  | [d1, d2, d3, d4, d5, d6, d7] => { results := [.lit (.bool false)], args := [d1, d2, d3, d4, d5, d6, d7] }
  | _ => none }
def DistributionSpreadsWrongFalsely : Prop := distributionSpreadsRow.holds Try.pinned (OpenSpec.ofChange distributionSpreadsWrong)

/-- 'querylablaw20.DistributionOrders': WHATEVER THE INPUT: true; the input reads as it did. -/
def distributionOrdersSpec : ChangeSpec := { name := "distributionOrders", fn := fun _ => fun
  | [d1, d2, d3, d4, d5] => { results := [.lit (.bool true)], args := [d1, d2, d3, d4, d5] }
  | _ => none }
def distributionOrdersRow : OpenClaim := { program := "ytckgpiboelhefaa", sum := "9db25f44e6b188047e012793e802ee8c44788fbe0b71bbe5781d786cc186f64e", func := "querylab/querylablaw20.DistributionOrders", spec := "distributionOrders", unfollowed := true, recurses := true, apart := false }
def DistributionOrdersSaid : Prop := distributionOrdersRow.holds Try.pinned (OpenSpec.ofChange distributionOrdersSpec)

/-- ITS FALSE NEIGHBOUR: 'it returns false'. Refute it at one input. -/
def distributionOrdersWrong : ChangeSpec := { name := "distributionOrders", fn := fun _ => fun
  | [d1, d2, d3, d4, d5] => { results := [.lit (.bool false)], args := [d1, d2, d3, d4, d5] }
  | _ => none }
def DistributionOrdersWrongFalsely : Prop := distributionOrdersRow.holds Try.pinned (OpenSpec.ofChange distributionOrdersWrong)

/-- 'querylablaw20.DistributionBins': WHATEVER THE INPUT: true; the input reads as it did. -/
def distributionBinsSpec : ChangeSpec := { name := "distributionBins", fn := fun _ => fun
  | [d1, d2, d3] => { results := [.lit (.bool true)], args := [d1, d2, d3] }
  | _ => none }
def distributionBinsRow : OpenClaim := { program := "ytckgpiboelhefaa", sum := "9db25f44e6b188047e012793e802ee8c44788fbe0b71bbe5781d786cc186f64e", func := "querylab/querylablaw20.DistributionBins", spec := "distributionBins", unfollowed := true, recurses := true, apart := false }
def DistributionBinsSaid : Prop := distributionBinsRow.holds Try.pinned (OpenSpec.ofChange distributionBinsSpec)

/-- ITS FALSE NEIGHBOUR: 'it returns false'. Refute it at one input. -/
def distributionBinsWrong : ChangeSpec := { name := "distributionBins", fn := fun _ => fun
  | [d1, d2, d3] => { results := [.lit (.bool false)], args := [d1, d2, d3] }
  | _ => none }
def DistributionBinsWrongFalsely : Prop := distributionBinsRow.holds Try.pinned (OpenSpec.ofChange distributionBinsWrong)

/-- 'querylablaw20.DistributionCovers': WHATEVER THE INPUT: true; the input reads as it did. -/
def distributionCoversSpec : ChangeSpec := { name := "distributionCovers", fn := fun _ => fun
  | [d1, d2] => { results := [.lit (.bool true)], args := [d1, d2] }
  | _ => none }
def distributionCoversRow : OpenClaim := { program := "ytckgpiboelhefaa", sum := "9db25f44e6b188047e012793e802ee8c44788fbe0b71bbe5781d786cc186f64e", func := "querylab/querylablaw20.DistributionCovers", spec := "distributionCovers", unfollowed := true, recurses := true, apart := false }
def DistributionCoversSaid : Prop := distributionCoversRow.holds Try.pinned (OpenSpec.ofChange distributionCoversSpec)

/-- ITS FALSE NEIGHBOUR: 'it returns false'. Refute it at one input. -/
def distributionCoversWrong : ChangeSpec := { name := "distributionCovers", fn := fun _ => fun
  | [d1, d2] => { results := [.lit (.bool false)], args := [d1, d2] }
  | _ => none }
def DistributionCoversWrongFalsely : Prop := distributionCoversRow.holds Try.pinned (OpenSpec.ofChange distributionCoversWrong)

/- THE SECOND FORM. 'bulk': how many values and letters a reading holds, each counted each time it is reached (what is shared counts as often as it is met; a slice's spare places count too). A statement '..UptoSaid' is the law's where the arguments, and the package variables that the reading takes, are together of bulk at most 1048576: NARROWER than '..Said'. Prove '..Said' where nothing that the law and all that it calls make is longer than what came in: it says more and counts as full. Else prove '..UptoSaid'. A law counts once. -/
mutual
def uptoBulk {H : Type} : DataW H → Nat
  | .lit (.string bytes) => bytes.length + 1
  | .lit _ => 1
  | .nil => 1
  | .ptr d => uptoBulk d + 1
  | .slice elems spare => uptoBulkAll elems + uptoBulkAll spare + 1
  | .agg parts => uptoBulkAll parts + 1
  | .iface _ d => uptoBulk d + 1
  | .map entries => uptoBulkEntries entries + 1
  | .held _ => 1
def uptoBulkAll {H : Type} : List (DataW H) → Nat
  | [] => 0
  | d :: r => uptoBulk d + uptoBulkAll r
def uptoBulkEntries {H : Type} : List (Lit × DataW H) → Nat
  | [] => 0
  | x :: r => uptoBulkEntry x + uptoBulkEntries r
def uptoBulkEntry {H : Type} : Lit × DataW H → Nat
  | (.string bytes, d) => bytes.length + uptoBulk d + 1
  | (_, d) => uptoBulk d + 1
 end
def uptoSmall : (H : Type) → List (DataW H) → Bool := fun _ ds => decide (uptoBulkAll ds ≤ 1048576)
def OpenSpec.upto (s : _root_.Go.ChangeSpec) : _root_.Go.OpenSpec := { _root_.Go.OpenSpec.ofChange s with cond := some uptoSmall }

/-- 'querylablaw20.DistributionApportions', WHERE WHAT IT READS IS OF BULK AT MOST 1048576: true; the input reads as it did. -/
def distributionApportionsUptoRow : OpenClaim := { program := "ytckgpiboelhefaa", sum := "9db25f44e6b188047e012793e802ee8c44788fbe0b71bbe5781d786cc186f64e", func := "querylab/querylablaw20.DistributionApportions", spec := "distributionApportions", unfollowed := true, recurses := true, apart := false, narrowed := true }
def DistributionApportionsUptoSaid : Prop := distributionApportionsUptoRow.holds Try.pinned (OpenSpec.upto distributionApportionsSpec)

/-- 'querylablaw20.DistributionQuotas', WHERE WHAT IT READS IS OF BULK AT MOST 1048576: true; the input reads as it did. -/
def distributionQuotasUptoRow : OpenClaim := { program := "ytckgpiboelhefaa", sum := "9db25f44e6b188047e012793e802ee8c44788fbe0b71bbe5781d786cc186f64e", func := "querylab/querylablaw20.DistributionQuotas", spec := "distributionQuotas", unfollowed := true, recurses := true, apart := false, narrowed := true }
def DistributionQuotasUptoSaid : Prop := distributionQuotasUptoRow.holds Try.pinned (OpenSpec.upto distributionQuotasSpec)

/-- 'querylablaw20.DistributionSpreads', WHERE WHAT IT READS IS OF BULK AT MOST 1048576: true; the input reads as it did. -/
def distributionSpreadsUptoRow : OpenClaim := { program := "ytckgpiboelhefaa", sum := "9db25f44e6b188047e012793e802ee8c44788fbe0b71bbe5781d786cc186f64e", func := "querylab/querylablaw20.DistributionSpreads", spec := "distributionSpreads", unfollowed := true, recurses := true, apart := false, narrowed := true }
def DistributionSpreadsUptoSaid : Prop := distributionSpreadsUptoRow.holds Try.pinned (OpenSpec.upto distributionSpreadsSpec)

/-- 'querylablaw20.DistributionOrders', WHERE WHAT IT READS IS OF BULK AT MOST 1048576: true; the input reads as it did. -/
def distributionOrdersUptoRow : OpenClaim := { program := "ytckgpiboelhefaa", sum := "9db25f44e6b188047e012793e802ee8c44788fbe0b71bbe5781d786cc186f64e", func := "querylab/querylablaw20.DistributionOrders", spec := "distributionOrders", unfollowed := true, recurses := true, apart := false, narrowed := true }
def DistributionOrdersUptoSaid : Prop := distributionOrdersUptoRow.holds Try.pinned (OpenSpec.upto distributionOrdersSpec)

/-- 'querylablaw20.DistributionBins', WHERE WHAT IT READS IS OF BULK AT MOST 1048576: true; the input reads as it did. -/
def distributionBinsUptoRow : OpenClaim := { program := "ytckgpiboelhefaa", sum := "9db25f44e6b188047e012793e802ee8c44788fbe0b71bbe5781d786cc186f64e", func := "querylab/querylablaw20.DistributionBins", spec := "distributionBins", unfollowed := true, recurses := true, apart := false, narrowed := true }
def DistributionBinsUptoSaid : Prop := distributionBinsUptoRow.holds Try.pinned (OpenSpec.upto distributionBinsSpec)

/-- 'querylablaw20.DistributionCovers', WHERE WHAT IT READS IS OF BULK AT MOST 1048576: true; the input reads as it did. -/
def distributionCoversUptoRow : OpenClaim := { program := "ytckgpiboelhefaa", sum := "9db25f44e6b188047e012793e802ee8c44788fbe0b71bbe5781d786cc186f64e", func := "querylab/querylablaw20.DistributionCovers", spec := "distributionCovers", unfollowed := true, recurses := true, apart := false, narrowed := true }
def DistributionCoversUptoSaid : Prop := distributionCoversUptoRow.holds Try.pinned (OpenSpec.upto distributionCoversSpec)

end Rows
end Go.Proofs.Ytckgpiboelhefaa
