/-
  NARROWER THAN 'FOR EVERY INPUT', by the rows' own cells (each row's printed sentence says how): IntegralProofs: loops.
  DERIVED. THE GIVEN ROWS OF THIS SEAT. 12 by the template 'for every input the law returns true; each argument reads behind the call as it read before'; 0 by the template 'total and deterministic' (their statements: YtajpdnphamomjaaTotals.lean).
  GIVEN WITH THE SEED: the statements are not yours to turn. If you find one false, say at which input.
  Laid BY PROGRAM, IN A SANDBOX (cutbox-rows.mjs): the forced cells as the released guide's own fill.sh prints them over the translation 34a0222cf654d719… (all of the seat's roots in one cut). By AI agents, Wed Nov 11 2026. No macro, syntax, notation, axiom, sorry.
-/
import Derived.Test.YtajpdnphamomjaaChecked
import GoSem.Claim
import GoSem.ClaimJoined
import GoSem.ClaimMapViews
import Derived.JoinedTies
import Derived.KernelRfl
namespace Go.Proofs.Ytajpdnphamomjaa
/- THE CELL 'sum', in the pinned program and in every row, IS THE sha256 OF THE DUMP (.gsa) THAT YtajpdnphamomjaaProg.lean LOADS. Nothing in Lean hashes anything: it is a label: what it is worth is what the hold of that sum in a sandbox is worth. -/
noncomputable def Try.pinned : Pinned := { name := "ytajpdnphamomjaa", sum := "34a0222cf654d7193ec76b862f6c9bc2a35956abf719197080a44808d6b092c4", checked := Try.checked }
namespace Rows
def none {H : Type} : Left H := { results := [], args := [] }

/-- 'querylablaw10.FractionOrders': WHATEVER THE INPUT: true; the input reads as it did. -/
def fractionOrdersSpec : ChangeSpec := { name := "fractionOrders", fn := fun _ => fun
  | [d1, d2, d3] => { results := [.lit (.bool true)], args := [d1, d2, d3] }
  | _ => none }
def fractionOrdersRow : OpenClaim := { program := "ytajpdnphamomjaa", sum := "34a0222cf654d7193ec76b862f6c9bc2a35956abf719197080a44808d6b092c4", func := "querylab/querylablaw10.FractionOrders", spec := "fractionOrders", apart := false }
def FractionOrdersSaid : Prop := fractionOrdersRow.holds Try.pinned (OpenSpec.ofChange fractionOrdersSpec)

/-- ITS FALSE NEIGHBOUR: 'it returns false'. Refute it at one input. -/
def fractionOrdersWrong : ChangeSpec := { name := "fractionOrders", fn := fun _ => fun
  | [d1, d2, d3] => { results := [.lit (.bool false)], args := [d1, d2, d3] }
  | _ => none }
def FractionOrdersWrongFalsely : Prop := fractionOrdersRow.holds Try.pinned (OpenSpec.ofChange fractionOrdersWrong)

/-- 'querylablaw10.FractionExact': WHATEVER THE INPUT: true; the input reads as it did. -/
def fractionExactSpec : ChangeSpec := { name := "fractionExact", fn := fun _ => fun
  | [d1, d2] => { results := [.lit (.bool true)], args := [d1, d2] }
  | _ => none }
def fractionExactRow : OpenClaim := { program := "ytajpdnphamomjaa", sum := "34a0222cf654d7193ec76b862f6c9bc2a35956abf719197080a44808d6b092c4", func := "querylab/querylablaw10.FractionExact", spec := "fractionExact", unfollowed := true, recurses := true, apart := false }
def FractionExactSaid : Prop := fractionExactRow.holds Try.pinned (OpenSpec.ofChange fractionExactSpec)

/-- ITS FALSE NEIGHBOUR: 'it returns false'. Refute it at one input. -/
def fractionExactWrong : ChangeSpec := { name := "fractionExact", fn := fun _ => fun
  | [d1, d2] => { results := [.lit (.bool false)], args := [d1, d2] }
  | _ => none }
def FractionExactWrongFalsely : Prop := fractionExactRow.holds Try.pinned (OpenSpec.ofChange fractionExactWrong)

/-- 'querylablaw10.FractionLimits': WHATEVER THE INPUT: true; the input reads as it did. -/
def fractionLimitsSpec : ChangeSpec := { name := "fractionLimits", fn := fun _ => fun
  | [d1, d2] => { results := [.lit (.bool true)], args := [d1, d2] }
  | _ => none }
def fractionLimitsRow : OpenClaim := { program := "ytajpdnphamomjaa", sum := "34a0222cf654d7193ec76b862f6c9bc2a35956abf719197080a44808d6b092c4", func := "querylab/querylablaw10.FractionLimits", spec := "fractionLimits", unfollowed := true, recurses := true, apart := false }
def FractionLimitsSaid : Prop := fractionLimitsRow.holds Try.pinned (OpenSpec.ofChange fractionLimitsSpec)

/-- ITS FALSE NEIGHBOUR: 'it returns false'. Refute it at one input. -/
def fractionLimitsWrong : ChangeSpec := { name := "fractionLimits", fn := fun _ => fun
  | [d1, d2] => { results := [.lit (.bool false)], args := [d1, d2] }
  | _ => none }
def FractionLimitsWrongFalsely : Prop := fractionLimitsRow.holds Try.pinned (OpenSpec.ofChange fractionLimitsWrong)

/-- 'querylablaw10.FractionField': WHATEVER THE INPUT: true; the input reads as it did. -/
def fractionFieldSpec : ChangeSpec := { name := "fractionField", fn := fun _ => fun
  | [d] => { results := [.lit (.bool true)], args := [d] }
  | _ => none }
def fractionFieldRow : OpenClaim := { program := "ytajpdnphamomjaa", sum := "34a0222cf654d7193ec76b862f6c9bc2a35956abf719197080a44808d6b092c4", func := "querylab/querylablaw10.FractionField", spec := "fractionField", unfollowed := true, recurses := true, apart := false }
def FractionFieldSaid : Prop := fractionFieldRow.holds Try.pinned (OpenSpec.ofChange fractionFieldSpec)

/-- ITS FALSE NEIGHBOUR: 'it returns false'. Refute it at one input. -/
def fractionFieldWrong : ChangeSpec := { name := "fractionField", fn := fun _ => fun
  | [d] => { results := [.lit (.bool false)], args := [d] }
  | _ => none }
def FractionFieldWrongFalsely : Prop := fractionFieldRow.holds Try.pinned (OpenSpec.ofChange fractionFieldWrong)

/-- 'querylablaw11.LinearChecks': WHATEVER THE INPUT: true; the input reads as it did. -/
def linearChecksSpec : ChangeSpec := { name := "linearChecks", fn := fun _ => fun
  | [d1, d2] => { results := [.lit (.bool true)], args := [d1, d2] }
  | _ => none }
def linearChecksRow : OpenClaim := { program := "ytajpdnphamomjaa", sum := "34a0222cf654d7193ec76b862f6c9bc2a35956abf719197080a44808d6b092c4", func := "querylab/querylablaw11.LinearChecks", spec := "linearChecks", unfollowed := true, recurses := true, apart := false }
def LinearChecksSaid : Prop := linearChecksRow.holds Try.pinned (OpenSpec.ofChange linearChecksSpec)

/-- ITS FALSE NEIGHBOUR: 'it returns false'. Refute it at one input. -/
def linearChecksWrong : ChangeSpec := { name := "linearChecks", fn := fun _ => fun
  | [d1, d2] => { results := [.lit (.bool false)], args := [d1, d2] }
  | _ => none }
def LinearChecksWrongFalsely : Prop := linearChecksRow.holds Try.pinned (OpenSpec.ofChange linearChecksWrong)

/-- 'querylablaw11.LinearCombines': WHATEVER THE INPUT: true; the input reads as it did. -/
def linearCombinesSpec : ChangeSpec := { name := "linearCombines", fn := fun _ => fun
  | [d1, d2, d3] => { results := [.lit (.bool true)], args := [d1, d2, d3] }
  | _ => none }
def linearCombinesRow : OpenClaim := { program := "ytajpdnphamomjaa", sum := "34a0222cf654d7193ec76b862f6c9bc2a35956abf719197080a44808d6b092c4", func := "querylab/querylablaw11.LinearCombines", spec := "linearCombines", unfollowed := true, recurses := true, apart := false }
def LinearCombinesSaid : Prop := linearCombinesRow.holds Try.pinned (OpenSpec.ofChange linearCombinesSpec)

/-- ITS FALSE NEIGHBOUR: 'it returns false'. Refute it at one input. -/
def linearCombinesWrong : ChangeSpec := { name := "linearCombines", fn := fun _ => fun
  | [d1, d2, d3] => { results := [.lit (.bool false)], args := [d1, d2, d3] }
  | _ => none }
def LinearCombinesWrongFalsely : Prop := linearCombinesRow.holds Try.pinned (OpenSpec.ofChange linearCombinesWrong)

/-- 'querylablaw11.LinearRaw': WHATEVER THE INPUT: true; the input reads as it did. -/
def linearRawSpec : ChangeSpec := { name := "linearRaw", fn := fun _ => fun
  | [d1, d2, d3, d4] => { results := [.lit (.bool true)], args := [d1, d2, d3, d4] }
  | _ => none }
def linearRawRow : OpenClaim := { program := "ytajpdnphamomjaa", sum := "34a0222cf654d7193ec76b862f6c9bc2a35956abf719197080a44808d6b092c4", func := "querylab/querylablaw11.LinearRaw", spec := "linearRaw", unfollowed := true, recurses := true, apart := false }
def LinearRawSaid : Prop := linearRawRow.holds Try.pinned (OpenSpec.ofChange linearRawSpec)

/-- ITS FALSE NEIGHBOUR: 'it returns false'. Refute it at one input. -/
def linearRawWrong : ChangeSpec := { name := "linearRaw", fn := fun _ => fun
  | [d1, d2, d3, d4] => { results := [.lit (.bool false)], args := [d1, d2, d3, d4] }
  | _ => none }
def LinearRawWrongFalsely : Prop := linearRawRow.holds Try.pinned (OpenSpec.ofChange linearRawWrong)

/-- 'querylablaw11.LinearSolves': WHATEVER THE INPUT: true; the input reads as it did. -/
def linearSolvesSpec : ChangeSpec := { name := "linearSolves", fn := fun _ => fun
  | [d] => { results := [.lit (.bool true)], args := [d] }
  | _ => none }
def linearSolvesRow : OpenClaim := { program := "ytajpdnphamomjaa", sum := "34a0222cf654d7193ec76b862f6c9bc2a35956abf719197080a44808d6b092c4", func := "querylab/querylablaw11.LinearSolves", spec := "linearSolves", unfollowed := true, recurses := true, apart := false }
def LinearSolvesSaid : Prop := linearSolvesRow.holds Try.pinned (OpenSpec.ofChange linearSolvesSpec)

/-- ITS FALSE NEIGHBOUR: 'it returns false'. Refute it at one input. -/
def linearSolvesWrong : ChangeSpec := { name := "linearSolves", fn := fun _ => fun
  | [d] => { results := [.lit (.bool false)], args := [d] }
  | _ => none }
def LinearSolvesWrongFalsely : Prop := linearSolvesRow.holds Try.pinned (OpenSpec.ofChange linearSolvesWrong)

/-- 'querylablaw11.LinearLarge': WHATEVER THE INPUT: true; the input reads as it did. -/
def linearLargeSpec : ChangeSpec := { name := "linearLarge", fn := fun _ => fun
  | [d] => { results := [.lit (.bool true)], args := [d] }
  | _ => none }
def linearLargeRow : OpenClaim := { program := "ytajpdnphamomjaa", sum := "34a0222cf654d7193ec76b862f6c9bc2a35956abf719197080a44808d6b092c4", func := "querylab/querylablaw11.LinearLarge", spec := "linearLarge", unfollowed := true, recurses := true, apart := false }
def LinearLargeSaid : Prop := linearLargeRow.holds Try.pinned (OpenSpec.ofChange linearLargeSpec)

/-- ITS FALSE NEIGHBOUR: 'it returns false'. Refute it at one input. -/
def linearLargeWrong : ChangeSpec := { name := "linearLarge", fn := fun _ => fun
  | [d] => { results := [.lit (.bool false)], args := [d] }
  | _ => none }
def LinearLargeWrongFalsely : Prop := linearLargeRow.holds Try.pinned (OpenSpec.ofChange linearLargeWrong)

/-- 'querylablaw11.LinearNever': WHATEVER THE INPUT: true; the input reads as it did. -/
def linearNeverSpec : ChangeSpec := { name := "linearNever", fn := fun _ => fun
  | [d1, d2] => { results := [.lit (.bool true)], args := [d1, d2] }
  | _ => none }
def linearNeverRow : OpenClaim := { program := "ytajpdnphamomjaa", sum := "34a0222cf654d7193ec76b862f6c9bc2a35956abf719197080a44808d6b092c4", func := "querylab/querylablaw11.LinearNever", spec := "linearNever", unfollowed := true, recurses := true, apart := false }
def LinearNeverSaid : Prop := linearNeverRow.holds Try.pinned (OpenSpec.ofChange linearNeverSpec)

/-- ITS FALSE NEIGHBOUR: 'it returns false'. Refute it at one input. -/
def linearNeverWrong : ChangeSpec := { name := "linearNever", fn := fun _ => fun
  | [d1, d2] => { results := [.lit (.bool false)], args := [d1, d2] }
  | _ => none }
def LinearNeverWrongFalsely : Prop := linearNeverRow.holds Try.pinned (OpenSpec.ofChange linearNeverWrong)

/-- 'querylablaw12.IntegralChecks': WHATEVER THE INPUT: true; the input reads as it did. -/
def integralChecksSpec : ChangeSpec := { name := "integralChecks", fn := fun _ => fun
  | [d1, d2] => { results := [.lit (.bool true)], args := [d1, d2] }
  | _ => none }
def integralChecksRow : OpenClaim := { program := "ytajpdnphamomjaa", sum := "34a0222cf654d7193ec76b862f6c9bc2a35956abf719197080a44808d6b092c4", func := "querylab/querylablaw12.IntegralChecks", spec := "integralChecks", unfollowed := true, recurses := true, apart := false }
def IntegralChecksSaid : Prop := integralChecksRow.holds Try.pinned (OpenSpec.ofChange integralChecksSpec)

/-- ITS FALSE NEIGHBOUR: 'it returns false'. Refute it at one input. -/
def integralChecksWrong : ChangeSpec := { name := "integralChecks", fn := fun _ => fun
  | [d1, d2] => { results := [.lit (.bool false)], args := [d1, d2] }
  | _ => none }
def IntegralChecksWrongFalsely : Prop := integralChecksRow.holds Try.pinned (OpenSpec.ofChange integralChecksWrong)

/-- 'querylablaw12.IntegralProofs': WHATEVER THE INPUT: true; the input reads as it did. -/
def integralProofsSpec : ChangeSpec := { name := "integralProofs", fn := fun _ => fun
  | [d1, d2] => { results := [.lit (.bool true)], args := [d1, d2] }
  | _ => none }
def integralProofsRow : OpenClaim := { program := "ytajpdnphamomjaa", sum := "34a0222cf654d7193ec76b862f6c9bc2a35956abf719197080a44808d6b092c4", func := "querylab/querylablaw12.IntegralProofs", spec := "integralProofs", unfollowed := true, recurses := true, loops := true, apart := false }
def IntegralProofsSaid : Prop := integralProofsRow.holds Try.pinned (OpenSpec.ofChange integralProofsSpec)

/-- ITS FALSE NEIGHBOUR: 'it returns false'. Refute it at one input. -/
def integralProofsWrong : ChangeSpec := { name := "integralProofs", fn := fun _ => fun
  | [d1, d2] => { results := [.lit (.bool false)], args := [d1, d2] }
  | _ => none }
def IntegralProofsWrongFalsely : Prop := integralProofsRow.holds Try.pinned (OpenSpec.ofChange integralProofsWrong)

/- THE SECOND FORM. 'bulk': how many values and letters a reading holds, each counted each time it is reached (what is shared counts as often as it is met; a slice's spare places count too). A statement '..UptoSaid' is the law's where the arguments, and the package variables that the reading takes, are together of bulk at most 1048576: NARROWER than '..Said'. Prove '..Said' where nothing that the law and all that it calls make is longer than what came in: it says more and counts as full. Else prove '..UptoSaid'. A law counts once. -/
mutual
def uptoBulk {H : Type} : DataW H → Nat
  | .lit (.string bytes) => bytes.length + 1
  | .lit _ => 1
  | .nil => 1
  | .ptr d => uptoBulk d + 1
  | .slice elems spare => uptoBulkAll elems + uptoBulkAll spare + 1
  | .agg parts => uptoBulkAll parts + 1
  | .iface _ d => uptoBulk d + 1
  | .map entries => uptoBulkEntries entries + 1
  | .held _ => 1
def uptoBulkAll {H : Type} : List (DataW H) → Nat
  | [] => 0
  | d :: r => uptoBulk d + uptoBulkAll r
def uptoBulkEntries {H : Type} : List (Lit × DataW H) → Nat
  | [] => 0
  | x :: r => uptoBulkEntry x + uptoBulkEntries r
def uptoBulkEntry {H : Type} : Lit × DataW H → Nat
  | (.string bytes, d) => bytes.length + uptoBulk d + 1
  | (_, d) => uptoBulk d + 1
 end
def uptoSmall : (H : Type) → List (DataW H) → Bool := fun _ ds => decide (uptoBulkAll ds ≤ 1048576)
def OpenSpec.upto (s : _root_.Go.ChangeSpec) : _root_.Go.OpenSpec := { _root_.Go.OpenSpec.ofChange s with cond := some uptoSmall }

/-- 'querylablaw10.FractionOrders', WHERE WHAT IT READS IS OF BULK AT MOST 1048576: true; the input reads as it did. -/
def fractionOrdersUptoRow : OpenClaim := { program := "ytajpdnphamomjaa", sum := "34a0222cf654d7193ec76b862f6c9bc2a35956abf719197080a44808d6b092c4", func := "querylab/querylablaw10.FractionOrders", spec := "fractionOrders", apart := false, narrowed := true }
def FractionOrdersUptoSaid : Prop := fractionOrdersUptoRow.holds Try.pinned (OpenSpec.upto fractionOrdersSpec)

/-- 'querylablaw10.FractionExact', WHERE WHAT IT READS IS OF BULK AT MOST 1048576: true; the input reads as it did. -/
def fractionExactUptoRow : OpenClaim := { program := "ytajpdnphamomjaa", sum := "34a0222cf654d7193ec76b862f6c9bc2a35956abf719197080a44808d6b092c4", func := "querylab/querylablaw10.FractionExact", spec := "fractionExact", unfollowed := true, recurses := true, apart := false, narrowed := true }
def FractionExactUptoSaid : Prop := fractionExactUptoRow.holds Try.pinned (OpenSpec.upto fractionExactSpec)

/-- 'querylablaw10.FractionLimits', WHERE WHAT IT READS IS OF BULK AT MOST 1048576: true; the input reads as it did. -/
def fractionLimitsUptoRow : OpenClaim := { program := "ytajpdnphamomjaa", sum := "34a0222cf654d7193ec76b862f6c9bc2a35956abf719197080a44808d6b092c4", func := "querylab/querylablaw10.FractionLimits", spec := "fractionLimits", unfollowed := true, recurses := true, apart := false, narrowed := true }
def FractionLimitsUptoSaid : Prop := fractionLimitsUptoRow.holds Try.pinned (OpenSpec.upto fractionLimitsSpec)

/-- 'querylablaw10.FractionField', WHERE WHAT IT READS IS OF BULK AT MOST 1048576: true; the input reads as it did. -/
def fractionFieldUptoRow : OpenClaim := { program := "ytajpdnphamomjaa", sum := "34a0222cf654d7193ec76b862f6c9bc2a35956abf719197080a44808d6b092c4", func := "querylab/querylablaw10.FractionField", spec := "fractionField", unfollowed := true, recurses := true, apart := false, narrowed := true }
def FractionFieldUptoSaid : Prop := fractionFieldUptoRow.holds Try.pinned (OpenSpec.upto fractionFieldSpec)

/-- 'querylablaw11.LinearChecks', WHERE WHAT IT READS IS OF BULK AT MOST 1048576: true; the input reads as it did. -/
def linearChecksUptoRow : OpenClaim := { program := "ytajpdnphamomjaa", sum := "34a0222cf654d7193ec76b862f6c9bc2a35956abf719197080a44808d6b092c4", func := "querylab/querylablaw11.LinearChecks", spec := "linearChecks", unfollowed := true, recurses := true, apart := false, narrowed := true }
def LinearChecksUptoSaid : Prop := linearChecksUptoRow.holds Try.pinned (OpenSpec.upto linearChecksSpec)

/-- 'querylablaw11.LinearCombines', WHERE WHAT IT READS IS OF BULK AT MOST 1048576: true; the input reads as it did. -/
def linearCombinesUptoRow : OpenClaim := { program := "ytajpdnphamomjaa", sum := "34a0222cf654d7193ec76b862f6c9bc2a35956abf719197080a44808d6b092c4", func := "querylab/querylablaw11.LinearCombines", spec := "linearCombines", unfollowed := true, recurses := true, apart := false, narrowed := true }
def LinearCombinesUptoSaid : Prop := linearCombinesUptoRow.holds Try.pinned (OpenSpec.upto linearCombinesSpec)

/-- 'querylablaw11.LinearRaw', WHERE WHAT IT READS IS OF BULK AT MOST 1048576: true; the input reads as it did. -/
def linearRawUptoRow : OpenClaim := { program := "ytajpdnphamomjaa", sum := "34a0222cf654d7193ec76b862f6c9bc2a35956abf719197080a44808d6b092c4", func := "querylab/querylablaw11.LinearRaw", spec := "linearRaw", unfollowed := true, recurses := true, apart := false, narrowed := true }
def LinearRawUptoSaid : Prop := linearRawUptoRow.holds Try.pinned (OpenSpec.upto linearRawSpec)

/-- 'querylablaw11.LinearSolves', WHERE WHAT IT READS IS OF BULK AT MOST 1048576: true; the input reads as it did. -/
def linearSolvesUptoRow : OpenClaim := { program := "ytajpdnphamomjaa", sum := "34a0222cf654d7193ec76b862f6c9bc2a35956abf719197080a44808d6b092c4", func := "querylab/querylablaw11.LinearSolves", spec := "linearSolves", unfollowed := true, recurses := true, apart := false, narrowed := true }
def LinearSolvesUptoSaid : Prop := linearSolvesUptoRow.holds Try.pinned (OpenSpec.upto linearSolvesSpec)

/-- 'querylablaw11.LinearLarge', WHERE WHAT IT READS IS OF BULK AT MOST 1048576: true; the input reads as it did. -/
def linearLargeUptoRow : OpenClaim := { program := "ytajpdnphamomjaa", sum := "34a0222cf654d7193ec76b862f6c9bc2a35956abf719197080a44808d6b092c4", func := "querylab/querylablaw11.LinearLarge", spec := "linearLarge", unfollowed := true, recurses := true, apart := false, narrowed := true }
def LinearLargeUptoSaid : Prop := linearLargeUptoRow.holds Try.pinned (OpenSpec.upto linearLargeSpec)

/-- 'querylablaw11.LinearNever', WHERE WHAT IT READS IS OF BULK AT MOST 1048576: true; the input reads as it did. -/
def linearNeverUptoRow : OpenClaim := { program := "ytajpdnphamomjaa", sum := "34a0222cf654d7193ec76b862f6c9bc2a35956abf719197080a44808d6b092c4", func := "querylab/querylablaw11.LinearNever", spec := "linearNever", unfollowed := true, recurses := true, apart := false, narrowed := true }
def LinearNeverUptoSaid : Prop := linearNeverUptoRow.holds Try.pinned (OpenSpec.upto linearNeverSpec)

/-- 'querylablaw12.IntegralChecks', WHERE WHAT IT READS IS OF BULK AT MOST 1048576: true; the input reads as it did. -/
def integralChecksUptoRow : OpenClaim := { program := "ytajpdnphamomjaa", sum := "34a0222cf654d7193ec76b862f6c9bc2a35956abf719197080a44808d6b092c4", func := "querylab/querylablaw12.IntegralChecks", spec := "integralChecks", unfollowed := true, recurses := true, apart := false, narrowed := true }
def IntegralChecksUptoSaid : Prop := integralChecksUptoRow.holds Try.pinned (OpenSpec.upto integralChecksSpec)

/-- 'querylablaw12.IntegralProofs', WHERE WHAT IT READS IS OF BULK AT MOST 1048576: true; the input reads as it did. -/
def integralProofsUptoRow : OpenClaim := { program := "ytajpdnphamomjaa", sum := "34a0222cf654d7193ec76b862f6c9bc2a35956abf719197080a44808d6b092c4", func := "querylab/querylablaw12.IntegralProofs", spec := "integralProofs", unfollowed := true, recurses := true, loops := true, apart := false, narrowed := true }
def IntegralProofsUptoSaid : Prop := integralProofsUptoRow.holds Try.pinned (OpenSpec.upto integralProofsSpec)

end Rows
end Go.Proofs.Ytajpdnphamomjaa
