/-
  No cell of these rows narrows 'for every input' (looked for: loops, veiled, ifaces, maps, wideKeys, modest, calm, conditions, laid).
  DERIVED. THE GIVEN ROWS OF THIS SEAT. 4 by the template 'for every input the law returns true; each argument reads behind the call as it read before'; 0 by the template 'total and deterministic' (their statements: YtphgmfjinihgaaaTotals.lean).
  GIVEN WITH THE SEED: the statements are not yours to turn. If you find one false, say at which input.
  Laid BY PROGRAM, IN A SANDBOX (cutbox-rows.mjs): the forced cells as the released guide's own fill.sh prints them over the translation d5586679e34d023b… (all of the seat's roots in one cut). By AI agents, Wed Nov 11 2026. No macro, syntax, notation, axiom, sorry.
-/
import Derived.Test.YtphgmfjinihgaaaChecked
import GoSem.Claim
import GoSem.ClaimJoined
import GoSem.ClaimMapViews
import Derived.JoinedTies
import Derived.KernelRfl
namespace Go.Proofs.Ytphgmfjinihgaaa
/- THE CELL 'sum', in the pinned program and in every row, IS THE sha256 OF THE DUMP (.gsa) THAT YtphgmfjinihgaaaProg.lean LOADS. Nothing in Lean hashes anything: it is a label: what it is worth is what the hold of that sum in a sandbox is worth. -/
noncomputable def Try.pinned : Pinned := { name := "ytphgmfjinihgaaa", sum := "d5586679e34d023b88b4182adf4ee9d13ef9e2bd521ca5ca86f736672fc0d1b5", checked := Try.checked }
namespace Rows
def none {H : Type} : Left H := { results := [], args := [] }

/-- 'querylablaw21.CorrelationChecks': WHATEVER THE INPUT: true; the input reads as it did. -/
def correlationChecksSpec : ChangeSpec := { name := "correlationChecks", fn := fun _ => fun
  | [d1, d2, d3] => { results := [.lit (.bool true)], args := [d1, d2, d3] }
  | _ => none }
def correlationChecksRow : OpenClaim := { program := "ytphgmfjinihgaaa", sum := "d5586679e34d023b88b4182adf4ee9d13ef9e2bd521ca5ca86f736672fc0d1b5", func := "querylab/querylablaw21.CorrelationChecks", spec := "correlationChecks", unfollowed := true, recurses := true, apart := false }
def CorrelationChecksSaid : Prop := correlationChecksRow.holds Try.pinned (OpenSpec.ofChange correlationChecksSpec)

/-- ITS FALSE NEIGHBOUR: 'it returns false'. Refute it at one input. -/
def correlationChecksWrong : ChangeSpec := { name := "correlationChecks", fn := fun _ => fun
  | [d1, d2, d3] => { results := [.lit (.bool false)], args := [d1, d2, d3] }
  | _ => none }
def CorrelationChecksWrongFalsely : Prop := correlationChecksRow.holds Try.pinned (OpenSpec.ofChange correlationChecksWrong)

/-- 'querylablaw21.CorrelationSolves': WHATEVER THE INPUT: true; the input reads as it did. -/
def correlationSolvesSpec : ChangeSpec := { name := "correlationSolves", fn := fun _ => fun
  | [d] => { results := [.lit (.bool true)], args := [d] }
  | _ => none }
def correlationSolvesRow : OpenClaim := { program := "ytphgmfjinihgaaa", sum := "d5586679e34d023b88b4182adf4ee9d13ef9e2bd521ca5ca86f736672fc0d1b5", func := "querylab/querylablaw21.CorrelationSolves", spec := "correlationSolves", unfollowed := true, recurses := true, apart := false }
def CorrelationSolvesSaid : Prop := correlationSolvesRow.holds Try.pinned (OpenSpec.ofChange correlationSolvesSpec)

/-- ITS FALSE NEIGHBOUR: 'it returns false'. Refute it at one input. -/
def correlationSolvesWrong : ChangeSpec := { name := "correlationSolves", fn := fun _ => fun
  | [d] => { results := [.lit (.bool false)], args := [d] }
  | _ => none }
def CorrelationSolvesWrongFalsely : Prop := correlationSolvesRow.holds Try.pinned (OpenSpec.ofChange correlationSolvesWrong)

/-- 'querylablaw21.CorrelationRaw': WHATEVER THE INPUT: true; the input reads as it did. -/
def correlationRawSpec : ChangeSpec := { name := "correlationRaw", fn := fun _ => fun
  | [d] => { results := [.lit (.bool true)], args := [d] }
  | _ => none }
def correlationRawRow : OpenClaim := { program := "ytphgmfjinihgaaa", sum := "d5586679e34d023b88b4182adf4ee9d13ef9e2bd521ca5ca86f736672fc0d1b5", func := "querylab/querylablaw21.CorrelationRaw", spec := "correlationRaw", unfollowed := true, recurses := true, apart := false }
def CorrelationRawSaid : Prop := correlationRawRow.holds Try.pinned (OpenSpec.ofChange correlationRawSpec)

/-- ITS FALSE NEIGHBOUR: 'it returns false'. Refute it at one input. -/
def correlationRawWrong : ChangeSpec := { name := "correlationRaw", fn := fun _ => fun
  | [d] => { results := [.lit (.bool false)], args := [d] }
  | _ => none }
def CorrelationRawWrongFalsely : Prop := correlationRawRow.holds Try.pinned (OpenSpec.ofChange correlationRawWrong)

/-- 'querylablaw21.CorrelationNever': WHATEVER THE INPUT: true; the input reads as it did. -/
def correlationNeverSpec : ChangeSpec := { name := "correlationNever", fn := fun _ => fun
  | [d1, d2] => { results := [.lit (.bool true)], args := [d1, d2] }
  | _ => none }
def correlationNeverRow : OpenClaim := { program := "ytphgmfjinihgaaa", sum := "d5586679e34d023b88b4182adf4ee9d13ef9e2bd521ca5ca86f736672fc0d1b5", func := "querylab/querylablaw21.CorrelationNever", spec := "correlationNever", unfollowed := true, recurses := true, apart := false }
def CorrelationNeverSaid : Prop := correlationNeverRow.holds Try.pinned (OpenSpec.ofChange correlationNeverSpec)

/-- ITS FALSE NEIGHBOUR: 'it returns false'. Refute it at one input. -/
def correlationNeverWrong : ChangeSpec := { name := "correlationNever", fn := fun _ => fun
  | [d1, d2] => { results := [.lit (.bool false)], args := [d1, d2] }
  | _ => none }
def CorrelationNeverWrongFalsely : Prop := correlationNeverRow.holds Try.pinned (OpenSpec.ofChange correlationNeverWrong)

/- THE SECOND FORM. 'bulk': how many values and letters a reading holds, each counted each time it is reached (what is shared counts as often as it is met; a slice's spare places count too). A statement '..UptoSaid' is the law's where the arguments, and the package variables that the reading takes, are together of bulk at most 1048576: NARROWER than '..Said'. Prove '..Said' where nothing that the law and all that it calls make is longer than what came in: it says more and counts as full. Else prove '..UptoSaid'. A law counts once. -/
mutual
def uptoBulk {H : Type} : DataW H → Nat
  | .lit (.string bytes) => bytes.length + 1
  | .lit _ => 1
  | .nil => 1
  | .ptr d => uptoBulk d + 1
  | .slice elems spare => uptoBulkAll elems + uptoBulkAll spare + 1
  | .agg parts => uptoBulkAll parts + 1
  | .iface _ d => uptoBulk d + 1
  | .map entries => uptoBulkEntries entries + 1
  | .held _ => 1
def uptoBulkAll {H : Type} : List (DataW H) → Nat
  | [] => 0
  | d :: r => uptoBulk d + uptoBulkAll r
def uptoBulkEntries {H : Type} : List (Lit × DataW H) → Nat
  | [] => 0
  | x :: r => uptoBulkEntry x + uptoBulkEntries r
def uptoBulkEntry {H : Type} : Lit × DataW H → Nat
  | (.string bytes, d) => bytes.length + uptoBulk d + 1
  | (_, d) => uptoBulk d + 1
 end
def uptoSmall : (H : Type) → List (DataW H) → Bool := fun _ ds => decide (uptoBulkAll ds ≤ 1048576)
def OpenSpec.upto (s : _root_.Go.ChangeSpec) : _root_.Go.OpenSpec := { _root_.Go.OpenSpec.ofChange s with cond := some uptoSmall }

/-- 'querylablaw21.CorrelationChecks', WHERE WHAT IT READS IS OF BULK AT MOST 1048576: true; the input reads as it did. -/
def correlationChecksUptoRow : OpenClaim := { program := "ytphgmfjinihgaaa", sum := "d5586679e34d023b88b4182adf4ee9d13ef9e2bd521ca5ca86f736672fc0d1b5", func := "querylab/querylablaw21.CorrelationChecks", spec := "correlationChecks", unfollowed := true, recurses := true, apart := false, narrowed := true }
def CorrelationChecksUptoSaid : Prop := correlationChecksUptoRow.holds Try.pinned (OpenSpec.upto correlationChecksSpec)

/-- 'querylablaw21.CorrelationSolves', WHERE WHAT IT READS IS OF BULK AT MOST 1048576: true; the input reads as it did. -/
def correlationSolvesUptoRow : OpenClaim := { program := "ytphgmfjinihgaaa", sum := "d5586679e34d023b88b4182adf4ee9d13ef9e2bd521ca5ca86f736672fc0d1b5", func := "querylab/querylablaw21.CorrelationSolves", spec := "correlationSolves", unfollowed := true, recurses := true, apart := false, narrowed := true }
def CorrelationSolvesUptoSaid : Prop := correlationSolvesUptoRow.holds Try.pinned (OpenSpec.upto correlationSolvesSpec)

/-- 'querylablaw21.CorrelationRaw', WHERE WHAT IT READS IS OF BULK AT MOST 1048576: true; the input reads as it did. -/
def correlationRawUptoRow : OpenClaim := { program := "ytphgmfjinihgaaa", sum := "d5586679e34d023b88b4182adf4ee9d13ef9e2bd521ca5ca86f736672fc0d1b5", func := "querylab/querylablaw21.CorrelationRaw", spec := "correlationRaw", unfollowed := true, recurses := true, apart := false, narrowed := true }
def CorrelationRawUptoSaid : Prop := correlationRawUptoRow.holds Try.pinned (OpenSpec.upto correlationRawSpec)

/-- 'querylablaw21.CorrelationNever', WHERE WHAT IT READS IS OF BULK AT MOST 1048576: true; the input reads as it did. -/
def correlationNeverUptoRow : OpenClaim := { program := "ytphgmfjinihgaaa", sum := "d5586679e34d023b88b4182adf4ee9d13ef9e2bd521ca5ca86f736672fc0d1b5", func := "querylab/querylablaw21.CorrelationNever", spec := "correlationNever", unfollowed := true, recurses := true, apart := false, narrowed := true }
def CorrelationNeverUptoSaid : Prop := correlationNeverUptoRow.holds Try.pinned (OpenSpec.upto correlationNeverSpec)

end Rows
end Go.Proofs.Ytphgmfjinihgaaa
