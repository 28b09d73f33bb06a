/-
  No cell of these rows narrows 'for every input' (looked for: loops, veiled, ifaces, maps, wideKeys, modest, calm, conditions, laid).
  DERIVED. THE GIVEN ROWS OF THIS SEAT. 5 by the template 'for every input the law returns true; each argument reads behind the call as it read before'; 0 by the template 'total and deterministic' (their statements: YtedfmhdeghpmgaaTotals.lean).
  GIVEN WITH THE SEED: the statements are not yours to turn. If you find one false, say at which input.
  Laid BY PROGRAM, IN A SANDBOX (cutbox-rows.mjs): the forced cells as the released guide's own fill.sh prints them over the translation 83b6d7c5b8e2e458… (all of the seat's roots in one cut). By AI agents, Wed Nov 11 2026. No macro, syntax, notation, axiom, sorry.
-/
import Derived.Test.YtedfmhdeghpmgaaChecked
import GoSem.Claim
import GoSem.ClaimJoined
import GoSem.ClaimMapViews
import Derived.JoinedTies
import Derived.KernelRfl
namespace Go.Proofs.Ytedfmhdeghpmgaa
/- THE CELL 'sum', in the pinned program and in every row, IS THE sha256 OF THE DUMP (.gsa) THAT YtedfmhdeghpmgaaProg.lean LOADS. Nothing in Lean hashes anything: it is a label: what it is worth is what the hold of that sum in a sandbox is worth. -/
noncomputable def Try.pinned : Pinned := { name := "ytedfmhdeghpmgaa", sum := "83b6d7c5b8e2e458e8f124d2a7cc7eb7716ddc075aa30e643dff858a3f720be8", checked := Try.checked }
namespace Rows
def none {H : Type} : Left H := { results := [], args := [] }

/-- 'querylablaw16.KeysAssigns': WHATEVER THE INPUT: true; the input reads as it did. -/
def keysAssignsSpec : ChangeSpec := { name := "keysAssigns", fn := fun _ => fun
  | [d1, d2, d3, d4] => { results := [.lit (.bool true)], args := [d1, d2, d3, d4] }
  | _ => none }
def keysAssignsRow : OpenClaim := { program := "ytedfmhdeghpmgaa", sum := "83b6d7c5b8e2e458e8f124d2a7cc7eb7716ddc075aa30e643dff858a3f720be8", func := "querylab/querylablaw16.KeysAssigns", spec := "keysAssigns", apart := false }
def KeysAssignsSaid : Prop := keysAssignsRow.holds Try.pinned (OpenSpec.ofChange keysAssignsSpec)

/-- ITS FALSE NEIGHBOUR: 'it returns false'. Refute it at one input. -/
def keysAssignsWrong : ChangeSpec := { name := "keysAssigns", fn := fun _ => fun
  | [d1, d2, d3, d4] => { results := [.lit (.bool false)], args := [d1, d2, d3, d4] }
  | _ => none }
def KeysAssignsWrongFalsely : Prop := keysAssignsRow.holds Try.pinned (OpenSpec.ofChange keysAssignsWrong)

/-- 'querylablaw16.KeysEven': WHATEVER THE INPUT: true; the input reads as it did. -/
def keysEvenSpec : ChangeSpec := { name := "keysEven", fn := fun _ => fun
  | [d1, d2, d3] => { results := [.lit (.bool true)], args := [d1, d2, d3] }
  | _ => none }
def keysEvenRow : OpenClaim := { program := "ytedfmhdeghpmgaa", sum := "83b6d7c5b8e2e458e8f124d2a7cc7eb7716ddc075aa30e643dff858a3f720be8", func := "querylab/querylablaw16.KeysEven", spec := "keysEven", apart := false }
def KeysEvenSaid : Prop := keysEvenRow.holds Try.pinned (OpenSpec.ofChange keysEvenSpec)

/-- ITS FALSE NEIGHBOUR: 'it returns false'. Refute it at one input. -/
def keysEvenWrong : ChangeSpec := { name := "keysEven", fn := fun _ => fun
  | [d1, d2, d3] => { results := [.lit (.bool false)], args := [d1, d2, d3] }
  | _ => none }
def KeysEvenWrongFalsely : Prop := keysEvenRow.holds Try.pinned (OpenSpec.ofChange keysEvenWrong)

/-- 'querylablaw16.KeysTargets': WHATEVER THE INPUT: true; the input reads as it did. -/
def keysTargetsSpec : ChangeSpec := { name := "keysTargets", fn := fun _ => fun
  | [d1, d2, d3] => { results := [.lit (.bool true)], args := [d1, d2, d3] }
  | _ => none }
def keysTargetsRow : OpenClaim := { program := "ytedfmhdeghpmgaa", sum := "83b6d7c5b8e2e458e8f124d2a7cc7eb7716ddc075aa30e643dff858a3f720be8", func := "querylab/querylablaw16.KeysTargets", spec := "keysTargets", unfollowed := true, recurses := true, apart := false }
def KeysTargetsSaid : Prop := keysTargetsRow.holds Try.pinned (OpenSpec.ofChange keysTargetsSpec)

/-- ITS FALSE NEIGHBOUR: 'it returns false'. Refute it at one input. -/
def keysTargetsWrong : ChangeSpec := { name := "keysTargets", fn := fun _ => fun
  | [d1, d2, d3] => { results := [.lit (.bool false)], args := [d1, d2, d3] }
  | _ => none }
def KeysTargetsWrongFalsely : Prop := keysTargetsRow.holds Try.pinned (OpenSpec.ofChange keysTargetsWrong)

/-- 'querylablaw16.KeysNumbers': WHATEVER THE INPUT: true; the input reads as it did. -/
def keysNumbersSpec : ChangeSpec := { name := "keysNumbers", fn := fun _ => fun
  | [d1, d2] => { results := [.lit (.bool true)], args := [d1, d2] }
  | _ => none }
def keysNumbersRow : OpenClaim := { program := "ytedfmhdeghpmgaa", sum := "83b6d7c5b8e2e458e8f124d2a7cc7eb7716ddc075aa30e643dff858a3f720be8", func := "querylab/querylablaw16.KeysNumbers", spec := "keysNumbers", unfollowed := true, recurses := true, apart := false }
def KeysNumbersSaid : Prop := keysNumbersRow.holds Try.pinned (OpenSpec.ofChange keysNumbersSpec)

/-- ITS FALSE NEIGHBOUR: 'it returns false'. Refute it at one input. -/
def keysNumbersWrong : ChangeSpec := { name := "keysNumbers", fn := fun _ => fun
  | [d1, d2] => { results := [.lit (.bool false)], args := [d1, d2] }
  | _ => none }
def KeysNumbersWrongFalsely : Prop := keysNumbersRow.holds Try.pinned (OpenSpec.ofChange keysNumbersWrong)

/-- 'querylablaw16.KeysRounds': WHATEVER THE INPUT: true; the input reads as it did. -/
def keysRoundsSpec : ChangeSpec := { name := "keysRounds", fn := fun _ => fun
  | [d1, d2, d3] => { results := [.lit (.bool true)], args := [d1, d2, d3] }
  | _ => none }
def keysRoundsRow : OpenClaim := { program := "ytedfmhdeghpmgaa", sum := "83b6d7c5b8e2e458e8f124d2a7cc7eb7716ddc075aa30e643dff858a3f720be8", func := "querylab/querylablaw16.KeysRounds", spec := "keysRounds", unfollowed := true, recurses := true, apart := false }
def KeysRoundsSaid : Prop := keysRoundsRow.holds Try.pinned (OpenSpec.ofChange keysRoundsSpec)

/-- ITS FALSE NEIGHBOUR: 'it returns false'. Refute it at one input. -/
def keysRoundsWrong : ChangeSpec := { name := "keysRounds", fn := fun _ => fun
  | [d1, d2, d3] => { results := [.lit (.bool false)], args := [d1, d2, d3] }
  | _ => none }
def KeysRoundsWrongFalsely : Prop := keysRoundsRow.holds Try.pinned (OpenSpec.ofChange keysRoundsWrong)

/- THE SECOND FORM. 'bulk': how many values and letters a reading holds, each counted each time it is reached (what is shared counts as often as it is met; a slice's spare places count too). A statement '..UptoSaid' is the law's where the arguments, and the package variables that the reading takes, are together of bulk at most 1048576: NARROWER than '..Said'. Prove '..Said' where nothing that the law and all that it calls make is longer than what came in: it says more and counts as full. Else prove '..UptoSaid'. A law counts once. -/
mutual
def uptoBulk {H : Type} : DataW H → Nat
  | .lit (.string bytes) => bytes.length + 1
  | .lit _ => 1
  | .nil => 1
  | .ptr d => uptoBulk d + 1
  | .slice elems spare => uptoBulkAll elems + uptoBulkAll spare + 1
  | .agg parts => uptoBulkAll parts + 1
  | .iface _ d => uptoBulk d + 1
  | .map entries => uptoBulkEntries entries + 1
  | .held _ => 1
def uptoBulkAll {H : Type} : List (DataW H) → Nat
  | [] => 0
  | d :: r => uptoBulk d + uptoBulkAll r
def uptoBulkEntries {H : Type} : List (Lit × DataW H) → Nat
  | [] => 0
  | x :: r => uptoBulkEntry x + uptoBulkEntries r
def uptoBulkEntry {H : Type} : Lit × DataW H → Nat
  | (.string bytes, d) => bytes.length + uptoBulk d + 1
  | (_, d) => uptoBulk d + 1
 end
def uptoSmall : (H : Type) → List (DataW H) → Bool := fun _ ds => decide (uptoBulkAll ds ≤ 1048576)
def OpenSpec.upto (s : _root_.Go.ChangeSpec) : _root_.Go.OpenSpec := { _root_.Go.OpenSpec.ofChange s with cond := some uptoSmall }

/-- 'querylablaw16.KeysAssigns', WHERE WHAT IT READS IS OF BULK AT MOST 1048576: true; the input reads as it did. -/
def keysAssignsUptoRow : OpenClaim := { program := "ytedfmhdeghpmgaa", sum := "83b6d7c5b8e2e458e8f124d2a7cc7eb7716ddc075aa30e643dff858a3f720be8", func := "querylab/querylablaw16.KeysAssigns", spec := "keysAssigns", apart := false, narrowed := true }
def KeysAssignsUptoSaid : Prop := keysAssignsUptoRow.holds Try.pinned (OpenSpec.upto keysAssignsSpec)

/-- 'querylablaw16.KeysEven', WHERE WHAT IT READS IS OF BULK AT MOST 1048576: true; the input reads as it did. -/
def keysEvenUptoRow : OpenClaim := { program := "ytedfmhdeghpmgaa", sum := "83b6d7c5b8e2e458e8f124d2a7cc7eb7716ddc075aa30e643dff858a3f720be8", func := "querylab/querylablaw16.KeysEven", spec := "keysEven", apart := false, narrowed := true }
def KeysEvenUptoSaid : Prop := keysEvenUptoRow.holds Try.pinned (OpenSpec.upto keysEvenSpec)

/-- 'querylablaw16.KeysTargets', WHERE WHAT IT READS IS OF BULK AT MOST 1048576: true; the input reads as it did. -/
def keysTargetsUptoRow : OpenClaim := { program := "ytedfmhdeghpmgaa", sum := "83b6d7c5b8e2e458e8f124d2a7cc7eb7716ddc075aa30e643dff858a3f720be8", func := "querylab/querylablaw16.KeysTargets", spec := "keysTargets", unfollowed := true, recurses := true, apart := false, narrowed := true }
def KeysTargetsUptoSaid : Prop := keysTargetsUptoRow.holds Try.pinned (OpenSpec.upto keysTargetsSpec)

/-- 'querylablaw16.KeysNumbers', WHERE WHAT IT READS IS OF BULK AT MOST 1048576: true; the input reads as it did. -/
def keysNumbersUptoRow : OpenClaim := { program := "ytedfmhdeghpmgaa", sum := "83b6d7c5b8e2e458e8f124d2a7cc7eb7716ddc075aa30e643dff858a3f720be8", func := "querylab/querylablaw16.KeysNumbers", spec := "keysNumbers", unfollowed := true, recurses := true, apart := false, narrowed := true }
def KeysNumbersUptoSaid : Prop := keysNumbersUptoRow.holds Try.pinned (OpenSpec.upto keysNumbersSpec)

/-- 'querylablaw16.KeysRounds', WHERE WHAT IT READS IS OF BULK AT MOST 1048576: true; the input reads as it did. -/
def keysRoundsUptoRow : OpenClaim := { program := "ytedfmhdeghpmgaa", sum := "83b6d7c5b8e2e458e8f124d2a7cc7eb7716ddc075aa30e643dff858a3f720be8", func := "querylab/querylablaw16.KeysRounds", spec := "keysRounds", unfollowed := true, recurses := true, apart := false, narrowed := true }
def KeysRoundsUptoSaid : Prop := keysRoundsUptoRow.holds Try.pinned (OpenSpec.upto keysRoundsSpec)

end Rows
end Go.Proofs.Ytedfmhdeghpmgaa
