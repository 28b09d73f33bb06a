/-
  No cell of these rows narrows 'for every input' (looked for: loops, veiled, ifaces, maps, wideKeys, modest, calm, conditions, laid).
  DERIVED. THE GIVEN ROWS OF THIS SEAT. 5 by the template 'for every input the law returns true; each argument reads behind the call as it read before'; 0 by the template 'total and deterministic' (their statements: YtaomejbaocehnaaTotals.lean).
  GIVEN WITH THE SEED: the statements are not yours to turn. If you find one false, say at which input.
  Laid BY PROGRAM, IN A SANDBOX (cutbox-rows.mjs): the forced cells as the released guide's own fill.sh prints them over the translation e953b3e4545245bc… (all of the seat's roots in one cut). By AI agents, Wed Nov 11 2026. No macro, syntax, notation, axiom, sorry.
-/
import Derived.Test.YtaomejbaocehnaaChecked
import GoSem.Claim
import GoSem.ClaimJoined
import GoSem.ClaimMapViews
import Derived.JoinedTies
import Derived.KernelRfl
namespace Go.Proofs.Ytaomejbaocehnaa
/- THE CELL 'sum', in the pinned program and in every row, IS THE sha256 OF THE DUMP (.gsa) THAT YtaomejbaocehnaaProg.lean LOADS. Nothing in Lean hashes anything: it is a label: what it is worth is what the hold of that sum in a sandbox is worth. -/
noncomputable def Try.pinned : Pinned := { name := "ytaomejbaocehnaa", sum := "e953b3e4545245bc0da612bfe3e143be0436c5f2366df5bc45e30e58f1ab3219", checked := Try.checked }
namespace Rows
def none {H : Type} : Left H := { results := [], args := [] }

/-- 'querylablaw31.SuiteLeast': WHATEVER THE INPUT: true; the input reads as it did. -/
def suiteLeastSpec : ChangeSpec := { name := "suiteLeast", fn := fun _ => fun
  | [d] => { results := [.lit (.bool true)], args := [d] }
  | _ => none }
def suiteLeastRow : OpenClaim := { program := "ytaomejbaocehnaa", sum := "e953b3e4545245bc0da612bfe3e143be0436c5f2366df5bc45e30e58f1ab3219", func := "querylab/querylablaw31.SuiteLeast", spec := "suiteLeast", unfollowed := true, recurses := true, apart := false }
def SuiteLeastSaid : Prop := suiteLeastRow.holds Try.pinned (OpenSpec.ofChange suiteLeastSpec)

/-- ITS FALSE NEIGHBOUR: 'it returns false'. Refute it at one input. -/
def suiteLeastWrong : ChangeSpec := { name := "suiteLeast", fn := fun _ => fun
  | [d] => { results := [.lit (.bool false)], args := [d] }
  | _ => none }
def SuiteLeastWrongFalsely : Prop := suiteLeastRow.holds Try.pinned (OpenSpec.ofChange suiteLeastWrong)

/-- 'querylablaw31.SuiteOrder': WHATEVER THE INPUT: true; the input reads as it did. -/
def suiteOrderSpec : ChangeSpec := { name := "suiteOrder", fn := fun _ => fun
  | [d] => { results := [.lit (.bool true)], args := [d] }
  | _ => none }
def suiteOrderRow : OpenClaim := { program := "ytaomejbaocehnaa", sum := "e953b3e4545245bc0da612bfe3e143be0436c5f2366df5bc45e30e58f1ab3219", func := "querylab/querylablaw31.SuiteOrder", spec := "suiteOrder", unfollowed := true, recurses := true, apart := false }
def SuiteOrderSaid : Prop := suiteOrderRow.holds Try.pinned (OpenSpec.ofChange suiteOrderSpec)

/-- ITS FALSE NEIGHBOUR: 'it returns false'. Refute it at one input. -/
def suiteOrderWrong : ChangeSpec := { name := "suiteOrder", fn := fun _ => fun
  | [d] => { results := [.lit (.bool false)], args := [d] }
  | _ => none }
def SuiteOrderWrongFalsely : Prop := suiteOrderRow.holds Try.pinned (OpenSpec.ofChange suiteOrderWrong)

/-- 'querylablaw31.SuiteApart': WHATEVER THE INPUT: true; the input reads as it did. -/
def suiteApartSpec : ChangeSpec := { name := "suiteApart", fn := fun _ => fun
  | [d] => { results := [.lit (.bool true)], args := [d] }
  | _ => none }
def suiteApartRow : OpenClaim := { program := "ytaomejbaocehnaa", sum := "e953b3e4545245bc0da612bfe3e143be0436c5f2366df5bc45e30e58f1ab3219", func := "querylab/querylablaw31.SuiteApart", spec := "suiteApart", unfollowed := true, recurses := true, apart := false }
def SuiteApartSaid : Prop := suiteApartRow.holds Try.pinned (OpenSpec.ofChange suiteApartSpec)

/-- ITS FALSE NEIGHBOUR: 'it returns false'. Refute it at one input. -/
def suiteApartWrong : ChangeSpec := { name := "suiteApart", fn := fun _ => fun
  | [d] => { results := [.lit (.bool false)], args := [d] }
  | _ => none }
def SuiteApartWrongFalsely : Prop := suiteApartRow.holds Try.pinned (OpenSpec.ofChange suiteApartWrong)

/-- 'querylablaw31.SuiteAnswers': WHATEVER THE INPUT: true; the input reads as it did. -/
def suiteAnswersSpec : ChangeSpec := { name := "suiteAnswers", fn := fun _ => fun
  | [d1, d2, d3] => { results := [.lit (.bool true)], args := [d1, d2, d3] }
  | _ => none }
def suiteAnswersRow : OpenClaim := { program := "ytaomejbaocehnaa", sum := "e953b3e4545245bc0da612bfe3e143be0436c5f2366df5bc45e30e58f1ab3219", func := "querylab/querylablaw31.SuiteAnswers", spec := "suiteAnswers", unfollowed := true, recurses := true, apart := false }
def SuiteAnswersSaid : Prop := suiteAnswersRow.holds Try.pinned (OpenSpec.ofChange suiteAnswersSpec)

/-- ITS FALSE NEIGHBOUR: 'it returns false'. Refute it at one input. -/
def suiteAnswersWrong : ChangeSpec := { name := "suiteAnswers", fn := fun _ => fun
  | [d1, d2, d3] => { results := [.lit (.bool false)], args := [d1, d2, d3] }
  | _ => none }
def SuiteAnswersWrongFalsely : Prop := suiteAnswersRow.holds Try.pinned (OpenSpec.ofChange suiteAnswersWrong)

/-- 'querylablaw31.SuiteSurvives': WHATEVER THE INPUT: true; the input reads as it did. -/
def suiteSurvivesSpec : ChangeSpec := { name := "suiteSurvives", fn := fun _ => fun
  | [d] => { results := [.lit (.bool true)], args := [d] }
  | _ => none }
def suiteSurvivesRow : OpenClaim := { program := "ytaomejbaocehnaa", sum := "e953b3e4545245bc0da612bfe3e143be0436c5f2366df5bc45e30e58f1ab3219", func := "querylab/querylablaw31.SuiteSurvives", spec := "suiteSurvives", unfollowed := true, recurses := true, apart := false }
def SuiteSurvivesSaid : Prop := suiteSurvivesRow.holds Try.pinned (OpenSpec.ofChange suiteSurvivesSpec)

/-- ITS FALSE NEIGHBOUR: 'it returns false'. Refute it at one input. -/
def suiteSurvivesWrong : ChangeSpec := { name := "suiteSurvives", fn := fun _ => fun
  | [d] => { results := [.lit (.bool false)], args := [d] }
  | _ => none }
def SuiteSurvivesWrongFalsely : Prop := suiteSurvivesRow.holds Try.pinned (OpenSpec.ofChange suiteSurvivesWrong)

/- THE SECOND FORM. 'bulk': how many values and letters a reading holds, each counted each time it is reached (what is shared counts as often as it is met; a slice's spare places count too). A statement '..UptoSaid' is the law's where the arguments, and the package variables that the reading takes, are together of bulk at most 1048576: NARROWER than '..Said'. Prove '..Said' where nothing that the law and all that it calls make is longer than what came in: it says more and counts as full. Else prove '..UptoSaid'. A law counts once. -/
mutual
def uptoBulk {H : Type} : DataW H → Nat
  | .lit (.string bytes) => bytes.length + 1
  | .lit _ => 1
  | .nil => 1
  | .ptr d => uptoBulk d + 1
  | .slice elems spare => uptoBulkAll elems + uptoBulkAll spare + 1
  | .agg parts => uptoBulkAll parts + 1
  | .iface _ d => uptoBulk d + 1
  | .map entries => uptoBulkEntries entries + 1
  | .held _ => 1
def uptoBulkAll {H : Type} : List (DataW H) → Nat
  | [] => 0
  | d :: r => uptoBulk d + uptoBulkAll r
def uptoBulkEntries {H : Type} : List (Lit × DataW H) → Nat
  | [] => 0
  | x :: r => uptoBulkEntry x + uptoBulkEntries r
def uptoBulkEntry {H : Type} : Lit × DataW H → Nat
  | (.string bytes, d) => bytes.length + uptoBulk d + 1
  | (_, d) => uptoBulk d + 1
 end
def uptoSmall : (H : Type) → List (DataW H) → Bool := fun _ ds => decide (uptoBulkAll ds ≤ 1048576)
def OpenSpec.upto (s : _root_.Go.ChangeSpec) : _root_.Go.OpenSpec := { _root_.Go.OpenSpec.ofChange s with cond := some uptoSmall }

/-- 'querylablaw31.SuiteLeast', WHERE WHAT IT READS IS OF BULK AT MOST 1048576: true; the input reads as it did. -/
def suiteLeastUptoRow : OpenClaim := { program := "ytaomejbaocehnaa", sum := "e953b3e4545245bc0da612bfe3e143be0436c5f2366df5bc45e30e58f1ab3219", func := "querylab/querylablaw31.SuiteLeast", spec := "suiteLeast", unfollowed := true, recurses := true, apart := false, narrowed := true }
def SuiteLeastUptoSaid : Prop := suiteLeastUptoRow.holds Try.pinned (OpenSpec.upto suiteLeastSpec)

/-- 'querylablaw31.SuiteOrder', WHERE WHAT IT READS IS OF BULK AT MOST 1048576: true; the input reads as it did. -/
def suiteOrderUptoRow : OpenClaim := { program := "ytaomejbaocehnaa", sum := "e953b3e4545245bc0da612bfe3e143be0436c5f2366df5bc45e30e58f1ab3219", func := "querylab/querylablaw31.SuiteOrder", spec := "suiteOrder", unfollowed := true, recurses := true, apart := false, narrowed := true }
def SuiteOrderUptoSaid : Prop := suiteOrderUptoRow.holds Try.pinned (OpenSpec.upto suiteOrderSpec)

/-- 'querylablaw31.SuiteApart', WHERE WHAT IT READS IS OF BULK AT MOST 1048576: true; the input reads as it did. -/
def suiteApartUptoRow : OpenClaim := { program := "ytaomejbaocehnaa", sum := "e953b3e4545245bc0da612bfe3e143be0436c5f2366df5bc45e30e58f1ab3219", func := "querylab/querylablaw31.SuiteApart", spec := "suiteApart", unfollowed := true, recurses := true, apart := false, narrowed := true }
def SuiteApartUptoSaid : Prop := suiteApartUptoRow.holds Try.pinned (OpenSpec.upto suiteApartSpec)

/-- 'querylablaw31.SuiteAnswers', WHERE WHAT IT READS IS OF BULK AT MOST 1048576: true; the input reads as it did. -/
def suiteAnswersUptoRow : OpenClaim := { program := "ytaomejbaocehnaa", sum := "e953b3e4545245bc0da612bfe3e143be0436c5f2366df5bc45e30e58f1ab3219", func := "querylab/querylablaw31.SuiteAnswers", spec := "suiteAnswers", unfollowed := true, recurses := true, apart := false, narrowed := true }
def SuiteAnswersUptoSaid : Prop := suiteAnswersUptoRow.holds Try.pinned (OpenSpec.upto suiteAnswersSpec)

/-- 'querylablaw31.SuiteSurvives', WHERE WHAT IT READS IS OF BULK AT MOST 1048576: true; the input reads as it did. -/
def suiteSurvivesUptoRow : OpenClaim := { program := "ytaomejbaocehnaa", sum := "e953b3e4545245bc0da612bfe3e143be0436c5f2366df5bc45e30e58f1ab3219", func := "querylab/querylablaw31.SuiteSurvives", spec := "suiteSurvives", unfollowed := true, recurses := true, apart := false, narrowed := true }
def SuiteSurvivesUptoSaid : Prop := suiteSurvivesUptoRow.holds Try.pinned (OpenSpec.upto suiteSurvivesSpec)

end Rows
end Go.Proofs.Ytaomejbaocehnaa
