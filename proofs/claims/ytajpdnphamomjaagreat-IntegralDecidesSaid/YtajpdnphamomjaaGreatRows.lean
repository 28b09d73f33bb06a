/-
  No cell of these rows narrows 'for every input' (looked for: loops, veiled, ifaces, maps, wideKeys, modest, calm, conditions, laid).
  DERIVED. THE GIVEN ROWS OF THIS SEAT. 4 by the template 'for every input the law returns true; each argument reads behind the call as it read before'; 0 by the template 'total and deterministic' (their statements: YtajpdnphamomjaaGreatTotals.lean).
  GIVEN WITH THE SEED: the statements are not yours to turn. If you find one false, say at which input.
  Laid BY PROGRAM, IN A SANDBOX (cutbox-rows.mjs): the forced cells as the released guide's own fill.sh prints them over the translation 72409a54e6658f54… (all of the seat's roots in one cut). By AI agents, Wed Nov 11 2026. No macro, syntax, notation, axiom, sorry.
-/
import Derived.Test.YtajpdnphamomjaaGreatChecked
import GoSem.Claim
import GoSem.ClaimJoined
import GoSem.ClaimMapViews
import Derived.JoinedTies
import Derived.KernelRfl
namespace Go.Proofs.YtajpdnphamomjaaGreat
/- THE CELL 'sum', in the pinned program and in every row, IS THE sha256 OF THE DUMP (.gsa) THAT YtajpdnphamomjaaGreatProg.lean LOADS. Nothing in Lean hashes anything: it is a label: what it is worth is what the hold of that sum in a sandbox is worth. -/
noncomputable def Tryz.pinned : Pinned := { name := "ytajpdnphamomjaagreat", sum := "72409a54e6658f54ce185eff0ea1d5b715a28883b4e4ac4f01e3361cf3a657ca", checked := Tryz.checked }
namespace Rows
def none {H : Type} : Left H := { results := [], args := [] }

/-- 'querylablaw12.IntegralDecides': WHATEVER THE INPUT: true; the input reads as it did. -/
def integralDecidesSpec : ChangeSpec := { name := "integralDecides", fn := fun _ => fun
  | [d] => { results := [.lit (.bool true)], args := [d] }
  | _ => none }
def integralDecidesRow : OpenClaim := { program := "ytajpdnphamomjaagreat", sum := "72409a54e6658f54ce185eff0ea1d5b715a28883b4e4ac4f01e3361cf3a657ca", func := "querylab/querylablaw12.IntegralDecides", spec := "integralDecides", unfollowed := true, recurses := true, apart := false }
def IntegralDecidesSaid : Prop := integralDecidesRow.holds Tryz.pinned (OpenSpec.ofChange integralDecidesSpec)

/-- ITS FALSE NEIGHBOUR: 'it returns false'. Refute it at one input. -/
def integralDecidesWrong : ChangeSpec := { name := "integralDecides", fn := fun _ => fun
  | [d] => { results := [.lit (.bool false)], args := [d] }
  | _ => none }
def IntegralDecidesWrongFalsely : Prop := integralDecidesRow.holds Tryz.pinned (OpenSpec.ofChange integralDecidesWrong)

/-- 'querylablaw12.IntegralNarrow': WHATEVER THE INPUT: true; the input reads as it did. -/
def integralNarrowSpec : ChangeSpec := { name := "integralNarrow", fn := fun _ => fun
  | [d1, d2, d3, d4] => { results := [.lit (.bool true)], args := [d1, d2, d3, d4] }
  | _ => none }
def integralNarrowRow : OpenClaim := { program := "ytajpdnphamomjaagreat", sum := "72409a54e6658f54ce185eff0ea1d5b715a28883b4e4ac4f01e3361cf3a657ca", func := "querylab/querylablaw12.IntegralNarrow", spec := "integralNarrow", unfollowed := true, recurses := true, apart := false }
def IntegralNarrowSaid : Prop := integralNarrowRow.holds Tryz.pinned (OpenSpec.ofChange integralNarrowSpec)

/-- ITS FALSE NEIGHBOUR: 'it returns false'. Refute it at one input. -/
def integralNarrowWrong : ChangeSpec := { name := "integralNarrow", fn := fun _ => fun
  | [d1, d2, d3, d4] => { results := [.lit (.bool false)], args := [d1, d2, d3, d4] }
  | _ => none }
def IntegralNarrowWrongFalsely : Prop := integralNarrowRow.holds Tryz.pinned (OpenSpec.ofChange integralNarrowWrong)

/-- 'querylablaw12.IntegralLarge': WHATEVER THE INPUT: true; the input reads as it did. -/
def integralLargeSpec : ChangeSpec := { name := "integralLarge", fn := fun _ => fun
  | [d1, d2] => { results := [.lit (.bool true)], args := [d1, d2] }
  | _ => none }
def integralLargeRow : OpenClaim := { program := "ytajpdnphamomjaagreat", sum := "72409a54e6658f54ce185eff0ea1d5b715a28883b4e4ac4f01e3361cf3a657ca", func := "querylab/querylablaw12.IntegralLarge", spec := "integralLarge", unfollowed := true, recurses := true, apart := false }
def IntegralLargeSaid : Prop := integralLargeRow.holds Tryz.pinned (OpenSpec.ofChange integralLargeSpec)

/-- ITS FALSE NEIGHBOUR: 'it returns false'. Refute it at one input. -/
def integralLargeWrong : ChangeSpec := { name := "integralLarge", fn := fun _ => fun
  | [d1, d2] => { results := [.lit (.bool false)], args := [d1, d2] }
  | _ => none }
def IntegralLargeWrongFalsely : Prop := integralLargeRow.holds Tryz.pinned (OpenSpec.ofChange integralLargeWrong)

/-- 'querylablaw12.IntegralSound': WHATEVER THE INPUT: true; the input reads as it did. -/
def integralSoundSpec : ChangeSpec := { name := "integralSound", fn := fun _ => fun
  | [d] => { results := [.lit (.bool true)], args := [d] }
  | _ => none }
def integralSoundRow : OpenClaim := { program := "ytajpdnphamomjaagreat", sum := "72409a54e6658f54ce185eff0ea1d5b715a28883b4e4ac4f01e3361cf3a657ca", func := "querylab/querylablaw12.IntegralSound", spec := "integralSound", unfollowed := true, recurses := true, apart := false }
def IntegralSoundSaid : Prop := integralSoundRow.holds Tryz.pinned (OpenSpec.ofChange integralSoundSpec)

/-- ITS FALSE NEIGHBOUR: 'it returns false'. Refute it at one input. -/
def integralSoundWrong : ChangeSpec := { name := "integralSound", fn := fun _ => fun
  | [d] => { results := [.lit (.bool false)], args := [d] }
  | _ => none }
def IntegralSoundWrongFalsely : Prop := integralSoundRow.holds Tryz.pinned (OpenSpec.ofChange integralSoundWrong)

/- THE SECOND FORM. 'bulk': how many values and letters a reading holds, each counted each time it is reached (what is shared counts as often as it is met; a slice's spare places count too). A statement '..UptoSaid' is the law's where the arguments, and the package variables that the reading takes, are together of bulk at most 1048576: NARROWER than '..Said'. Prove '..Said' where nothing that the law and all that it calls make is longer than what came in: it says more and counts as full. Else prove '..UptoSaid'. A law counts once. -/
mutual
def uptoBulk {H : Type} : DataW H → Nat
  | .lit (.string bytes) => bytes.length + 1
  | .lit _ => 1
  | .nil => 1
  | .ptr d => uptoBulk d + 1
  | .slice elems spare => uptoBulkAll elems + uptoBulkAll spare + 1
  | .agg parts => uptoBulkAll parts + 1
  | .iface _ d => uptoBulk d + 1
  | .map entries => uptoBulkEntries entries + 1
  | .held _ => 1
def uptoBulkAll {H : Type} : List (DataW H) → Nat
  | [] => 0
  | d :: r => uptoBulk d + uptoBulkAll r
def uptoBulkEntries {H : Type} : List (Lit × DataW H) → Nat
  | [] => 0
  | x :: r => uptoBulkEntry x + uptoBulkEntries r
def uptoBulkEntry {H : Type} : Lit × DataW H → Nat
  | (.string bytes, d) => bytes.length + uptoBulk d + 1
  | (_, d) => uptoBulk d + 1
 end
def uptoSmall : (H : Type) → List (DataW H) → Bool := fun _ ds => decide (uptoBulkAll ds ≤ 1048576)
def OpenSpec.upto (s : _root_.Go.ChangeSpec) : _root_.Go.OpenSpec := { _root_.Go.OpenSpec.ofChange s with cond := some uptoSmall }

/-- 'querylablaw12.IntegralDecides', WHERE WHAT IT READS IS OF BULK AT MOST 1048576: true; the input reads as it did. -/
def integralDecidesUptoRow : OpenClaim := { program := "ytajpdnphamomjaagreat", sum := "72409a54e6658f54ce185eff0ea1d5b715a28883b4e4ac4f01e3361cf3a657ca", func := "querylab/querylablaw12.IntegralDecides", spec := "integralDecides", unfollowed := true, recurses := true, apart := false, narrowed := true }
def IntegralDecidesUptoSaid : Prop := integralDecidesUptoRow.holds Tryz.pinned (OpenSpec.upto integralDecidesSpec)

/-- 'querylablaw12.IntegralNarrow', WHERE WHAT IT READS IS OF BULK AT MOST 1048576: true; the input reads as it did. -/
def integralNarrowUptoRow : OpenClaim := { program := "ytajpdnphamomjaagreat", sum := "72409a54e6658f54ce185eff0ea1d5b715a28883b4e4ac4f01e3361cf3a657ca", func := "querylab/querylablaw12.IntegralNarrow", spec := "integralNarrow", unfollowed := true, recurses := true, apart := false, narrowed := true }
def IntegralNarrowUptoSaid : Prop := integralNarrowUptoRow.holds Tryz.pinned (OpenSpec.upto integralNarrowSpec)

/-- 'querylablaw12.IntegralLarge', WHERE WHAT IT READS IS OF BULK AT MOST 1048576: true; the input reads as it did. -/
def integralLargeUptoRow : OpenClaim := { program := "ytajpdnphamomjaagreat", sum := "72409a54e6658f54ce185eff0ea1d5b715a28883b4e4ac4f01e3361cf3a657ca", func := "querylab/querylablaw12.IntegralLarge", spec := "integralLarge", unfollowed := true, recurses := true, apart := false, narrowed := true }
def IntegralLargeUptoSaid : Prop := integralLargeUptoRow.holds Tryz.pinned (OpenSpec.upto integralLargeSpec)

/-- 'querylablaw12.IntegralSound', WHERE WHAT IT READS IS OF BULK AT MOST 1048576: true; the input reads as it did. -/
def integralSoundUptoRow : OpenClaim := { program := "ytajpdnphamomjaagreat", sum := "72409a54e6658f54ce185eff0ea1d5b715a28883b4e4ac4f01e3361cf3a657ca", func := "querylab/querylablaw12.IntegralSound", spec := "integralSound", unfollowed := true, recurses := true, apart := false, narrowed := true }
def IntegralSoundUptoSaid : Prop := integralSoundUptoRow.holds Tryz.pinned (OpenSpec.upto integralSoundSpec)

end Rows
end Go.Proofs.YtajpdnphamomjaaGreat
