/-
  No cell of these rows narrows 'for every input' (looked for: loops, veiled, ifaces, maps, wideKeys, modest, calm, conditions, laid).
  DERIVED. THE GIVEN ROWS OF THIS SEAT. 4 by the template 'for every input the law returns true; each argument reads behind the call as it read before'; 0 by the template 'total and deterministic' (their statements: YtcglflifaniolaaTotals.lean).
  GIVEN WITH THE SEED: the statements are not yours to turn. If you find one false, say at which input.
  Laid BY PROGRAM, IN A SANDBOX (cutbox-rows.mjs): the forced cells as the released guide's own fill.sh prints them over the translation 0c1518e81c320956… (all of the seat's roots in one cut). By AI agents, Wed Nov 11 2026. No macro, syntax, notation, axiom, sorry.
-/
import Derived.Test.YtcglflifaniolaaChecked
import GoSem.Claim
import GoSem.ClaimJoined
import GoSem.ClaimMapViews
import Derived.JoinedTies
import Derived.KernelRfl
namespace Go.Proofs.Ytcglflifaniolaa
/- THE CELL 'sum', in the pinned program and in every row, IS THE sha256 OF THE DUMP (.gsa) THAT YtcglflifaniolaaProg.lean LOADS. Nothing in Lean hashes anything: it is a label: what it is worth is what the hold of that sum in a sandbox is worth. -/
noncomputable def Try.pinned : Pinned := { name := "ytcglflifaniolaa", sum := "0c1518e81c3209564b2c0d4e97664497b7bc22b6e674018b7d0430507ad6a9c6", checked := Try.checked }
namespace Rows
def none {H : Type} : Left H := { results := [], args := [] }

/-- 'querylablaw42.ScheduleReads': WHATEVER THE INPUT: true; the input reads as it did. -/
def scheduleReadsSpec : ChangeSpec := { name := "scheduleReads", fn := fun _ => fun
  | [d1, d2] => { results := [.lit (.bool true)], args := [d1, d2] }
  | _ => none }
def scheduleReadsRow : OpenClaim := { program := "ytcglflifaniolaa", sum := "0c1518e81c3209564b2c0d4e97664497b7bc22b6e674018b7d0430507ad6a9c6", func := "querylab/querylablaw42.ScheduleReads", spec := "scheduleReads", inPlace := ["slices.overlaps[querylab/schedule.written]"], unfollowed := true, recurses := true, apart := false }
def ScheduleReadsSaid : Prop := scheduleReadsRow.holds Try.pinned (OpenSpec.ofChange scheduleReadsSpec)

/-- ITS FALSE NEIGHBOUR: 'it returns false'. Refute it at one input. -/
def scheduleReadsWrong : ChangeSpec := { name := "scheduleReads", fn := fun _ => fun
  | [d1, d2] => { results := [.lit (.bool false)], args := [d1, d2] }
  | _ => none }
def ScheduleReadsWrongFalsely : Prop := scheduleReadsRow.holds Try.pinned (OpenSpec.ofChange scheduleReadsWrong)

/-- 'querylablaw42.ScheduleWrites': WHATEVER THE INPUT: true; the input reads as it did. -/
def scheduleWritesSpec : ChangeSpec := { name := "scheduleWrites", fn := fun _ => fun
  | [d1, d2] => { results := [.lit (.bool true)], args := [d1, d2] }
  | _ => none }
def scheduleWritesRow : OpenClaim := { program := "ytcglflifaniolaa", sum := "0c1518e81c3209564b2c0d4e97664497b7bc22b6e674018b7d0430507ad6a9c6", func := "querylab/querylablaw42.ScheduleWrites", spec := "scheduleWrites", inPlace := ["slices.overlaps[querylab/schedule.written]"], unfollowed := true, recurses := true, apart := false }
def ScheduleWritesSaid : Prop := scheduleWritesRow.holds Try.pinned (OpenSpec.ofChange scheduleWritesSpec)

/-- ITS FALSE NEIGHBOUR: 'it returns false'. Refute it at one input. -/
def scheduleWritesWrong : ChangeSpec := { name := "scheduleWrites", fn := fun _ => fun
  | [d1, d2] => { results := [.lit (.bool false)], args := [d1, d2] }
  | _ => none }
def ScheduleWritesWrongFalsely : Prop := scheduleWritesRow.holds Try.pinned (OpenSpec.ofChange scheduleWritesWrong)

/-- 'querylablaw42.ScheduleEnds': WHATEVER THE INPUT: true; the input reads as it did. -/
def scheduleEndsSpec : ChangeSpec := { name := "scheduleEnds", fn := fun _ => fun
  | [d1, d2] => { results := [.lit (.bool true)], args := [d1, d2] }
  | _ => none }
def scheduleEndsRow : OpenClaim := { program := "ytcglflifaniolaa", sum := "0c1518e81c3209564b2c0d4e97664497b7bc22b6e674018b7d0430507ad6a9c6", func := "querylab/querylablaw42.ScheduleEnds", spec := "scheduleEnds", inPlace := ["slices.overlaps[querylab/schedule.written]"], unfollowed := true, recurses := true, apart := false }
def ScheduleEndsSaid : Prop := scheduleEndsRow.holds Try.pinned (OpenSpec.ofChange scheduleEndsSpec)

/-- ITS FALSE NEIGHBOUR: 'it returns false'. Refute it at one input. -/
def scheduleEndsWrong : ChangeSpec := { name := "scheduleEnds", fn := fun _ => fun
  | [d1, d2] => { results := [.lit (.bool false)], args := [d1, d2] }
  | _ => none }
def ScheduleEndsWrongFalsely : Prop := scheduleEndsRow.holds Try.pinned (OpenSpec.ofChange scheduleEndsWrong)

/-- 'querylablaw42.ScheduleSerial': WHATEVER THE INPUT: true; the input reads as it did. -/
def scheduleSerialSpec : ChangeSpec := { name := "scheduleSerial", fn := fun _ => fun
  | [d] => { results := [.lit (.bool true)], args := [d] }
  | _ => none }
def scheduleSerialRow : OpenClaim := { program := "ytcglflifaniolaa", sum := "0c1518e81c3209564b2c0d4e97664497b7bc22b6e674018b7d0430507ad6a9c6", func := "querylab/querylablaw42.ScheduleSerial", spec := "scheduleSerial", inPlace := ["slices.overlaps[querylab/schedule.written]"], unfollowed := true, recurses := true, apart := false }
def ScheduleSerialSaid : Prop := scheduleSerialRow.holds Try.pinned (OpenSpec.ofChange scheduleSerialSpec)

/-- ITS FALSE NEIGHBOUR: 'it returns false'. Refute it at one input. -/
def scheduleSerialWrong : ChangeSpec := { name := "scheduleSerial", fn := fun _ => fun
  | [d] => { results := [.lit (.bool false)], args := [d] }
  | _ => none }
def ScheduleSerialWrongFalsely : Prop := scheduleSerialRow.holds Try.pinned (OpenSpec.ofChange scheduleSerialWrong)

/- THE SECOND FORM. 'bulk': how many values and letters a reading holds, each counted each time it is reached (what is shared counts as often as it is met; a slice's spare places count too). A statement '..UptoSaid' is the law's where the arguments, and the package variables that the reading takes, are together of bulk at most 1048576: NARROWER than '..Said'. Prove '..Said' where nothing that the law and all that it calls make is longer than what came in: it says more and counts as full. Else prove '..UptoSaid'. A law counts once. -/
mutual
def uptoBulk {H : Type} : DataW H → Nat
  | .lit (.string bytes) => bytes.length + 1
  | .lit _ => 1
  | .nil => 1
  | .ptr d => uptoBulk d + 1
  | .slice elems spare => uptoBulkAll elems + uptoBulkAll spare + 1
  | .agg parts => uptoBulkAll parts + 1
  | .iface _ d => uptoBulk d + 1
  | .map entries => uptoBulkEntries entries + 1
  | .held _ => 1
def uptoBulkAll {H : Type} : List (DataW H) → Nat
  | [] => 0
  | d :: r => uptoBulk d + uptoBulkAll r
def uptoBulkEntries {H : Type} : List (Lit × DataW H) → Nat
  | [] => 0
  | x :: r => uptoBulkEntry x + uptoBulkEntries r
def uptoBulkEntry {H : Type} : Lit × DataW H → Nat
  | (.string bytes, d) => bytes.length + uptoBulk d + 1
  | (_, d) => uptoBulk d + 1
 end
def uptoSmall : (H : Type) → List (DataW H) → Bool := fun _ ds => decide (uptoBulkAll ds ≤ 1048576)
def OpenSpec.upto (s : _root_.Go.ChangeSpec) : _root_.Go.OpenSpec := { _root_.Go.OpenSpec.ofChange s with cond := some uptoSmall }

/-- 'querylablaw42.ScheduleReads', WHERE WHAT IT READS IS OF BULK AT MOST 1048576: true; the input reads as it did. -/
def scheduleReadsUptoRow : OpenClaim := { program := "ytcglflifaniolaa", sum := "0c1518e81c3209564b2c0d4e97664497b7bc22b6e674018b7d0430507ad6a9c6", func := "querylab/querylablaw42.ScheduleReads", spec := "scheduleReads", inPlace := ["slices.overlaps[querylab/schedule.written]"], unfollowed := true, recurses := true, apart := false, narrowed := true }
def ScheduleReadsUptoSaid : Prop := scheduleReadsUptoRow.holds Try.pinned (OpenSpec.upto scheduleReadsSpec)

/-- 'querylablaw42.ScheduleWrites', WHERE WHAT IT READS IS OF BULK AT MOST 1048576: true; the input reads as it did. -/
def scheduleWritesUptoRow : OpenClaim := { program := "ytcglflifaniolaa", sum := "0c1518e81c3209564b2c0d4e97664497b7bc22b6e674018b7d0430507ad6a9c6", func := "querylab/querylablaw42.ScheduleWrites", spec := "scheduleWrites", inPlace := ["slices.overlaps[querylab/schedule.written]"], unfollowed := true, recurses := true, apart := false, narrowed := true }
def ScheduleWritesUptoSaid : Prop := scheduleWritesUptoRow.holds Try.pinned (OpenSpec.upto scheduleWritesSpec)

/-- 'querylablaw42.ScheduleEnds', WHERE WHAT IT READS IS OF BULK AT MOST 1048576: true; the input reads as it did. -/
def scheduleEndsUptoRow : OpenClaim := { program := "ytcglflifaniolaa", sum := "0c1518e81c3209564b2c0d4e97664497b7bc22b6e674018b7d0430507ad6a9c6", func := "querylab/querylablaw42.ScheduleEnds", spec := "scheduleEnds", inPlace := ["slices.overlaps[querylab/schedule.written]"], unfollowed := true, recurses := true, apart := false, narrowed := true }
def ScheduleEndsUptoSaid : Prop := scheduleEndsUptoRow.holds Try.pinned (OpenSpec.upto scheduleEndsSpec)

/-- 'querylablaw42.ScheduleSerial', WHERE WHAT IT READS IS OF BULK AT MOST 1048576: true; the input reads as it did. -/
def scheduleSerialUptoRow : OpenClaim := { program := "ytcglflifaniolaa", sum := "0c1518e81c3209564b2c0d4e97664497b7bc22b6e674018b7d0430507ad6a9c6", func := "querylab/querylablaw42.ScheduleSerial", spec := "scheduleSerial", inPlace := ["slices.overlaps[querylab/schedule.written]"], unfollowed := true, recurses := true, apart := false, narrowed := true }
def ScheduleSerialUptoSaid : Prop := scheduleSerialUptoRow.holds Try.pinned (OpenSpec.upto scheduleSerialSpec)

end Rows
end Go.Proofs.Ytcglflifaniolaa
