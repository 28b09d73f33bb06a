/-
  DERIVED. GIVEN WITH THE SEED: THE CARDS: each row of YtcfghfmlfgaeaaaGreatDoorRows.lean that lists a variable, with what it lists TIED to the program's text (the seventh form; the later family's looks); each row that meets fmt, with fmt's text TOLD by the authors' own Lean function (tested against real Go, not proved from fmt's source: count such statements apart). THE CARD IS WHAT COUNTS. Prove the row's statement (the work); the ties are given (YtcfghfmlfgaeaaaGreatDoorTie.lean); close each card by the builder's one call (the guide's Derived/Test/ToyasCard.lean, 'card_holds'). Laid BY PROGRAM, IN A SANDBOX (cutbox-door.mjs). By AI agents, Wed Nov 11 2026. No macro, syntax, notation, axiom, sorry.
-/
import Derived.Test.YtcfghfmlfgaeaaaGreatDoorRows
import GoSem.ClaimSeven
namespace Go.Proofs.YtcfghfmlfgaeaaaGreatDoor
namespace Rows

/-- THE TIED CARD OF 'querylabtop.TopPrivate'. -/
def topPrivateCard : Claim7 := { stood := { row := topPrivateRow, standIns := [], harness := (true, "525504be8ae2b4d1ccf857c28de0e59e554394a50ba2132a5989e5c72cc5cc85"), looks := false }, kinds := [], alts := [], laidByText := true, laidKinds := [.data, .data, .data, .data, .data], laidTests := true, laidLooks := .later }
def TopPrivateCardSaid : Prop := Claim7.holds Tryz.pinned (.plain (OpenSpec.ofChange topPrivateSpec)) topPrivateCard

/-- THE SECOND FORM's CARD OF 'querylabtop.TopPrivate'. -/
def topPrivateUptoCard : Claim7 := { stood := { row := topPrivateUptoRow, standIns := [], harness := (true, "525504be8ae2b4d1ccf857c28de0e59e554394a50ba2132a5989e5c72cc5cc85"), looks := false }, kinds := [], alts := [], laidByText := true, laidKinds := [.data, .data, .data, .data, .data], laidTests := true, laidLooks := .later }
def TopPrivateUptoCardSaid : Prop := Claim7.holds Tryz.pinned (.plain (OpenSpec.upto topPrivateSpec)) topPrivateUptoCard
end Rows
end Go.Proofs.YtcfghfmlfgaeaaaGreatDoor
