/-
  DERIVED. GIVEN WITH THE SEED: THE CARDS: each row of YtajpdnphamomjaaDoorRows.lean that lists a variable, with what it lists TIED to the program's text (the seventh form; the later family's looks); each row that meets fmt, with fmt's text TOLD by the authors' own Lean function (tested against real Go, not proved from fmt's source: count such statements apart). THE CARD IS WHAT COUNTS. Prove the row's statement (the work); the ties are given (YtajpdnphamomjaaDoorTie.lean); close each card by the builder's one call (the guide's Derived/Test/ToyasCard.lean, 'card_holds'). Laid BY PROGRAM, IN A SANDBOX (cutbox-door.mjs). By AI agents, Wed Nov 11 2026. No macro, syntax, notation, axiom, sorry.
-/
import Derived.Test.YtajpdnphamomjaaDoorRows
import GoSem.ClaimSeven
namespace Go.Proofs.YtajpdnphamomjaaDoor
namespace Rows

/-- THE TIED CARD OF 'querylablaw10.FractionOf'. -/
def fractionOfCard : Claim7 := { stood := { row := fractionOfRow, standIns := [], harness := (true, "34be79db186360f58014d75cb271e4fc06c004f17726447603578d66ae6cb56d"), looks := false }, kinds := [], alts := [], laidByText := true, laidKinds := [.data, .data, .data], laidTests := true, laidLooks := .later }
def FractionOfCardSaid : Prop := Claim7.holds Tryd.pinned (.plain (OpenSpec.ofChange fractionOfSpec)) fractionOfCard

/-- THE SECOND FORM's CARD OF 'querylablaw10.FractionOf'. -/
def fractionOfUptoCard : Claim7 := { stood := { row := fractionOfUptoRow, standIns := [], harness := (true, "34be79db186360f58014d75cb271e4fc06c004f17726447603578d66ae6cb56d"), looks := false }, kinds := [], alts := [], laidByText := true, laidKinds := [.data, .data, .data], laidTests := true, laidLooks := .later }
def FractionOfUptoCardSaid : Prop := Claim7.holds Tryd.pinned (.plain (OpenSpec.upto fractionOfSpec)) fractionOfUptoCard
end Rows
end Go.Proofs.YtajpdnphamomjaaDoor
