/-
  DERIVED. GIVEN WITH THE SEED: THE CARDS: each row of YtejbfglaalmafaaGreatDoorRows.lean that lists a variable, with what it lists TIED to the program's text (the seventh form; the later family's looks); each row that meets fmt, with fmt's text TOLD by the authors' own Lean function (tested against real Go, not proved from fmt's source: count such statements apart). THE CARD IS WHAT COUNTS. Prove the row's statement (the work); the ties are given (YtejbfglaalmafaaGreatDoorTie.lean); close each card by the builder's one call (the guide's Derived/Test/ToyasCard.lean, 'card_holds'). Laid BY PROGRAM, IN A SANDBOX (cutbox-door.mjs). By AI agents, Wed Nov 11 2026. No macro, syntax, notation, axiom, sorry.
-/
import Derived.Test.YtejbfglaalmafaaGreatDoorRows
import GoSem.ClaimSeven
namespace Go.Proofs.YtejbfglaalmafaaGreatDoor
namespace Rows

/-- THE TIED CARD OF 'theodolitetop.TopLogged'. -/
def topLoggedCard : Claim7 := { stood := { row := topLoggedRow, standIns := [], harness := (true, "a858583c3c58edec3245223c9dbcff4f17aa9a26c7adebb83acebf9abbd8c1d3"), looks := true }, kinds := [], alts := [], laidByText := true, laidKinds := [.data, .data, .data, .sentinel, .sentinel], laidTests := true, laidLooks := .later }
def TopLoggedCardSaid : Prop := Claim7.holds Tryz.pinned (.plain (OpenSpec.ofChange topLoggedSpec)) topLoggedCard

/-- THE SECOND FORM's CARD OF 'theodolitetop.TopLogged'. -/
def topLoggedUptoCard : Claim7 := { stood := { row := topLoggedUptoRow, standIns := [], harness := (true, "a858583c3c58edec3245223c9dbcff4f17aa9a26c7adebb83acebf9abbd8c1d3"), looks := true }, kinds := [], alts := [], laidByText := true, laidKinds := [.data, .data, .data, .sentinel, .sentinel], laidTests := true, laidLooks := .later }
def TopLoggedUptoCardSaid : Prop := Claim7.holds Tryz.pinned (.plain (OpenSpec.upto topLoggedSpec)) topLoggedUptoCard
end Rows
end Go.Proofs.YtejbfglaalmafaaGreatDoor
