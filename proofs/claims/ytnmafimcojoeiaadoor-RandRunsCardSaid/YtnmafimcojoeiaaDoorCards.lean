/-
  DERIVED. GIVEN WITH THE SEED: THE CARDS: each row of YtnmafimcojoeiaaDoorRows.lean that lists a variable, with what it lists TIED to the program's text (the seventh form; the later family's looks); each row that meets fmt, with fmt's text TOLD by the authors' own Lean function (tested against real Go, not proved from fmt's source: count such statements apart). THE CARD IS WHAT COUNTS. Prove the row's statement (the work); the ties are given (YtnmafimcojoeiaaDoorTie.lean); close each card by the builder's one call (the guide's Derived/Test/ToyasCard.lean, 'card_holds'). Laid BY PROGRAM, IN A SANDBOX (cutbox-door.mjs). By AI agents, Wed Nov 11 2026. No macro, syntax, notation, axiom, sorry.
-/
import Derived.Test.YtnmafimcojoeiaaDoorRows
import GoSem.ClaimSeven
namespace Go.Proofs.YtnmafimcojoeiaaDoor
namespace Rows

/-- THE TIED CARD OF 'theodolitelaw04.RandWithin'. -/
def randWithinCard : Claim7 := { stood := { row := randWithinRow, standIns := [], harness := (true, "99a2a8975fafcb45c96eb688144e607a05c811c4c68711fa415389d31bf6591e"), looks := false }, kinds := [], alts := [], laidByText := true, laidKinds := [.data], laidTests := true, laidLooks := .later }
def RandWithinCardSaid : Prop := Claim7.holds Tryd.pinned (.plain (OpenSpec.ofChange randWithinSpec)) randWithinCard

/-- THE TIED CARD OF 'theodolitelaw04.RandRuns'. -/
def randRunsCard : Claim7 := { stood := { row := randRunsRow, standIns := [], harness := (true, "99a2a8975fafcb45c96eb688144e607a05c811c4c68711fa415389d31bf6591e"), looks := false }, kinds := [], alts := [], laidByText := true, laidKinds := [.data], laidTests := true, laidLooks := .later }
def RandRunsCardSaid : Prop := Claim7.holds Tryd.pinned (.plain (OpenSpec.ofChange randRunsSpec)) randRunsCard

/-- THE TIED CARD OF 'theodolitelaw04.RandNil'. -/
def randNilCard : Claim7 := { stood := { row := randNilRow, standIns := [], harness := (true, "99a2a8975fafcb45c96eb688144e607a05c811c4c68711fa415389d31bf6591e"), looks := false }, kinds := [], alts := [], laidByText := true, laidKinds := [.data], laidTests := true, laidLooks := .later }
def RandNilCardSaid : Prop := Claim7.holds Tryd.pinned (.plain (OpenSpec.ofChange randNilSpec)) randNilCard

/-- THE SECOND FORM's CARD OF 'theodolitelaw04.RandWithin'. -/
def randWithinUptoCard : Claim7 := { stood := { row := randWithinUptoRow, standIns := [], harness := (true, "99a2a8975fafcb45c96eb688144e607a05c811c4c68711fa415389d31bf6591e"), looks := false }, kinds := [], alts := [], laidByText := true, laidKinds := [.data], laidTests := true, laidLooks := .later }
def RandWithinUptoCardSaid : Prop := Claim7.holds Tryd.pinned (.plain (OpenSpec.upto randWithinSpec)) randWithinUptoCard

/-- THE SECOND FORM's CARD OF 'theodolitelaw04.RandRuns'. -/
def randRunsUptoCard : Claim7 := { stood := { row := randRunsUptoRow, standIns := [], harness := (true, "99a2a8975fafcb45c96eb688144e607a05c811c4c68711fa415389d31bf6591e"), looks := false }, kinds := [], alts := [], laidByText := true, laidKinds := [.data], laidTests := true, laidLooks := .later }
def RandRunsUptoCardSaid : Prop := Claim7.holds Tryd.pinned (.plain (OpenSpec.upto randRunsSpec)) randRunsUptoCard

/-- THE SECOND FORM's CARD OF 'theodolitelaw04.RandNil'. -/
def randNilUptoCard : Claim7 := { stood := { row := randNilUptoRow, standIns := [], harness := (true, "99a2a8975fafcb45c96eb688144e607a05c811c4c68711fa415389d31bf6591e"), looks := false }, kinds := [], alts := [], laidByText := true, laidKinds := [.data], laidTests := true, laidLooks := .later }
def RandNilUptoCardSaid : Prop := Claim7.holds Tryd.pinned (.plain (OpenSpec.upto randNilSpec)) randNilUptoCard
end Rows
end Go.Proofs.YtnmafimcojoeiaaDoor
