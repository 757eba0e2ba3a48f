/-
  DERIVED. GIVEN WITH THE SEED: THE CARDS: each row of YtlfmomoogedfiaaGreatDoorRows.lean that lists a variable, with what it lists TIED to the program's text (the seventh form; the later family's looks); each row that meets fmt, with fmt's text TOLD by the authors' own Lean function (tested against real Go, not proved from fmt's source: count such statements apart). THE CARD IS WHAT COUNTS. Prove the row's statement (the work); the ties are given (YtlfmomoogedfiaaGreatDoorTie.lean); close each card by the builder's one call (the guide's Derived/Test/ToyasCard.lean, 'card_holds'). Laid BY PROGRAM, IN A SANDBOX (cutbox-door.mjs). By AI agents, Wed Nov 11 2026. No macro, syntax, notation, axiom, sorry.
-/
import Derived.Test.YtlfmomoogedfiaaGreatDoorRows
import GoSem.ClaimSeven
namespace Go.Proofs.YtlfmomoogedfiaaGreatDoor
namespace Rows

/-- THE TIED CARD OF 'cairnlaw22.ScrubNames'. -/
def scrubNamesCard : Claim7 := { stood := { row := scrubNamesRow, standIns := [], harness := (true, "f930499f5f255a02780b4315297430463d7cf2988cd8594a5625c40d5f914046"), looks := true }, kinds := [], alts := [], laidByText := true, laidKinds := [.data, .data, .data], laidTests := true, laidLooks := .later }
def ScrubNamesCardSaid : Prop := Claim7.holds Tryz.pinned (.plain (OpenSpec.ofChange scrubNamesSpec)) scrubNamesCard

/-- THE SECOND FORM's CARD OF 'cairnlaw22.ScrubNames'. -/
def scrubNamesUptoCard : Claim7 := { stood := { row := scrubNamesUptoRow, standIns := [], harness := (true, "f930499f5f255a02780b4315297430463d7cf2988cd8594a5625c40d5f914046"), looks := true }, kinds := [], alts := [], laidByText := true, laidKinds := [.data, .data, .data], laidTests := true, laidLooks := .later }
def ScrubNamesUptoCardSaid : Prop := Claim7.holds Tryz.pinned (.plain (OpenSpec.upto scrubNamesSpec)) scrubNamesUptoCard
end Rows
end Go.Proofs.YtlfmomoogedfiaaGreatDoor
