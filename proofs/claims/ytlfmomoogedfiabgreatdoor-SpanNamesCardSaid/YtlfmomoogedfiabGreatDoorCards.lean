/-
  DERIVED. GIVEN WITH THE SEED: THE CARDS: each row of YtlfmomoogedfiabGreatDoorRows.lean that lists a variable, with what it lists TIED to the program's text (the seventh form; the later family's looks); each row that meets fmt, with fmt's text TOLD by the authors' own Lean function (tested against real Go, not proved from fmt's source: count such statements apart). THE CARD IS WHAT COUNTS. Prove the row's statement (the work); the ties are given (YtlfmomoogedfiabGreatDoorTie.lean); close each card by the builder's one call (the guide's Derived/Test/ToyasCard.lean, 'card_holds'). Laid BY PROGRAM, IN A SANDBOX (cutbox-door.mjs). By AI agents, Wed Nov 11 2026. No macro, syntax, notation, axiom, sorry.
-/
import Derived.Test.YtlfmomoogedfiabGreatDoorRows
import GoSem.ClaimSeven
namespace Go.Proofs.YtlfmomoogedfiabGreatDoor
namespace Rows

/-- THE TIED CARD OF 'cairnlaw17.SpanNames'. -/
def spanNamesCard : Claim7 := { stood := { row := spanNamesRow, standIns := [], harness := (true, "12a30a9331bdfb5be82f6b07fa90be5f2b70fb893fa50ec5844aa357c2cb1c79"), looks := true }, kinds := [], alts := [], laidByText := true, laidKinds := [.data, .data, .data], laidTests := true, laidLooks := .later }
def SpanNamesCardSaid : Prop := Claim7.holds Tryz.pinned (.plain (OpenSpec.ofChange spanNamesSpec)) spanNamesCard

/-- THE SECOND FORM's CARD OF 'cairnlaw17.SpanNames'. -/
def spanNamesUptoCard : Claim7 := { stood := { row := spanNamesUptoRow, standIns := [], harness := (true, "12a30a9331bdfb5be82f6b07fa90be5f2b70fb893fa50ec5844aa357c2cb1c79"), looks := true }, kinds := [], alts := [], laidByText := true, laidKinds := [.data, .data, .data], laidTests := true, laidLooks := .later }
def SpanNamesUptoCardSaid : Prop := Claim7.holds Tryz.pinned (.plain (OpenSpec.upto spanNamesSpec)) spanNamesUptoCard
end Rows
end Go.Proofs.YtlfmomoogedfiabGreatDoor
