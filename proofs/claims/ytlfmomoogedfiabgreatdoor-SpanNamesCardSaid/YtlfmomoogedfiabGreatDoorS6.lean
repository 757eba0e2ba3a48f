/- PROVED: the tied card of the law. Conditions: the card's own. By an AI agent. -/
import Derived.Test.YtlfmomoogedfiabGreatDoorS5
namespace Go.Proofs.YtlfmomoogedfiabGreatDoor
theorem spanNames_card_holds : Rows.SpanNamesCardSaid :=
  Claim7.holds_tied_plain_at .later [] [.data, .data, .data] true (true, "12a30a9331bdfb5be82f6b07fa90be5f2b70fb893fa50ec5844aa357c2cb1c79") true
    span_holds (fun _ h => by cases h) (by kernel_rfl) (fun _ h => by cases h) spanNames_row_tie rfl ⟨rfl, rfl⟩ (by kernel_rfl) rfl
    (fun f fn hf hfn => by
      obtain rfl : f = 3 := Option.some.inj ((show Tryz.prog.funcNamed "cairn/cairnlaw17.SpanNames" = some 3 by kernel_rfl).symm.trans hf) |>.symm
      obtain rfl : fn = Tryz.f3 := (Option.some.inj (Tryz.func3.symm.trans hfn)).symm
      exact ⟨by kernel_rfl, fun j t ht => by
        rw [Tryz.params3] at ht
        simp at ht⟩)
    (by kernel_rfl)
#print axioms spanNames_card_holds
end Go.Proofs.YtlfmomoogedfiabGreatDoor
