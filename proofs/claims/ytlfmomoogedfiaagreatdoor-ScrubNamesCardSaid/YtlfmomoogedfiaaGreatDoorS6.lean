/- PROVED: the tied card of the law. Conditions: the card's own. By an AI agent. -/
import Derived.Test.YtlfmomoogedfiaaGreatDoorS5
namespace Go.Proofs.YtlfmomoogedfiaaGreatDoor
theorem scrubNames_card_holds : Rows.ScrubNamesCardSaid :=
  Claim7.holds_tied_plain_at .later [] [.data, .data, .data] true (true, "f930499f5f255a02780b4315297430463d7cf2988cd8594a5625c40d5f914046") true
    scrub_holds (fun _ h => by cases h) (by kernel_rfl) (fun _ h => by cases h) scrubNames_row_tie rfl ⟨rfl, rfl⟩ (by kernel_rfl) rfl
    (fun f fn hf hfn => by
      obtain rfl : f = 3 := Option.some.inj ((show Tryz.prog.funcNamed "cairn/cairnlaw22.ScrubNames" = some 3 by kernel_rfl).symm.trans hf) |>.symm
      obtain rfl : fn = Tryz.f3 := (Option.some.inj (Tryz.func3.symm.trans hfn)).symm
      exact ⟨by kernel_rfl, fun j t ht => by
        rw [Tryz.params3] at ht
        simp at ht⟩)
    (by kernel_rfl)
#print axioms scrubNames_card_holds
end Go.Proofs.YtlfmomoogedfiaaGreatDoor
