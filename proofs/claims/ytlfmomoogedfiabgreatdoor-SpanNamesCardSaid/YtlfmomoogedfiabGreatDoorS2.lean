/- PROVED: closed facts of the program; the door's own heap meets the row's condition. No condition. By an AI agent. -/
import Derived.Test.YtlfmomoogedfiabGreatDoorR31

import Derived.Test.YtlfmomoogedfiabGreatDoorRows
import Derived.ProofKit
import Derived.LaidMore
import Derived.OpenShut
import Derived.Stop.Joined
namespace Go.Proofs.YtlfmomoogedfiabGreatDoor
open Go.ChangeShapes Go.WideShapes Go.ChangeAt Go.RowKit
open Go.Ex hiding Env
theorem own : ownKnob Tryz.prog.godebug = none := by kernel_rfl
def laid3 : List (String × DataW Unit) := [("cairn/cairnref02.rounds", Rows.laid_cairn_cairnref02_rounds), ("cairn/sha.k", Rows.laid_cairn_sha_k), ("cairn/sha.first", Rows.laid_cairn_sha_first)]
theorem gFirst : Tryz.prog.globalNamed "cairn/sha.first" = some 0 := by kernel_rfl
theorem gK : Tryz.prog.globalNamed "cairn/sha.k" = some 3 := by kernel_rfl
theorem gRounds : Tryz.prog.globalNamed "cairn/cairnref02.rounds" = some 2 := by kernel_rfl
theorem tFirst : (Tryz.prog.globals[0]?).map (·.type) = some 177 := by kernel_rfl
theorem tK : (Tryz.prog.globals[3]?).map (·.type) = some 197 := by kernel_rfl
theorem tRounds : (Tryz.prog.globals[2]?).map (·.type) = some 197 := by kernel_rfl
theorem u177 : Tryz.prog.underlying 177 = some (.array 8 85) := by kernel_rfl
theorem u197 : Tryz.prog.underlying 197 = some (.array 64 85) := by kernel_rfl
theorem u85 : Tryz.prog.underlying 85 = some (.int .u32) := by kernel_rfl
theorem u4 : Tryz.prog.underlying 4 = some .bool := by kernel_rfl
theorem c85 : Tryz.prog.cellsOf 85 = 1 := by kernel_rfl
theorem mixed : Tryz.prog.follows .mixedOrders = true := by kernel_rfl
theorem door_met (os : Os) (args : Array Value) : laidMetH Tryz.prog laid3 ((World.doorLaid Tryz.prog 400 os).forCall (fun _ _ => 0) ⟨#[], args, []⟩).memory :=
  laidMetH_of_parts3 (fuel := 8) (laidMet_of_run' 8 (by kernel_rfl) (by kernel_rfl)) (by kernel_rfl) (by kernel_rfl)
end Go.Proofs.YtlfmomoogedfiabGreatDoor
