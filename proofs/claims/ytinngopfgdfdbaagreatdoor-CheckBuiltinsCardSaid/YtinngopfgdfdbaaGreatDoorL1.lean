/- What all the rows of this seat want: a world in which the listed variables lie as they are laid. -/
import Derived.Test.YtinngopfgdfdbaaGreatDoorRows
import Derived.WalkKit
import Derived.ProofKit
import Derived.LaidMore
import Derived.LaidOnce
import Derived.Stop.Joined
import Derived.OpenShut
import Derived.ShutString
import Derived.ChangeOld
import Derived.Below
import Derived.SizedLaws
namespace Go.Proofs.YtinngopfgdfdbaaGreatDoor
open Go Go.ChangeShapes Go.WideShapes Go.ChangeAt Go.RowKit
theorem own : ownKnob Tryz.prog.godebug = none := by kernel_rfl
def doorSteps : Nat := 300
set_option maxRecDepth 1000000
theorem door_shaped (os : Os) (args : Array Value) : ((World.doorLaid Tryz.prog doorSteps os).forCall (fun _ _ => 0) ⟨#[], args, []⟩).Shaped Tryz.prog := World.shaped_of_RefB (by kernel_rfl) (by kernel_rfl)
theorem door_met (os : Os) (args : Array Value) : laidMetH Tryz.prog Rows.checkNamesRow.laid ((World.doorLaid Tryz.prog doorSteps os).forCall (fun _ _ => 0) ⟨#[], args, []⟩).memory :=
  laidMetH_of_parts3 (fuel := 8) (laidMet_of_run' 8 (by kernel_rfl) (by kernel_rfl)) (by kernel_rfl) (by kernel_rfl)
end Go.Proofs.YtinngopfgdfdbaaGreatDoor
