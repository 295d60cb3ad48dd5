/- Runs of the checker over sources. -/
import Derived.Test.YtinngopfgdfdbaaGreatDoorQ1
set_option linter.unusedVariables false
namespace Go.Ev
open Go.Proofs
set_option maxRecDepth 1000000
noncomputable def eBuiltins0_is : Tab := isTab [(133, 1), (128, 1)]
noncomputable def eBuiltins0_l : Tab := [ex (vp [120, 32, 58, 61, 32, 108, 101, 110, 40, 118, 48, 41, 10, 120, 32, 61, 32, 120, 10, 125, 10]) false,
  ex (vp [108, 101, 110, 40, 118, 48, 41, 10, 125, 10]) false,
  ex (vp [120, 32, 58, 61, 32, 108, 101, 110, 40, 118, 49, 41, 10, 120, 32, 61, 32, 120, 10, 125, 10]) false,
  ex (vp [108, 101, 110, 40, 118, 49, 41, 10, 125, 10]) false]
theorem eBuiltins0_run : eachOk Tryz.prog fzs keeps pt1 eBuiltins0_is 1000 eBuiltins0_l = true := by kernel_rfl
theorem eBuiltins0_ok : TabOK Tryz.prog eBuiltins0_l := each_of prog_base pt1_ok (isTab_ok _) eBuiltins0_run
noncomputable def eBuiltins1_is : Tab := isTab [(128, 1), (133, 1)]
noncomputable def eBuiltins1_l : Tab := [ex (vp [120, 32, 58, 61, 32, 108, 101, 110, 40, 118, 50, 41, 10, 120, 32, 61, 32, 120, 10, 125, 10]) true,
  ex (vp [108, 101, 110, 40, 118, 50, 41, 10, 125, 10]) false,
  ex (vp [120, 32, 58, 61, 32, 108, 101, 110, 40, 118, 51, 41, 10, 120, 32, 61, 32, 120, 10, 125, 10]) false,
  ex (vp [108, 101, 110, 40, 118, 51, 41, 10, 125, 10]) false]
theorem eBuiltins1_run : eachOk Tryz.prog fzs keeps pt1 eBuiltins1_is 1000 eBuiltins1_l = true := by kernel_rfl
theorem eBuiltins1_ok : TabOK Tryz.prog eBuiltins1_l := each_of prog_base pt1_ok (isTab_ok _) eBuiltins1_run
noncomputable def eBuiltins2_is : Tab := isTab [(128, 1)]
noncomputable def eBuiltins2_l : Tab := [ex (vp [120, 32, 58, 61, 32, 108, 101, 110, 40, 118, 52, 41, 10, 120, 32, 61, 32, 120, 10, 125, 10]) true,
  ex (vp [108, 101, 110, 40, 118, 52, 41, 10, 125, 10]) false,
  ex (vp [120, 32, 58, 61, 32, 108, 101, 110, 40, 118, 53, 41, 10, 120, 32, 61, 32, 120, 10, 125, 10]) true,
  ex (vp [108, 101, 110, 40, 118, 53, 41, 10, 125, 10]) false]
theorem eBuiltins2_run : eachOk Tryz.prog fzs keeps pt1 eBuiltins2_is 1000 eBuiltins2_l = true := by kernel_rfl
theorem eBuiltins2_ok : TabOK Tryz.prog eBuiltins2_l := each_of prog_base pt1_ok (isTab_ok _) eBuiltins2_run
noncomputable def eBuiltins3_is : Tab := isTab [(133, 1), (128, 1), (137, 1)]
noncomputable def eBuiltins3_l : Tab := [ex (vp [120, 32, 58, 61, 32, 108, 101, 110, 40, 118, 54, 41, 10, 120, 32, 61, 32, 120, 10, 125, 10]) false,
  ex (vp [108, 101, 110, 40, 118, 54, 41, 10, 125, 10]) false,
  ex (vp [120, 32, 58, 61, 32, 108, 101, 110, 40, 110, 105, 108, 41, 10, 120, 32, 61, 32, 120, 10, 125, 10]) false,
  ex (vp [108, 101, 110, 40, 110, 105, 108, 41, 10, 125, 10]) false]
theorem eBuiltins3_run : eachOk Tryz.prog fzs keeps pt1 eBuiltins3_is 1000 eBuiltins3_l = true := by kernel_rfl
theorem eBuiltins3_ok : TabOK Tryz.prog eBuiltins3_l := each_of prog_base pt1_ok (isTab_ok _) eBuiltins3_run
end Go.Ev
