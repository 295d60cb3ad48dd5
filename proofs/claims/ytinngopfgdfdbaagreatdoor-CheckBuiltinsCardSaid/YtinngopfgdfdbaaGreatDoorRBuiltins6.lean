/- Runs of the checker over sources. -/
import Derived.Test.YtinngopfgdfdbaaGreatDoorQ1
set_option linter.unusedVariables false
namespace Go.Ev
open Go.Proofs
set_option maxRecDepth 1000000
noncomputable def eBuiltins20_is : Tab := isTab [(133, 1), (128, 1)]
noncomputable def eBuiltins20_l : Tab := [ex (vp [120, 32, 58, 61, 32, 97, 112, 112, 101, 110, 100, 40, 118, 48, 44, 32, 49, 41, 10, 120, 32, 61, 32, 120, 10, 125, 10]) false,
  ex (vp [97, 112, 112, 101, 110, 100, 40, 118, 48, 44, 32, 49, 41, 10, 125, 10]) false,
  ex (vp [120, 32, 58, 61, 32, 97, 112, 112, 101, 110, 100, 40, 118, 49, 44, 32, 49, 41, 10, 120, 32, 61, 32, 120, 10, 125, 10]) false,
  ex (vp [97, 112, 112, 101, 110, 100, 40, 118, 49, 44, 32, 49, 41, 10, 125, 10]) false]
theorem eBuiltins20_run : eachOk Tryz.prog fzs keeps pt1 eBuiltins20_is 1000 eBuiltins20_l = true := by kernel_rfl
theorem eBuiltins20_ok : TabOK Tryz.prog eBuiltins20_l := each_of prog_base pt1_ok (isTab_ok _) eBuiltins20_run
noncomputable def eBuiltins21_is : Tab := isTab [(133, 1), (128, 1)]
noncomputable def eBuiltins21_l : Tab := [ex (vp [120, 32, 58, 61, 32, 97, 112, 112, 101, 110, 100, 40, 118, 50, 44, 32, 49, 41, 10, 120, 32, 61, 32, 120, 10, 125, 10]) false,
  ex (vp [97, 112, 112, 101, 110, 100, 40, 118, 50, 44, 32, 49, 41, 10, 125, 10]) false,
  ex (vp [120, 32, 58, 61, 32, 97, 112, 112, 101, 110, 100, 40, 118, 51, 44, 32, 49, 41, 10, 120, 32, 61, 32, 120, 10, 125, 10]) false,
  ex (vp [97, 112, 112, 101, 110, 100, 40, 118, 51, 44, 32, 49, 41, 10, 125, 10]) false]
theorem eBuiltins21_run : eachOk Tryz.prog fzs keeps pt1 eBuiltins21_is 1000 eBuiltins21_l = true := by kernel_rfl
theorem eBuiltins21_ok : TabOK Tryz.prog eBuiltins21_l := each_of prog_base pt1_ok (isTab_ok _) eBuiltins21_run
noncomputable def eBuiltins22_is : Tab := isTab [(128, 1), (133, 1)]
noncomputable def eBuiltins22_l : Tab := [ex (vp [120, 32, 58, 61, 32, 97, 112, 112, 101, 110, 100, 40, 118, 52, 44, 32, 49, 41, 10, 120, 32, 61, 32, 120, 10, 125, 10]) true,
  ex (vp [97, 112, 112, 101, 110, 100, 40, 118, 52, 44, 32, 49, 41, 10, 125, 10]) false,
  ex (vp [120, 32, 58, 61, 32, 97, 112, 112, 101, 110, 100, 40, 118, 53, 44, 32, 49, 41, 10, 120, 32, 61, 32, 120, 10, 125, 10]) false,
  ex (vp [97, 112, 112, 101, 110, 100, 40, 118, 53, 44, 32, 49, 41, 10, 125, 10]) false]
theorem eBuiltins22_run : eachOk Tryz.prog fzs keeps pt1 eBuiltins22_is 1000 eBuiltins22_l = true := by kernel_rfl
theorem eBuiltins22_ok : TabOK Tryz.prog eBuiltins22_l := each_of prog_base pt1_ok (isTab_ok _) eBuiltins22_run
noncomputable def eBuiltins23_is : Tab := isTab [(133, 1), (128, 1), (140, 1)]
noncomputable def eBuiltins23_l : Tab := [ex (vp [120, 32, 58, 61, 32, 97, 112, 112, 101, 110, 100, 40, 118, 54, 44, 32, 49, 41, 10, 120, 32, 61, 32, 120, 10, 125, 10]) false,
  ex (vp [97, 112, 112, 101, 110, 100, 40, 118, 54, 44, 32, 49, 41, 10, 125, 10]) false,
  ex (vp [120, 32, 58, 61, 32, 97, 112, 112, 101, 110, 100, 40, 110, 105, 108, 44, 32, 49, 41, 10, 120, 32, 61, 32, 120, 10, 125, 10]) false,
  ex (vp [97, 112, 112, 101, 110, 100, 40, 110, 105, 108, 44, 32, 49, 41, 10, 125, 10]) false]
theorem eBuiltins23_run : eachOk Tryz.prog fzs keeps pt1 eBuiltins23_is 1000 eBuiltins23_l = true := by kernel_rfl
theorem eBuiltins23_ok : TabOK Tryz.prog eBuiltins23_l := each_of prog_base pt1_ok (isTab_ok _) eBuiltins23_run
end Go.Ev
