/- Runs of the checker over sources. -/
import Derived.Test.YtinngopfgdfdbaaGreatDoorQ1
set_option linter.unusedVariables false
namespace Go.Ev
open Go.Proofs
set_option maxRecDepth 1000000
noncomputable def eBuiltins12_is : Tab := isTab [(133, 1), (128, 1)]
noncomputable def eBuiltins12_l : Tab := [ex (vp [120, 32, 58, 61, 32, 112, 97, 110, 105, 99, 40, 118, 48, 41, 10, 120, 32, 61, 32, 120, 10, 125, 10]) false,
  ex (vp [112, 97, 110, 105, 99, 40, 118, 48, 41, 10, 125, 10]) false,
  ex (vp [120, 32, 58, 61, 32, 112, 97, 110, 105, 99, 40, 118, 49, 41, 10, 120, 32, 61, 32, 120, 10, 125, 10]) false,
  ex (vp [112, 97, 110, 105, 99, 40, 118, 49, 41, 10, 125, 10]) false]
theorem eBuiltins12_run : eachOk Tryz.prog fzs keeps pt1 eBuiltins12_is 1000 eBuiltins12_l = true := by kernel_rfl
theorem eBuiltins12_ok : TabOK Tryz.prog eBuiltins12_l := each_of prog_base pt1_ok (isTab_ok _) eBuiltins12_run
noncomputable def eBuiltins13_is : Tab := isTab [(133, 1), (128, 1)]
noncomputable def eBuiltins13_l : Tab := [ex (vp [120, 32, 58, 61, 32, 112, 97, 110, 105, 99, 40, 118, 50, 41, 10, 120, 32, 61, 32, 120, 10, 125, 10]) false,
  ex (vp [112, 97, 110, 105, 99, 40, 118, 50, 41, 10, 125, 10]) true,
  ex (vp [120, 32, 58, 61, 32, 112, 97, 110, 105, 99, 40, 118, 51, 41, 10, 120, 32, 61, 32, 120, 10, 125, 10]) false,
  ex (vp [112, 97, 110, 105, 99, 40, 118, 51, 41, 10, 125, 10]) false]
theorem eBuiltins13_run : eachOk Tryz.prog fzs keeps pt1 eBuiltins13_is 1000 eBuiltins13_l = true := by kernel_rfl
theorem eBuiltins13_ok : TabOK Tryz.prog eBuiltins13_l := each_of prog_base pt1_ok (isTab_ok _) eBuiltins13_run
noncomputable def eBuiltins14_is : Tab := isTab [(133, 1), (128, 1)]
noncomputable def eBuiltins14_l : Tab := [ex (vp [120, 32, 58, 61, 32, 112, 97, 110, 105, 99, 40, 118, 52, 41, 10, 120, 32, 61, 32, 120, 10, 125, 10]) false,
  ex (vp [112, 97, 110, 105, 99, 40, 118, 52, 41, 10, 125, 10]) false,
  ex (vp [120, 32, 58, 61, 32, 112, 97, 110, 105, 99, 40, 118, 53, 41, 10, 120, 32, 61, 32, 120, 10, 125, 10]) false,
  ex (vp [112, 97, 110, 105, 99, 40, 118, 53, 41, 10, 125, 10]) false]
theorem eBuiltins14_run : eachOk Tryz.prog fzs keeps pt1 eBuiltins14_is 1000 eBuiltins14_l = true := by kernel_rfl
theorem eBuiltins14_ok : TabOK Tryz.prog eBuiltins14_l := each_of prog_base pt1_ok (isTab_ok _) eBuiltins14_run
noncomputable def eBuiltins15_is : Tab := isTab [(133, 1), (128, 1), (139, 1), (134, 1)]
noncomputable def eBuiltins15_l : Tab := [ex (vp [120, 32, 58, 61, 32, 112, 97, 110, 105, 99, 40, 118, 54, 41, 10, 120, 32, 61, 32, 120, 10, 125, 10]) false,
  ex (vp [112, 97, 110, 105, 99, 40, 118, 54, 41, 10, 125, 10]) false,
  ex (vp [120, 32, 58, 61, 32, 112, 97, 110, 105, 99, 40, 110, 105, 108, 41, 10, 120, 32, 61, 32, 120, 10, 125, 10]) false,
  ex (vp [112, 97, 110, 105, 99, 40, 110, 105, 108, 41, 10, 125, 10]) false]
theorem eBuiltins15_run : eachOk Tryz.prog fzs keeps pt1 eBuiltins15_is 1000 eBuiltins15_l = true := by kernel_rfl
theorem eBuiltins15_ok : TabOK Tryz.prog eBuiltins15_l := each_of prog_base pt1_ok (isTab_ok _) eBuiltins15_run
end Go.Ev
