/- Runs of the checker over sources. -/
import Derived.Test.YtinngopfgdfdbaaGreatDoorQ1
set_option linter.unusedVariables false
namespace Go.Ev
open Go.Proofs
set_option maxRecDepth 1000000
noncomputable def eBuiltins16_is : Tab := isTab [(133, 1)]
noncomputable def eBuiltins16_l : Tab := [ex (vp [120, 32, 58, 61, 32, 112, 114, 105, 110, 116, 40, 118, 48, 41, 10, 120, 32, 61, 32, 120, 10, 125, 10]) false,
  ex (vp [112, 114, 105, 110, 116, 40, 118, 48, 41, 10, 125, 10]) true,
  ex (vp [120, 32, 58, 61, 32, 112, 114, 105, 110, 116, 40, 118, 49, 41, 10, 120, 32, 61, 32, 120, 10, 125, 10]) false,
  ex (vp [112, 114, 105, 110, 116, 40, 118, 49, 41, 10, 125, 10]) true]
theorem eBuiltins16_run : eachOk Tryz.prog fzs keeps pt1 eBuiltins16_is 1000 eBuiltins16_l = true := by kernel_rfl
theorem eBuiltins16_ok : TabOK Tryz.prog eBuiltins16_l := each_of prog_base pt1_ok (isTab_ok _) eBuiltins16_run
noncomputable def eBuiltins17_is : Tab := isTab [(133, 1), (139, 1), (134, 1)]
noncomputable def eBuiltins17_l : Tab := [ex (vp [120, 32, 58, 61, 32, 112, 114, 105, 110, 116, 40, 118, 50, 41, 10, 120, 32, 61, 32, 120, 10, 125, 10]) false,
  ex (vp [112, 114, 105, 110, 116, 40, 118, 50, 41, 10, 125, 10]) true,
  ex (vp [120, 32, 58, 61, 32, 112, 114, 105, 110, 116, 40, 118, 51, 41, 10, 120, 32, 61, 32, 120, 10, 125, 10]) false,
  ex (vp [112, 114, 105, 110, 116, 40, 118, 51, 41, 10, 125, 10]) false]
theorem eBuiltins17_run : eachOk Tryz.prog fzs keeps pt1 eBuiltins17_is 1000 eBuiltins17_l = true := by kernel_rfl
theorem eBuiltins17_ok : TabOK Tryz.prog eBuiltins17_l := each_of prog_base pt1_ok (isTab_ok _) eBuiltins17_run
noncomputable def eBuiltins18_is : Tab := isTab [(139, 1), (134, 1)]
noncomputable def eBuiltins18_l : Tab := [ex (vp [120, 32, 58, 61, 32, 112, 114, 105, 110, 116, 40, 118, 52, 41, 10, 120, 32, 61, 32, 120, 10, 125, 10]) false,
  ex (vp [112, 114, 105, 110, 116, 40, 118, 52, 41, 10, 125, 10]) false,
  ex (vp [120, 32, 58, 61, 32, 112, 114, 105, 110, 116, 40, 118, 53, 41, 10, 120, 32, 61, 32, 120, 10, 125, 10]) false,
  ex (vp [112, 114, 105, 110, 116, 40, 118, 53, 41, 10, 125, 10]) false]
theorem eBuiltins18_run : eachOk Tryz.prog fzs keeps pt1 eBuiltins18_is 1000 eBuiltins18_l = true := by kernel_rfl
theorem eBuiltins18_ok : TabOK Tryz.prog eBuiltins18_l := each_of prog_base pt1_ok (isTab_ok _) eBuiltins18_run
noncomputable def eBuiltins19_is : Tab := isTab [(139, 1), (134, 1)]
noncomputable def eBuiltins19_l : Tab := [ex (vp [120, 32, 58, 61, 32, 112, 114, 105, 110, 116, 40, 118, 54, 41, 10, 120, 32, 61, 32, 120, 10, 125, 10]) false,
  ex (vp [112, 114, 105, 110, 116, 40, 118, 54, 41, 10, 125, 10]) false,
  ex (vp [120, 32, 58, 61, 32, 112, 114, 105, 110, 116, 40, 110, 105, 108, 41, 10, 120, 32, 61, 32, 120, 10, 125, 10]) false,
  ex (vp [112, 114, 105, 110, 116, 40, 110, 105, 108, 41, 10, 125, 10]) false]
theorem eBuiltins19_run : eachOk Tryz.prog fzs keeps pt1 eBuiltins19_is 1000 eBuiltins19_l = true := by kernel_rfl
theorem eBuiltins19_ok : TabOK Tryz.prog eBuiltins19_l := each_of prog_base pt1_ok (isTab_ok _) eBuiltins19_run
end Go.Ev
