/- Runs of the checker over sources. -/
import Derived.Test.YtinngopfgdfdbaaGreatDoorQ1
set_option linter.unusedVariables false
namespace Go.Ev
open Go.Proofs
set_option maxRecDepth 1000000
noncomputable def eBuiltins24_is : Tab := isTab [(145, 1)]
noncomputable def eBuiltins24_l : Tab := [ex (vp [120, 32, 58, 61, 32, 109, 97, 107, 101, 40, 91, 93, 105, 110, 116, 44, 32, 118, 48, 41, 10, 120, 32, 61, 32, 120, 10, 125, 10]) true,
  ex (vp [120, 32, 58, 61, 32, 109, 97, 107, 101, 40, 91, 93, 105, 110, 116, 44, 32, 118, 49, 41, 10, 120, 32, 61, 32, 120, 10, 125, 10]) false,
  ex (vp [120, 32, 58, 61, 32, 109, 97, 107, 101, 40, 91, 93, 105, 110, 116, 44, 32, 118, 50, 41, 10, 120, 32, 61, 32, 120, 10, 125, 10]) false,
  ex (vp [120, 32, 58, 61, 32, 109, 97, 107, 101, 40, 91, 93, 105, 110, 116, 44, 32, 118, 51, 41, 10, 120, 32, 61, 32, 120, 10, 125, 10]) false]
theorem eBuiltins24_run : eachOk Tryz.prog fzs keeps pt1 eBuiltins24_is 1000 eBuiltins24_l = true := by kernel_rfl
theorem eBuiltins24_ok : TabOK Tryz.prog eBuiltins24_l := each_of prog_base pt1_ok (isTab_ok _) eBuiltins24_run
noncomputable def eBuiltins25_is : Tab := isTab [(145, 1)]
noncomputable def eBuiltins25_l : Tab := [ex (vp [120, 32, 58, 61, 32, 109, 97, 107, 101, 40, 91, 93, 105, 110, 116, 44, 32, 118, 52, 41, 10, 120, 32, 61, 32, 120, 10, 125, 10]) false,
  ex (vp [120, 32, 58, 61, 32, 109, 97, 107, 101, 40, 91, 93, 105, 110, 116, 44, 32, 118, 53, 41, 10, 120, 32, 61, 32, 120, 10, 125, 10]) false,
  ex (vp [120, 32, 58, 61, 32, 109, 97, 107, 101, 40, 91, 93, 105, 110, 116, 44, 32, 118, 54, 41, 10, 120, 32, 61, 32, 120, 10, 125, 10]) false,
  ex (vp [120, 32, 58, 61, 32, 109, 97, 107, 101, 40, 91, 93, 105, 110, 116, 44, 32, 110, 105, 108, 41, 10, 120, 32, 61, 32, 120, 10, 125, 10]) false]
theorem eBuiltins25_run : eachOk Tryz.prog fzs keeps pt1 eBuiltins25_is 1000 eBuiltins25_l = true := by kernel_rfl
theorem eBuiltins25_ok : TabOK Tryz.prog eBuiltins25_l := each_of prog_base pt1_ok (isTab_ok _) eBuiltins25_run
noncomputable def eBuiltins26_is : Tab := isTab [(148, 1)]
noncomputable def eBuiltins26_l : Tab := [ex (vp [120, 32, 58, 61, 32, 109, 97, 107, 101, 40, 99, 104, 97, 110, 32, 105, 110, 116, 44, 32, 118, 48, 41, 10, 120, 32, 61, 32, 120, 10, 125, 10]) true,
  ex (vp [120, 32, 58, 61, 32, 109, 97, 107, 101, 40, 99, 104, 97, 110, 32, 105, 110, 116, 44, 32, 118, 49, 41, 10, 120, 32, 61, 32, 120, 10, 125, 10]) false,
  ex (vp [120, 32, 58, 61, 32, 109, 97, 107, 101, 40, 99, 104, 97, 110, 32, 105, 110, 116, 44, 32, 118, 50, 41, 10, 120, 32, 61, 32, 120, 10, 125, 10]) false,
  ex (vp [120, 32, 58, 61, 32, 109, 97, 107, 101, 40, 99, 104, 97, 110, 32, 105, 110, 116, 44, 32, 118, 51, 41, 10, 120, 32, 61, 32, 120, 10, 125, 10]) false]
theorem eBuiltins26_run : eachOk Tryz.prog fzs keeps pt1 eBuiltins26_is 1000 eBuiltins26_l = true := by kernel_rfl
theorem eBuiltins26_ok : TabOK Tryz.prog eBuiltins26_l := each_of prog_base pt1_ok (isTab_ok _) eBuiltins26_run
noncomputable def eBuiltins27_is : Tab := isTab [(148, 1)]
noncomputable def eBuiltins27_l : Tab := [ex (vp [120, 32, 58, 61, 32, 109, 97, 107, 101, 40, 99, 104, 97, 110, 32, 105, 110, 116, 44, 32, 118, 52, 41, 10, 120, 32, 61, 32, 120, 10, 125, 10]) false,
  ex (vp [120, 32, 58, 61, 32, 109, 97, 107, 101, 40, 99, 104, 97, 110, 32, 105, 110, 116, 44, 32, 118, 53, 41, 10, 120, 32, 61, 32, 120, 10, 125, 10]) false,
  ex (vp [120, 32, 58, 61, 32, 109, 97, 107, 101, 40, 99, 104, 97, 110, 32, 105, 110, 116, 44, 32, 118, 54, 41, 10, 120, 32, 61, 32, 120, 10, 125, 10]) false,
  ex (vp [120, 32, 58, 61, 32, 109, 97, 107, 101, 40, 99, 104, 97, 110, 32, 105, 110, 116, 44, 32, 110, 105, 108, 41, 10, 120, 32, 61, 32, 120, 10, 125, 10]) false]
theorem eBuiltins27_run : eachOk Tryz.prog fzs keeps pt1 eBuiltins27_is 1000 eBuiltins27_l = true := by kernel_rfl
theorem eBuiltins27_ok : TabOK Tryz.prog eBuiltins27_l := each_of prog_base pt1_ok (isTab_ok _) eBuiltins27_run
end Go.Ev
