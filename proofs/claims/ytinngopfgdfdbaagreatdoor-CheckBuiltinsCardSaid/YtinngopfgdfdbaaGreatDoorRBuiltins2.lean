/- Runs of the checker over sources. -/
import Derived.Test.YtinngopfgdfdbaaGreatDoorQ1
set_option linter.unusedVariables false
namespace Go.Ev
open Go.Proofs
set_option maxRecDepth 1000000
noncomputable def eBuiltins4_is : Tab := isTab [(133, 1), (128, 1)]
noncomputable def eBuiltins4_l : Tab := [ex (vp [120, 32, 58, 61, 32, 99, 97, 112, 40, 118, 48, 41, 10, 120, 32, 61, 32, 120, 10, 125, 10]) false,
  ex (vp [99, 97, 112, 40, 118, 48, 41, 10, 125, 10]) false,
  ex (vp [120, 32, 58, 61, 32, 99, 97, 112, 40, 118, 49, 41, 10, 120, 32, 61, 32, 120, 10, 125, 10]) false,
  ex (vp [99, 97, 112, 40, 118, 49, 41, 10, 125, 10]) false]
theorem eBuiltins4_run : eachOk Tryz.prog fzs keeps pt1 eBuiltins4_is 1000 eBuiltins4_l = true := by kernel_rfl
theorem eBuiltins4_ok : TabOK Tryz.prog eBuiltins4_l := each_of prog_base pt1_ok (isTab_ok _) eBuiltins4_run
noncomputable def eBuiltins5_is : Tab := isTab [(133, 1), (128, 1)]
noncomputable def eBuiltins5_l : Tab := [ex (vp [120, 32, 58, 61, 32, 99, 97, 112, 40, 118, 50, 41, 10, 120, 32, 61, 32, 120, 10, 125, 10]) false,
  ex (vp [99, 97, 112, 40, 118, 50, 41, 10, 125, 10]) false,
  ex (vp [120, 32, 58, 61, 32, 99, 97, 112, 40, 118, 51, 41, 10, 120, 32, 61, 32, 120, 10, 125, 10]) false,
  ex (vp [99, 97, 112, 40, 118, 51, 41, 10, 125, 10]) false]
theorem eBuiltins5_run : eachOk Tryz.prog fzs keeps pt1 eBuiltins5_is 1000 eBuiltins5_l = true := by kernel_rfl
theorem eBuiltins5_ok : TabOK Tryz.prog eBuiltins5_l := each_of prog_base pt1_ok (isTab_ok _) eBuiltins5_run
noncomputable def eBuiltins6_is : Tab := isTab [(128, 1)]
noncomputable def eBuiltins6_l : Tab := [ex (vp [120, 32, 58, 61, 32, 99, 97, 112, 40, 118, 52, 41, 10, 120, 32, 61, 32, 120, 10, 125, 10]) true,
  ex (vp [99, 97, 112, 40, 118, 52, 41, 10, 125, 10]) false,
  ex (vp [120, 32, 58, 61, 32, 99, 97, 112, 40, 118, 53, 41, 10, 120, 32, 61, 32, 120, 10, 125, 10]) true,
  ex (vp [99, 97, 112, 40, 118, 53, 41, 10, 125, 10]) false]
theorem eBuiltins6_run : eachOk Tryz.prog fzs keeps pt1 eBuiltins6_is 1000 eBuiltins6_l = true := by kernel_rfl
theorem eBuiltins6_ok : TabOK Tryz.prog eBuiltins6_l := each_of prog_base pt1_ok (isTab_ok _) eBuiltins6_run
noncomputable def eBuiltins7_is : Tab := isTab [(133, 1), (128, 1), (137, 1)]
noncomputable def eBuiltins7_l : Tab := [ex (vp [120, 32, 58, 61, 32, 99, 97, 112, 40, 118, 54, 41, 10, 120, 32, 61, 32, 120, 10, 125, 10]) false,
  ex (vp [99, 97, 112, 40, 118, 54, 41, 10, 125, 10]) false,
  ex (vp [120, 32, 58, 61, 32, 99, 97, 112, 40, 110, 105, 108, 41, 10, 120, 32, 61, 32, 120, 10, 125, 10]) false,
  ex (vp [99, 97, 112, 40, 110, 105, 108, 41, 10, 125, 10]) false]
theorem eBuiltins7_run : eachOk Tryz.prog fzs keeps pt1 eBuiltins7_is 1000 eBuiltins7_l = true := by kernel_rfl
theorem eBuiltins7_ok : TabOK Tryz.prog eBuiltins7_l := each_of prog_base pt1_ok (isTab_ok _) eBuiltins7_run
end Go.Ev
