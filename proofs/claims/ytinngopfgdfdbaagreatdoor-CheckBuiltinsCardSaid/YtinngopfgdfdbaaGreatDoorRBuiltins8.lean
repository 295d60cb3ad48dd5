/- Runs of the checker over sources. -/
import Derived.Test.YtinngopfgdfdbaaGreatDoorQ1
set_option linter.unusedVariables false
namespace Go.Ev
open Go.Proofs
set_option maxRecDepth 1000000
noncomputable def eBuiltins28_is : Tab := isTab [(135, 1), (130, 1)]
noncomputable def eBuiltins28_l : Tab := [ex (vp [120, 32, 58, 61, 32, 60, 45, 118, 48, 10, 120, 32, 61, 32, 120, 10, 125, 10]) false,
  ex (vp [60, 45, 118, 48, 10, 125, 10]) false,
  ex (vp [120, 32, 58, 61, 32, 60, 45, 118, 49, 10, 120, 32, 61, 32, 120, 10, 125, 10]) false,
  ex (vp [60, 45, 118, 49, 10, 125, 10]) false]
theorem eBuiltins28_run : eachOk Tryz.prog fzs keeps pt1 eBuiltins28_is 1000 eBuiltins28_l = true := by kernel_rfl
theorem eBuiltins28_ok : TabOK Tryz.prog eBuiltins28_l := each_of prog_base pt1_ok (isTab_ok _) eBuiltins28_run
noncomputable def eBuiltins29_is : Tab := isTab [(135, 1), (130, 1)]
noncomputable def eBuiltins29_l : Tab := [ex (vp [120, 32, 58, 61, 32, 60, 45, 118, 50, 10, 120, 32, 61, 32, 120, 10, 125, 10]) false,
  ex (vp [60, 45, 118, 50, 10, 125, 10]) false,
  ex (vp [120, 32, 58, 61, 32, 60, 45, 118, 51, 10, 120, 32, 61, 32, 120, 10, 125, 10]) false,
  ex (vp [60, 45, 118, 51, 10, 125, 10]) false]
theorem eBuiltins29_run : eachOk Tryz.prog fzs keeps pt1 eBuiltins29_is 1000 eBuiltins29_l = true := by kernel_rfl
theorem eBuiltins29_ok : TabOK Tryz.prog eBuiltins29_l := each_of prog_base pt1_ok (isTab_ok _) eBuiltins29_run
noncomputable def eBuiltins30_is : Tab := isTab [(135, 1), (130, 1)]
noncomputable def eBuiltins30_l : Tab := [ex (vp [120, 32, 58, 61, 32, 60, 45, 118, 52, 10, 120, 32, 61, 32, 120, 10, 125, 10]) false,
  ex (vp [60, 45, 118, 52, 10, 125, 10]) false,
  ex (vp [120, 32, 58, 61, 32, 60, 45, 118, 53, 10, 120, 32, 61, 32, 120, 10, 125, 10]) true,
  ex (vp [60, 45, 118, 53, 10, 125, 10]) true]
theorem eBuiltins30_run : eachOk Tryz.prog fzs keeps pt1 eBuiltins30_is 1000 eBuiltins30_l = true := by kernel_rfl
theorem eBuiltins30_ok : TabOK Tryz.prog eBuiltins30_l := each_of prog_base pt1_ok (isTab_ok _) eBuiltins30_run
noncomputable def eBuiltins31_is : Tab := isTab [(135, 1), (130, 1)]
noncomputable def eBuiltins31_l : Tab := [ex (vp [120, 32, 58, 61, 32, 60, 45, 118, 54, 10, 120, 32, 61, 32, 120, 10, 125, 10]) false,
  ex (vp [60, 45, 118, 54, 10, 125, 10]) false,
  ex (vp [120, 32, 58, 61, 32, 60, 45, 110, 105, 108, 10, 120, 32, 61, 32, 120, 10, 125, 10]) false,
  ex (vp [60, 45, 110, 105, 108, 10, 125, 10]) false]
theorem eBuiltins31_run : eachOk Tryz.prog fzs keeps pt1 eBuiltins31_is 1000 eBuiltins31_l = true := by kernel_rfl
theorem eBuiltins31_ok : TabOK Tryz.prog eBuiltins31_l := each_of prog_base pt1_ok (isTab_ok _) eBuiltins31_run
end Go.Ev
