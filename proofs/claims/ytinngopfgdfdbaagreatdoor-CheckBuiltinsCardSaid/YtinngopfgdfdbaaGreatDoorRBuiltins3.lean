/- Runs of the checker over sources. -/
import Derived.Test.YtinngopfgdfdbaaGreatDoorQ1
set_option linter.unusedVariables false
namespace Go.Ev
open Go.Proofs
set_option maxRecDepth 1000000
noncomputable def eBuiltins8_is : Tab := isTab [(139, 1), (134, 1)]
noncomputable def eBuiltins8_l : Tab := [ex (vp [120, 32, 58, 61, 32, 99, 108, 111, 115, 101, 40, 118, 48, 41, 10, 120, 32, 61, 32, 120, 10, 125, 10]) false,
  ex (vp [99, 108, 111, 115, 101, 40, 118, 48, 41, 10, 125, 10]) false,
  ex (vp [120, 32, 58, 61, 32, 99, 108, 111, 115, 101, 40, 118, 49, 41, 10, 120, 32, 61, 32, 120, 10, 125, 10]) false,
  ex (vp [99, 108, 111, 115, 101, 40, 118, 49, 41, 10, 125, 10]) false]
theorem eBuiltins8_run : eachOk Tryz.prog fzs keeps pt1 eBuiltins8_is 1000 eBuiltins8_l = true := by kernel_rfl
theorem eBuiltins8_ok : TabOK Tryz.prog eBuiltins8_l := each_of prog_base pt1_ok (isTab_ok _) eBuiltins8_run
noncomputable def eBuiltins9_is : Tab := isTab [(139, 1), (134, 1)]
noncomputable def eBuiltins9_l : Tab := [ex (vp [120, 32, 58, 61, 32, 99, 108, 111, 115, 101, 40, 118, 50, 41, 10, 120, 32, 61, 32, 120, 10, 125, 10]) false,
  ex (vp [99, 108, 111, 115, 101, 40, 118, 50, 41, 10, 125, 10]) false,
  ex (vp [120, 32, 58, 61, 32, 99, 108, 111, 115, 101, 40, 118, 51, 41, 10, 120, 32, 61, 32, 120, 10, 125, 10]) false,
  ex (vp [99, 108, 111, 115, 101, 40, 118, 51, 41, 10, 125, 10]) false]
theorem eBuiltins9_run : eachOk Tryz.prog fzs keeps pt1 eBuiltins9_is 1000 eBuiltins9_l = true := by kernel_rfl
theorem eBuiltins9_ok : TabOK Tryz.prog eBuiltins9_l := each_of prog_base pt1_ok (isTab_ok _) eBuiltins9_run
noncomputable def eBuiltins10_is : Tab := isTab [(139, 1), (134, 1), (133, 1)]
noncomputable def eBuiltins10_l : Tab := [ex (vp [120, 32, 58, 61, 32, 99, 108, 111, 115, 101, 40, 118, 52, 41, 10, 120, 32, 61, 32, 120, 10, 125, 10]) false,
  ex (vp [99, 108, 111, 115, 101, 40, 118, 52, 41, 10, 125, 10]) false,
  ex (vp [120, 32, 58, 61, 32, 99, 108, 111, 115, 101, 40, 118, 53, 41, 10, 120, 32, 61, 32, 120, 10, 125, 10]) false,
  ex (vp [99, 108, 111, 115, 101, 40, 118, 53, 41, 10, 125, 10]) true]
theorem eBuiltins10_run : eachOk Tryz.prog fzs keeps pt1 eBuiltins10_is 1000 eBuiltins10_l = true := by kernel_rfl
theorem eBuiltins10_ok : TabOK Tryz.prog eBuiltins10_l := each_of prog_base pt1_ok (isTab_ok _) eBuiltins10_run
noncomputable def eBuiltins11_is : Tab := isTab [(139, 1), (134, 1)]
noncomputable def eBuiltins11_l : Tab := [ex (vp [120, 32, 58, 61, 32, 99, 108, 111, 115, 101, 40, 118, 54, 41, 10, 120, 32, 61, 32, 120, 10, 125, 10]) false,
  ex (vp [99, 108, 111, 115, 101, 40, 118, 54, 41, 10, 125, 10]) false,
  ex (vp [120, 32, 58, 61, 32, 99, 108, 111, 115, 101, 40, 110, 105, 108, 41, 10, 120, 32, 61, 32, 120, 10, 125, 10]) false,
  ex (vp [99, 108, 111, 115, 101, 40, 110, 105, 108, 41, 10, 125, 10]) false]
theorem eBuiltins11_run : eachOk Tryz.prog fzs keeps pt1 eBuiltins11_is 1000 eBuiltins11_l = true := by kernel_rfl
theorem eBuiltins11_ok : TabOK Tryz.prog eBuiltins11_l := each_of prog_base pt1_ok (isTab_ok _) eBuiltins11_run
end Go.Ev
