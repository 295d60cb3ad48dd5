/- The example of the document is known; tables by places. -/
import Derived.Test.YtinngopfgdfdbaaGreatDoorC1
set_option linter.unusedVariables false
namespace Go.Ev
open Go.Proofs
set_option maxRecDepth 1000000
noncomputable def pt1 : List (Nat × Grp) := []
theorem pt1_ok : PtOK Tryz.prog pt1 := .nil _
noncomputable def tab1 : Tab := [(11, [], .bool true)]
theorem anchor_run : eachOk Tryz.prog fzs keeps pt1 (isTab [(19, 1)]) 1000 tab1 = true := by kernel_rfl
theorem tab1_ok : TabOK Tryz.prog tab1 := each_of prog_base pt1_ok (isTab_ok _) anchor_run

/-- The rows at these places. -/
noncomputable def tabAt (l : Tab) (js : List Nat) : Tab := List.rec [] (fun j _ ih => Option.rec ih (fun x => x :: ih) (lget l j)) js
theorem tabAt_ok {P : Program} {l : Tab} (h : TabOK P l) : ∀ js, TabOK P (tabAt l js)
  | [] => .nil _
  | j :: js => by
    change TabOK P (Option.rec (tabAt l js) (fun x => x :: tabAt l js) (lget l j))
    cases hj : lget l j with
    | none => exact tabAt_ok h js
    | some x =>
      rw [lget_eq] at hj
      exact .append (a := [x]) (fun y hy => by rw [List.mem_singleton.1 hy]; exact h x (List.mem_of_getElem? hj)) (tabAt_ok h js)

theorem of_yes {tab : Tab} (ht : TabOK Tryz.prog tab) {f : Nat} {args : List AV} (h : yes ((callF Tryz.prog fzs keeps pt1 tab 1000).call f args .leaf 0) = true) {w : World} {vargs : Array Value} (ha : VL (Cx.start w) args vargs.toList) :
    Calls Tryz.prog f vargs w fun e w' => e = .returned (.bool true) ∧ RowKit.Below w.heap.size w w' := yes_calls (kp := keeps) (F := 1000) (prog_base.ok pt1_ok ht) h ha

/-- The common beginning of many sources. -/
def vp (t : List UInt8) : List UInt8 := 116 :: 121 :: 112 :: 101 :: 32 :: 84 :: 32 :: 115 :: 116 :: 114 :: 117 :: 99 :: 116 :: 32 :: 123 :: 10 :: 97 :: 32 :: 105 :: 110 :: 116 :: 10 :: 125 :: 10 :: 118 :: 97 :: 114 :: 32 :: 118 :: 48 :: 32 :: 105 :: 110 :: 116 :: 10 :: 118 :: 97 :: 114 :: 32 :: 118 :: 49 :: 32 :: 98 :: 111 :: 111 :: 108 :: 10 :: 118 :: 97 :: 114 :: 32 :: 118 :: 50 :: 32 :: 115 :: 116 :: 114 :: 105 :: 110 :: 103 :: 10 :: 118 :: 97 :: 114 :: 32 :: 118 :: 51 :: 32 :: 42 :: 84 :: 10 :: 118 :: 97 :: 114 :: 32 :: 118 :: 52 :: 32 :: 91 :: 93 :: 105 :: 110 :: 116 :: 10 :: 118 :: 97 :: 114 :: 32 :: 118 :: 53 :: 32 :: 99 :: 104 :: 97 :: 110 :: 32 :: 105 :: 110 :: 116 :: 10 :: 118 :: 97 :: 114 :: 32 :: 118 :: 54 :: 32 :: 102 :: 117 :: 110 :: 99 :: 40 :: 41 :: 10 :: 102 :: 117 :: 110 :: 99 :: 32 :: 109 :: 97 :: 105 :: 110 :: 40 :: 41 :: 32 :: 123 :: 10 :: t
end Go.Ev
