/- What small functions come to; the example of the document is known; tables by places. -/
import Derived.Test.YtinngopfgdfdbaaGreatDoorC1
set_option linter.unusedVariables false
namespace Go.Ev
open Go.Proofs
set_option maxRecDepth 1000000
noncomputable def pt1 : List (Nat × Grp) := [(106, [(.int .u8 32, [([], .bool false)]),
    (.int .u8 118, [([], .bool true)]),
    (.int .u8 97, [([], .bool true)]),
    (.int .u8 110, [([], .bool true)]),
    (.int .u8 114, [([], .bool true)]),
    (.int .u8 116, [([], .bool true)]),
    (.int .u8 10, [([], .bool false)]),
    (.int .u8 105, [([], .bool true)]),
    (.int .u8 99, [([], .bool true)]),
    (.int .u8 117, [([], .bool true)]),
    (.int .u8 40, [([], .bool false)]),
    (.int .u8 102, [([], .bool true)]),
    (.int .u8 111, [([], .bool true)]),
    (.int .u8 84, [([], .bool true)]),
    (.int .u8 115, [([], .bool true)]),
    (.int .u8 108, [([], .bool true)]),
    (.int .u8 48, [([], .bool true)]),
    (.int .u8 50, [([], .bool true)]),
    (.int .u8 49, [([], .bool true)]),
    (.int .u8 51, [([], .bool true)]),
    (.int .u8 53, [([], .bool true)]),
    (.int .u8 52, [([], .bool true)]),
    (.int .u8 54, [([], .bool true)]),
    (.int .u8 120, [([], .bool true)]),
    (.int .u8 101, [([], .bool true)]),
    (.int .u8 112, [([], .bool true)]),
    (.int .u8 121, [([], .bool true)]),
    (.int .u8 104, [([], .bool true)]),
    (.int .u8 98, [([], .bool true)]),
    (.int .u8 109, [([], .bool true)]),
    (.int .u8 103, [([], .bool true)]),
    (.int .u8 41, [([], .bool false)]),
    (.int .u8 44, [([], .bool false)]),
    (.int .u8 100, [([], .bool true)]),
    (.int .u8 107, [([], .bool true)]),
    (.int .u8 123, [([], .bool false)])]),
  (79, [(.int .u8 118, [([], .bool true)]),
    (.int .u8 105, [([], .bool true)]),
    (.int .u8 41, [([], .bool false)]),
    (.int .u8 40, [([], .bool false)]),
    (.int .u8 102, [([], .bool true)]),
    (.int .u8 123, [([], .bool false)]),
    (.int .u8 125, [([], .bool false)]),
    (.int .u8 84, [([], .bool true)]),
    (.int .u8 115, [([], .bool true)]),
    (.int .u8 61, [([], .bool false)]),
    (.int .u8 99, [([], .bool true)]),
    (.int .u8 120, [([], .bool true)]),
    (.int .u8 42, [([], .bool false)]),
    (.int .u8 91, [([], .bool false)]),
    (.int .u8 93, [([], .bool false)]),
    (.int .u8 98, [([], .bool true)]),
    (.int .u8 97, [([], .bool true)]),
    (.int .u8 109, [([], .bool true)]),
    (.int .u8 116, [([], .bool true)]),
    (.int .u8 58, [([], .bool false)]),
    (.int .u8 110, [([], .bool true)]),
    (.int .u8 60, [([], .bool false)]),
    (.int .u8 121, [([], .bool true)]),
    (.int .u8 44, [([], .bool false)]),
    (.int .u8 45, [([], .bool false)]),
    (.int .u8 62, [([], .bool false)]),
    (.int .u8 38, [([], .bool false)]),
    (.int .u8 124, [([], .bool false)]),
    (.int .u8 33, [([], .bool false)]),
    (.int .u8 49, [([], .bool false)]),
    (.int .u8 43, [([], .bool false)]),
    (.int .u8 47, [([], .bool false)]),
    (.int .u8 37, [([], .bool false)]),
    (.int .u8 114, [([], .bool true)]),
    (.int .u8 112, [([], .bool true)]),
    (.int .u8 108, [([], .bool true)])]),
  (81, [(.int .u8 41, [([], .bool false)]),
    (.int .u8 40, [([], .bool false)]),
    (.int .u8 123, [([], .bool false)]),
    (.int .u8 125, [([], .bool false)]),
    (.int .u8 61, [([], .bool false)]),
    (.int .u8 42, [([], .bool false)]),
    (.int .u8 91, [([], .bool false)]),
    (.int .u8 93, [([], .bool false)]),
    (.int .u8 58, [([], .bool false)]),
    (.int .u8 60, [([], .bool false)]),
    (.int .u8 44, [([], .bool false)]),
    (.int .u8 49, [([], .bool true)]),
    (.int .u8 45, [([], .bool false)]),
    (.int .u8 62, [([], .bool false)]),
    (.int .u8 38, [([], .bool false)]),
    (.int .u8 124, [([], .bool false)]),
    (.int .u8 33, [([], .bool false)]),
    (.int .u8 43, [([], .bool false)]),
    (.int .u8 47, [([], .bool false)]),
    (.int .u8 37, [([], .bool false)])]),
  (107, [(.str [118, 97, 114], [([], .bool true)]),
    (.str [105, 110, 116], [([], .bool true)]),
    (.str [102, 117, 110, 99], [([], .bool true)]),
    (.str [84], [([], .bool false)]),
    (.str [118, 48], [([], .bool false)]),
    (.str [118, 50], [([], .bool false)]),
    (.str [118, 49], [([], .bool false)]),
    (.str [118, 51], [([], .bool false)]),
    (.str [118, 53], [([], .bool false)]),
    (.str [118, 52], [([], .bool false)]),
    (.str [118, 54], [([], .bool false)]),
    (.str [120], [([], .bool false)]),
    (.str [99, 104, 97, 110], [([], .bool true)]),
    (.str [98, 111, 111, 108], [([], .bool true)]),
    (.str [115, 116, 114, 105, 110, 103], [([], .bool true)]),
    (.str [116, 121, 112, 101], [([], .bool true)]),
    (.str [115, 116, 114, 117, 99, 116], [([], .bool true)]),
    (.str [97], [([], .bool false)]),
    (.str [109, 97, 105, 110], [([], .bool false)]),
    (.str [110, 105, 108], [([], .bool true)]),
    (.str [102], [([], .bool false)]),
    (.str [121], [([], .bool false)]),
    (.str [118], [([], .bool false)]),
    (.str [99], [([], .bool false)]),
    (.str [97, 112, 112, 101, 110, 100], [([], .bool true)]),
    (.str [109, 97, 107, 101], [([], .bool true)]),
    (.str [114, 101, 116, 117, 114, 110], [([], .bool true)]),
    (.str [108, 101, 110], [([], .bool true)]),
    (.str [99, 97, 112], [([], .bool true)]),
    (.str [99, 108, 111, 115, 101], [([], .bool true)]),
    (.str [112, 97, 110, 105, 99], [([], .bool true)]),
    (.str [112, 114, 105, 110, 116], [([], .bool true)])])]
def flatP (pt : List (Nat × Grp)) : Tab := pt.flatMap fun z => z.2.flatMap fun y => y.2.map fun x => (z.1, y.1 :: x.1, x.2)
theorem pt_of {P : Program} {pt : List (Nat × Grp)} (h : TabOK P (flatP pt)) : PtOK P pt := fun z hz y hy x hx => h (z.1, y.1 :: x.1, x.2) (List.mem_flatMap.2 ⟨z, hz, List.mem_flatMap.2 ⟨y, hy, List.mem_map.2 ⟨x, hx, rfl⟩⟩⟩)
theorem pt1_run : eachOk Tryz.prog fzs keeps [] [] 1000 (flatP pt1) = true := by kernel_rfl
theorem pt1_ok : PtOK Tryz.prog pt1 := pt_of (each_of prog_base (.nil _) (.nil _) pt1_run)
noncomputable def tab1 : Tab := [(11, [], .bool true)]
theorem anchor_run : eachOk Tryz.prog fzs keeps pt1 (isTab [(19, 1)]) 1000 tab1 = true := by kernel_rfl
theorem tab1_ok : TabOK Tryz.prog tab1 := each_of prog_base pt1_ok (isTab_ok _) anchor_run

/-- The rows at these places. -/
noncomputable def tabAt (l : Tab) (js : List Nat) : Tab := List.rec [] (fun j _ ih => Option.rec ih (fun x => x :: ih) (lget l j)) js
theorem tabAt_ok {P : Program} {l : Tab} (h : TabOK P l) : ∀ js, TabOK P (tabAt l js)
  | [] => .nil _
  | j :: js => by
    change TabOK P (Option.rec (tabAt l js) (fun x => x :: tabAt l js) (lget l j))
    cases hj : lget l j with
    | none => exact tabAt_ok h js
    | some x =>
      rw [lget_eq] at hj
      exact .append (a := [x]) (fun y hy => by rw [List.mem_singleton.1 hy]; exact h x (List.mem_of_getElem? hj)) (tabAt_ok h js)

theorem of_yes {tab : Tab} (ht : TabOK Tryz.prog tab) {f : Nat} {args : List AV} (h : yes ((callF Tryz.prog fzs keeps pt1 tab 1000).call f args .leaf 0) = true) {w : World} {vargs : Array Value} (ha : VL (Cx.start w) args vargs.toList) :
    Calls Tryz.prog f vargs w fun e w' => e = .returned (.bool true) ∧ RowKit.Below w.heap.size w w' := yes_calls (kp := keeps) (F := 1000) (prog_base.ok pt1_ok ht) h ha

/-- The common beginning of many sources. -/
def vp (t : List UInt8) : List UInt8 := 116 :: 121 :: 112 :: 101 :: 32 :: 84 :: 32 :: 115 :: 116 :: 114 :: 117 :: 99 :: 116 :: 32 :: 123 :: 10 :: 97 :: 32 :: 105 :: 110 :: 116 :: 10 :: 125 :: 10 :: 118 :: 97 :: 114 :: 32 :: 118 :: 48 :: 32 :: 105 :: 110 :: 116 :: 10 :: 118 :: 97 :: 114 :: 32 :: 118 :: 49 :: 32 :: 98 :: 111 :: 111 :: 108 :: 10 :: 118 :: 97 :: 114 :: 32 :: 118 :: 50 :: 32 :: 115 :: 116 :: 114 :: 105 :: 110 :: 103 :: 10 :: 118 :: 97 :: 114 :: 32 :: 118 :: 51 :: 32 :: 42 :: 84 :: 10 :: 118 :: 97 :: 114 :: 32 :: 118 :: 52 :: 32 :: 91 :: 93 :: 105 :: 110 :: 116 :: 10 :: 118 :: 97 :: 114 :: 32 :: 118 :: 53 :: 32 :: 99 :: 104 :: 97 :: 110 :: 32 :: 105 :: 110 :: 116 :: 10 :: 118 :: 97 :: 114 :: 32 :: 118 :: 54 :: 32 :: 102 :: 117 :: 110 :: 99 :: 40 :: 41 :: 10 :: 102 :: 117 :: 110 :: 99 :: 32 :: 109 :: 97 :: 105 :: 110 :: 40 :: 41 :: 32 :: 123 :: 10 :: t
end Go.Ev
