/- Builtins at every input. -/
import Derived.Test.YtinngopfgdfdbaaGreatDoorRBuiltins1
import Derived.Test.YtinngopfgdfdbaaGreatDoorRBuiltins2
import Derived.Test.YtinngopfgdfdbaaGreatDoorRBuiltins3
import Derived.Test.YtinngopfgdfdbaaGreatDoorRBuiltins4
import Derived.Test.YtinngopfgdfdbaaGreatDoorRBuiltins5
import Derived.Test.YtinngopfgdfdbaaGreatDoorRBuiltins6
import Derived.Test.YtinngopfgdfdbaaGreatDoorRBuiltins7
import Derived.Test.YtinngopfgdfdbaaGreatDoorRBuiltins8
set_option linter.unusedVariables false
namespace Go.Ev
open Go.Proofs
set_option maxRecDepth 1000000
noncomputable def allBuiltins : Tab := eBuiltins0_l ++ eBuiltins1_l ++ eBuiltins2_l ++ eBuiltins3_l ++ eBuiltins4_l ++ eBuiltins5_l ++ eBuiltins6_l ++ eBuiltins7_l ++ eBuiltins8_l ++ eBuiltins9_l ++ eBuiltins10_l ++ eBuiltins11_l ++ eBuiltins12_l ++ eBuiltins13_l ++ eBuiltins14_l ++ eBuiltins15_l ++ eBuiltins16_l ++ eBuiltins17_l ++ eBuiltins18_l ++ eBuiltins19_l ++ eBuiltins20_l ++ eBuiltins21_l ++ eBuiltins22_l ++ eBuiltins23_l ++ eBuiltins24_l ++ eBuiltins25_l ++ eBuiltins26_l ++ eBuiltins27_l ++ eBuiltins28_l ++ eBuiltins29_l ++ eBuiltins30_l ++ eBuiltins31_l
theorem allBuiltins_ok : TabOK Tryz.prog allBuiltins := by
  have := TabOK.append eBuiltins0_ok (.append eBuiltins1_ok (.append eBuiltins2_ok (.append eBuiltins3_ok (.append eBuiltins4_ok (.append eBuiltins5_ok (.append eBuiltins6_ok (.append eBuiltins7_ok (.append eBuiltins8_ok (.append eBuiltins9_ok (.append eBuiltins10_ok (.append eBuiltins11_ok (.append eBuiltins12_ok (.append eBuiltins13_ok (.append eBuiltins14_ok (.append eBuiltins15_ok (.append eBuiltins16_ok (.append eBuiltins17_ok (.append eBuiltins18_ok (.append eBuiltins19_ok (.append eBuiltins20_ok (.append eBuiltins21_ok (.append eBuiltins22_ok (.append eBuiltins23_ok (.append eBuiltins24_ok (.append eBuiltins25_ok (.append eBuiltins26_ok (.append eBuiltins27_ok (.append eBuiltins28_ok (.append eBuiltins29_ok (.append eBuiltins30_ok (eBuiltins31_ok)))))))))))))))))))))))))))))))
  unfold allBuiltins
  simp only [List.append_assoc]
  exact this
def jsBuiltins : List (List (List Nat)) := [[[0, 1], [2, 3], [4, 5], [6, 7], [8, 9], [10, 11], [12, 13], [14, 15]], [[16, 17], [18, 19], [20, 21], [22, 23], [24, 25], [26, 27], [28, 29], [30, 31]], [[32, 33], [34, 35], [36, 37], [38, 39], [40, 41], [42, 43], [44, 45], [46, 47]], [[48, 49], [50, 51], [52, 53], [54, 55], [56, 57], [58, 59], [60, 61], [62, 63]], [[64, 65], [66, 67], [68, 69], [70, 71], [72, 73], [74, 75], [76, 77], [78, 79]], [[80, 81], [82, 83], [84, 85], [86, 87], [88, 89], [90, 91], [92, 93], [94, 95]], [[96], [97], [98], [99], [100], [101], [102], [103]], [[104], [105], [106], [107], [108], [109], [110], [111]], [[112, 113], [114, 115], [116, 117], [118, 119], [120, 121], [122, 123], [124, 125], [126, 127]]]
noncomputable def tbBuiltins (a : Nat) (b : Nat) : Tab := tabAt allBuiltins ((lget ((lget jsBuiltins a).getD []) b).getD []) ++ tab1
theorem tbBuiltins_ok (a : Nat) (b : Nat) : TabOK Tryz.prog (tbBuiltins a b) := .append (tabAt_ok allBuiltins_ok _) tab1_ok
noncomputable def yBuiltins (tab : Tab) (args : List AV) : Bool := yes ((callF Tryz.prog fzs keeps pt1 tab 1000).call 10 args .leaf 0)
noncomputable def okBuiltins (a : Nat) : Bool := (List.range 8).all fun b => yBuiltins (tbBuiltins a b) [.int .i64 (Int.ofNat a), .int .i64 (Int.ofNat b)]
theorem okBuiltins0 : okBuiltins 0 = true := by kernel_rfl
theorem okBuiltins1 : okBuiltins 1 = true := by kernel_rfl
theorem okBuiltins2 : okBuiltins 2 = true := by kernel_rfl
theorem okBuiltins3 : okBuiltins 3 = true := by kernel_rfl
theorem okBuiltins4 : okBuiltins 4 = true := by kernel_rfl
theorem okBuiltins5 : okBuiltins 5 = true := by kernel_rfl
theorem okBuiltins6 : okBuiltins 6 = true := by kernel_rfl
theorem okBuiltins7 : okBuiltins 7 = true := by kernel_rfl
theorem okBuiltins8 : okBuiltins 8 = true := by kernel_rfl
theorem inBuiltins {a : Nat} (h : a < 9) : okBuiltins a = true := by
  rcases a with _ | _ | _ | _ | _ | _ | _ | _ | _ | a
  · exact okBuiltins0
  · exact okBuiltins1
  · exact okBuiltins2
  · exact okBuiltins3
  · exact okBuiltins4
  · exact okBuiltins5
  · exact okBuiltins6
  · exact okBuiltins7
  · exact okBuiltins8
  · omega
theorem negBuiltins0 (m : Nat) (b : Int) : (yBuiltins tab1 [.int .i64 (Int.negSucc m), .int .i64 b]) = true := by kernel_rfl
theorem bigBuiltins0 (m : Nat) (b : Int) : (yBuiltins tab1 [.int .i64 (Int.ofNat (m + 9)), .int .i64 b]) = true := by kernel_rfl
theorem negBuiltins1 (m : Nat)  : ((List.range 9).all fun a => yBuiltins tab1 [.int .i64 (Int.ofNat a), .int .i64 (Int.negSucc m)]) = true := by kernel_rfl
theorem bigBuiltins1 (m : Nat)  : ((List.range 9).all fun a => yBuiltins tab1 [.int .i64 (Int.ofNat a), .int .i64 (Int.ofNat (m + 8))]) = true := by kernel_rfl
theorem checkBuiltins_walk (a : Int) (b : Int) (w : World) : Calls Tryz.prog 10 #[.int .i64 a, .int .i64 b] w fun e w' => e = .returned (.bool true) ∧ RowKit.Below w.heap.size w w' := by
  have hV : VL (Cx.start w) [.int .i64 a, .int .i64 b] (#[Value.int .i64 a, Value.int .i64 b] : Array Value).toList := .cons (.int _ _) (.cons (.int _ _) (.nil _))
  rcases a with a | m
  rotate_left
  · exact of_yes tab1_ok (negBuiltins0 m b) hV
  by_cases ha : a < 9
  rotate_left
  · obtain ⟨m, rfl⟩ : ∃ m, a = m + 9 := ⟨a - 9, by omega⟩
    exact of_yes tab1_ok (bigBuiltins0 m b) hV
  rcases b with b | m
  rotate_left
  · exact of_yes tab1_ok (List.all_eq_true.1 (negBuiltins1 m ) a (List.mem_range.2 ha)) hV
  by_cases hb : b < 8
  rotate_left
  · obtain ⟨m, rfl⟩ : ∃ m, b = m + 8 := ⟨b - 8, by omega⟩
    exact of_yes tab1_ok (List.all_eq_true.1 (bigBuiltins1 m ) a (List.mem_range.2 ha)) hV
  exact of_yes (tbBuiltins_ok a b) (List.all_eq_true.1 (inBuiltins ha) b (List.mem_range.2 hb)) hV
end Go.Ev
