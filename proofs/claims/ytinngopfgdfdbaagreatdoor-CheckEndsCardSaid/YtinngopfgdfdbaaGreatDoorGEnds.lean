/- Ends at every input. -/
import Derived.Test.YtinngopfgdfdbaaGreatDoorREnds1
import Derived.Test.YtinngopfgdfdbaaGreatDoorREnds2
import Derived.Test.YtinngopfgdfdbaaGreatDoorREnds3
import Derived.Test.YtinngopfgdfdbaaGreatDoorREnds4
import Derived.Test.YtinngopfgdfdbaaGreatDoorREnds5
import Derived.Test.YtinngopfgdfdbaaGreatDoorREnds6
import Derived.Test.YtinngopfgdfdbaaGreatDoorREnds7
import Derived.Test.YtinngopfgdfdbaaGreatDoorREnds8
set_option linter.unusedVariables false
namespace Go.Ev
open Go.Proofs
set_option maxRecDepth 1000000
noncomputable def allEnds : Tab := eEnds0_l ++ eEnds1_l ++ eEnds2_l ++ eEnds3_l ++ eEnds4_l ++ eEnds5_l ++ eEnds6_l ++ eEnds7_l ++ eEnds8_l ++ eEnds9_l ++ eEnds10_l ++ eEnds11_l ++ eEnds12_l ++ eEnds13_l ++ eEnds14_l ++ eEnds15_l ++ eEnds16_l ++ eEnds17_l ++ eEnds18_l ++ eEnds19_l ++ eEnds20_l ++ eEnds21_l ++ eEnds22_l ++ eEnds23_l
theorem allEnds_ok : TabOK Tryz.prog allEnds := by
  have := TabOK.append eEnds0_ok (.append eEnds1_ok (.append eEnds2_ok (.append eEnds3_ok (.append eEnds4_ok (.append eEnds5_ok (.append eEnds6_ok (.append eEnds7_ok (.append eEnds8_ok (.append eEnds9_ok (.append eEnds10_ok (.append eEnds11_ok (.append eEnds12_ok (.append eEnds13_ok (.append eEnds14_ok (.append eEnds15_ok (.append eEnds16_ok (.append eEnds17_ok (.append eEnds18_ok (.append eEnds19_ok (.append eEnds20_ok (.append eEnds21_ok (.append eEnds22_ok (eEnds23_ok)))))))))))))))))))))))
  unfold allEnds
  simp only [List.append_assoc]
  exact this
def jsEnds : List (List (List Nat)) := [[[0], [1], [2], [3]], [[4], [5], [6], [7]], [[8], [9], [10], [11]], [[12], [13], [14], [15]], [[16], [17], [18], [19]], [[20], [21], [22], [23]], [[24], [25], [26], [27]], [[28], [29], [30], [31]], [[32], [33], [34], [35]], [[36], [37], [38], [39]], [[40], [41], [42], [43]], [[44], [45], [46], [47]], [[48], [49], [50], [51]], [[52], [53], [54], [55]], [[56], [57], [58], [59]], [[60], [61], [62], [63]], [[64], [65], [66], [67]], [[68], [69], [70], [71]], [[1], [72], [73], [74]], [[75], [76], [77], [78]], [[79], [80], [81], [82]], [[83], [84], [85], [86]], [[87], [88], [89], [90]], [[91], [92], [93], [94]]]
noncomputable def tbEnds (a : Nat) (b : Nat) : Tab := tabAt allEnds ((lget ((lget jsEnds a).getD []) b).getD []) ++ tab1
theorem tbEnds_ok (a : Nat) (b : Nat) : TabOK Tryz.prog (tbEnds a b) := .append (tabAt_ok allEnds_ok _) tab1_ok
noncomputable def yEnds (tab : Tab) (args : List AV) : Bool := yes ((callF Tryz.prog fzs keeps pt1 tab 1000).call 6 args .leaf 0)
noncomputable def okEnds (a : Nat) : Bool := (List.range 4).all fun b => yEnds (tbEnds a b) [.int .i64 (Int.ofNat a), .int .i64 (Int.ofNat b)]
theorem okEnds0 : okEnds 0 = true := by kernel_rfl
theorem okEnds1 : okEnds 1 = true := by kernel_rfl
theorem okEnds2 : okEnds 2 = true := by kernel_rfl
theorem okEnds3 : okEnds 3 = true := by kernel_rfl
theorem okEnds4 : okEnds 4 = true := by kernel_rfl
theorem okEnds5 : okEnds 5 = true := by kernel_rfl
theorem okEnds6 : okEnds 6 = true := by kernel_rfl
theorem okEnds7 : okEnds 7 = true := by kernel_rfl
theorem okEnds8 : okEnds 8 = true := by kernel_rfl
theorem okEnds9 : okEnds 9 = true := by kernel_rfl
theorem okEnds10 : okEnds 10 = true := by kernel_rfl
theorem okEnds11 : okEnds 11 = true := by kernel_rfl
theorem okEnds12 : okEnds 12 = true := by kernel_rfl
theorem okEnds13 : okEnds 13 = true := by kernel_rfl
theorem okEnds14 : okEnds 14 = true := by kernel_rfl
theorem okEnds15 : okEnds 15 = true := by kernel_rfl
theorem okEnds16 : okEnds 16 = true := by kernel_rfl
theorem okEnds17 : okEnds 17 = true := by kernel_rfl
theorem okEnds18 : okEnds 18 = true := by kernel_rfl
theorem okEnds19 : okEnds 19 = true := by kernel_rfl
theorem okEnds20 : okEnds 20 = true := by kernel_rfl
theorem okEnds21 : okEnds 21 = true := by kernel_rfl
theorem okEnds22 : okEnds 22 = true := by kernel_rfl
theorem okEnds23 : okEnds 23 = true := by kernel_rfl
theorem inEnds {a : Nat} (h : a < 24) : okEnds a = true := by
  rcases a with _ | _ | _ | _ | _ | _ | _ | _ | _ | _ | _ | _ | _ | _ | _ | _ | _ | _ | _ | _ | _ | _ | _ | _ | a
  · exact okEnds0
  · exact okEnds1
  · exact okEnds2
  · exact okEnds3
  · exact okEnds4
  · exact okEnds5
  · exact okEnds6
  · exact okEnds7
  · exact okEnds8
  · exact okEnds9
  · exact okEnds10
  · exact okEnds11
  · exact okEnds12
  · exact okEnds13
  · exact okEnds14
  · exact okEnds15
  · exact okEnds16
  · exact okEnds17
  · exact okEnds18
  · exact okEnds19
  · exact okEnds20
  · exact okEnds21
  · exact okEnds22
  · exact okEnds23
  · omega
theorem negEnds0 (m : Nat) (b : Int) : (yEnds tab1 [.int .i64 (Int.negSucc m), .int .i64 b]) = true := by kernel_rfl
theorem bigEnds0 (m : Nat) (b : Int) : (yEnds tab1 [.int .i64 (Int.ofNat (m + 24)), .int .i64 b]) = true := by kernel_rfl
theorem negEnds1 (m : Nat)  : ((List.range 24).all fun a => yEnds tab1 [.int .i64 (Int.ofNat a), .int .i64 (Int.negSucc m)]) = true := by kernel_rfl
theorem bigEnds1 (m : Nat)  : ((List.range 24).all fun a => yEnds tab1 [.int .i64 (Int.ofNat a), .int .i64 (Int.ofNat (m + 4))]) = true := by kernel_rfl
theorem checkEnds_walk (a : Int) (b : Int) (w : World) : Calls Tryz.prog 6 #[.int .i64 a, .int .i64 b] w fun e w' => e = .returned (.bool true) ∧ RowKit.Below w.heap.size w w' := by
  have hV : VL (Cx.start w) [.int .i64 a, .int .i64 b] (#[Value.int .i64 a, Value.int .i64 b] : Array Value).toList := .cons (.int _ _) (.cons (.int _ _) (.nil _))
  rcases a with a | m
  rotate_left
  · exact of_yes tab1_ok (negEnds0 m b) hV
  by_cases ha : a < 24
  rotate_left
  · obtain ⟨m, rfl⟩ : ∃ m, a = m + 24 := ⟨a - 24, by omega⟩
    exact of_yes tab1_ok (bigEnds0 m b) hV
  rcases b with b | m
  rotate_left
  · exact of_yes tab1_ok (List.all_eq_true.1 (negEnds1 m ) a (List.mem_range.2 ha)) hV
  by_cases hb : b < 4
  rotate_left
  · obtain ⟨m, rfl⟩ : ∃ m, b = m + 4 := ⟨b - 4, by omega⟩
    exact of_yes tab1_ok (List.all_eq_true.1 (bigEnds1 m ) a (List.mem_range.2 ha)) hV
  exact of_yes (tbEnds_ok a b) (List.all_eq_true.1 (inEnds ha) b (List.mem_range.2 hb)) hV
end Go.Ev
