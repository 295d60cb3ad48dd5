/- Names at every input. -/
import Derived.Test.YtinngopfgdfdbaaGreatDoorRNames1
import Derived.Test.YtinngopfgdfdbaaGreatDoorRNames2
set_option linter.unusedVariables false
namespace Go.Ev
open Go.Proofs
set_option maxRecDepth 1000000
noncomputable def allNames : Tab := eNames0_l ++ eNames1_l ++ eNames2_l ++ eNames3_l
theorem allNames_ok : TabOK Tryz.prog allNames := by
  have := TabOK.append eNames0_ok (.append eNames1_ok (.append eNames2_ok (eNames3_ok)))
  unfold allNames
  simp only [List.append_assoc]
  exact this
def jsNames : List (List (List Nat)) := [[[0, 1, 2, 3, 4, 5], [6, 7, 2, 3, 4, 5], [8, 9, 2, 3, 4, 5]], [[10, 11, 12, 13, 14, 15], [16, 17, 12, 13, 14, 15], [18, 19, 12, 13, 14, 15]], [[20, 21, 22, 23, 24, 25], [26, 27, 22, 23, 24, 25], [28, 29, 22, 23, 24, 25]]]
noncomputable def tbNames (a : Nat) (b : Nat) : Tab := tabAt allNames ((lget ((lget jsNames a).getD []) b).getD []) ++ tab1
theorem tbNames_ok (a : Nat) (b : Nat) : TabOK Tryz.prog (tbNames a b) := .append (tabAt_ok allNames_ok _) tab1_ok
noncomputable def yNames (tab : Tab) (args : List AV) : Bool := yes ((callF Tryz.prog fzs keeps pt1 tab 1000).call 9 args .leaf 0)
noncomputable def okNames (a : Nat) : Bool := (List.range 3).all fun b => yNames (tbNames a b) [.int .i64 (Int.ofNat a), .int .i64 (Int.ofNat b)]
theorem okNames0 : okNames 0 = true := by kernel_rfl
theorem okNames1 : okNames 1 = true := by kernel_rfl
theorem okNames2 : okNames 2 = true := by kernel_rfl
theorem inNames {a : Nat} (h : a < 3) : okNames a = true := by
  rcases a with _ | _ | _ | a
  · exact okNames0
  · exact okNames1
  · exact okNames2
  · omega
theorem negNames0 (m : Nat) (b : Int) : (yNames tab1 [.int .i64 (Int.negSucc m), .int .i64 b]) = true := by kernel_rfl
theorem bigNames0 (m : Nat) (b : Int) : (yNames tab1 [.int .i64 (Int.ofNat (m + 3)), .int .i64 b]) = true := by kernel_rfl
theorem negNames1 (m : Nat)  : ((List.range 3).all fun a => yNames tab1 [.int .i64 (Int.ofNat a), .int .i64 (Int.negSucc m)]) = true := by kernel_rfl
theorem bigNames1 (m : Nat)  : ((List.range 3).all fun a => yNames tab1 [.int .i64 (Int.ofNat a), .int .i64 (Int.ofNat (m + 3))]) = true := by kernel_rfl
theorem checkNames_walk (a : Int) (b : Int) (w : World) : Calls Tryz.prog 9 #[.int .i64 a, .int .i64 b] w fun e w' => e = .returned (.bool true) ∧ RowKit.Below w.heap.size w w' := by
  have hV : VL (Cx.start w) [.int .i64 a, .int .i64 b] (#[Value.int .i64 a, Value.int .i64 b] : Array Value).toList := .cons (.int _ _) (.cons (.int _ _) (.nil _))
  rcases a with a | m
  rotate_left
  · exact of_yes tab1_ok (negNames0 m b) hV
  by_cases ha : a < 3
  rotate_left
  · obtain ⟨m, rfl⟩ : ∃ m, a = m + 3 := ⟨a - 3, by omega⟩
    exact of_yes tab1_ok (bigNames0 m b) hV
  rcases b with b | m
  rotate_left
  · exact of_yes tab1_ok (List.all_eq_true.1 (negNames1 m ) a (List.mem_range.2 ha)) hV
  by_cases hb : b < 3
  rotate_left
  · obtain ⟨m, rfl⟩ : ∃ m, b = m + 3 := ⟨b - 3, by omega⟩
    exact of_yes tab1_ok (List.all_eq_true.1 (bigNames1 m ) a (List.mem_range.2 ha)) hV
  exact of_yes (tbNames_ok a b) (List.all_eq_true.1 (inNames ha) b (List.mem_range.2 hb)) hV
end Go.Ev
