/- Jumps at every input. -/
import Derived.Test.YtinngopfgdfdbaaGreatDoorRJumps1
import Derived.Test.YtinngopfgdfdbaaGreatDoorRJumps2
set_option linter.unusedVariables false
namespace Go.Ev
open Go.Proofs
set_option maxRecDepth 1000000
noncomputable def allJumps : Tab := eJumps0_l ++ eJumps1_l ++ eJumps2_l ++ eJumps3_l ++ eJumps4_l
theorem allJumps_ok : TabOK Tryz.prog allJumps := by
  have := TabOK.append eJumps0_ok (.append eJumps1_ok (.append eJumps2_ok (.append eJumps3_ok (eJumps4_ok))))
  unfold allJumps
  simp only [List.append_assoc]
  exact this
def jsJumps : List (List (List Nat)) := [[[0], [1], [2], [3], [4], [5]], [[6], [7], [8], [9], [10], [11]], [[12], [13], [14], [15], [16], [17]], [[18], [19], [20], [21], [22], [23]], [[24], [25], [26], [27], [28], [29]], [[30], [31], [32], [33], [34], [35]], [[36], [37], [38], [39], [40], [41]], [[42], [43], [44], [45], [46], [47]]]
noncomputable def tbJumps (a : Nat) (b : Nat) : Tab := tabAt allJumps ((lget ((lget jsJumps a).getD []) b).getD []) ++ tab1
theorem tbJumps_ok (a : Nat) (b : Nat) : TabOK Tryz.prog (tbJumps a b) := .append (tabAt_ok allJumps_ok _) tab1_ok
noncomputable def yJumps (tab : Tab) (args : List AV) : Bool := yes ((callF Tryz.prog fzs keeps pt1 tab 1000).call 7 args .leaf 0)
noncomputable def okJumps (a : Nat) : Bool := (List.range 6).all fun b => yJumps (tbJumps a b) [.int .i64 (Int.ofNat a), .int .i64 (Int.ofNat b)]
theorem okJumps0 : okJumps 0 = true := by kernel_rfl
theorem okJumps1 : okJumps 1 = true := by kernel_rfl
theorem okJumps2 : okJumps 2 = true := by kernel_rfl
theorem okJumps3 : okJumps 3 = true := by kernel_rfl
theorem okJumps4 : okJumps 4 = true := by kernel_rfl
theorem okJumps5 : okJumps 5 = true := by kernel_rfl
theorem okJumps6 : okJumps 6 = true := by kernel_rfl
theorem okJumps7 : okJumps 7 = true := by kernel_rfl
theorem inJumps {a : Nat} (h : a < 8) : okJumps a = true := by
  rcases a with _ | _ | _ | _ | _ | _ | _ | _ | a
  · exact okJumps0
  · exact okJumps1
  · exact okJumps2
  · exact okJumps3
  · exact okJumps4
  · exact okJumps5
  · exact okJumps6
  · exact okJumps7
  · omega
theorem negJumps0 (m : Nat) (b : Int) : (yJumps tab1 [.int .i64 (Int.negSucc m), .int .i64 b]) = true := by kernel_rfl
theorem bigJumps0 (m : Nat) (b : Int) : (yJumps tab1 [.int .i64 (Int.ofNat (m + 8)), .int .i64 b]) = true := by kernel_rfl
theorem negJumps1 (m : Nat)  : ((List.range 8).all fun a => yJumps tab1 [.int .i64 (Int.ofNat a), .int .i64 (Int.negSucc m)]) = true := by kernel_rfl
theorem bigJumps1 (m : Nat)  : ((List.range 8).all fun a => yJumps tab1 [.int .i64 (Int.ofNat a), .int .i64 (Int.ofNat (m + 6))]) = true := by kernel_rfl
theorem checkJumps_walk (a : Int) (b : Int) (w : World) : Calls Tryz.prog 7 #[.int .i64 a, .int .i64 b] w fun e w' => e = .returned (.bool true) ∧ RowKit.Below w.heap.size w w' := by
  have hV : VL (Cx.start w) [.int .i64 a, .int .i64 b] (#[Value.int .i64 a, Value.int .i64 b] : Array Value).toList := .cons (.int _ _) (.cons (.int _ _) (.nil _))
  rcases a with a | m
  rotate_left
  · exact of_yes tab1_ok (negJumps0 m b) hV
  by_cases ha : a < 8
  rotate_left
  · obtain ⟨m, rfl⟩ : ∃ m, a = m + 8 := ⟨a - 8, by omega⟩
    exact of_yes tab1_ok (bigJumps0 m b) hV
  rcases b with b | m
  rotate_left
  · exact of_yes tab1_ok (List.all_eq_true.1 (negJumps1 m ) a (List.mem_range.2 ha)) hV
  by_cases hb : b < 6
  rotate_left
  · obtain ⟨m, rfl⟩ : ∃ m, b = m + 6 := ⟨b - 6, by omega⟩
    exact of_yes tab1_ok (List.all_eq_true.1 (bigJumps1 m ) a (List.mem_range.2 ha)) hV
  exact of_yes (tbJumps_ok a b) (List.all_eq_true.1 (inJumps ha) b (List.mem_range.2 hb)) hV
end Go.Ev
