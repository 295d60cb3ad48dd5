/- The statement at every input: the runs of D1..D8, and what is too small or too big. -/
import Derived.Test.YtghpalokaedpkaaGreatD1
import Derived.Test.YtghpalokaedpkaaGreatD2
import Derived.Test.YtghpalokaedpkaaGreatD3
import Derived.Test.YtghpalokaedpkaaGreatD4
import Derived.Test.YtghpalokaedpkaaGreatD5
import Derived.Test.YtghpalokaedpkaaGreatD6
import Derived.Test.YtghpalokaedpkaaGreatD7
import Derived.Test.YtghpalokaedpkaaGreatD8
set_option linter.unusedVariables false
namespace Go.Ev
open Go.Proofs
set_option maxRecDepth 1000000
theorem neg_run (m : Nat) (u : Bool) : yes ((callF Tryz.prog fzs keeps pt1 tab1 1000).call 4 [.int .i64 (Int.negSucc m), .bool u] .leaf 0) = true := by kernel_rfl
theorem big_run (m : Nat) (u : Bool) : yes ((callF Tryz.prog fzs keeps pt1 tab1 1000).call 4 [.int .i64 (Int.ofNat (m + 31)), .bool u] .leaf 0) = true := by kernel_rfl
theorem other {n : Int} {u : Bool} (h : yes ((callF Tryz.prog fzs keeps pt1 tab1 1000).call 4 [.int .i64 n, .bool u] .leaf 0) = true) {w : World} {vargs : Array Value} (ha : VL (Cx.start w) [.int .i64 n, .bool u] vargs.toList) : Calls Tryz.prog 4 vargs w fun e w' => e = .returned (.bool true) ∧ RowKit.Below w.heap.size w w' := yes_calls (kp := keeps) (F := 1000) (prog_base.ok pt1_ok tab1_ok) h ha
theorem depth_walk (n : Int) (u : Bool) (w : World) : Calls Tryz.prog 4 #[.int .i64 n, .bool u] w fun e w' => e = .returned (.bool true) ∧ RowKit.Below w.heap.size w w' := by
  have ha : VL (Cx.start w) [.int .i64 n, .bool u] (#[Value.int .i64 n, .bool u] : Array Value).toList := .cons (.int _ _) (.cons (.bool _) (.nil _))
  rcases n with m | m
  · rcases m with _ | _ | _ | _ | _ | _ | _ | _ | _ | _ | _ | _ | _ | _ | _ | _ | _ | _ | _ | _ | _ | _ | _ | _ | _ | _ | _ | _ | _ | _ | _ | m
    · cases u
      · exact r0f ha
      · exact r0t ha
    · cases u
      · exact r1f ha
      · exact r1t ha
    · cases u
      · exact r2f ha
      · exact r2t ha
    · cases u
      · exact r3f ha
      · exact r3t ha
    · cases u
      · exact r4f ha
      · exact r4t ha
    · cases u
      · exact r5f ha
      · exact r5t ha
    · cases u
      · exact r6f ha
      · exact r6t ha
    · cases u
      · exact r7f ha
      · exact r7t ha
    · cases u
      · exact r8f ha
      · exact r8t ha
    · cases u
      · exact r9f ha
      · exact r9t ha
    · cases u
      · exact r10f ha
      · exact r10t ha
    · cases u
      · exact r11f ha
      · exact r11t ha
    · cases u
      · exact r12f ha
      · exact r12t ha
    · cases u
      · exact r13f ha
      · exact r13t ha
    · cases u
      · exact r14f ha
      · exact r14t ha
    · cases u
      · exact r15f ha
      · exact r15t ha
    · cases u
      · exact r16f ha
      · exact r16t ha
    · cases u
      · exact r17f ha
      · exact r17t ha
    · cases u
      · exact r18f ha
      · exact r18t ha
    · cases u
      · exact r19f ha
      · exact r19t ha
    · cases u
      · exact r20f ha
      · exact r20t ha
    · cases u
      · exact r21f ha
      · exact r21t ha
    · cases u
      · exact r22f ha
      · exact r22t ha
    · cases u
      · exact r23f ha
      · exact r23t ha
    · cases u
      · exact r24f ha
      · exact r24t ha
    · cases u
      · exact r25f ha
      · exact r25t ha
    · cases u
      · exact r26f ha
      · exact r26t ha
    · cases u
      · exact r27f ha
      · exact r27t ha
    · cases u
      · exact r28f ha
      · exact r28t ha
    · cases u
      · exact r29f ha
      · exact r29t ha
    · cases u
      · exact r30f ha
      · exact r30t ha
    · exact other (big_run m u) ha
  · exact other (neg_run m u) ha
end Go.Ev
