/- Calls with plain arguments, and what they come to; the example of the document. -/
import Derived.Test.YtghpalokaedpkaaGreatP1
set_option linter.unusedVariables false
namespace Go.Ev
open Go.Proofs
set_option maxRecDepth 1000000

def w0 : AV := .str [32, 102, 111, 114, 32, 115, 119, 105, 116, 99, 104, 32, 115, 101, 108, 101, 99, 116, 32]
def w1 : AV := .str [32, 118, 97, 114, 32, 98, 114, 101, 97, 107, 32, 99, 111, 110, 116, 105, 110, 117, 101, 32, 102, 97, 108, 108, 116, 104, 114, 111, 117, 103, 104, 32, 114, 101, 116, 117, 114, 110, 32, 103, 111, 32, 100, 101, 102, 101, 114, 32]
def w2 : AV := .str [32, 97, 112, 112, 101, 110, 100, 32, 98, 111, 111, 108, 32, 98, 114, 101, 97, 107, 32, 99, 97, 112, 32, 99, 97, 115, 101, 32, 99, 104, 97, 110, 32, 99, 108, 111, 115, 101, 32, 99, 111, 110, 116, 105, 110, 117, 101, 32, 100, 101, 102, 97, 117, 108, 116, 32, 100, 101, 102, 101, 114, 32, 101, 108, 115, 101, 32, 102, 97, 108, 108, 116, 104, 114, 111, 117, 103, 104, 32, 102, 97, 108, 115, 101, 32, 102, 111, 114, 32, 102, 117, 110, 99, 32, 103, 111, 32, 105, 102, 32, 105, 110, 116, 32, 108, 101, 110, 32, 109, 97, 107, 101, 32, 110, 101, 119, 32, 110, 105, 108, 32, 112, 97, 110, 105, 99, 32, 112, 114, 105, 110, 116, 32, 114, 101, 99, 111, 118, 101, 114, 32, 114, 101, 116, 117, 114, 110, 32, 115, 101, 108, 101, 99, 116, 32, 115, 116, 114, 105, 110, 103, 32, 115, 116, 114, 117, 99, 116, 32, 115, 119, 105, 116, 99, 104, 32, 116, 114, 117, 101, 32, 116, 121, 112, 101, 32, 118, 97, 114, 32]
def w3 : AV := .str [32, 58, 61, 32, 61, 61, 32, 33, 61, 32, 60, 61, 32, 62, 61, 32, 38, 38, 32, 124, 124, 32, 60, 45, 32, 43, 43, 32, 45, 45, 32, 43, 61, 32, 45, 61, 32, 42, 61, 32]
def w4 : AV := .str [32, 40, 32, 41, 32, 91, 32, 93, 32, 123, 32, 125, 32, 44, 32, 59, 32, 58, 32, 46, 32, 61, 32, 60, 32, 62, 32, 43, 32, 45, 32, 42, 32, 47, 32, 37, 32, 33, 32, 38, 32]
def w5 : AV := .str [32, 98, 114, 101, 97, 107, 32, 99, 111, 110, 116, 105, 110, 117, 101, 32, 102, 97, 108, 108, 116, 104, 114, 111, 117, 103, 104, 32, 114, 101, 116, 117, 114, 110, 32, 116, 114, 117, 101, 32, 102, 97, 108, 115, 101, 32, 110, 105, 108, 32, 105, 110, 116, 32, 98, 111, 111, 108, 32, 115, 116, 114, 105, 110, 103, 32, 43, 43, 32, 45, 45, 32, 41, 32, 93, 32, 125, 32]

/- Names for what comes often. -/
abbrev zn (n : Nat) : AV := .int .i64 n
abbrev z0 : AV := .int .i64 0
abbrev ze : AV := .str []
abbrev zf : AV := .str [102, 117, 110, 99, 40, 41]
abbrev zi : AV := .str [105, 110, 116]
theorem known1 {g : Nat} {args : List AV} {v : AV} (hf : args.all (noName 16) = true) (h : isOrc ((callF Tryz.prog fzs keeps [] [] 1000).call g args .leaf 0) v = true) : OrcFor Tryz.prog g args v := orc_of (prog_base.ok (PtOK.nil _) (TabOK.nil _)) hf h
theorem pt_cons {P : Program} {z : Nat × Grp} {pt : List (Nat × Grp)} (h1 : ∀ y ∈ z.2, ∀ x ∈ y.2, OrcFor P z.1 (y.1 :: x.1) x.2) (h2 : PtOK P pt) : PtOK P (z :: pt) := fun w hw => by
  rcases List.mem_cons.1 hw with rfl | hw
  · exact h1
  · exact h2 w hw
theorem grp_cons {P : Program} {g : Nat} {y : AV × List (List AV × AV)} {l : Grp} (h1 : ∀ x ∈ y.2, OrcFor P g (y.1 :: x.1) x.2) (h2 : ∀ y ∈ l, ∀ x ∈ y.2, OrcFor P g (y.1 :: x.1) x.2) : ∀ w ∈ (y :: l), ∀ x ∈ w.2, OrcFor P g (w.1 :: x.1) x.2 := fun w hw => by
  rcases List.mem_cons.1 hw with rfl | hw
  · exact h1
  · exact h2 w hw
theorem row_cons {P : Program} {g : Nat} {a : AV} {x : List AV × AV} {l : List (List AV × AV)} (h1 : OrcFor P g (a :: x.1) x.2) (h2 : ∀ x ∈ l, OrcFor P g (a :: x.1) x.2) : ∀ w ∈ (x :: l), OrcFor P g (a :: w.1) w.2 := fun w hw => by
  rcases List.mem_cons.1 hw with rfl | hw
  · exact h1
  · exact h2 w hw

theorem q0 : OrcFor Tryz.prog 58 [.str [102, 117, 110, 99], w0] (.bool false) := known1 rfl (by kernel_rfl)
theorem q1 : OrcFor Tryz.prog 58 [.str [102, 117, 110, 99], w1] (.bool false) := known1 rfl (by kernel_rfl)
theorem q2 : OrcFor Tryz.prog 58 [.str [102, 117, 110, 99], .str [32, 125, 32, 99, 97, 115, 101, 32, 100, 101, 102, 97, 117, 108, 116, 32]] (.bool false) := known1 rfl (by kernel_rfl)
theorem q3 : OrcFor Tryz.prog 58 [.str [102, 117, 110, 99], .str [32, 45, 32, 33, 32, 60, 45, 32]] (.bool false) := known1 rfl (by kernel_rfl)
theorem q4 : OrcFor Tryz.prog 58 [.str [102, 117, 110, 99], w2] (.bool true) := known1 rfl (by kernel_rfl)
theorem q5 : OrcFor Tryz.prog 58 [.str [102], w2] (.bool false) := known1 rfl (by kernel_rfl)
theorem q6 : OrcFor Tryz.prog 58 [.str [109, 97, 105, 110], w2] (.bool false) := known1 rfl (by kernel_rfl)
theorem q7 : OrcFor Tryz.prog 58 [.str [120], w2] (.bool false) := known1 rfl (by kernel_rfl)
theorem q8 : OrcFor Tryz.prog 58 [.str [121], w2] (.bool false) := known1 rfl (by kernel_rfl)
theorem q9 : OrcFor Tryz.prog 58 [.str [123, 10], w3] (.bool false) := known1 rfl (by kernel_rfl)
theorem q10 : OrcFor Tryz.prog 58 [.str [123, 32], w3] (.bool false) := known1 rfl (by kernel_rfl)
theorem q11 : OrcFor Tryz.prog 58 [.str [123], w4] (.bool true) := known1 rfl (by kernel_rfl)
theorem q12 : OrcFor Tryz.prog 58 [.str [123], .str [32, 40, 32, 91, 32, 123, 32]] (.bool true) := known1 rfl (by kernel_rfl)
theorem q13 : OrcFor Tryz.prog 58 [.str [123], .str [32, 41, 32, 93, 32, 125, 32]] (.bool false) := known1 rfl (by kernel_rfl)
theorem q14 : OrcFor Tryz.prog 58 [.str [123], w5] (.bool false) := known1 rfl (by kernel_rfl)
theorem q15 : OrcFor Tryz.prog 58 [.str [125, 10], w3] (.bool false) := known1 rfl (by kernel_rfl)
theorem q16 : OrcFor Tryz.prog 58 [.str [125, 40], w3] (.bool false) := known1 rfl (by kernel_rfl)
theorem q17 : OrcFor Tryz.prog 58 [.str [125, 59], w3] (.bool false) := known1 rfl (by kernel_rfl)
theorem q18 : OrcFor Tryz.prog 58 [.str [125], .str [32, 125, 32, 99, 97, 115, 101, 32, 100, 101, 102, 97, 117, 108, 116, 32]] (.bool true) := known1 rfl (by kernel_rfl)
theorem q19 : OrcFor Tryz.prog 58 [.str [125], w4] (.bool true) := known1 rfl (by kernel_rfl)
theorem q20 : OrcFor Tryz.prog 58 [.str [125], .str [32, 40, 32, 91, 32, 123, 32]] (.bool false) := known1 rfl (by kernel_rfl)
theorem q21 : OrcFor Tryz.prog 58 [.str [125], .str [32, 40, 32, 91, 32, 46, 32]] (.bool false) := known1 rfl (by kernel_rfl)
theorem q22 : OrcFor Tryz.prog 58 [.str [125], .str [32, 41, 32, 93, 32, 125, 32]] (.bool true) := known1 rfl (by kernel_rfl)
theorem q23 : OrcFor Tryz.prog 58 [.str [125], w5] (.bool true) := known1 rfl (by kernel_rfl)
theorem q24 : OrcFor Tryz.prog 58 [.str [40, 41], w3] (.bool false) := known1 rfl (by kernel_rfl)
theorem q25 : OrcFor Tryz.prog 58 [.str [40], w4] (.bool true) := known1 rfl (by kernel_rfl)
theorem q26 : OrcFor Tryz.prog 58 [.str [40], .str [32, 40, 32, 91, 32, 123, 32]] (.bool true) := known1 rfl (by kernel_rfl)
theorem q27 : OrcFor Tryz.prog 58 [.str [40], .str [32, 40, 32, 91, 32, 46, 32]] (.bool true) := known1 rfl (by kernel_rfl)
theorem q28 : OrcFor Tryz.prog 58 [.str [40], .str [32, 41, 32, 93, 32, 125, 32]] (.bool false) := known1 rfl (by kernel_rfl)
theorem q29 : OrcFor Tryz.prog 58 [.str [41, 10], w3] (.bool false) := known1 rfl (by kernel_rfl)
theorem q30 : OrcFor Tryz.prog 58 [.str [41, 32], w3] (.bool false) := known1 rfl (by kernel_rfl)
theorem q31 : OrcFor Tryz.prog 58 [.str [41], w4] (.bool true) := known1 rfl (by kernel_rfl)
theorem q32 : OrcFor Tryz.prog 58 [.str [41], .str [32, 40, 32, 91, 32, 123, 32]] (.bool false) := known1 rfl (by kernel_rfl)
theorem q33 : OrcFor Tryz.prog 58 [.str [41], .str [32, 41, 32, 93, 32, 125, 32]] (.bool true) := known1 rfl (by kernel_rfl)
theorem q34 : OrcFor Tryz.prog 58 [.str [41], w5] (.bool true) := known1 rfl (by kernel_rfl)
theorem q35 : OrcFor Tryz.prog 58 [.str [43, 43], .str [32, 40, 32, 91, 32, 123, 32]] (.bool false) := known1 rfl (by kernel_rfl)
theorem q36 : OrcFor Tryz.prog 58 [.str [43, 43], .str [32, 40, 32, 91, 32, 46, 32]] (.bool false) := known1 rfl (by kernel_rfl)
theorem q37 : OrcFor Tryz.prog 58 [.str [43, 43], .str [32, 41, 32, 93, 32, 125, 32]] (.bool false) := known1 rfl (by kernel_rfl)
theorem q38 : OrcFor Tryz.prog 58 [.str [43, 43], .str [32, 43, 43, 32, 45, 45, 32]] (.bool true) := known1 rfl (by kernel_rfl)
theorem q39 : OrcFor Tryz.prog 58 [.str [43, 43], w3] (.bool true) := known1 rfl (by kernel_rfl)
theorem q40 : OrcFor Tryz.prog 58 [.str [43, 43], .str [32, 61, 32, 43, 61, 32, 45, 61, 32, 42, 61, 32]] (.bool false) := known1 rfl (by kernel_rfl)
theorem q41 : OrcFor Tryz.prog 58 [.str [43, 43], w5] (.bool true) := known1 rfl (by kernel_rfl)
theorem q42 : OrcFor Tryz.prog 58 [.str [58, 61], .str [32, 40, 32, 91, 32, 123, 32]] (.bool false) := known1 rfl (by kernel_rfl)
theorem q43 : OrcFor Tryz.prog 58 [.str [58, 61], .str [32, 40, 32, 91, 32, 46, 32]] (.bool false) := known1 rfl (by kernel_rfl)
theorem q44 : OrcFor Tryz.prog 58 [.str [58, 61], .str [32, 41, 32, 93, 32, 125, 32]] (.bool false) := known1 rfl (by kernel_rfl)
theorem q45 : OrcFor Tryz.prog 58 [.str [58, 61], w3] (.bool true) := known1 rfl (by kernel_rfl)
theorem q46 : OrcFor Tryz.prog 58 [.str [59, 32], w3] (.bool false) := known1 rfl (by kernel_rfl)
theorem q47 : OrcFor Tryz.prog 58 [.str [59], .str [32, 125, 32, 99, 97, 115, 101, 32, 100, 101, 102, 97, 117, 108, 116, 32]] (.bool false) := known1 rfl (by kernel_rfl)
theorem q48 : OrcFor Tryz.prog 58 [.str [59], w4] (.bool true) := known1 rfl (by kernel_rfl)
theorem q49 : OrcFor Tryz.prog 58 [.str [59], .str [32, 40, 32, 91, 32, 123, 32]] (.bool false) := known1 rfl (by kernel_rfl)
theorem q50 : OrcFor Tryz.prog 58 [.str [59], .str [32, 40, 32, 91, 32, 46, 32]] (.bool false) := known1 rfl (by kernel_rfl)
theorem q51 : OrcFor Tryz.prog 58 [.str [59], .str [32, 41, 32, 93, 32, 125, 32]] (.bool false) := known1 rfl (by kernel_rfl)
theorem q52 : OrcFor Tryz.prog 58 [.str [59], w5] (.bool false) := known1 rfl (by kernel_rfl)
theorem q53 : OrcFor Tryz.prog 58 [.str [61, 32], w3] (.bool false) := known1 rfl (by kernel_rfl)
theorem q54 : OrcFor Tryz.prog 58 [.str [61], w4] (.bool true) := known1 rfl (by kernel_rfl)
theorem q55 : OrcFor Tryz.prog 58 [.str [61], .str [32, 40, 32, 91, 32, 123, 32]] (.bool false) := known1 rfl (by kernel_rfl)
theorem q56 : OrcFor Tryz.prog 58 [.str [61], .str [32, 40, 32, 91, 32, 46, 32]] (.bool false) := known1 rfl (by kernel_rfl)
theorem q57 : OrcFor Tryz.prog 58 [.str [61], .str [32, 41, 32, 93, 32, 125, 32]] (.bool false) := known1 rfl (by kernel_rfl)
theorem q58 : OrcFor Tryz.prog 58 [.str [61], .str [32, 61, 32, 43, 61, 32, 45, 61, 32, 42, 61, 32]] (.bool true) := known1 rfl (by kernel_rfl)
theorem q59 : OrcFor Tryz.prog 74 [.int .u64 0] (.int .i64 0) := known1 rfl (by kernel_rfl)
theorem q60 : OrcFor Tryz.prog 74 [.int .u64 1] (.int .i64 1) := known1 rfl (by kernel_rfl)
theorem q61 : OrcFor Tryz.prog 78 [.str [102, 117, 110, 99, 40, 41], .str [102, 117, 110, 99, 40]] (.bool true) := known1 rfl (by kernel_rfl)
theorem q62 : OrcFor Tryz.prog 78 [.str [102, 117, 110, 99, 40, 41], .str [105, 110, 116]] (.bool false) := known1 rfl (by kernel_rfl)
theorem q63 : OrcFor Tryz.prog 78 [.str [102, 117, 110, 99, 40, 41], .str [115, 116, 114, 105, 110, 103]] (.bool false) := known1 rfl (by kernel_rfl)
theorem q64 : OrcFor Tryz.prog 78 [.str [102, 117, 110, 99, 40, 41], .str [42]] (.bool false) := known1 rfl (by kernel_rfl)
theorem q65 : OrcFor Tryz.prog 78 [.str [102, 117, 110, 99, 40, 41], .str [91, 93]] (.bool false) := known1 rfl (by kernel_rfl)
theorem q66 : OrcFor Tryz.prog 78 [.str [102, 117, 110, 99, 40, 41], .str [98, 111, 111, 108]] (.bool false) := known1 rfl (by kernel_rfl)
theorem q67 : OrcFor Tryz.prog 78 [.str [102, 117, 110, 99, 40, 41], .str [99, 104, 97, 110, 32]] (.bool false) := known1 rfl (by kernel_rfl)
theorem q68 : OrcFor Tryz.prog 78 [.str [105, 110, 116], .str [102, 117, 110, 99, 40]] (.bool false) := known1 rfl (by kernel_rfl)
theorem q69 : OrcFor Tryz.prog 78 [.str [105, 110, 116], .str [105, 110, 116]] (.bool true) := known1 rfl (by kernel_rfl)
theorem q70 : OrcFor Tryz.prog 78 [.str [105, 110, 116], .str [42]] (.bool false) := known1 rfl (by kernel_rfl)
theorem q71 : OrcFor Tryz.prog 78 [.str [105, 110, 116], .str [91, 93]] (.bool false) := known1 rfl (by kernel_rfl)
theorem q72 : OrcFor Tryz.prog 78 [.str [105, 110, 116], .str [99, 104, 97, 110, 32]] (.bool false) := known1 rfl (by kernel_rfl)
theorem q73 : OrcFor Tryz.prog 78 [.str [41], .str [41]] (.bool true) := known1 rfl (by kernel_rfl)
theorem q74 : OrcFor Tryz.prog 78 [.str [42, 98, 111, 120], .str [105, 110, 116]] (.bool false) := known1 rfl (by kernel_rfl)
theorem q75 : OrcFor Tryz.prog 78 [.str [42, 98, 111, 120], .str [115, 116, 114, 105, 110, 103]] (.bool false) := known1 rfl (by kernel_rfl)
theorem q76 : OrcFor Tryz.prog 78 [.str [42, 98, 111, 120], .str [42]] (.bool true) := known1 rfl (by kernel_rfl)
theorem q77 : OrcFor Tryz.prog 78 [.str [42, 98, 111, 120], .str [98, 111, 111, 108]] (.bool false) := known1 rfl (by kernel_rfl)
theorem q78 : OrcFor Tryz.prog 78 [.str [], .str [102, 117, 110, 99, 40]] (.bool false) := known1 rfl (by kernel_rfl)
theorem q79 : OrcFor Tryz.prog 78 [.str [], .str [105, 110, 116]] (.bool false) := known1 rfl (by kernel_rfl)
theorem q80 : OrcFor Tryz.prog 78 [.str [], .str [115, 116, 114, 105, 110, 103]] (.bool false) := known1 rfl (by kernel_rfl)
theorem q81 : OrcFor Tryz.prog 78 [.str [], .str [42]] (.bool false) := known1 rfl (by kernel_rfl)
theorem q82 : OrcFor Tryz.prog 78 [.str [], .str [91, 93]] (.bool false) := known1 rfl (by kernel_rfl)
theorem q83 : OrcFor Tryz.prog 78 [.str [], .str [98, 111, 111, 108]] (.bool false) := known1 rfl (by kernel_rfl)
theorem q84 : OrcFor Tryz.prog 78 [.str [], .str [99, 104, 97, 110, 32]] (.bool false) := known1 rfl (by kernel_rfl)
noncomputable def pt1 : List (Nat × Grp) := [(58, [(.str [102, 117, 110, 99], [([w0], .bool false), ([w1], .bool false), ([.str [32, 125, 32, 99, 97, 115, 101, 32, 100, 101, 102, 97, 117, 108, 116, 32]], .bool false), ([.str [32, 45, 32, 33, 32, 60, 45, 32]], .bool false), ([w2], .bool true)]),
    (.str [102], [([w2], .bool false)]),
    (.str [109, 97, 105, 110], [([w2], .bool false)]),
    (.str [120], [([w2], .bool false)]),
    (.str [121], [([w2], .bool false)]),
    (.str [123, 10], [([w3], .bool false)]),
    (.str [123, 32], [([w3], .bool false)]),
    (.str [123], [([w4], .bool true), ([.str [32, 40, 32, 91, 32, 123, 32]], .bool true), ([.str [32, 41, 32, 93, 32, 125, 32]], .bool false), ([w5], .bool false)]),
    (.str [125, 10], [([w3], .bool false)]),
    (.str [125, 40], [([w3], .bool false)]),
    (.str [125, 59], [([w3], .bool false)]),
    (.str [125], [([.str [32, 125, 32, 99, 97, 115, 101, 32, 100, 101, 102, 97, 117, 108, 116, 32]], .bool true), ([w4], .bool true), ([.str [32, 40, 32, 91, 32, 123, 32]], .bool false), ([.str [32, 40, 32, 91, 32, 46, 32]], .bool false), ([.str [32, 41, 32, 93, 32, 125, 32]], .bool true), ([w5], .bool true)]),
    (.str [40, 41], [([w3], .bool false)]),
    (.str [40], [([w4], .bool true), ([.str [32, 40, 32, 91, 32, 123, 32]], .bool true), ([.str [32, 40, 32, 91, 32, 46, 32]], .bool true), ([.str [32, 41, 32, 93, 32, 125, 32]], .bool false)]),
    (.str [41, 10], [([w3], .bool false)]),
    (.str [41, 32], [([w3], .bool false)]),
    (.str [41], [([w4], .bool true), ([.str [32, 40, 32, 91, 32, 123, 32]], .bool false), ([.str [32, 41, 32, 93, 32, 125, 32]], .bool true), ([w5], .bool true)]),
    (.str [43, 43], [([.str [32, 40, 32, 91, 32, 123, 32]], .bool false), ([.str [32, 40, 32, 91, 32, 46, 32]], .bool false), ([.str [32, 41, 32, 93, 32, 125, 32]], .bool false), ([.str [32, 43, 43, 32, 45, 45, 32]], .bool true), ([w3], .bool true), ([.str [32, 61, 32, 43, 61, 32, 45, 61, 32, 42, 61, 32]], .bool false), ([w5], .bool true)]),
    (.str [58, 61], [([.str [32, 40, 32, 91, 32, 123, 32]], .bool false), ([.str [32, 40, 32, 91, 32, 46, 32]], .bool false), ([.str [32, 41, 32, 93, 32, 125, 32]], .bool false), ([w3], .bool true)]),
    (.str [59, 32], [([w3], .bool false)]),
    (.str [59], [([.str [32, 125, 32, 99, 97, 115, 101, 32, 100, 101, 102, 97, 117, 108, 116, 32]], .bool false), ([w4], .bool true), ([.str [32, 40, 32, 91, 32, 123, 32]], .bool false), ([.str [32, 40, 32, 91, 32, 46, 32]], .bool false), ([.str [32, 41, 32, 93, 32, 125, 32]], .bool false), ([w5], .bool false)]),
    (.str [61, 32], [([w3], .bool false)]),
    (.str [61], [([w4], .bool true), ([.str [32, 40, 32, 91, 32, 123, 32]], .bool false), ([.str [32, 40, 32, 91, 32, 46, 32]], .bool false), ([.str [32, 41, 32, 93, 32, 125, 32]], .bool false), ([.str [32, 61, 32, 43, 61, 32, 45, 61, 32, 42, 61, 32]], .bool true)])]),
  (74, [(.int .u64 0, [([], .int .i64 0)]),
    (.int .u64 1, [([], .int .i64 1)])]),
  (78, [(.str [102, 117, 110, 99, 40, 41], [([.str [102, 117, 110, 99, 40]], .bool true), ([.str [105, 110, 116]], .bool false), ([.str [115, 116, 114, 105, 110, 103]], .bool false), ([.str [42]], .bool false), ([.str [91, 93]], .bool false), ([.str [98, 111, 111, 108]], .bool false), ([.str [99, 104, 97, 110, 32]], .bool false)]),
    (.str [105, 110, 116], [([.str [102, 117, 110, 99, 40]], .bool false), ([.str [105, 110, 116]], .bool true), ([.str [42]], .bool false), ([.str [91, 93]], .bool false), ([.str [99, 104, 97, 110, 32]], .bool false)]),
    (.str [41], [([.str [41]], .bool true)]),
    (.str [42, 98, 111, 120], [([.str [105, 110, 116]], .bool false), ([.str [115, 116, 114, 105, 110, 103]], .bool false), ([.str [42]], .bool true), ([.str [98, 111, 111, 108]], .bool false)]),
    (.str [], [([.str [102, 117, 110, 99, 40]], .bool false), ([.str [105, 110, 116]], .bool false), ([.str [115, 116, 114, 105, 110, 103]], .bool false), ([.str [42]], .bool false), ([.str [91, 93]], .bool false), ([.str [98, 111, 111, 108]], .bool false), ([.str [99, 104, 97, 110, 32]], .bool false)])])]
theorem pt1_ok : PtOK Tryz.prog pt1 := (pt_cons (grp_cons (row_cons q0 (row_cons q1 (row_cons q2 (row_cons q3 (row_cons q4 (fun _ h => nomatch h))))))
  (grp_cons (row_cons q5 (fun _ h => nomatch h))
  (grp_cons (row_cons q6 (fun _ h => nomatch h))
  (grp_cons (row_cons q7 (fun _ h => nomatch h))
  (grp_cons (row_cons q8 (fun _ h => nomatch h))
  (grp_cons (row_cons q9 (fun _ h => nomatch h))
  (grp_cons (row_cons q10 (fun _ h => nomatch h))
  (grp_cons (row_cons q11 (row_cons q12 (row_cons q13 (row_cons q14 (fun _ h => nomatch h)))))
  (grp_cons (row_cons q15 (fun _ h => nomatch h))
  (grp_cons (row_cons q16 (fun _ h => nomatch h))
  (grp_cons (row_cons q17 (fun _ h => nomatch h))
  (grp_cons (row_cons q18 (row_cons q19 (row_cons q20 (row_cons q21 (row_cons q22 (row_cons q23 (fun _ h => nomatch h)))))))
  (grp_cons (row_cons q24 (fun _ h => nomatch h))
  (grp_cons (row_cons q25 (row_cons q26 (row_cons q27 (row_cons q28 (fun _ h => nomatch h)))))
  (grp_cons (row_cons q29 (fun _ h => nomatch h))
  (grp_cons (row_cons q30 (fun _ h => nomatch h))
  (grp_cons (row_cons q31 (row_cons q32 (row_cons q33 (row_cons q34 (fun _ h => nomatch h)))))
  (grp_cons (row_cons q35 (row_cons q36 (row_cons q37 (row_cons q38 (row_cons q39 (row_cons q40 (row_cons q41 (fun _ h => nomatch h))))))))
  (grp_cons (row_cons q42 (row_cons q43 (row_cons q44 (row_cons q45 (fun _ h => nomatch h)))))
  (grp_cons (row_cons q46 (fun _ h => nomatch h))
  (grp_cons (row_cons q47 (row_cons q48 (row_cons q49 (row_cons q50 (row_cons q51 (row_cons q52 (fun _ h => nomatch h)))))))
  (grp_cons (row_cons q53 (fun _ h => nomatch h))
  (grp_cons (row_cons q54 (row_cons q55 (row_cons q56 (row_cons q57 (row_cons q58 (fun _ h => nomatch h))))))
  (fun _ h => nomatch h))))))))))))))))))))))))
 (pt_cons (grp_cons (row_cons q59 (fun _ h => nomatch h))
  (grp_cons (row_cons q60 (fun _ h => nomatch h))
  (fun _ h => nomatch h)))
 (pt_cons (grp_cons (row_cons q61 (row_cons q62 (row_cons q63 (row_cons q64 (row_cons q65 (row_cons q66 (row_cons q67 (fun _ h => nomatch h))))))))
  (grp_cons (row_cons q68 (row_cons q69 (row_cons q70 (row_cons q71 (row_cons q72 (fun _ h => nomatch h))))))
  (grp_cons (row_cons q73 (fun _ h => nomatch h))
  (grp_cons (row_cons q74 (row_cons q75 (row_cons q76 (row_cons q77 (fun _ h => nomatch h)))))
  (grp_cons (row_cons q78 (row_cons q79 (row_cons q80 (row_cons q81 (row_cons q82 (row_cons q83 (row_cons q84 (fun _ h => nomatch h))))))))
  (fun _ h => nomatch h))))))
 (PtOK.nil _))))

theorem anchor_run : isOrc ((callF Tryz.prog fzs keeps pt1 [] 1000).call 8 [] .leaf 0) (.bool true) = true := by kernel_rfl
theorem anchor_known : OrcFor Tryz.prog 8 [] (.bool true) := orc_of (tab := []) (pt := pt1) (kp := keeps) (F := 1000) (g := 8) (args := []) (v := .bool true) (prog_base.ok pt1_ok (TabOK.nil _)) rfl anchor_run
noncomputable def tab1 : Tab := [(8, [], .bool true)]
theorem tab1_ok : TabOK Tryz.prog tab1 := TabOK.cons anchor_known (TabOK.nil _)
theorem known2 {tab : Tab} (ht : TabOK Tryz.prog tab) {g : Nat} {args : List AV} {v : AV} (hf : args.all (noName 16) = true) (h : isOrc ((callF Tryz.prog fzs keeps pt1 tab 1000).call g args .leaf 0) v = true) : OrcFor Tryz.prog g args v := orc_of (prog_base.ok pt1_ok ht) hf h

end Go.Ev
