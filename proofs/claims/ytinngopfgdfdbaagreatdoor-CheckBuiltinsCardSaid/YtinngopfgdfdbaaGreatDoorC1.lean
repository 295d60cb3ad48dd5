/- Tables of known calls: what errors.Is tells of a broken rule; many calls at once. -/
import Derived.Test.YtinngopfgdfdbaaGreatDoorI1
import Derived.Test.YtinngopfgdfdbaaGreatDoorP1
set_option linter.unusedVariables false
namespace Go.Ev
open Go.Proofs
set_option maxRecDepth 1000000

/-- The rules, in the order in which they are asked for. -/
def rul (k : Nat) : List UInt8 := match k with
  | 0 => [97, 32, 110, 97, 109, 101]
  | 1 => [97, 32, 116, 121, 112, 101]
  | 2 => [97, 32, 108, 105, 109, 105, 116]
  | _ => [119, 104, 101, 114, 101, 32, 111, 110, 101, 32, 103, 111, 101, 115]

def isRow (n : Int) (k j : Nat) : Nat × List AV × AV := (36, [.iface 167 (.agg [.int .i64 n, .str (rul k)]), .iface 78 (.str (rul j))], .bool (rul k == rul j))
def isRows (n : Int) (k : Nat) : Tab := match k with
  | 0 => [(36, [.iface 167 (.agg [.int .i64 n, .str (rul 0)]), .iface 78 (.str (rul 0))], .bool true)]
  | 1 => [(36, [.iface 167 (.agg [.int .i64 n, .str (rul 1)]), .iface 78 (.str (rul 0))], .bool false), (36, [.iface 167 (.agg [.int .i64 n, .str (rul 1)]), .iface 78 (.str (rul 1))], .bool true)]
  | 2 => [(36, [.iface 167 (.agg [.int .i64 n, .str (rul 2)]), .iface 78 (.str (rul 0))], .bool false), (36, [.iface 167 (.agg [.int .i64 n, .str (rul 2)]), .iface 78 (.str (rul 1))], .bool false), (36, [.iface 167 (.agg [.int .i64 n, .str (rul 2)]), .iface 78 (.str (rul 2))], .bool true)]
  | _ => [(36, [.iface 167 (.agg [.int .i64 n, .str (rul 3)]), .iface 78 (.str (rul 0))], .bool false), (36, [.iface 167 (.agg [.int .i64 n, .str (rul 3)]), .iface 78 (.str (rul 1))], .bool false), (36, [.iface 167 (.agg [.int .i64 n, .str (rul 3)]), .iface 78 (.str (rul 2))], .bool false), (36, [.iface 167 (.agg [.int .i64 n, .str (rul 3)]), .iface 78 (.str (rul 3))], .bool true)]

theorem is_row {s t : List UInt8} {b : Bool} (n : Int) (h : (s == t) = b) : OrcFor Tryz.prog 36 [.iface 167 (.agg [.int .i64 n, .str s]), .iface 78 (.str t)] (.bool b) := by
  rw [← h]; exact is_orc n s t

theorem isRows_ok (n : Int) (k : Nat) : TabOK Tryz.prog (isRows n k) := by
  unfold isRows
  split
  · exact .cons (is_row n (by decide)) (.nil _)
  · exact .cons (is_row n (by decide)) (.cons (is_row n (by decide)) (.nil _))
  · exact .cons (is_row n (by decide)) (.cons (is_row n (by decide)) (.cons (is_row n (by decide)) (.nil _)))
  · exact .cons (is_row n (by decide)) (.cons (is_row n (by decide)) (.cons (is_row n (by decide)) (.cons (is_row n (by decide)) (.nil _))))

/-- What errors.Is tells of these broken rules. -/
def isTab : List (Int × Nat) → Tab
  | [] => []
  | (n, k) :: l => isRows n k ++ isTab l
theorem isTab_ok : ∀ l, TabOK Tryz.prog (isTab l)
  | [] => .nil _
  | (n, k) :: l => .append (isRows_ok n k) (isTab_ok l)

/-- Does each of these calls come to what is told? -/
noncomputable def eachOk (P : Program) (fz : FuncId → Nat → Nat → Bool) (kp : Nat → Nat) (pt : List (Nat × Grp)) (tab : Tab) (F : Nat) (l : Tab) : Bool :=
  List.rec true (fun x _ ih => Bool.rec false (Bool.rec false ih (x.2.1.all (noName 16))) (isOrc ((callF P fz kp pt tab F).call x.1 x.2.1 .leaf 0) x.2.2)) l

theorem each_of {P : Program} {fz : FuncId → Nat → Nat → Bool} {kp : Nat → Nat} {pt : List (Nat × Grp)} {tab : Tab} {F : Nat} (hb : ProgBase P fz) (hp : PtOK P pt) (ht : TabOK P tab) : ∀ {l : Tab}, eachOk P fz kp pt tab F l = true → TabOK P l
  | [], _ => .nil _
  | x :: l, h => by
    change (Bool.rec false (Bool.rec false (eachOk P fz kp pt tab F l) (x.2.1.all (noName 16))) (isOrc ((callF P fz kp pt tab F).call x.1 x.2.1 .leaf 0) x.2.2) : Bool) = true at h
    cases h1 : isOrc ((callF P fz kp pt tab F).call x.1 x.2.1 .leaf 0) x.2.2 with
    | false => rw [h1] at h; cases h
    | true =>
      rw [h1] at h
      simp only at h
      cases h2 : x.2.1.all (noName 16) with
      | false => rw [h2] at h; cases h
      | true =>
        rw [h2] at h
        exact TabOK.cons (orc_of (hb.ok hp ht) h2 h1) (each_of hb hp ht h)

/-- A call of 'exact'. -/
abbrev ex (s : List UInt8) (b : Bool) : Nat × List AV × AV := (15, [.str s, .bool b], .bool true)
end Go.Ev
