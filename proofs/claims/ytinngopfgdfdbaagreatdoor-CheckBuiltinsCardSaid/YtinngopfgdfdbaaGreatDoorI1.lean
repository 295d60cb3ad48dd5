/- errors.Is of what the checker's errors are. -/
import Derived.Test.YtinngopfgdfdbaaGreatDoorEv24
import Derived.Test.YtinngopfgdfdbaaGreatDoorChecked
import Derived.WalkKit
import Derived.LaidEql
import Derived.Stop.Asserts
import Derived.RowKitTokens
set_option linter.unusedVariables false
namespace Go.Ev
open Go Go.Proofs Go.RowKit Go.Extern.Stop Go.Stop Go.Extern

theorem isTypeOf (v : Value) (w : World) : (Extern.ReflectliteType.typeOf #[.iface 78 v]).run Tryz.prog w = .ok (.iface 136 (.agg #[.pointer (some ⟨7, 78, none⟩)])) w := by kernel_rfl
theorem isComparable (w : World) : ((Extern.ReflectliteType.method fun t => do Extern.Rtype.noPackHeld "Comparable" t; (fun a => Value.bool a.comparable) <$> typeInfo t) #[.agg #[.pointer (some ⟨7, 78, none⟩)]]).run Tryz.prog w = .ok (.bool true) w := by kernel_rfl
theorem isMethodComparable (v : Value) (w : World) : (Go.method 393 136 v "Comparable").run Tryz.prog w = .ok (268, v) w := by kernel_rfl
theorem noIs167 (v : Value) (xT : TypeId) (w : World) : (Instr.typeAssert (.iface 167 v) xT 158 true).run Tryz.prog w = .ok (.tuple #[.nilIface, .bool false]) w := run_typeAssert_lacksB Tryz.underlying158 (by kernel_rfl) (by kernel_rfl) v xT w
theorem noIs78 (v : Value) (xT : TypeId) (w : World) : (Instr.typeAssert (.iface 78 v) xT 158 true).run Tryz.prog w = .ok (.tuple #[.nilIface, .bool false]) w := run_typeAssert_lacksB Tryz.underlying158 (by kernel_rfl) (by kernel_rfl) v xT w
theorem noUnwrap78 (v : Value) (xT : TypeId) (w : World) : (Instr.typeAssert (.iface 78 v) xT 143 true).run Tryz.prog w = .ok (.tuple #[.nilIface, .bool false]) w := run_typeAssert_lacksB Tryz.underlying143 (by kernel_rfl) (by kernel_rfl) v xT w
theorem noUnwraps78 (v : Value) (xT : TypeId) (w : World) : (Instr.typeAssert (.iface 78 v) xT 144 true).run Tryz.prog w = .ok (.tuple #[.nilIface, .bool false]) w := run_typeAssert_lacksB Tryz.underlying144 (by kernel_rfl) (by kernel_rfl) v xT w
theorem hasUnwrap167 (v : Value) (xT : TypeId) (w : World) : (Instr.typeAssert (.iface 167 v) xT 143 true).run Tryz.prog w = .ok (.tuple #[.iface 167 v, .bool true]) w := run_typeAssert_hasB Tryz.underlying143 (by kernel_rfl) v xT w
theorem methodUnwrap (v : Value) (w : World) : (Go.method 393 167 v "Unwrap").run Tryz.prog w = .ok (278, v) w := by kernel_rfl

theorem eqRule (s t : ByteArray) (w : World) : (binOp .eql 56 (.iface 78 (.string s)) (.iface 78 (.string t))).run Tryz.prog w = .ok (.bool (s == t)) w := by
  obtain ⟨i, hi, hcmp⟩ := Option.map_eq_some_iff.1 (show (Tryz.prog.info? 78).map (·.comparable) = some true by kernel_rfl)
  have h : ∀ d : Nat, (Op.equalIn (d + 2) 56 (.iface 78 (.string s)) (.iface 78 (.string t))).run Tryz.prog w = .ok (s == t) w := fun d => by
    simp [Op.equalIn, run_underlying Tryz.underlying56, run_underlying Tryz.underlying78, typeInfo, hi, hcmp]
  simp only [binOp]
  simp [Op.equal, Op.maxDepth, h 9998]

set_option maxRecDepth 100000 in
set_option maxHeartbeats 4000000 in
/-- errors.Is of a broken rule. -/
theorem is_breach (n : Int) (s t : ByteArray) (w : World) :
    Calls Tryz.prog 36 #[.iface 167 (.agg #[.int .i64 n, .string s]), .iface 78 (.string t)] w fun e w' => e = .returned (.bool (s == t)) ∧ RowKit.Below w.heap.size w w' := by
  have h54 := @run_callFunc_extern Tryz.prog 54 _ Extern.ReflectliteType.typeOf Tryz.func54 (by kernel_rfl) (by kernel_rfl) (by kernel_rfl) (by kernel_rfl)
  have h268 := @run_callFunc_extern Tryz.prog 268 _ (Extern.ReflectliteType.method fun t => do Extern.Rtype.noPackHeld "Comparable" t; pure (.bool (← typeInfo t).comparable)) Tryz.func268 (by kernel_rfl) (by kernel_rfl) (by kernel_rfl) (by kernel_rfl)
  have tT := isTypeOf
  have cT := isComparable
  have mR := isMethodComparable
  have n1 := noIs167
  have n2 := noIs78
  have n3 := noUnwrap78
  have n4 := noUnwraps78
  have n5 := hasUnwrap167
  have mU := methodUnwrap
  have hty := fun v v' => run_eql_iface_types (P := Tryz.prog) 167 78 v v' Tryz.underlying56 (by decide) w
  have hq := eqRule s t
  by_cases hst : (s == t) = true
  · rw [hst] at hq ⊢
    go_enter Tryz.func36, Tryz.ntmps36
    go_wp2
    refine wp_loop_rounds 2 ?_
    rw [rounds_succ]
    go_wp2
    rw [rounds_succ]
    go_wp2
    go_ret
    exact ⟨rfl, (Below.refl _ w).alloc (Nat.le_refl _) _⟩
  · rw [Bool.not_eq_true] at hst
    rw [hst] at hq ⊢
    go_enter Tryz.func36, Tryz.ntmps36
    go_wp2
    refine wp_loop_rounds 2 ?_
    rw [rounds_succ]
    go_wp2
    rw [rounds_succ]
    go_wp2
    go_ret
    exact ⟨rfl, (Below.refl _ w).alloc (Nat.le_refl _) _⟩

/-- .. is known. -/
theorem is_orc (n : Int) (s t : List UInt8) : OrcFor Tryz.prog 36 [.iface 167 (.agg [.int .i64 n, .str s]), .iface 78 (.str t)] (.bool (s == t)) := by
  refine ⟨⟨_, Tryz.func36, by kernel_rfl⟩, fun X w vargs hphi ha => ?_⟩
  obtain ⟨vl⟩ := vargs
  obtain ⟨y0, y1, rfl, h0, h1⟩ : ∃ y0 y1, vl = [y0, y1] ∧ V X (.iface 167 (.agg [.int .i64 n, .str s])) y0 ∧ V X (.iface 78 (.str t)) y1 := by
    have hlen := ha.len
    simp only [List.length_cons, List.length_nil] at hlen
    match hm : vl, hlen with
    | [A, B], _ => subst hm; exact ⟨A, B, rfl, ha.head, ha.tail.head⟩
  cases h1 with
  | iface _ h1 =>
  cases h1
  cases h0 with
  | iface _ h0 =>
  cases h0 with
  | @agg _ ya hl hv _ =>
  obtain ⟨yl⟩ := ya
  obtain ⟨z0, z1, rfl⟩ : ∃ z0 z1, yl = [z0, z1] := by
    have : yl.length = 2 := by simpa using hl.symm
    match yl, this with
    | [a, b], _ => exact ⟨a, b, rfl⟩
  have e0 := hv 0 (.int .i64 n) z0 rfl rfl
  have e1 := hv 1 (.str s) z1 rfl rfl
  cases e0; cases e1
  refine Calls.mono (is_breach n ⟨⟨s⟩⟩ ⟨⟨t⟩⟩ w) ?_
  rintro e w' ⟨rfl, hb⟩
  have hq : ((⟨⟨s⟩⟩ : ByteArray) == ⟨⟨t⟩⟩) = (s == t) := by rw [beq_toListBytes, ByteArray.toList_eq, ByteArray.toList_eq]
  rw [hq]
  have hlt : ∀ b o, X.phi b = some o → b < w.heap.size := fun b o h => (Array.getElem?_eq_some_iff.1 (hphi b o h)).1
  exact ⟨_, X.phi, rfl, hb, fun _ _ h => h, fun _ _ => rfl, fun b o h => by rw [hb.block b (hlt b o h)]; exact hphi b o h, .bool _⟩
end Go.Ev
