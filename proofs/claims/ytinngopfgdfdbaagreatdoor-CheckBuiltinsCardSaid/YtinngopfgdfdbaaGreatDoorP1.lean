/- The program is of the sort that the evaluator is right for. -/
import Derived.Test.YtinngopfgdfdbaaGreatDoorH1
import Derived.Test.YtinngopfgdfdbaaGreatDoorProg
import Derived.KernelRfl
set_option linter.unusedVariables false
namespace Go.Ev
open Go.Proofs

noncomputable def okFrom (fz : Nat → Nat → Nat → Bool) : List Func → Nat → Bool
  | [], _ => true
  | fn :: fs, g => (match fn.body with
    | some c => codeOk (fz g) c
    | none => true) && !(fn.name == "runtime.NumGoroutine") && okFrom fz fs (g + 1)

theorem okFrom_at {fz : Nat → Nat → Nat → Bool} : ∀ {fs : List Func} {g i : Nat} {fn : Func}, okFrom fz fs g = true → fs[i]? = some fn → (∀ c, fn.body = some c → codeOk (fz (g + i)) c = true) ∧ (fn.name == "runtime.NumGoroutine") = false
  | [], g, i, fn, h, hi => by simp at hi
  | f :: fs, g, 0, fn, h, hi => by
    simp only [okFrom, Bool.and_eq_true] at h
    simp at hi
    subst hi
    refine ⟨fun c hc => ?_, by simpa using h.1.2⟩
    have := h.1.1
    rw [hc] at this
    exact this
  | f :: fs, g, i + 1, fn, h, hi => by
    simp only [okFrom, Bool.and_eq_true] at h
    have := okFrom_at (i := i) h.2 (by simpa using hi)
    rw [show g + (i + 1) = g + 1 + i by omega]
    exact this

theorem base_of {P : Program} {fz : Nat → Nat → Nat → Bool} (h1 : P.follows .mixedOrders = true) (h2 : okFrom fz P.funcs.toList 0 = true) : ProgBase P fz := by
  refine ⟨h1, fun g fn hg => ?_, fun g fn c hg hc => ?_⟩
  · exact (okFrom_at (i := g) h2 (by simpa using hg)).2
  · have := (okFrom_at (i := g) h2 (by simpa using hg)).1 c hc
    simpa using this

set_option maxRecDepth 1000000
theorem prog_base : ProgBase Tryz.prog fzs := base_of (by kernel_rfl) (by kernel_rfl)
end Go.Ev
