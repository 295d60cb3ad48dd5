/- The evaluator of calls, and that what it tells, the model does. -/
import Derived.Test.YtinngopfgdfdbaaGreatDoorEv16D
set_option linter.unusedVariables false
set_option linter.unusedSimpArgs false
namespace Go.Ev

noncomputable def evCall (P : Program) (Hn : Hints) : Nat → CallF
  | 0 => fun _ _ _ => none
  | F + 1 => fun f args s => if f = P.funcs.size then (match args with
    | .pan (.yld id) :: vs => evRound P Hn (evCall P Hn F) F id vs s
    | _ => none)
   else match Hn.orc f args with
    | some v => some (v, s)
    | none => match P.funcs[f]? with
      | some fn => match fn.body with
        | some c => match defers c with
          | true => evDefer P Hn f (evCall P Hn F) F fn c args s
          | false => match evCode P Hn f [] (evCall P Hn F) F c (args ++ List.replicate (fn.ntmps - args.length) (.tup [])) s with
            | some (.exit _, _, _) => none
            | some (.panic v, _, s') => some (.pan v, s')
            | some (_, ts, s') => match evResults P fn s' ts with
              | some v => evReturn Hn f args s.n v s'
              | none => none
            | none => none
        | none => none
      | none => none

/-- What is known of a call beforehand: it comes to a value that names nothing, and turns nothing that is there. -/
def OrcFor (P : Program) (g : FuncId) (args : List AV) (v : AV) : Prop :=
  (∃ fn, P.funcs[g]? = some fn ∧ fn.body.isNone = false) ∧ ∀ (X : Cx) (w : World) (vargs : Array Value), (∀ b o, X.phi b = some o → w.heap[b]? = some o) → VL X args vargs.toList →
    Calls P g vargs w fun e w' => ∃ y phi, e = .returned y ∧ RowKit.Below w.heap.size w w' ∧ (∀ b o, X.phi b = some o → phi b = some o) ∧ (∀ b, b < w.heap.size → phi b = X.phi b) ∧ (∀ b o, phi b = some o → w'.heap[b]? = some o) ∧ V ⟨fun _ => none, phi⟩ v y

structure ProgOK (P : Program) (Hn : Hints) : Prop where
  orcs : ∀ g args v, Hn.orc g args = some v → OrcFor P g args v
  mixed : P.follows .mixedOrders = true
  name : ∀ (g : Nat) (fn : Func), P.funcs[g]? = some fn → (fn.name == "runtime.NumGoroutine") = false
  codes : ∀ (g : Nat) (fn : Func) (c : Code), P.funcs[g]? = some fn → fn.body = some c → codeOk (Hn.fz g) c = true

section
variable {P : Program} {w0 : W0}

/-- Behind a call that is known. -/
theorem R.orc {X : Cx} {s : HS} {w w' : World} (hR : R X s w0 w) (hb : RowKit.Below w.heap.size w w') {phi : Nat → Option Obj} (h1 : ∀ b o, X.phi b = some o → phi b = some o) (h2 : ∀ b, b < w.heap.size → phi b = X.phi b) (h3 : ∀ b o, phi b = some o → w'.heap[b]? = some o) : R ⟨X.mu, phi⟩ s w0 w' := by
  have hle : X.Le ⟨X.mu, phi⟩ := ⟨fun _ _ h => h, h1⟩
  refine ⟨hb.os.trans hR.os, hb.tape.trans hR.tape, hb.output.trans hR.output, Nat.le_trans hR.size hb.size, ?_, h3, ?_, hR.inj, hR.fresh, fun r g hg => ?_⟩
  rotate_right
  · obtain ⟨g1, g2, g3⟩ := hR.gh r g hg
    refine ⟨g1, g2, g3.turn hg (fun _ _ _ => rfl) fun b sz u k2 k3 k4 => ?_⟩
    have hlt2 : b < w.heap.size := (Array.getElem?_eq_some_iff.1 k3).1
    exact ⟨by show phi b = none; rw [h2 b hlt2, k2], by rw [hb.block b hlt2, k3], k4⟩
  · intro b hlt
    obtain ⟨o1, o2, o3⟩ := hR.old b hlt
    have hlt2 : b < w.heap.size := Nat.lt_of_lt_of_le hlt hR.size
    exact ⟨by show phi b = _; rw [h2 b hlt2, o1], by rw [hb.block b hlt2, o2], o3⟩
  · intro id k hk
    obtain ⟨b, base, size, o, m1, m2, m3, m4⟩ := hR.live id k hk
    have hlt2 : b < w.heap.size := (Array.getElem?_eq_some_iff.1 m3).1
    exact ⟨b, base, size, o, m1, by show phi b = none; rw [h2 b hlt2, m2], by rw [hb.block b hlt2, m3], m4.mono hle⟩

theorem evCall_ok {Hn : Hints} (hP : ProgOK P Hn) (F : Nat) : CallOK P w0 (evCall P Hn F) := by
  induction F generalizing w0 with
  | zero => exact ⟨fun g args s r h => by simp [evCall] at h, fun g args s r s' h => by simp [evCall] at h, fun id vs s r s' h => by simp [evCall] at h⟩
  | succ F ih =>
    refine ⟨?_, ?_, ?_⟩
    rotate_right
    · intro id vs s r s' h X w b base size vargs hR hm ha
      simp only [evCall, if_true] at h
      exact evRound_sound (fun w1 => ih (w0 := w1)) hP.mixed hP.name h hR hm ha
    · intro g args s r h hnp
      simp only [evCall] at h
      split at h
      · split at h <;> try cases h
        rename_i id vs
        have := hnp _ (.head _)
        cases this
      split at h
      · rename_i v ho
        exact (hP.orcs g args v ho).1
      split at h <;> try cases h
      rename_i fn hfn
      split at h <;> try cases h
      rename_i c hc
      exact ⟨fn, hfn, by rw [hc]; rfl⟩
    · intro g args s r s' h X w vargs hR ha
      simp only [evCall] at h
      split at h
      · split at h <;> try cases h
        rename_i id vs
        have := ha.noPan _ (.head _)
        cases this
      split at h
      · rename_i v ho
        simp only [Option.some.injEq, Prod.mk.injEq] at h
        obtain ⟨rfl, rfl⟩ := h
        refine Calls.mono ((hP.orcs g args v ho).2 X w vargs hR.phi ha) ?_
        rintro e w' ⟨y, phi, rfl, hb, h1, h2, h3, hv⟩
        exact ⟨⟨X.mu, phi⟩, ⟨fun _ _ h => h, h1⟩, EndsV.of (V.mono (X := ⟨fun _ => none, phi⟩) (Y := ⟨X.mu, phi⟩) ⟨fun _ _ h => absurd h (by simp), fun _ _ h => h⟩ hv), hR.orc hb h1 h2 h3⟩
      split at h <;> try cases h
      rename_i fn hfn
      split at h <;> try cases h
      rename_i c hc
      split at h
      · exact evDefer_ok (fun w1 => ih (w0 := w1)) hP.mixed hP.name (fun g fn c h1 h2 => hP.codes g fn c h1 h2) hfn hc h hR ha
      refine (callsIn_wide (n := 0)).1 (callsIn_of_wp (F := WF none) hfn hc (WF.fn _ _) ?_)
      have ha' : VL X (args ++ List.replicate (fn.ntmps - args.length) (.tup [])) (vargs ++ Array.replicate (fn.ntmps - vargs.size) undef).toList := by
        have hl : args.length = vargs.size := by have := ha.len; simpa using this
        rw [Array.toList_append, Array.toList_replicate, hl]
        refine ha.append ⟨by simp, fun i x y hx hy => ?_⟩
        rw [List.getElem?_replicate] at hx hy
        split at hx <;> cases hx
        rw [if_pos (by assumption)] at hy
        cases hy
        exact .undef X
      split at h
      · cases h
      · rename_i v ts1 s1 hcode
        cases h
        refine wpIn_mono (code_sound (fun w1 => ih (w0 := w1)) hP.mixed hP.name c (hP.codes g fn c hfn hc) _ _ _ _ _ hcode X { tmps := vargs ++ Array.replicate (fn.ntmps - vargs.size) undef, defers := [] } w hR ha') ?_
        rintro e1 a1 w1 ⟨hd, Y, hY, ⟨y, rfl, hv⟩, hT, hR1⟩
        exact ⟨hd, Y, hY, ⟨y, rfl, hv⟩, hR1⟩
      · rename_i e ts1 s1 hex hnp hcode
        split at h <;> try cases h
        rename_i v hv
        refine wpIn_mono (code_sound (fun w1 => ih (w0 := w1)) hP.mixed hP.name c (hP.codes g fn c hfn hc) _ _ _ _ _ hcode X { tmps := vargs ++ Array.replicate (fn.ntmps - vargs.size) undef, defers := [] } w hR ha') ?_
        rintro e1 a1 w1 ⟨hd, Y, hY, he, hT, hR1⟩
        cases e with
        | panic v => exact absurd rfl (hnp v)
        | exit id => exact absurd rfl (hex id)
        | _ =>
        cases he
        obtain ⟨y, hy, hvy⟩ := results_sound (P := P) hR1 hT hv
        obtain ⟨Z, hZ, hvz, hRz⟩ := return_sound hR1 hvy h
        exact ⟨hd, y, hy, Z, hY.trans hZ, EndsV.of hvz, hRz⟩
      · cases h

/-- The memory when a law is called: all that is there is frozen, no name is given. -/
def Cx.start (w : World) : Cx := ⟨fun _ => none, fun b => w.heap[b]?⟩
def HS.start : HS := ⟨fun _ => none, 0⟩

/-- The memory when a call begins of which nothing there is told but what is frozen. -/
theorem R.begin {phi : Nat → Option Obj} {w : World} (h : ∀ b o, phi b = some o → w.heap[b]? = some o) : R ⟨fun _ => none, phi⟩ HS.start ⟨w, phi, fun _ => none⟩ w :=
  ⟨rfl, rfl, rfl, Nat.le_refl _, fun _ _ => ⟨rfl, rfl, fun _ _ _ h => (nomatch h)⟩, h, fun _ _ h => (nomatch h), fun _ _ _ _ _ _ _ _ _ h => (nomatch h), fun _ _ => ⟨rfl, rfl⟩, fun _ _ h => (nomatch h)⟩

theorem R.start (w : World) : R (Cx.start w) HS.start ⟨w, fun b => w.heap[b]?, fun _ => none⟩ w := R.begin (fun _ _ h => h)

theorem calls_of_ev {Hn : Hints} (hP : ProgOK P Hn) {F : Nat} {f : FuncId} {args : List AV} {b : Bool} {s' : HS} (h : evCall P Hn F f args HS.start = some (.bool b, s')) {w : World} {vargs : Array Value} (ha : VL (Cx.start w) args vargs.toList) :
    Calls P f vargs w fun e w' => e = .returned (.bool b) ∧ RowKit.Below w.heap.size w w' := by
  refine Calls.mono ((evCall_ok (w0 := ⟨w, fun b => w.heap[b]?, fun _ => none⟩) hP F).calls f args HS.start _ _ h (Cx.start w) w vargs (R.start w) ha) ?_
  rintro e w' ⟨Y, _, ⟨y, rfl, hv⟩, hR⟩
  cases hv
  exact ⟨rfl, hR.below⟩

end
end Go.Ev
