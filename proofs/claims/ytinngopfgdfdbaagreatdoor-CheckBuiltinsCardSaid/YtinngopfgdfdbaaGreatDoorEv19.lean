/- Fast parts for the kernel: slots, numbers, lists; each is shown to be what the evaluator has. -/
import Derived.Test.YtinngopfgdfdbaaGreatDoorEv18
set_option linter.unusedVariables false
set_option linter.unusedSimpArgs false
namespace Go.Ev

/-! ### slots -/
structure R16 (α : Type) where
  a0 : α
  a1 : α
  a2 : α
  a3 : α
  a4 : α
  a5 : α
  a6 : α
  a7 : α
  a8 : α
  a9 : α
  a10 : α
  a11 : α
  a12 : α
  a13 : α
  a14 : α
  a15 : α

structure G16 (α : Type) where
  get : R16 α → α
  set : R16 α → (α → α) → R16 α

def g16 {α : Type} (n : Nat) : G16 α := match n with
  | 0 => ⟨fun r => r.a0, fun r f => r.casesOn fun a0 a1 a2 a3 a4 a5 a6 a7 a8 a9 a10 a11 a12 a13 a14 a15 => ⟨f a0, a1, a2, a3, a4, a5, a6, a7, a8, a9, a10, a11, a12, a13, a14, a15⟩⟩
  | 1 => ⟨fun r => r.a1, fun r f => r.casesOn fun a0 a1 a2 a3 a4 a5 a6 a7 a8 a9 a10 a11 a12 a13 a14 a15 => ⟨a0, f a1, a2, a3, a4, a5, a6, a7, a8, a9, a10, a11, a12, a13, a14, a15⟩⟩
  | 2 => ⟨fun r => r.a2, fun r f => r.casesOn fun a0 a1 a2 a3 a4 a5 a6 a7 a8 a9 a10 a11 a12 a13 a14 a15 => ⟨a0, a1, f a2, a3, a4, a5, a6, a7, a8, a9, a10, a11, a12, a13, a14, a15⟩⟩
  | 3 => ⟨fun r => r.a3, fun r f => r.casesOn fun a0 a1 a2 a3 a4 a5 a6 a7 a8 a9 a10 a11 a12 a13 a14 a15 => ⟨a0, a1, a2, f a3, a4, a5, a6, a7, a8, a9, a10, a11, a12, a13, a14, a15⟩⟩
  | 4 => ⟨fun r => r.a4, fun r f => r.casesOn fun a0 a1 a2 a3 a4 a5 a6 a7 a8 a9 a10 a11 a12 a13 a14 a15 => ⟨a0, a1, a2, a3, f a4, a5, a6, a7, a8, a9, a10, a11, a12, a13, a14, a15⟩⟩
  | 5 => ⟨fun r => r.a5, fun r f => r.casesOn fun a0 a1 a2 a3 a4 a5 a6 a7 a8 a9 a10 a11 a12 a13 a14 a15 => ⟨a0, a1, a2, a3, a4, f a5, a6, a7, a8, a9, a10, a11, a12, a13, a14, a15⟩⟩
  | 6 => ⟨fun r => r.a6, fun r f => r.casesOn fun a0 a1 a2 a3 a4 a5 a6 a7 a8 a9 a10 a11 a12 a13 a14 a15 => ⟨a0, a1, a2, a3, a4, a5, f a6, a7, a8, a9, a10, a11, a12, a13, a14, a15⟩⟩
  | 7 => ⟨fun r => r.a7, fun r f => r.casesOn fun a0 a1 a2 a3 a4 a5 a6 a7 a8 a9 a10 a11 a12 a13 a14 a15 => ⟨a0, a1, a2, a3, a4, a5, a6, f a7, a8, a9, a10, a11, a12, a13, a14, a15⟩⟩
  | 8 => ⟨fun r => r.a8, fun r f => r.casesOn fun a0 a1 a2 a3 a4 a5 a6 a7 a8 a9 a10 a11 a12 a13 a14 a15 => ⟨a0, a1, a2, a3, a4, a5, a6, a7, f a8, a9, a10, a11, a12, a13, a14, a15⟩⟩
  | 9 => ⟨fun r => r.a9, fun r f => r.casesOn fun a0 a1 a2 a3 a4 a5 a6 a7 a8 a9 a10 a11 a12 a13 a14 a15 => ⟨a0, a1, a2, a3, a4, a5, a6, a7, a8, f a9, a10, a11, a12, a13, a14, a15⟩⟩
  | 10 => ⟨fun r => r.a10, fun r f => r.casesOn fun a0 a1 a2 a3 a4 a5 a6 a7 a8 a9 a10 a11 a12 a13 a14 a15 => ⟨a0, a1, a2, a3, a4, a5, a6, a7, a8, a9, f a10, a11, a12, a13, a14, a15⟩⟩
  | 11 => ⟨fun r => r.a11, fun r f => r.casesOn fun a0 a1 a2 a3 a4 a5 a6 a7 a8 a9 a10 a11 a12 a13 a14 a15 => ⟨a0, a1, a2, a3, a4, a5, a6, a7, a8, a9, a10, f a11, a12, a13, a14, a15⟩⟩
  | 12 => ⟨fun r => r.a12, fun r f => r.casesOn fun a0 a1 a2 a3 a4 a5 a6 a7 a8 a9 a10 a11 a12 a13 a14 a15 => ⟨a0, a1, a2, a3, a4, a5, a6, a7, a8, a9, a10, a11, f a12, a13, a14, a15⟩⟩
  | 13 => ⟨fun r => r.a13, fun r f => r.casesOn fun a0 a1 a2 a3 a4 a5 a6 a7 a8 a9 a10 a11 a12 a13 a14 a15 => ⟨a0, a1, a2, a3, a4, a5, a6, a7, a8, a9, a10, a11, a12, f a13, a14, a15⟩⟩
  | 14 => ⟨fun r => r.a14, fun r f => r.casesOn fun a0 a1 a2 a3 a4 a5 a6 a7 a8 a9 a10 a11 a12 a13 a14 a15 => ⟨a0, a1, a2, a3, a4, a5, a6, a7, a8, a9, a10, a11, a12, a13, f a14, a15⟩⟩
  | _ => ⟨fun r => r.a15, fun r f => r.casesOn fun a0 a1 a2 a3 a4 a5 a6 a7 a8 a9 a10 a11 a12 a13 a14 a15 => ⟨a0, a1, a2, a3, a4, a5, a6, a7, a8, a9, a10, a11, a12, a13, a14, f a15⟩⟩

theorem g16_get {α : Type} (i j : Nat) (hi : i < 16) (hj : j < 16) (r : R16 α) (f : α → α) : (g16 i).get ((g16 j).set r f) = if i = j then f ((g16 i).get r) else (g16 i).get r := by
  cases r
  rcases i with _ | _ | _ | _ | _ | _ | _ | _ | _ | _ | _ | _ | _ | _ | _ | _ | i
  all_goals first
    | (exfalso; omega)
    | (rcases j with _ | _ | _ | _ | _ | _ | _ | _ | _ | _ | _ | _ | _ | _ | _ | _ | j
       all_goals first | rfl | (exfalso; omega))

abbrev E := R16 (R16 AV)

structure GG where
  get : E → AV
  set : E → AV → E

noncomputable def gg0 (n : Nat) : GG := match n with
  | 0 => ⟨fun e => e.a0.a0, fun e v => R16.rec (motive := fun _ => E) (fun a0 a1 a2 a3 a4 a5 a6 a7 a8 a9 a10 a11 a12 a13 a14 a15 => ⟨R16.rec (motive := fun _ => R16 AV) (fun b0 b1 b2 b3 b4 b5 b6 b7 b8 b9 b10 b11 b12 b13 b14 b15 => ⟨v, b1, b2, b3, b4, b5, b6, b7, b8, b9, b10, b11, b12, b13, b14, b15⟩) a0, a1, a2, a3, a4, a5, a6, a7, a8, a9, a10, a11, a12, a13, a14, a15⟩) e⟩
  | 1 => ⟨fun e => e.a0.a1, fun e v => R16.rec (motive := fun _ => E) (fun a0 a1 a2 a3 a4 a5 a6 a7 a8 a9 a10 a11 a12 a13 a14 a15 => ⟨R16.rec (motive := fun _ => R16 AV) (fun b0 b1 b2 b3 b4 b5 b6 b7 b8 b9 b10 b11 b12 b13 b14 b15 => ⟨b0, v, b2, b3, b4, b5, b6, b7, b8, b9, b10, b11, b12, b13, b14, b15⟩) a0, a1, a2, a3, a4, a5, a6, a7, a8, a9, a10, a11, a12, a13, a14, a15⟩) e⟩
  | 2 => ⟨fun e => e.a0.a2, fun e v => R16.rec (motive := fun _ => E) (fun a0 a1 a2 a3 a4 a5 a6 a7 a8 a9 a10 a11 a12 a13 a14 a15 => ⟨R16.rec (motive := fun _ => R16 AV) (fun b0 b1 b2 b3 b4 b5 b6 b7 b8 b9 b10 b11 b12 b13 b14 b15 => ⟨b0, b1, v, b3, b4, b5, b6, b7, b8, b9, b10, b11, b12, b13, b14, b15⟩) a0, a1, a2, a3, a4, a5, a6, a7, a8, a9, a10, a11, a12, a13, a14, a15⟩) e⟩
  | 3 => ⟨fun e => e.a0.a3, fun e v => R16.rec (motive := fun _ => E) (fun a0 a1 a2 a3 a4 a5 a6 a7 a8 a9 a10 a11 a12 a13 a14 a15 => ⟨R16.rec (motive := fun _ => R16 AV) (fun b0 b1 b2 b3 b4 b5 b6 b7 b8 b9 b10 b11 b12 b13 b14 b15 => ⟨b0, b1, b2, v, b4, b5, b6, b7, b8, b9, b10, b11, b12, b13, b14, b15⟩) a0, a1, a2, a3, a4, a5, a6, a7, a8, a9, a10, a11, a12, a13, a14, a15⟩) e⟩
  | 4 => ⟨fun e => e.a0.a4, fun e v => R16.rec (motive := fun _ => E) (fun a0 a1 a2 a3 a4 a5 a6 a7 a8 a9 a10 a11 a12 a13 a14 a15 => ⟨R16.rec (motive := fun _ => R16 AV) (fun b0 b1 b2 b3 b4 b5 b6 b7 b8 b9 b10 b11 b12 b13 b14 b15 => ⟨b0, b1, b2, b3, v, b5, b6, b7, b8, b9, b10, b11, b12, b13, b14, b15⟩) a0, a1, a2, a3, a4, a5, a6, a7, a8, a9, a10, a11, a12, a13, a14, a15⟩) e⟩
  | 5 => ⟨fun e => e.a0.a5, fun e v => R16.rec (motive := fun _ => E) (fun a0 a1 a2 a3 a4 a5 a6 a7 a8 a9 a10 a11 a12 a13 a14 a15 => ⟨R16.rec (motive := fun _ => R16 AV) (fun b0 b1 b2 b3 b4 b5 b6 b7 b8 b9 b10 b11 b12 b13 b14 b15 => ⟨b0, b1, b2, b3, b4, v, b6, b7, b8, b9, b10, b11, b12, b13, b14, b15⟩) a0, a1, a2, a3, a4, a5, a6, a7, a8, a9, a10, a11, a12, a13, a14, a15⟩) e⟩
  | 6 => ⟨fun e => e.a0.a6, fun e v => R16.rec (motive := fun _ => E) (fun a0 a1 a2 a3 a4 a5 a6 a7 a8 a9 a10 a11 a12 a13 a14 a15 => ⟨R16.rec (motive := fun _ => R16 AV) (fun b0 b1 b2 b3 b4 b5 b6 b7 b8 b9 b10 b11 b12 b13 b14 b15 => ⟨b0, b1, b2, b3, b4, b5, v, b7, b8, b9, b10, b11, b12, b13, b14, b15⟩) a0, a1, a2, a3, a4, a5, a6, a7, a8, a9, a10, a11, a12, a13, a14, a15⟩) e⟩
  | 7 => ⟨fun e => e.a0.a7, fun e v => R16.rec (motive := fun _ => E) (fun a0 a1 a2 a3 a4 a5 a6 a7 a8 a9 a10 a11 a12 a13 a14 a15 => ⟨R16.rec (motive := fun _ => R16 AV) (fun b0 b1 b2 b3 b4 b5 b6 b7 b8 b9 b10 b11 b12 b13 b14 b15 => ⟨b0, b1, b2, b3, b4, b5, b6, v, b8, b9, b10, b11, b12, b13, b14, b15⟩) a0, a1, a2, a3, a4, a5, a6, a7, a8, a9, a10, a11, a12, a13, a14, a15⟩) e⟩
  | 8 => ⟨fun e => e.a0.a8, fun e v => R16.rec (motive := fun _ => E) (fun a0 a1 a2 a3 a4 a5 a6 a7 a8 a9 a10 a11 a12 a13 a14 a15 => ⟨R16.rec (motive := fun _ => R16 AV) (fun b0 b1 b2 b3 b4 b5 b6 b7 b8 b9 b10 b11 b12 b13 b14 b15 => ⟨b0, b1, b2, b3, b4, b5, b6, b7, v, b9, b10, b11, b12, b13, b14, b15⟩) a0, a1, a2, a3, a4, a5, a6, a7, a8, a9, a10, a11, a12, a13, a14, a15⟩) e⟩
  | 9 => ⟨fun e => e.a0.a9, fun e v => R16.rec (motive := fun _ => E) (fun a0 a1 a2 a3 a4 a5 a6 a7 a8 a9 a10 a11 a12 a13 a14 a15 => ⟨R16.rec (motive := fun _ => R16 AV) (fun b0 b1 b2 b3 b4 b5 b6 b7 b8 b9 b10 b11 b12 b13 b14 b15 => ⟨b0, b1, b2, b3, b4, b5, b6, b7, b8, v, b10, b11, b12, b13, b14, b15⟩) a0, a1, a2, a3, a4, a5, a6, a7, a8, a9, a10, a11, a12, a13, a14, a15⟩) e⟩
  | 10 => ⟨fun e => e.a0.a10, fun e v => R16.rec (motive := fun _ => E) (fun a0 a1 a2 a3 a4 a5 a6 a7 a8 a9 a10 a11 a12 a13 a14 a15 => ⟨R16.rec (motive := fun _ => R16 AV) (fun b0 b1 b2 b3 b4 b5 b6 b7 b8 b9 b10 b11 b12 b13 b14 b15 => ⟨b0, b1, b2, b3, b4, b5, b6, b7, b8, b9, v, b11, b12, b13, b14, b15⟩) a0, a1, a2, a3, a4, a5, a6, a7, a8, a9, a10, a11, a12, a13, a14, a15⟩) e⟩
  | 11 => ⟨fun e => e.a0.a11, fun e v => R16.rec (motive := fun _ => E) (fun a0 a1 a2 a3 a4 a5 a6 a7 a8 a9 a10 a11 a12 a13 a14 a15 => ⟨R16.rec (motive := fun _ => R16 AV) (fun b0 b1 b2 b3 b4 b5 b6 b7 b8 b9 b10 b11 b12 b13 b14 b15 => ⟨b0, b1, b2, b3, b4, b5, b6, b7, b8, b9, b10, v, b12, b13, b14, b15⟩) a0, a1, a2, a3, a4, a5, a6, a7, a8, a9, a10, a11, a12, a13, a14, a15⟩) e⟩
  | 12 => ⟨fun e => e.a0.a12, fun e v => R16.rec (motive := fun _ => E) (fun a0 a1 a2 a3 a4 a5 a6 a7 a8 a9 a10 a11 a12 a13 a14 a15 => ⟨R16.rec (motive := fun _ => R16 AV) (fun b0 b1 b2 b3 b4 b5 b6 b7 b8 b9 b10 b11 b12 b13 b14 b15 => ⟨b0, b1, b2, b3, b4, b5, b6, b7, b8, b9, b10, b11, v, b13, b14, b15⟩) a0, a1, a2, a3, a4, a5, a6, a7, a8, a9, a10, a11, a12, a13, a14, a15⟩) e⟩
  | 13 => ⟨fun e => e.a0.a13, fun e v => R16.rec (motive := fun _ => E) (fun a0 a1 a2 a3 a4 a5 a6 a7 a8 a9 a10 a11 a12 a13 a14 a15 => ⟨R16.rec (motive := fun _ => R16 AV) (fun b0 b1 b2 b3 b4 b5 b6 b7 b8 b9 b10 b11 b12 b13 b14 b15 => ⟨b0, b1, b2, b3, b4, b5, b6, b7, b8, b9, b10, b11, b12, v, b14, b15⟩) a0, a1, a2, a3, a4, a5, a6, a7, a8, a9, a10, a11, a12, a13, a14, a15⟩) e⟩
  | 14 => ⟨fun e => e.a0.a14, fun e v => R16.rec (motive := fun _ => E) (fun a0 a1 a2 a3 a4 a5 a6 a7 a8 a9 a10 a11 a12 a13 a14 a15 => ⟨R16.rec (motive := fun _ => R16 AV) (fun b0 b1 b2 b3 b4 b5 b6 b7 b8 b9 b10 b11 b12 b13 b14 b15 => ⟨b0, b1, b2, b3, b4, b5, b6, b7, b8, b9, b10, b11, b12, b13, v, b15⟩) a0, a1, a2, a3, a4, a5, a6, a7, a8, a9, a10, a11, a12, a13, a14, a15⟩) e⟩
  | _ => ⟨fun e => e.a0.a15, fun e v => R16.rec (motive := fun _ => E) (fun a0 a1 a2 a3 a4 a5 a6 a7 a8 a9 a10 a11 a12 a13 a14 a15 => ⟨R16.rec (motive := fun _ => R16 AV) (fun b0 b1 b2 b3 b4 b5 b6 b7 b8 b9 b10 b11 b12 b13 b14 b15 => ⟨b0, b1, b2, b3, b4, b5, b6, b7, b8, b9, b10, b11, b12, b13, b14, v⟩) a0, a1, a2, a3, a4, a5, a6, a7, a8, a9, a10, a11, a12, a13, a14, a15⟩) e⟩
noncomputable def gg1 (n : Nat) : GG := match n with
  | 0 => ⟨fun e => e.a1.a0, fun e v => R16.rec (motive := fun _ => E) (fun a0 a1 a2 a3 a4 a5 a6 a7 a8 a9 a10 a11 a12 a13 a14 a15 => ⟨a0, R16.rec (motive := fun _ => R16 AV) (fun b0 b1 b2 b3 b4 b5 b6 b7 b8 b9 b10 b11 b12 b13 b14 b15 => ⟨v, b1, b2, b3, b4, b5, b6, b7, b8, b9, b10, b11, b12, b13, b14, b15⟩) a1, a2, a3, a4, a5, a6, a7, a8, a9, a10, a11, a12, a13, a14, a15⟩) e⟩
  | 1 => ⟨fun e => e.a1.a1, fun e v => R16.rec (motive := fun _ => E) (fun a0 a1 a2 a3 a4 a5 a6 a7 a8 a9 a10 a11 a12 a13 a14 a15 => ⟨a0, R16.rec (motive := fun _ => R16 AV) (fun b0 b1 b2 b3 b4 b5 b6 b7 b8 b9 b10 b11 b12 b13 b14 b15 => ⟨b0, v, b2, b3, b4, b5, b6, b7, b8, b9, b10, b11, b12, b13, b14, b15⟩) a1, a2, a3, a4, a5, a6, a7, a8, a9, a10, a11, a12, a13, a14, a15⟩) e⟩
  | 2 => ⟨fun e => e.a1.a2, fun e v => R16.rec (motive := fun _ => E) (fun a0 a1 a2 a3 a4 a5 a6 a7 a8 a9 a10 a11 a12 a13 a14 a15 => ⟨a0, R16.rec (motive := fun _ => R16 AV) (fun b0 b1 b2 b3 b4 b5 b6 b7 b8 b9 b10 b11 b12 b13 b14 b15 => ⟨b0, b1, v, b3, b4, b5, b6, b7, b8, b9, b10, b11, b12, b13, b14, b15⟩) a1, a2, a3, a4, a5, a6, a7, a8, a9, a10, a11, a12, a13, a14, a15⟩) e⟩
  | 3 => ⟨fun e => e.a1.a3, fun e v => R16.rec (motive := fun _ => E) (fun a0 a1 a2 a3 a4 a5 a6 a7 a8 a9 a10 a11 a12 a13 a14 a15 => ⟨a0, R16.rec (motive := fun _ => R16 AV) (fun b0 b1 b2 b3 b4 b5 b6 b7 b8 b9 b10 b11 b12 b13 b14 b15 => ⟨b0, b1, b2, v, b4, b5, b6, b7, b8, b9, b10, b11, b12, b13, b14, b15⟩) a1, a2, a3, a4, a5, a6, a7, a8, a9, a10, a11, a12, a13, a14, a15⟩) e⟩
  | 4 => ⟨fun e => e.a1.a4, fun e v => R16.rec (motive := fun _ => E) (fun a0 a1 a2 a3 a4 a5 a6 a7 a8 a9 a10 a11 a12 a13 a14 a15 => ⟨a0, R16.rec (motive := fun _ => R16 AV) (fun b0 b1 b2 b3 b4 b5 b6 b7 b8 b9 b10 b11 b12 b13 b14 b15 => ⟨b0, b1, b2, b3, v, b5, b6, b7, b8, b9, b10, b11, b12, b13, b14, b15⟩) a1, a2, a3, a4, a5, a6, a7, a8, a9, a10, a11, a12, a13, a14, a15⟩) e⟩
  | 5 => ⟨fun e => e.a1.a5, fun e v => R16.rec (motive := fun _ => E) (fun a0 a1 a2 a3 a4 a5 a6 a7 a8 a9 a10 a11 a12 a13 a14 a15 => ⟨a0, R16.rec (motive := fun _ => R16 AV) (fun b0 b1 b2 b3 b4 b5 b6 b7 b8 b9 b10 b11 b12 b13 b14 b15 => ⟨b0, b1, b2, b3, b4, v, b6, b7, b8, b9, b10, b11, b12, b13, b14, b15⟩) a1, a2, a3, a4, a5, a6, a7, a8, a9, a10, a11, a12, a13, a14, a15⟩) e⟩
  | 6 => ⟨fun e => e.a1.a6, fun e v => R16.rec (motive := fun _ => E) (fun a0 a1 a2 a3 a4 a5 a6 a7 a8 a9 a10 a11 a12 a13 a14 a15 => ⟨a0, R16.rec (motive := fun _ => R16 AV) (fun b0 b1 b2 b3 b4 b5 b6 b7 b8 b9 b10 b11 b12 b13 b14 b15 => ⟨b0, b1, b2, b3, b4, b5, v, b7, b8, b9, b10, b11, b12, b13, b14, b15⟩) a1, a2, a3, a4, a5, a6, a7, a8, a9, a10, a11, a12, a13, a14, a15⟩) e⟩
  | 7 => ⟨fun e => e.a1.a7, fun e v => R16.rec (motive := fun _ => E) (fun a0 a1 a2 a3 a4 a5 a6 a7 a8 a9 a10 a11 a12 a13 a14 a15 => ⟨a0, R16.rec (motive := fun _ => R16 AV) (fun b0 b1 b2 b3 b4 b5 b6 b7 b8 b9 b10 b11 b12 b13 b14 b15 => ⟨b0, b1, b2, b3, b4, b5, b6, v, b8, b9, b10, b11, b12, b13, b14, b15⟩) a1, a2, a3, a4, a5, a6, a7, a8, a9, a10, a11, a12, a13, a14, a15⟩) e⟩
  | 8 => ⟨fun e => e.a1.a8, fun e v => R16.rec (motive := fun _ => E) (fun a0 a1 a2 a3 a4 a5 a6 a7 a8 a9 a10 a11 a12 a13 a14 a15 => ⟨a0, R16.rec (motive := fun _ => R16 AV) (fun b0 b1 b2 b3 b4 b5 b6 b7 b8 b9 b10 b11 b12 b13 b14 b15 => ⟨b0, b1, b2, b3, b4, b5, b6, b7, v, b9, b10, b11, b12, b13, b14, b15⟩) a1, a2, a3, a4, a5, a6, a7, a8, a9, a10, a11, a12, a13, a14, a15⟩) e⟩
  | 9 => ⟨fun e => e.a1.a9, fun e v => R16.rec (motive := fun _ => E) (fun a0 a1 a2 a3 a4 a5 a6 a7 a8 a9 a10 a11 a12 a13 a14 a15 => ⟨a0, R16.rec (motive := fun _ => R16 AV) (fun b0 b1 b2 b3 b4 b5 b6 b7 b8 b9 b10 b11 b12 b13 b14 b15 => ⟨b0, b1, b2, b3, b4, b5, b6, b7, b8, v, b10, b11, b12, b13, b14, b15⟩) a1, a2, a3, a4, a5, a6, a7, a8, a9, a10, a11, a12, a13, a14, a15⟩) e⟩
  | 10 => ⟨fun e => e.a1.a10, fun e v => R16.rec (motive := fun _ => E) (fun a0 a1 a2 a3 a4 a5 a6 a7 a8 a9 a10 a11 a12 a13 a14 a15 => ⟨a0, R16.rec (motive := fun _ => R16 AV) (fun b0 b1 b2 b3 b4 b5 b6 b7 b8 b9 b10 b11 b12 b13 b14 b15 => ⟨b0, b1, b2, b3, b4, b5, b6, b7, b8, b9, v, b11, b12, b13, b14, b15⟩) a1, a2, a3, a4, a5, a6, a7, a8, a9, a10, a11, a12, a13, a14, a15⟩) e⟩
  | 11 => ⟨fun e => e.a1.a11, fun e v => R16.rec (motive := fun _ => E) (fun a0 a1 a2 a3 a4 a5 a6 a7 a8 a9 a10 a11 a12 a13 a14 a15 => ⟨a0, R16.rec (motive := fun _ => R16 AV) (fun b0 b1 b2 b3 b4 b5 b6 b7 b8 b9 b10 b11 b12 b13 b14 b15 => ⟨b0, b1, b2, b3, b4, b5, b6, b7, b8, b9, b10, v, b12, b13, b14, b15⟩) a1, a2, a3, a4, a5, a6, a7, a8, a9, a10, a11, a12, a13, a14, a15⟩) e⟩
  | 12 => ⟨fun e => e.a1.a12, fun e v => R16.rec (motive := fun _ => E) (fun a0 a1 a2 a3 a4 a5 a6 a7 a8 a9 a10 a11 a12 a13 a14 a15 => ⟨a0, R16.rec (motive := fun _ => R16 AV) (fun b0 b1 b2 b3 b4 b5 b6 b7 b8 b9 b10 b11 b12 b13 b14 b15 => ⟨b0, b1, b2, b3, b4, b5, b6, b7, b8, b9, b10, b11, v, b13, b14, b15⟩) a1, a2, a3, a4, a5, a6, a7, a8, a9, a10, a11, a12, a13, a14, a15⟩) e⟩
  | 13 => ⟨fun e => e.a1.a13, fun e v => R16.rec (motive := fun _ => E) (fun a0 a1 a2 a3 a4 a5 a6 a7 a8 a9 a10 a11 a12 a13 a14 a15 => ⟨a0, R16.rec (motive := fun _ => R16 AV) (fun b0 b1 b2 b3 b4 b5 b6 b7 b8 b9 b10 b11 b12 b13 b14 b15 => ⟨b0, b1, b2, b3, b4, b5, b6, b7, b8, b9, b10, b11, b12, v, b14, b15⟩) a1, a2, a3, a4, a5, a6, a7, a8, a9, a10, a11, a12, a13, a14, a15⟩) e⟩
  | 14 => ⟨fun e => e.a1.a14, fun e v => R16.rec (motive := fun _ => E) (fun a0 a1 a2 a3 a4 a5 a6 a7 a8 a9 a10 a11 a12 a13 a14 a15 => ⟨a0, R16.rec (motive := fun _ => R16 AV) (fun b0 b1 b2 b3 b4 b5 b6 b7 b8 b9 b10 b11 b12 b13 b14 b15 => ⟨b0, b1, b2, b3, b4, b5, b6, b7, b8, b9, b10, b11, b12, b13, v, b15⟩) a1, a2, a3, a4, a5, a6, a7, a8, a9, a10, a11, a12, a13, a14, a15⟩) e⟩
  | _ => ⟨fun e => e.a1.a15, fun e v => R16.rec (motive := fun _ => E) (fun a0 a1 a2 a3 a4 a5 a6 a7 a8 a9 a10 a11 a12 a13 a14 a15 => ⟨a0, R16.rec (motive := fun _ => R16 AV) (fun b0 b1 b2 b3 b4 b5 b6 b7 b8 b9 b10 b11 b12 b13 b14 b15 => ⟨b0, b1, b2, b3, b4, b5, b6, b7, b8, b9, b10, b11, b12, b13, b14, v⟩) a1, a2, a3, a4, a5, a6, a7, a8, a9, a10, a11, a12, a13, a14, a15⟩) e⟩
noncomputable def gg2 (n : Nat) : GG := match n with
  | 0 => ⟨fun e => e.a2.a0, fun e v => R16.rec (motive := fun _ => E) (fun a0 a1 a2 a3 a4 a5 a6 a7 a8 a9 a10 a11 a12 a13 a14 a15 => ⟨a0, a1, R16.rec (motive := fun _ => R16 AV) (fun b0 b1 b2 b3 b4 b5 b6 b7 b8 b9 b10 b11 b12 b13 b14 b15 => ⟨v, b1, b2, b3, b4, b5, b6, b7, b8, b9, b10, b11, b12, b13, b14, b15⟩) a2, a3, a4, a5, a6, a7, a8, a9, a10, a11, a12, a13, a14, a15⟩) e⟩
  | 1 => ⟨fun e => e.a2.a1, fun e v => R16.rec (motive := fun _ => E) (fun a0 a1 a2 a3 a4 a5 a6 a7 a8 a9 a10 a11 a12 a13 a14 a15 => ⟨a0, a1, R16.rec (motive := fun _ => R16 AV) (fun b0 b1 b2 b3 b4 b5 b6 b7 b8 b9 b10 b11 b12 b13 b14 b15 => ⟨b0, v, b2, b3, b4, b5, b6, b7, b8, b9, b10, b11, b12, b13, b14, b15⟩) a2, a3, a4, a5, a6, a7, a8, a9, a10, a11, a12, a13, a14, a15⟩) e⟩
  | 2 => ⟨fun e => e.a2.a2, fun e v => R16.rec (motive := fun _ => E) (fun a0 a1 a2 a3 a4 a5 a6 a7 a8 a9 a10 a11 a12 a13 a14 a15 => ⟨a0, a1, R16.rec (motive := fun _ => R16 AV) (fun b0 b1 b2 b3 b4 b5 b6 b7 b8 b9 b10 b11 b12 b13 b14 b15 => ⟨b0, b1, v, b3, b4, b5, b6, b7, b8, b9, b10, b11, b12, b13, b14, b15⟩) a2, a3, a4, a5, a6, a7, a8, a9, a10, a11, a12, a13, a14, a15⟩) e⟩
  | 3 => ⟨fun e => e.a2.a3, fun e v => R16.rec (motive := fun _ => E) (fun a0 a1 a2 a3 a4 a5 a6 a7 a8 a9 a10 a11 a12 a13 a14 a15 => ⟨a0, a1, R16.rec (motive := fun _ => R16 AV) (fun b0 b1 b2 b3 b4 b5 b6 b7 b8 b9 b10 b11 b12 b13 b14 b15 => ⟨b0, b1, b2, v, b4, b5, b6, b7, b8, b9, b10, b11, b12, b13, b14, b15⟩) a2, a3, a4, a5, a6, a7, a8, a9, a10, a11, a12, a13, a14, a15⟩) e⟩
  | 4 => ⟨fun e => e.a2.a4, fun e v => R16.rec (motive := fun _ => E) (fun a0 a1 a2 a3 a4 a5 a6 a7 a8 a9 a10 a11 a12 a13 a14 a15 => ⟨a0, a1, R16.rec (motive := fun _ => R16 AV) (fun b0 b1 b2 b3 b4 b5 b6 b7 b8 b9 b10 b11 b12 b13 b14 b15 => ⟨b0, b1, b2, b3, v, b5, b6, b7, b8, b9, b10, b11, b12, b13, b14, b15⟩) a2, a3, a4, a5, a6, a7, a8, a9, a10, a11, a12, a13, a14, a15⟩) e⟩
  | 5 => ⟨fun e => e.a2.a5, fun e v => R16.rec (motive := fun _ => E) (fun a0 a1 a2 a3 a4 a5 a6 a7 a8 a9 a10 a11 a12 a13 a14 a15 => ⟨a0, a1, R16.rec (motive := fun _ => R16 AV) (fun b0 b1 b2 b3 b4 b5 b6 b7 b8 b9 b10 b11 b12 b13 b14 b15 => ⟨b0, b1, b2, b3, b4, v, b6, b7, b8, b9, b10, b11, b12, b13, b14, b15⟩) a2, a3, a4, a5, a6, a7, a8, a9, a10, a11, a12, a13, a14, a15⟩) e⟩
  | 6 => ⟨fun e => e.a2.a6, fun e v => R16.rec (motive := fun _ => E) (fun a0 a1 a2 a3 a4 a5 a6 a7 a8 a9 a10 a11 a12 a13 a14 a15 => ⟨a0, a1, R16.rec (motive := fun _ => R16 AV) (fun b0 b1 b2 b3 b4 b5 b6 b7 b8 b9 b10 b11 b12 b13 b14 b15 => ⟨b0, b1, b2, b3, b4, b5, v, b7, b8, b9, b10, b11, b12, b13, b14, b15⟩) a2, a3, a4, a5, a6, a7, a8, a9, a10, a11, a12, a13, a14, a15⟩) e⟩
  | 7 => ⟨fun e => e.a2.a7, fun e v => R16.rec (motive := fun _ => E) (fun a0 a1 a2 a3 a4 a5 a6 a7 a8 a9 a10 a11 a12 a13 a14 a15 => ⟨a0, a1, R16.rec (motive := fun _ => R16 AV) (fun b0 b1 b2 b3 b4 b5 b6 b7 b8 b9 b10 b11 b12 b13 b14 b15 => ⟨b0, b1, b2, b3, b4, b5, b6, v, b8, b9, b10, b11, b12, b13, b14, b15⟩) a2, a3, a4, a5, a6, a7, a8, a9, a10, a11, a12, a13, a14, a15⟩) e⟩
  | 8 => ⟨fun e => e.a2.a8, fun e v => R16.rec (motive := fun _ => E) (fun a0 a1 a2 a3 a4 a5 a6 a7 a8 a9 a10 a11 a12 a13 a14 a15 => ⟨a0, a1, R16.rec (motive := fun _ => R16 AV) (fun b0 b1 b2 b3 b4 b5 b6 b7 b8 b9 b10 b11 b12 b13 b14 b15 => ⟨b0, b1, b2, b3, b4, b5, b6, b7, v, b9, b10, b11, b12, b13, b14, b15⟩) a2, a3, a4, a5, a6, a7, a8, a9, a10, a11, a12, a13, a14, a15⟩) e⟩
  | 9 => ⟨fun e => e.a2.a9, fun e v => R16.rec (motive := fun _ => E) (fun a0 a1 a2 a3 a4 a5 a6 a7 a8 a9 a10 a11 a12 a13 a14 a15 => ⟨a0, a1, R16.rec (motive := fun _ => R16 AV) (fun b0 b1 b2 b3 b4 b5 b6 b7 b8 b9 b10 b11 b12 b13 b14 b15 => ⟨b0, b1, b2, b3, b4, b5, b6, b7, b8, v, b10, b11, b12, b13, b14, b15⟩) a2, a3, a4, a5, a6, a7, a8, a9, a10, a11, a12, a13, a14, a15⟩) e⟩
  | 10 => ⟨fun e => e.a2.a10, fun e v => R16.rec (motive := fun _ => E) (fun a0 a1 a2 a3 a4 a5 a6 a7 a8 a9 a10 a11 a12 a13 a14 a15 => ⟨a0, a1, R16.rec (motive := fun _ => R16 AV) (fun b0 b1 b2 b3 b4 b5 b6 b7 b8 b9 b10 b11 b12 b13 b14 b15 => ⟨b0, b1, b2, b3, b4, b5, b6, b7, b8, b9, v, b11, b12, b13, b14, b15⟩) a2, a3, a4, a5, a6, a7, a8, a9, a10, a11, a12, a13, a14, a15⟩) e⟩
  | 11 => ⟨fun e => e.a2.a11, fun e v => R16.rec (motive := fun _ => E) (fun a0 a1 a2 a3 a4 a5 a6 a7 a8 a9 a10 a11 a12 a13 a14 a15 => ⟨a0, a1, R16.rec (motive := fun _ => R16 AV) (fun b0 b1 b2 b3 b4 b5 b6 b7 b8 b9 b10 b11 b12 b13 b14 b15 => ⟨b0, b1, b2, b3, b4, b5, b6, b7, b8, b9, b10, v, b12, b13, b14, b15⟩) a2, a3, a4, a5, a6, a7, a8, a9, a10, a11, a12, a13, a14, a15⟩) e⟩
  | 12 => ⟨fun e => e.a2.a12, fun e v => R16.rec (motive := fun _ => E) (fun a0 a1 a2 a3 a4 a5 a6 a7 a8 a9 a10 a11 a12 a13 a14 a15 => ⟨a0, a1, R16.rec (motive := fun _ => R16 AV) (fun b0 b1 b2 b3 b4 b5 b6 b7 b8 b9 b10 b11 b12 b13 b14 b15 => ⟨b0, b1, b2, b3, b4, b5, b6, b7, b8, b9, b10, b11, v, b13, b14, b15⟩) a2, a3, a4, a5, a6, a7, a8, a9, a10, a11, a12, a13, a14, a15⟩) e⟩
  | 13 => ⟨fun e => e.a2.a13, fun e v => R16.rec (motive := fun _ => E) (fun a0 a1 a2 a3 a4 a5 a6 a7 a8 a9 a10 a11 a12 a13 a14 a15 => ⟨a0, a1, R16.rec (motive := fun _ => R16 AV) (fun b0 b1 b2 b3 b4 b5 b6 b7 b8 b9 b10 b11 b12 b13 b14 b15 => ⟨b0, b1, b2, b3, b4, b5, b6, b7, b8, b9, b10, b11, b12, v, b14, b15⟩) a2, a3, a4, a5, a6, a7, a8, a9, a10, a11, a12, a13, a14, a15⟩) e⟩
  | 14 => ⟨fun e => e.a2.a14, fun e v => R16.rec (motive := fun _ => E) (fun a0 a1 a2 a3 a4 a5 a6 a7 a8 a9 a10 a11 a12 a13 a14 a15 => ⟨a0, a1, R16.rec (motive := fun _ => R16 AV) (fun b0 b1 b2 b3 b4 b5 b6 b7 b8 b9 b10 b11 b12 b13 b14 b15 => ⟨b0, b1, b2, b3, b4, b5, b6, b7, b8, b9, b10, b11, b12, b13, v, b15⟩) a2, a3, a4, a5, a6, a7, a8, a9, a10, a11, a12, a13, a14, a15⟩) e⟩
  | _ => ⟨fun e => e.a2.a15, fun e v => R16.rec (motive := fun _ => E) (fun a0 a1 a2 a3 a4 a5 a6 a7 a8 a9 a10 a11 a12 a13 a14 a15 => ⟨a0, a1, R16.rec (motive := fun _ => R16 AV) (fun b0 b1 b2 b3 b4 b5 b6 b7 b8 b9 b10 b11 b12 b13 b14 b15 => ⟨b0, b1, b2, b3, b4, b5, b6, b7, b8, b9, b10, b11, b12, b13, b14, v⟩) a2, a3, a4, a5, a6, a7, a8, a9, a10, a11, a12, a13, a14, a15⟩) e⟩
noncomputable def gg3 (n : Nat) : GG := match n with
  | 0 => ⟨fun e => e.a3.a0, fun e v => R16.rec (motive := fun _ => E) (fun a0 a1 a2 a3 a4 a5 a6 a7 a8 a9 a10 a11 a12 a13 a14 a15 => ⟨a0, a1, a2, R16.rec (motive := fun _ => R16 AV) (fun b0 b1 b2 b3 b4 b5 b6 b7 b8 b9 b10 b11 b12 b13 b14 b15 => ⟨v, b1, b2, b3, b4, b5, b6, b7, b8, b9, b10, b11, b12, b13, b14, b15⟩) a3, a4, a5, a6, a7, a8, a9, a10, a11, a12, a13, a14, a15⟩) e⟩
  | 1 => ⟨fun e => e.a3.a1, fun e v => R16.rec (motive := fun _ => E) (fun a0 a1 a2 a3 a4 a5 a6 a7 a8 a9 a10 a11 a12 a13 a14 a15 => ⟨a0, a1, a2, R16.rec (motive := fun _ => R16 AV) (fun b0 b1 b2 b3 b4 b5 b6 b7 b8 b9 b10 b11 b12 b13 b14 b15 => ⟨b0, v, b2, b3, b4, b5, b6, b7, b8, b9, b10, b11, b12, b13, b14, b15⟩) a3, a4, a5, a6, a7, a8, a9, a10, a11, a12, a13, a14, a15⟩) e⟩
  | 2 => ⟨fun e => e.a3.a2, fun e v => R16.rec (motive := fun _ => E) (fun a0 a1 a2 a3 a4 a5 a6 a7 a8 a9 a10 a11 a12 a13 a14 a15 => ⟨a0, a1, a2, R16.rec (motive := fun _ => R16 AV) (fun b0 b1 b2 b3 b4 b5 b6 b7 b8 b9 b10 b11 b12 b13 b14 b15 => ⟨b0, b1, v, b3, b4, b5, b6, b7, b8, b9, b10, b11, b12, b13, b14, b15⟩) a3, a4, a5, a6, a7, a8, a9, a10, a11, a12, a13, a14, a15⟩) e⟩
  | 3 => ⟨fun e => e.a3.a3, fun e v => R16.rec (motive := fun _ => E) (fun a0 a1 a2 a3 a4 a5 a6 a7 a8 a9 a10 a11 a12 a13 a14 a15 => ⟨a0, a1, a2, R16.rec (motive := fun _ => R16 AV) (fun b0 b1 b2 b3 b4 b5 b6 b7 b8 b9 b10 b11 b12 b13 b14 b15 => ⟨b0, b1, b2, v, b4, b5, b6, b7, b8, b9, b10, b11, b12, b13, b14, b15⟩) a3, a4, a5, a6, a7, a8, a9, a10, a11, a12, a13, a14, a15⟩) e⟩
  | 4 => ⟨fun e => e.a3.a4, fun e v => R16.rec (motive := fun _ => E) (fun a0 a1 a2 a3 a4 a5 a6 a7 a8 a9 a10 a11 a12 a13 a14 a15 => ⟨a0, a1, a2, R16.rec (motive := fun _ => R16 AV) (fun b0 b1 b2 b3 b4 b5 b6 b7 b8 b9 b10 b11 b12 b13 b14 b15 => ⟨b0, b1, b2, b3, v, b5, b6, b7, b8, b9, b10, b11, b12, b13, b14, b15⟩) a3, a4, a5, a6, a7, a8, a9, a10, a11, a12, a13, a14, a15⟩) e⟩
  | 5 => ⟨fun e => e.a3.a5, fun e v => R16.rec (motive := fun _ => E) (fun a0 a1 a2 a3 a4 a5 a6 a7 a8 a9 a10 a11 a12 a13 a14 a15 => ⟨a0, a1, a2, R16.rec (motive := fun _ => R16 AV) (fun b0 b1 b2 b3 b4 b5 b6 b7 b8 b9 b10 b11 b12 b13 b14 b15 => ⟨b0, b1, b2, b3, b4, v, b6, b7, b8, b9, b10, b11, b12, b13, b14, b15⟩) a3, a4, a5, a6, a7, a8, a9, a10, a11, a12, a13, a14, a15⟩) e⟩
  | 6 => ⟨fun e => e.a3.a6, fun e v => R16.rec (motive := fun _ => E) (fun a0 a1 a2 a3 a4 a5 a6 a7 a8 a9 a10 a11 a12 a13 a14 a15 => ⟨a0, a1, a2, R16.rec (motive := fun _ => R16 AV) (fun b0 b1 b2 b3 b4 b5 b6 b7 b8 b9 b10 b11 b12 b13 b14 b15 => ⟨b0, b1, b2, b3, b4, b5, v, b7, b8, b9, b10, b11, b12, b13, b14, b15⟩) a3, a4, a5, a6, a7, a8, a9, a10, a11, a12, a13, a14, a15⟩) e⟩
  | 7 => ⟨fun e => e.a3.a7, fun e v => R16.rec (motive := fun _ => E) (fun a0 a1 a2 a3 a4 a5 a6 a7 a8 a9 a10 a11 a12 a13 a14 a15 => ⟨a0, a1, a2, R16.rec (motive := fun _ => R16 AV) (fun b0 b1 b2 b3 b4 b5 b6 b7 b8 b9 b10 b11 b12 b13 b14 b15 => ⟨b0, b1, b2, b3, b4, b5, b6, v, b8, b9, b10, b11, b12, b13, b14, b15⟩) a3, a4, a5, a6, a7, a8, a9, a10, a11, a12, a13, a14, a15⟩) e⟩
  | 8 => ⟨fun e => e.a3.a8, fun e v => R16.rec (motive := fun _ => E) (fun a0 a1 a2 a3 a4 a5 a6 a7 a8 a9 a10 a11 a12 a13 a14 a15 => ⟨a0, a1, a2, R16.rec (motive := fun _ => R16 AV) (fun b0 b1 b2 b3 b4 b5 b6 b7 b8 b9 b10 b11 b12 b13 b14 b15 => ⟨b0, b1, b2, b3, b4, b5, b6, b7, v, b9, b10, b11, b12, b13, b14, b15⟩) a3, a4, a5, a6, a7, a8, a9, a10, a11, a12, a13, a14, a15⟩) e⟩
  | 9 => ⟨fun e => e.a3.a9, fun e v => R16.rec (motive := fun _ => E) (fun a0 a1 a2 a3 a4 a5 a6 a7 a8 a9 a10 a11 a12 a13 a14 a15 => ⟨a0, a1, a2, R16.rec (motive := fun _ => R16 AV) (fun b0 b1 b2 b3 b4 b5 b6 b7 b8 b9 b10 b11 b12 b13 b14 b15 => ⟨b0, b1, b2, b3, b4, b5, b6, b7, b8, v, b10, b11, b12, b13, b14, b15⟩) a3, a4, a5, a6, a7, a8, a9, a10, a11, a12, a13, a14, a15⟩) e⟩
  | 10 => ⟨fun e => e.a3.a10, fun e v => R16.rec (motive := fun _ => E) (fun a0 a1 a2 a3 a4 a5 a6 a7 a8 a9 a10 a11 a12 a13 a14 a15 => ⟨a0, a1, a2, R16.rec (motive := fun _ => R16 AV) (fun b0 b1 b2 b3 b4 b5 b6 b7 b8 b9 b10 b11 b12 b13 b14 b15 => ⟨b0, b1, b2, b3, b4, b5, b6, b7, b8, b9, v, b11, b12, b13, b14, b15⟩) a3, a4, a5, a6, a7, a8, a9, a10, a11, a12, a13, a14, a15⟩) e⟩
  | 11 => ⟨fun e => e.a3.a11, fun e v => R16.rec (motive := fun _ => E) (fun a0 a1 a2 a3 a4 a5 a6 a7 a8 a9 a10 a11 a12 a13 a14 a15 => ⟨a0, a1, a2, R16.rec (motive := fun _ => R16 AV) (fun b0 b1 b2 b3 b4 b5 b6 b7 b8 b9 b10 b11 b12 b13 b14 b15 => ⟨b0, b1, b2, b3, b4, b5, b6, b7, b8, b9, b10, v, b12, b13, b14, b15⟩) a3, a4, a5, a6, a7, a8, a9, a10, a11, a12, a13, a14, a15⟩) e⟩
  | 12 => ⟨fun e => e.a3.a12, fun e v => R16.rec (motive := fun _ => E) (fun a0 a1 a2 a3 a4 a5 a6 a7 a8 a9 a10 a11 a12 a13 a14 a15 => ⟨a0, a1, a2, R16.rec (motive := fun _ => R16 AV) (fun b0 b1 b2 b3 b4 b5 b6 b7 b8 b9 b10 b11 b12 b13 b14 b15 => ⟨b0, b1, b2, b3, b4, b5, b6, b7, b8, b9, b10, b11, v, b13, b14, b15⟩) a3, a4, a5, a6, a7, a8, a9, a10, a11, a12, a13, a14, a15⟩) e⟩
  | 13 => ⟨fun e => e.a3.a13, fun e v => R16.rec (motive := fun _ => E) (fun a0 a1 a2 a3 a4 a5 a6 a7 a8 a9 a10 a11 a12 a13 a14 a15 => ⟨a0, a1, a2, R16.rec (motive := fun _ => R16 AV) (fun b0 b1 b2 b3 b4 b5 b6 b7 b8 b9 b10 b11 b12 b13 b14 b15 => ⟨b0, b1, b2, b3, b4, b5, b6, b7, b8, b9, b10, b11, b12, v, b14, b15⟩) a3, a4, a5, a6, a7, a8, a9, a10, a11, a12, a13, a14, a15⟩) e⟩
  | 14 => ⟨fun e => e.a3.a14, fun e v => R16.rec (motive := fun _ => E) (fun a0 a1 a2 a3 a4 a5 a6 a7 a8 a9 a10 a11 a12 a13 a14 a15 => ⟨a0, a1, a2, R16.rec (motive := fun _ => R16 AV) (fun b0 b1 b2 b3 b4 b5 b6 b7 b8 b9 b10 b11 b12 b13 b14 b15 => ⟨b0, b1, b2, b3, b4, b5, b6, b7, b8, b9, b10, b11, b12, b13, v, b15⟩) a3, a4, a5, a6, a7, a8, a9, a10, a11, a12, a13, a14, a15⟩) e⟩
  | _ => ⟨fun e => e.a3.a15, fun e v => R16.rec (motive := fun _ => E) (fun a0 a1 a2 a3 a4 a5 a6 a7 a8 a9 a10 a11 a12 a13 a14 a15 => ⟨a0, a1, a2, R16.rec (motive := fun _ => R16 AV) (fun b0 b1 b2 b3 b4 b5 b6 b7 b8 b9 b10 b11 b12 b13 b14 b15 => ⟨b0, b1, b2, b3, b4, b5, b6, b7, b8, b9, b10, b11, b12, b13, b14, v⟩) a3, a4, a5, a6, a7, a8, a9, a10, a11, a12, a13, a14, a15⟩) e⟩
noncomputable def gg4 (n : Nat) : GG := match n with
  | 0 => ⟨fun e => e.a4.a0, fun e v => R16.rec (motive := fun _ => E) (fun a0 a1 a2 a3 a4 a5 a6 a7 a8 a9 a10 a11 a12 a13 a14 a15 => ⟨a0, a1, a2, a3, R16.rec (motive := fun _ => R16 AV) (fun b0 b1 b2 b3 b4 b5 b6 b7 b8 b9 b10 b11 b12 b13 b14 b15 => ⟨v, b1, b2, b3, b4, b5, b6, b7, b8, b9, b10, b11, b12, b13, b14, b15⟩) a4, a5, a6, a7, a8, a9, a10, a11, a12, a13, a14, a15⟩) e⟩
  | 1 => ⟨fun e => e.a4.a1, fun e v => R16.rec (motive := fun _ => E) (fun a0 a1 a2 a3 a4 a5 a6 a7 a8 a9 a10 a11 a12 a13 a14 a15 => ⟨a0, a1, a2, a3, R16.rec (motive := fun _ => R16 AV) (fun b0 b1 b2 b3 b4 b5 b6 b7 b8 b9 b10 b11 b12 b13 b14 b15 => ⟨b0, v, b2, b3, b4, b5, b6, b7, b8, b9, b10, b11, b12, b13, b14, b15⟩) a4, a5, a6, a7, a8, a9, a10, a11, a12, a13, a14, a15⟩) e⟩
  | 2 => ⟨fun e => e.a4.a2, fun e v => R16.rec (motive := fun _ => E) (fun a0 a1 a2 a3 a4 a5 a6 a7 a8 a9 a10 a11 a12 a13 a14 a15 => ⟨a0, a1, a2, a3, R16.rec (motive := fun _ => R16 AV) (fun b0 b1 b2 b3 b4 b5 b6 b7 b8 b9 b10 b11 b12 b13 b14 b15 => ⟨b0, b1, v, b3, b4, b5, b6, b7, b8, b9, b10, b11, b12, b13, b14, b15⟩) a4, a5, a6, a7, a8, a9, a10, a11, a12, a13, a14, a15⟩) e⟩
  | 3 => ⟨fun e => e.a4.a3, fun e v => R16.rec (motive := fun _ => E) (fun a0 a1 a2 a3 a4 a5 a6 a7 a8 a9 a10 a11 a12 a13 a14 a15 => ⟨a0, a1, a2, a3, R16.rec (motive := fun _ => R16 AV) (fun b0 b1 b2 b3 b4 b5 b6 b7 b8 b9 b10 b11 b12 b13 b14 b15 => ⟨b0, b1, b2, v, b4, b5, b6, b7, b8, b9, b10, b11, b12, b13, b14, b15⟩) a4, a5, a6, a7, a8, a9, a10, a11, a12, a13, a14, a15⟩) e⟩
  | 4 => ⟨fun e => e.a4.a4, fun e v => R16.rec (motive := fun _ => E) (fun a0 a1 a2 a3 a4 a5 a6 a7 a8 a9 a10 a11 a12 a13 a14 a15 => ⟨a0, a1, a2, a3, R16.rec (motive := fun _ => R16 AV) (fun b0 b1 b2 b3 b4 b5 b6 b7 b8 b9 b10 b11 b12 b13 b14 b15 => ⟨b0, b1, b2, b3, v, b5, b6, b7, b8, b9, b10, b11, b12, b13, b14, b15⟩) a4, a5, a6, a7, a8, a9, a10, a11, a12, a13, a14, a15⟩) e⟩
  | 5 => ⟨fun e => e.a4.a5, fun e v => R16.rec (motive := fun _ => E) (fun a0 a1 a2 a3 a4 a5 a6 a7 a8 a9 a10 a11 a12 a13 a14 a15 => ⟨a0, a1, a2, a3, R16.rec (motive := fun _ => R16 AV) (fun b0 b1 b2 b3 b4 b5 b6 b7 b8 b9 b10 b11 b12 b13 b14 b15 => ⟨b0, b1, b2, b3, b4, v, b6, b7, b8, b9, b10, b11, b12, b13, b14, b15⟩) a4, a5, a6, a7, a8, a9, a10, a11, a12, a13, a14, a15⟩) e⟩
  | 6 => ⟨fun e => e.a4.a6, fun e v => R16.rec (motive := fun _ => E) (fun a0 a1 a2 a3 a4 a5 a6 a7 a8 a9 a10 a11 a12 a13 a14 a15 => ⟨a0, a1, a2, a3, R16.rec (motive := fun _ => R16 AV) (fun b0 b1 b2 b3 b4 b5 b6 b7 b8 b9 b10 b11 b12 b13 b14 b15 => ⟨b0, b1, b2, b3, b4, b5, v, b7, b8, b9, b10, b11, b12, b13, b14, b15⟩) a4, a5, a6, a7, a8, a9, a10, a11, a12, a13, a14, a15⟩) e⟩
  | 7 => ⟨fun e => e.a4.a7, fun e v => R16.rec (motive := fun _ => E) (fun a0 a1 a2 a3 a4 a5 a6 a7 a8 a9 a10 a11 a12 a13 a14 a15 => ⟨a0, a1, a2, a3, R16.rec (motive := fun _ => R16 AV) (fun b0 b1 b2 b3 b4 b5 b6 b7 b8 b9 b10 b11 b12 b13 b14 b15 => ⟨b0, b1, b2, b3, b4, b5, b6, v, b8, b9, b10, b11, b12, b13, b14, b15⟩) a4, a5, a6, a7, a8, a9, a10, a11, a12, a13, a14, a15⟩) e⟩
  | 8 => ⟨fun e => e.a4.a8, fun e v => R16.rec (motive := fun _ => E) (fun a0 a1 a2 a3 a4 a5 a6 a7 a8 a9 a10 a11 a12 a13 a14 a15 => ⟨a0, a1, a2, a3, R16.rec (motive := fun _ => R16 AV) (fun b0 b1 b2 b3 b4 b5 b6 b7 b8 b9 b10 b11 b12 b13 b14 b15 => ⟨b0, b1, b2, b3, b4, b5, b6, b7, v, b9, b10, b11, b12, b13, b14, b15⟩) a4, a5, a6, a7, a8, a9, a10, a11, a12, a13, a14, a15⟩) e⟩
  | 9 => ⟨fun e => e.a4.a9, fun e v => R16.rec (motive := fun _ => E) (fun a0 a1 a2 a3 a4 a5 a6 a7 a8 a9 a10 a11 a12 a13 a14 a15 => ⟨a0, a1, a2, a3, R16.rec (motive := fun _ => R16 AV) (fun b0 b1 b2 b3 b4 b5 b6 b7 b8 b9 b10 b11 b12 b13 b14 b15 => ⟨b0, b1, b2, b3, b4, b5, b6, b7, b8, v, b10, b11, b12, b13, b14, b15⟩) a4, a5, a6, a7, a8, a9, a10, a11, a12, a13, a14, a15⟩) e⟩
  | 10 => ⟨fun e => e.a4.a10, fun e v => R16.rec (motive := fun _ => E) (fun a0 a1 a2 a3 a4 a5 a6 a7 a8 a9 a10 a11 a12 a13 a14 a15 => ⟨a0, a1, a2, a3, R16.rec (motive := fun _ => R16 AV) (fun b0 b1 b2 b3 b4 b5 b6 b7 b8 b9 b10 b11 b12 b13 b14 b15 => ⟨b0, b1, b2, b3, b4, b5, b6, b7, b8, b9, v, b11, b12, b13, b14, b15⟩) a4, a5, a6, a7, a8, a9, a10, a11, a12, a13, a14, a15⟩) e⟩
  | 11 => ⟨fun e => e.a4.a11, fun e v => R16.rec (motive := fun _ => E) (fun a0 a1 a2 a3 a4 a5 a6 a7 a8 a9 a10 a11 a12 a13 a14 a15 => ⟨a0, a1, a2, a3, R16.rec (motive := fun _ => R16 AV) (fun b0 b1 b2 b3 b4 b5 b6 b7 b8 b9 b10 b11 b12 b13 b14 b15 => ⟨b0, b1, b2, b3, b4, b5, b6, b7, b8, b9, b10, v, b12, b13, b14, b15⟩) a4, a5, a6, a7, a8, a9, a10, a11, a12, a13, a14, a15⟩) e⟩
  | 12 => ⟨fun e => e.a4.a12, fun e v => R16.rec (motive := fun _ => E) (fun a0 a1 a2 a3 a4 a5 a6 a7 a8 a9 a10 a11 a12 a13 a14 a15 => ⟨a0, a1, a2, a3, R16.rec (motive := fun _ => R16 AV) (fun b0 b1 b2 b3 b4 b5 b6 b7 b8 b9 b10 b11 b12 b13 b14 b15 => ⟨b0, b1, b2, b3, b4, b5, b6, b7, b8, b9, b10, b11, v, b13, b14, b15⟩) a4, a5, a6, a7, a8, a9, a10, a11, a12, a13, a14, a15⟩) e⟩
  | 13 => ⟨fun e => e.a4.a13, fun e v => R16.rec (motive := fun _ => E) (fun a0 a1 a2 a3 a4 a5 a6 a7 a8 a9 a10 a11 a12 a13 a14 a15 => ⟨a0, a1, a2, a3, R16.rec (motive := fun _ => R16 AV) (fun b0 b1 b2 b3 b4 b5 b6 b7 b8 b9 b10 b11 b12 b13 b14 b15 => ⟨b0, b1, b2, b3, b4, b5, b6, b7, b8, b9, b10, b11, b12, v, b14, b15⟩) a4, a5, a6, a7, a8, a9, a10, a11, a12, a13, a14, a15⟩) e⟩
  | 14 => ⟨fun e => e.a4.a14, fun e v => R16.rec (motive := fun _ => E) (fun a0 a1 a2 a3 a4 a5 a6 a7 a8 a9 a10 a11 a12 a13 a14 a15 => ⟨a0, a1, a2, a3, R16.rec (motive := fun _ => R16 AV) (fun b0 b1 b2 b3 b4 b5 b6 b7 b8 b9 b10 b11 b12 b13 b14 b15 => ⟨b0, b1, b2, b3, b4, b5, b6, b7, b8, b9, b10, b11, b12, b13, v, b15⟩) a4, a5, a6, a7, a8, a9, a10, a11, a12, a13, a14, a15⟩) e⟩
  | _ => ⟨fun e => e.a4.a15, fun e v => R16.rec (motive := fun _ => E) (fun a0 a1 a2 a3 a4 a5 a6 a7 a8 a9 a10 a11 a12 a13 a14 a15 => ⟨a0, a1, a2, a3, R16.rec (motive := fun _ => R16 AV) (fun b0 b1 b2 b3 b4 b5 b6 b7 b8 b9 b10 b11 b12 b13 b14 b15 => ⟨b0, b1, b2, b3, b4, b5, b6, b7, b8, b9, b10, b11, b12, b13, b14, v⟩) a4, a5, a6, a7, a8, a9, a10, a11, a12, a13, a14, a15⟩) e⟩
noncomputable def gg5 (n : Nat) : GG := match n with
  | 0 => ⟨fun e => e.a5.a0, fun e v => R16.rec (motive := fun _ => E) (fun a0 a1 a2 a3 a4 a5 a6 a7 a8 a9 a10 a11 a12 a13 a14 a15 => ⟨a0, a1, a2, a3, a4, R16.rec (motive := fun _ => R16 AV) (fun b0 b1 b2 b3 b4 b5 b6 b7 b8 b9 b10 b11 b12 b13 b14 b15 => ⟨v, b1, b2, b3, b4, b5, b6, b7, b8, b9, b10, b11, b12, b13, b14, b15⟩) a5, a6, a7, a8, a9, a10, a11, a12, a13, a14, a15⟩) e⟩
  | 1 => ⟨fun e => e.a5.a1, fun e v => R16.rec (motive := fun _ => E) (fun a0 a1 a2 a3 a4 a5 a6 a7 a8 a9 a10 a11 a12 a13 a14 a15 => ⟨a0, a1, a2, a3, a4, R16.rec (motive := fun _ => R16 AV) (fun b0 b1 b2 b3 b4 b5 b6 b7 b8 b9 b10 b11 b12 b13 b14 b15 => ⟨b0, v, b2, b3, b4, b5, b6, b7, b8, b9, b10, b11, b12, b13, b14, b15⟩) a5, a6, a7, a8, a9, a10, a11, a12, a13, a14, a15⟩) e⟩
  | 2 => ⟨fun e => e.a5.a2, fun e v => R16.rec (motive := fun _ => E) (fun a0 a1 a2 a3 a4 a5 a6 a7 a8 a9 a10 a11 a12 a13 a14 a15 => ⟨a0, a1, a2, a3, a4, R16.rec (motive := fun _ => R16 AV) (fun b0 b1 b2 b3 b4 b5 b6 b7 b8 b9 b10 b11 b12 b13 b14 b15 => ⟨b0, b1, v, b3, b4, b5, b6, b7, b8, b9, b10, b11, b12, b13, b14, b15⟩) a5, a6, a7, a8, a9, a10, a11, a12, a13, a14, a15⟩) e⟩
  | 3 => ⟨fun e => e.a5.a3, fun e v => R16.rec (motive := fun _ => E) (fun a0 a1 a2 a3 a4 a5 a6 a7 a8 a9 a10 a11 a12 a13 a14 a15 => ⟨a0, a1, a2, a3, a4, R16.rec (motive := fun _ => R16 AV) (fun b0 b1 b2 b3 b4 b5 b6 b7 b8 b9 b10 b11 b12 b13 b14 b15 => ⟨b0, b1, b2, v, b4, b5, b6, b7, b8, b9, b10, b11, b12, b13, b14, b15⟩) a5, a6, a7, a8, a9, a10, a11, a12, a13, a14, a15⟩) e⟩
  | 4 => ⟨fun e => e.a5.a4, fun e v => R16.rec (motive := fun _ => E) (fun a0 a1 a2 a3 a4 a5 a6 a7 a8 a9 a10 a11 a12 a13 a14 a15 => ⟨a0, a1, a2, a3, a4, R16.rec (motive := fun _ => R16 AV) (fun b0 b1 b2 b3 b4 b5 b6 b7 b8 b9 b10 b11 b12 b13 b14 b15 => ⟨b0, b1, b2, b3, v, b5, b6, b7, b8, b9, b10, b11, b12, b13, b14, b15⟩) a5, a6, a7, a8, a9, a10, a11, a12, a13, a14, a15⟩) e⟩
  | 5 => ⟨fun e => e.a5.a5, fun e v => R16.rec (motive := fun _ => E) (fun a0 a1 a2 a3 a4 a5 a6 a7 a8 a9 a10 a11 a12 a13 a14 a15 => ⟨a0, a1, a2, a3, a4, R16.rec (motive := fun _ => R16 AV) (fun b0 b1 b2 b3 b4 b5 b6 b7 b8 b9 b10 b11 b12 b13 b14 b15 => ⟨b0, b1, b2, b3, b4, v, b6, b7, b8, b9, b10, b11, b12, b13, b14, b15⟩) a5, a6, a7, a8, a9, a10, a11, a12, a13, a14, a15⟩) e⟩
  | 6 => ⟨fun e => e.a5.a6, fun e v => R16.rec (motive := fun _ => E) (fun a0 a1 a2 a3 a4 a5 a6 a7 a8 a9 a10 a11 a12 a13 a14 a15 => ⟨a0, a1, a2, a3, a4, R16.rec (motive := fun _ => R16 AV) (fun b0 b1 b2 b3 b4 b5 b6 b7 b8 b9 b10 b11 b12 b13 b14 b15 => ⟨b0, b1, b2, b3, b4, b5, v, b7, b8, b9, b10, b11, b12, b13, b14, b15⟩) a5, a6, a7, a8, a9, a10, a11, a12, a13, a14, a15⟩) e⟩
  | 7 => ⟨fun e => e.a5.a7, fun e v => R16.rec (motive := fun _ => E) (fun a0 a1 a2 a3 a4 a5 a6 a7 a8 a9 a10 a11 a12 a13 a14 a15 => ⟨a0, a1, a2, a3, a4, R16.rec (motive := fun _ => R16 AV) (fun b0 b1 b2 b3 b4 b5 b6 b7 b8 b9 b10 b11 b12 b13 b14 b15 => ⟨b0, b1, b2, b3, b4, b5, b6, v, b8, b9, b10, b11, b12, b13, b14, b15⟩) a5, a6, a7, a8, a9, a10, a11, a12, a13, a14, a15⟩) e⟩
  | 8 => ⟨fun e => e.a5.a8, fun e v => R16.rec (motive := fun _ => E) (fun a0 a1 a2 a3 a4 a5 a6 a7 a8 a9 a10 a11 a12 a13 a14 a15 => ⟨a0, a1, a2, a3, a4, R16.rec (motive := fun _ => R16 AV) (fun b0 b1 b2 b3 b4 b5 b6 b7 b8 b9 b10 b11 b12 b13 b14 b15 => ⟨b0, b1, b2, b3, b4, b5, b6, b7, v, b9, b10, b11, b12, b13, b14, b15⟩) a5, a6, a7, a8, a9, a10, a11, a12, a13, a14, a15⟩) e⟩
  | 9 => ⟨fun e => e.a5.a9, fun e v => R16.rec (motive := fun _ => E) (fun a0 a1 a2 a3 a4 a5 a6 a7 a8 a9 a10 a11 a12 a13 a14 a15 => ⟨a0, a1, a2, a3, a4, R16.rec (motive := fun _ => R16 AV) (fun b0 b1 b2 b3 b4 b5 b6 b7 b8 b9 b10 b11 b12 b13 b14 b15 => ⟨b0, b1, b2, b3, b4, b5, b6, b7, b8, v, b10, b11, b12, b13, b14, b15⟩) a5, a6, a7, a8, a9, a10, a11, a12, a13, a14, a15⟩) e⟩
  | 10 => ⟨fun e => e.a5.a10, fun e v => R16.rec (motive := fun _ => E) (fun a0 a1 a2 a3 a4 a5 a6 a7 a8 a9 a10 a11 a12 a13 a14 a15 => ⟨a0, a1, a2, a3, a4, R16.rec (motive := fun _ => R16 AV) (fun b0 b1 b2 b3 b4 b5 b6 b7 b8 b9 b10 b11 b12 b13 b14 b15 => ⟨b0, b1, b2, b3, b4, b5, b6, b7, b8, b9, v, b11, b12, b13, b14, b15⟩) a5, a6, a7, a8, a9, a10, a11, a12, a13, a14, a15⟩) e⟩
  | 11 => ⟨fun e => e.a5.a11, fun e v => R16.rec (motive := fun _ => E) (fun a0 a1 a2 a3 a4 a5 a6 a7 a8 a9 a10 a11 a12 a13 a14 a15 => ⟨a0, a1, a2, a3, a4, R16.rec (motive := fun _ => R16 AV) (fun b0 b1 b2 b3 b4 b5 b6 b7 b8 b9 b10 b11 b12 b13 b14 b15 => ⟨b0, b1, b2, b3, b4, b5, b6, b7, b8, b9, b10, v, b12, b13, b14, b15⟩) a5, a6, a7, a8, a9, a10, a11, a12, a13, a14, a15⟩) e⟩
  | 12 => ⟨fun e => e.a5.a12, fun e v => R16.rec (motive := fun _ => E) (fun a0 a1 a2 a3 a4 a5 a6 a7 a8 a9 a10 a11 a12 a13 a14 a15 => ⟨a0, a1, a2, a3, a4, R16.rec (motive := fun _ => R16 AV) (fun b0 b1 b2 b3 b4 b5 b6 b7 b8 b9 b10 b11 b12 b13 b14 b15 => ⟨b0, b1, b2, b3, b4, b5, b6, b7, b8, b9, b10, b11, v, b13, b14, b15⟩) a5, a6, a7, a8, a9, a10, a11, a12, a13, a14, a15⟩) e⟩
  | 13 => ⟨fun e => e.a5.a13, fun e v => R16.rec (motive := fun _ => E) (fun a0 a1 a2 a3 a4 a5 a6 a7 a8 a9 a10 a11 a12 a13 a14 a15 => ⟨a0, a1, a2, a3, a4, R16.rec (motive := fun _ => R16 AV) (fun b0 b1 b2 b3 b4 b5 b6 b7 b8 b9 b10 b11 b12 b13 b14 b15 => ⟨b0, b1, b2, b3, b4, b5, b6, b7, b8, b9, b10, b11, b12, v, b14, b15⟩) a5, a6, a7, a8, a9, a10, a11, a12, a13, a14, a15⟩) e⟩
  | 14 => ⟨fun e => e.a5.a14, fun e v => R16.rec (motive := fun _ => E) (fun a0 a1 a2 a3 a4 a5 a6 a7 a8 a9 a10 a11 a12 a13 a14 a15 => ⟨a0, a1, a2, a3, a4, R16.rec (motive := fun _ => R16 AV) (fun b0 b1 b2 b3 b4 b5 b6 b7 b8 b9 b10 b11 b12 b13 b14 b15 => ⟨b0, b1, b2, b3, b4, b5, b6, b7, b8, b9, b10, b11, b12, b13, v, b15⟩) a5, a6, a7, a8, a9, a10, a11, a12, a13, a14, a15⟩) e⟩
  | _ => ⟨fun e => e.a5.a15, fun e v => R16.rec (motive := fun _ => E) (fun a0 a1 a2 a3 a4 a5 a6 a7 a8 a9 a10 a11 a12 a13 a14 a15 => ⟨a0, a1, a2, a3, a4, R16.rec (motive := fun _ => R16 AV) (fun b0 b1 b2 b3 b4 b5 b6 b7 b8 b9 b10 b11 b12 b13 b14 b15 => ⟨b0, b1, b2, b3, b4, b5, b6, b7, b8, b9, b10, b11, b12, b13, b14, v⟩) a5, a6, a7, a8, a9, a10, a11, a12, a13, a14, a15⟩) e⟩
noncomputable def gg6 (n : Nat) : GG := match n with
  | 0 => ⟨fun e => e.a6.a0, fun e v => R16.rec (motive := fun _ => E) (fun a0 a1 a2 a3 a4 a5 a6 a7 a8 a9 a10 a11 a12 a13 a14 a15 => ⟨a0, a1, a2, a3, a4, a5, R16.rec (motive := fun _ => R16 AV) (fun b0 b1 b2 b3 b4 b5 b6 b7 b8 b9 b10 b11 b12 b13 b14 b15 => ⟨v, b1, b2, b3, b4, b5, b6, b7, b8, b9, b10, b11, b12, b13, b14, b15⟩) a6, a7, a8, a9, a10, a11, a12, a13, a14, a15⟩) e⟩
  | 1 => ⟨fun e => e.a6.a1, fun e v => R16.rec (motive := fun _ => E) (fun a0 a1 a2 a3 a4 a5 a6 a7 a8 a9 a10 a11 a12 a13 a14 a15 => ⟨a0, a1, a2, a3, a4, a5, R16.rec (motive := fun _ => R16 AV) (fun b0 b1 b2 b3 b4 b5 b6 b7 b8 b9 b10 b11 b12 b13 b14 b15 => ⟨b0, v, b2, b3, b4, b5, b6, b7, b8, b9, b10, b11, b12, b13, b14, b15⟩) a6, a7, a8, a9, a10, a11, a12, a13, a14, a15⟩) e⟩
  | 2 => ⟨fun e => e.a6.a2, fun e v => R16.rec (motive := fun _ => E) (fun a0 a1 a2 a3 a4 a5 a6 a7 a8 a9 a10 a11 a12 a13 a14 a15 => ⟨a0, a1, a2, a3, a4, a5, R16.rec (motive := fun _ => R16 AV) (fun b0 b1 b2 b3 b4 b5 b6 b7 b8 b9 b10 b11 b12 b13 b14 b15 => ⟨b0, b1, v, b3, b4, b5, b6, b7, b8, b9, b10, b11, b12, b13, b14, b15⟩) a6, a7, a8, a9, a10, a11, a12, a13, a14, a15⟩) e⟩
  | 3 => ⟨fun e => e.a6.a3, fun e v => R16.rec (motive := fun _ => E) (fun a0 a1 a2 a3 a4 a5 a6 a7 a8 a9 a10 a11 a12 a13 a14 a15 => ⟨a0, a1, a2, a3, a4, a5, R16.rec (motive := fun _ => R16 AV) (fun b0 b1 b2 b3 b4 b5 b6 b7 b8 b9 b10 b11 b12 b13 b14 b15 => ⟨b0, b1, b2, v, b4, b5, b6, b7, b8, b9, b10, b11, b12, b13, b14, b15⟩) a6, a7, a8, a9, a10, a11, a12, a13, a14, a15⟩) e⟩
  | 4 => ⟨fun e => e.a6.a4, fun e v => R16.rec (motive := fun _ => E) (fun a0 a1 a2 a3 a4 a5 a6 a7 a8 a9 a10 a11 a12 a13 a14 a15 => ⟨a0, a1, a2, a3, a4, a5, R16.rec (motive := fun _ => R16 AV) (fun b0 b1 b2 b3 b4 b5 b6 b7 b8 b9 b10 b11 b12 b13 b14 b15 => ⟨b0, b1, b2, b3, v, b5, b6, b7, b8, b9, b10, b11, b12, b13, b14, b15⟩) a6, a7, a8, a9, a10, a11, a12, a13, a14, a15⟩) e⟩
  | 5 => ⟨fun e => e.a6.a5, fun e v => R16.rec (motive := fun _ => E) (fun a0 a1 a2 a3 a4 a5 a6 a7 a8 a9 a10 a11 a12 a13 a14 a15 => ⟨a0, a1, a2, a3, a4, a5, R16.rec (motive := fun _ => R16 AV) (fun b0 b1 b2 b3 b4 b5 b6 b7 b8 b9 b10 b11 b12 b13 b14 b15 => ⟨b0, b1, b2, b3, b4, v, b6, b7, b8, b9, b10, b11, b12, b13, b14, b15⟩) a6, a7, a8, a9, a10, a11, a12, a13, a14, a15⟩) e⟩
  | 6 => ⟨fun e => e.a6.a6, fun e v => R16.rec (motive := fun _ => E) (fun a0 a1 a2 a3 a4 a5 a6 a7 a8 a9 a10 a11 a12 a13 a14 a15 => ⟨a0, a1, a2, a3, a4, a5, R16.rec (motive := fun _ => R16 AV) (fun b0 b1 b2 b3 b4 b5 b6 b7 b8 b9 b10 b11 b12 b13 b14 b15 => ⟨b0, b1, b2, b3, b4, b5, v, b7, b8, b9, b10, b11, b12, b13, b14, b15⟩) a6, a7, a8, a9, a10, a11, a12, a13, a14, a15⟩) e⟩
  | 7 => ⟨fun e => e.a6.a7, fun e v => R16.rec (motive := fun _ => E) (fun a0 a1 a2 a3 a4 a5 a6 a7 a8 a9 a10 a11 a12 a13 a14 a15 => ⟨a0, a1, a2, a3, a4, a5, R16.rec (motive := fun _ => R16 AV) (fun b0 b1 b2 b3 b4 b5 b6 b7 b8 b9 b10 b11 b12 b13 b14 b15 => ⟨b0, b1, b2, b3, b4, b5, b6, v, b8, b9, b10, b11, b12, b13, b14, b15⟩) a6, a7, a8, a9, a10, a11, a12, a13, a14, a15⟩) e⟩
  | 8 => ⟨fun e => e.a6.a8, fun e v => R16.rec (motive := fun _ => E) (fun a0 a1 a2 a3 a4 a5 a6 a7 a8 a9 a10 a11 a12 a13 a14 a15 => ⟨a0, a1, a2, a3, a4, a5, R16.rec (motive := fun _ => R16 AV) (fun b0 b1 b2 b3 b4 b5 b6 b7 b8 b9 b10 b11 b12 b13 b14 b15 => ⟨b0, b1, b2, b3, b4, b5, b6, b7, v, b9, b10, b11, b12, b13, b14, b15⟩) a6, a7, a8, a9, a10, a11, a12, a13, a14, a15⟩) e⟩
  | 9 => ⟨fun e => e.a6.a9, fun e v => R16.rec (motive := fun _ => E) (fun a0 a1 a2 a3 a4 a5 a6 a7 a8 a9 a10 a11 a12 a13 a14 a15 => ⟨a0, a1, a2, a3, a4, a5, R16.rec (motive := fun _ => R16 AV) (fun b0 b1 b2 b3 b4 b5 b6 b7 b8 b9 b10 b11 b12 b13 b14 b15 => ⟨b0, b1, b2, b3, b4, b5, b6, b7, b8, v, b10, b11, b12, b13, b14, b15⟩) a6, a7, a8, a9, a10, a11, a12, a13, a14, a15⟩) e⟩
  | 10 => ⟨fun e => e.a6.a10, fun e v => R16.rec (motive := fun _ => E) (fun a0 a1 a2 a3 a4 a5 a6 a7 a8 a9 a10 a11 a12 a13 a14 a15 => ⟨a0, a1, a2, a3, a4, a5, R16.rec (motive := fun _ => R16 AV) (fun b0 b1 b2 b3 b4 b5 b6 b7 b8 b9 b10 b11 b12 b13 b14 b15 => ⟨b0, b1, b2, b3, b4, b5, b6, b7, b8, b9, v, b11, b12, b13, b14, b15⟩) a6, a7, a8, a9, a10, a11, a12, a13, a14, a15⟩) e⟩
  | 11 => ⟨fun e => e.a6.a11, fun e v => R16.rec (motive := fun _ => E) (fun a0 a1 a2 a3 a4 a5 a6 a7 a8 a9 a10 a11 a12 a13 a14 a15 => ⟨a0, a1, a2, a3, a4, a5, R16.rec (motive := fun _ => R16 AV) (fun b0 b1 b2 b3 b4 b5 b6 b7 b8 b9 b10 b11 b12 b13 b14 b15 => ⟨b0, b1, b2, b3, b4, b5, b6, b7, b8, b9, b10, v, b12, b13, b14, b15⟩) a6, a7, a8, a9, a10, a11, a12, a13, a14, a15⟩) e⟩
  | 12 => ⟨fun e => e.a6.a12, fun e v => R16.rec (motive := fun _ => E) (fun a0 a1 a2 a3 a4 a5 a6 a7 a8 a9 a10 a11 a12 a13 a14 a15 => ⟨a0, a1, a2, a3, a4, a5, R16.rec (motive := fun _ => R16 AV) (fun b0 b1 b2 b3 b4 b5 b6 b7 b8 b9 b10 b11 b12 b13 b14 b15 => ⟨b0, b1, b2, b3, b4, b5, b6, b7, b8, b9, b10, b11, v, b13, b14, b15⟩) a6, a7, a8, a9, a10, a11, a12, a13, a14, a15⟩) e⟩
  | 13 => ⟨fun e => e.a6.a13, fun e v => R16.rec (motive := fun _ => E) (fun a0 a1 a2 a3 a4 a5 a6 a7 a8 a9 a10 a11 a12 a13 a14 a15 => ⟨a0, a1, a2, a3, a4, a5, R16.rec (motive := fun _ => R16 AV) (fun b0 b1 b2 b3 b4 b5 b6 b7 b8 b9 b10 b11 b12 b13 b14 b15 => ⟨b0, b1, b2, b3, b4, b5, b6, b7, b8, b9, b10, b11, b12, v, b14, b15⟩) a6, a7, a8, a9, a10, a11, a12, a13, a14, a15⟩) e⟩
  | 14 => ⟨fun e => e.a6.a14, fun e v => R16.rec (motive := fun _ => E) (fun a0 a1 a2 a3 a4 a5 a6 a7 a8 a9 a10 a11 a12 a13 a14 a15 => ⟨a0, a1, a2, a3, a4, a5, R16.rec (motive := fun _ => R16 AV) (fun b0 b1 b2 b3 b4 b5 b6 b7 b8 b9 b10 b11 b12 b13 b14 b15 => ⟨b0, b1, b2, b3, b4, b5, b6, b7, b8, b9, b10, b11, b12, b13, v, b15⟩) a6, a7, a8, a9, a10, a11, a12, a13, a14, a15⟩) e⟩
  | _ => ⟨fun e => e.a6.a15, fun e v => R16.rec (motive := fun _ => E) (fun a0 a1 a2 a3 a4 a5 a6 a7 a8 a9 a10 a11 a12 a13 a14 a15 => ⟨a0, a1, a2, a3, a4, a5, R16.rec (motive := fun _ => R16 AV) (fun b0 b1 b2 b3 b4 b5 b6 b7 b8 b9 b10 b11 b12 b13 b14 b15 => ⟨b0, b1, b2, b3, b4, b5, b6, b7, b8, b9, b10, b11, b12, b13, b14, v⟩) a6, a7, a8, a9, a10, a11, a12, a13, a14, a15⟩) e⟩
noncomputable def gg7 (n : Nat) : GG := match n with
  | 0 => ⟨fun e => e.a7.a0, fun e v => R16.rec (motive := fun _ => E) (fun a0 a1 a2 a3 a4 a5 a6 a7 a8 a9 a10 a11 a12 a13 a14 a15 => ⟨a0, a1, a2, a3, a4, a5, a6, R16.rec (motive := fun _ => R16 AV) (fun b0 b1 b2 b3 b4 b5 b6 b7 b8 b9 b10 b11 b12 b13 b14 b15 => ⟨v, b1, b2, b3, b4, b5, b6, b7, b8, b9, b10, b11, b12, b13, b14, b15⟩) a7, a8, a9, a10, a11, a12, a13, a14, a15⟩) e⟩
  | 1 => ⟨fun e => e.a7.a1, fun e v => R16.rec (motive := fun _ => E) (fun a0 a1 a2 a3 a4 a5 a6 a7 a8 a9 a10 a11 a12 a13 a14 a15 => ⟨a0, a1, a2, a3, a4, a5, a6, R16.rec (motive := fun _ => R16 AV) (fun b0 b1 b2 b3 b4 b5 b6 b7 b8 b9 b10 b11 b12 b13 b14 b15 => ⟨b0, v, b2, b3, b4, b5, b6, b7, b8, b9, b10, b11, b12, b13, b14, b15⟩) a7, a8, a9, a10, a11, a12, a13, a14, a15⟩) e⟩
  | 2 => ⟨fun e => e.a7.a2, fun e v => R16.rec (motive := fun _ => E) (fun a0 a1 a2 a3 a4 a5 a6 a7 a8 a9 a10 a11 a12 a13 a14 a15 => ⟨a0, a1, a2, a3, a4, a5, a6, R16.rec (motive := fun _ => R16 AV) (fun b0 b1 b2 b3 b4 b5 b6 b7 b8 b9 b10 b11 b12 b13 b14 b15 => ⟨b0, b1, v, b3, b4, b5, b6, b7, b8, b9, b10, b11, b12, b13, b14, b15⟩) a7, a8, a9, a10, a11, a12, a13, a14, a15⟩) e⟩
  | 3 => ⟨fun e => e.a7.a3, fun e v => R16.rec (motive := fun _ => E) (fun a0 a1 a2 a3 a4 a5 a6 a7 a8 a9 a10 a11 a12 a13 a14 a15 => ⟨a0, a1, a2, a3, a4, a5, a6, R16.rec (motive := fun _ => R16 AV) (fun b0 b1 b2 b3 b4 b5 b6 b7 b8 b9 b10 b11 b12 b13 b14 b15 => ⟨b0, b1, b2, v, b4, b5, b6, b7, b8, b9, b10, b11, b12, b13, b14, b15⟩) a7, a8, a9, a10, a11, a12, a13, a14, a15⟩) e⟩
  | 4 => ⟨fun e => e.a7.a4, fun e v => R16.rec (motive := fun _ => E) (fun a0 a1 a2 a3 a4 a5 a6 a7 a8 a9 a10 a11 a12 a13 a14 a15 => ⟨a0, a1, a2, a3, a4, a5, a6, R16.rec (motive := fun _ => R16 AV) (fun b0 b1 b2 b3 b4 b5 b6 b7 b8 b9 b10 b11 b12 b13 b14 b15 => ⟨b0, b1, b2, b3, v, b5, b6, b7, b8, b9, b10, b11, b12, b13, b14, b15⟩) a7, a8, a9, a10, a11, a12, a13, a14, a15⟩) e⟩
  | 5 => ⟨fun e => e.a7.a5, fun e v => R16.rec (motive := fun _ => E) (fun a0 a1 a2 a3 a4 a5 a6 a7 a8 a9 a10 a11 a12 a13 a14 a15 => ⟨a0, a1, a2, a3, a4, a5, a6, R16.rec (motive := fun _ => R16 AV) (fun b0 b1 b2 b3 b4 b5 b6 b7 b8 b9 b10 b11 b12 b13 b14 b15 => ⟨b0, b1, b2, b3, b4, v, b6, b7, b8, b9, b10, b11, b12, b13, b14, b15⟩) a7, a8, a9, a10, a11, a12, a13, a14, a15⟩) e⟩
  | 6 => ⟨fun e => e.a7.a6, fun e v => R16.rec (motive := fun _ => E) (fun a0 a1 a2 a3 a4 a5 a6 a7 a8 a9 a10 a11 a12 a13 a14 a15 => ⟨a0, a1, a2, a3, a4, a5, a6, R16.rec (motive := fun _ => R16 AV) (fun b0 b1 b2 b3 b4 b5 b6 b7 b8 b9 b10 b11 b12 b13 b14 b15 => ⟨b0, b1, b2, b3, b4, b5, v, b7, b8, b9, b10, b11, b12, b13, b14, b15⟩) a7, a8, a9, a10, a11, a12, a13, a14, a15⟩) e⟩
  | 7 => ⟨fun e => e.a7.a7, fun e v => R16.rec (motive := fun _ => E) (fun a0 a1 a2 a3 a4 a5 a6 a7 a8 a9 a10 a11 a12 a13 a14 a15 => ⟨a0, a1, a2, a3, a4, a5, a6, R16.rec (motive := fun _ => R16 AV) (fun b0 b1 b2 b3 b4 b5 b6 b7 b8 b9 b10 b11 b12 b13 b14 b15 => ⟨b0, b1, b2, b3, b4, b5, b6, v, b8, b9, b10, b11, b12, b13, b14, b15⟩) a7, a8, a9, a10, a11, a12, a13, a14, a15⟩) e⟩
  | 8 => ⟨fun e => e.a7.a8, fun e v => R16.rec (motive := fun _ => E) (fun a0 a1 a2 a3 a4 a5 a6 a7 a8 a9 a10 a11 a12 a13 a14 a15 => ⟨a0, a1, a2, a3, a4, a5, a6, R16.rec (motive := fun _ => R16 AV) (fun b0 b1 b2 b3 b4 b5 b6 b7 b8 b9 b10 b11 b12 b13 b14 b15 => ⟨b0, b1, b2, b3, b4, b5, b6, b7, v, b9, b10, b11, b12, b13, b14, b15⟩) a7, a8, a9, a10, a11, a12, a13, a14, a15⟩) e⟩
  | 9 => ⟨fun e => e.a7.a9, fun e v => R16.rec (motive := fun _ => E) (fun a0 a1 a2 a3 a4 a5 a6 a7 a8 a9 a10 a11 a12 a13 a14 a15 => ⟨a0, a1, a2, a3, a4, a5, a6, R16.rec (motive := fun _ => R16 AV) (fun b0 b1 b2 b3 b4 b5 b6 b7 b8 b9 b10 b11 b12 b13 b14 b15 => ⟨b0, b1, b2, b3, b4, b5, b6, b7, b8, v, b10, b11, b12, b13, b14, b15⟩) a7, a8, a9, a10, a11, a12, a13, a14, a15⟩) e⟩
  | 10 => ⟨fun e => e.a7.a10, fun e v => R16.rec (motive := fun _ => E) (fun a0 a1 a2 a3 a4 a5 a6 a7 a8 a9 a10 a11 a12 a13 a14 a15 => ⟨a0, a1, a2, a3, a4, a5, a6, R16.rec (motive := fun _ => R16 AV) (fun b0 b1 b2 b3 b4 b5 b6 b7 b8 b9 b10 b11 b12 b13 b14 b15 => ⟨b0, b1, b2, b3, b4, b5, b6, b7, b8, b9, v, b11, b12, b13, b14, b15⟩) a7, a8, a9, a10, a11, a12, a13, a14, a15⟩) e⟩
  | 11 => ⟨fun e => e.a7.a11, fun e v => R16.rec (motive := fun _ => E) (fun a0 a1 a2 a3 a4 a5 a6 a7 a8 a9 a10 a11 a12 a13 a14 a15 => ⟨a0, a1, a2, a3, a4, a5, a6, R16.rec (motive := fun _ => R16 AV) (fun b0 b1 b2 b3 b4 b5 b6 b7 b8 b9 b10 b11 b12 b13 b14 b15 => ⟨b0, b1, b2, b3, b4, b5, b6, b7, b8, b9, b10, v, b12, b13, b14, b15⟩) a7, a8, a9, a10, a11, a12, a13, a14, a15⟩) e⟩
  | 12 => ⟨fun e => e.a7.a12, fun e v => R16.rec (motive := fun _ => E) (fun a0 a1 a2 a3 a4 a5 a6 a7 a8 a9 a10 a11 a12 a13 a14 a15 => ⟨a0, a1, a2, a3, a4, a5, a6, R16.rec (motive := fun _ => R16 AV) (fun b0 b1 b2 b3 b4 b5 b6 b7 b8 b9 b10 b11 b12 b13 b14 b15 => ⟨b0, b1, b2, b3, b4, b5, b6, b7, b8, b9, b10, b11, v, b13, b14, b15⟩) a7, a8, a9, a10, a11, a12, a13, a14, a15⟩) e⟩
  | 13 => ⟨fun e => e.a7.a13, fun e v => R16.rec (motive := fun _ => E) (fun a0 a1 a2 a3 a4 a5 a6 a7 a8 a9 a10 a11 a12 a13 a14 a15 => ⟨a0, a1, a2, a3, a4, a5, a6, R16.rec (motive := fun _ => R16 AV) (fun b0 b1 b2 b3 b4 b5 b6 b7 b8 b9 b10 b11 b12 b13 b14 b15 => ⟨b0, b1, b2, b3, b4, b5, b6, b7, b8, b9, b10, b11, b12, v, b14, b15⟩) a7, a8, a9, a10, a11, a12, a13, a14, a15⟩) e⟩
  | 14 => ⟨fun e => e.a7.a14, fun e v => R16.rec (motive := fun _ => E) (fun a0 a1 a2 a3 a4 a5 a6 a7 a8 a9 a10 a11 a12 a13 a14 a15 => ⟨a0, a1, a2, a3, a4, a5, a6, R16.rec (motive := fun _ => R16 AV) (fun b0 b1 b2 b3 b4 b5 b6 b7 b8 b9 b10 b11 b12 b13 b14 b15 => ⟨b0, b1, b2, b3, b4, b5, b6, b7, b8, b9, b10, b11, b12, b13, v, b15⟩) a7, a8, a9, a10, a11, a12, a13, a14, a15⟩) e⟩
  | _ => ⟨fun e => e.a7.a15, fun e v => R16.rec (motive := fun _ => E) (fun a0 a1 a2 a3 a4 a5 a6 a7 a8 a9 a10 a11 a12 a13 a14 a15 => ⟨a0, a1, a2, a3, a4, a5, a6, R16.rec (motive := fun _ => R16 AV) (fun b0 b1 b2 b3 b4 b5 b6 b7 b8 b9 b10 b11 b12 b13 b14 b15 => ⟨b0, b1, b2, b3, b4, b5, b6, b7, b8, b9, b10, b11, b12, b13, b14, v⟩) a7, a8, a9, a10, a11, a12, a13, a14, a15⟩) e⟩
noncomputable def gg8 (n : Nat) : GG := match n with
  | 0 => ⟨fun e => e.a8.a0, fun e v => R16.rec (motive := fun _ => E) (fun a0 a1 a2 a3 a4 a5 a6 a7 a8 a9 a10 a11 a12 a13 a14 a15 => ⟨a0, a1, a2, a3, a4, a5, a6, a7, R16.rec (motive := fun _ => R16 AV) (fun b0 b1 b2 b3 b4 b5 b6 b7 b8 b9 b10 b11 b12 b13 b14 b15 => ⟨v, b1, b2, b3, b4, b5, b6, b7, b8, b9, b10, b11, b12, b13, b14, b15⟩) a8, a9, a10, a11, a12, a13, a14, a15⟩) e⟩
  | 1 => ⟨fun e => e.a8.a1, fun e v => R16.rec (motive := fun _ => E) (fun a0 a1 a2 a3 a4 a5 a6 a7 a8 a9 a10 a11 a12 a13 a14 a15 => ⟨a0, a1, a2, a3, a4, a5, a6, a7, R16.rec (motive := fun _ => R16 AV) (fun b0 b1 b2 b3 b4 b5 b6 b7 b8 b9 b10 b11 b12 b13 b14 b15 => ⟨b0, v, b2, b3, b4, b5, b6, b7, b8, b9, b10, b11, b12, b13, b14, b15⟩) a8, a9, a10, a11, a12, a13, a14, a15⟩) e⟩
  | 2 => ⟨fun e => e.a8.a2, fun e v => R16.rec (motive := fun _ => E) (fun a0 a1 a2 a3 a4 a5 a6 a7 a8 a9 a10 a11 a12 a13 a14 a15 => ⟨a0, a1, a2, a3, a4, a5, a6, a7, R16.rec (motive := fun _ => R16 AV) (fun b0 b1 b2 b3 b4 b5 b6 b7 b8 b9 b10 b11 b12 b13 b14 b15 => ⟨b0, b1, v, b3, b4, b5, b6, b7, b8, b9, b10, b11, b12, b13, b14, b15⟩) a8, a9, a10, a11, a12, a13, a14, a15⟩) e⟩
  | 3 => ⟨fun e => e.a8.a3, fun e v => R16.rec (motive := fun _ => E) (fun a0 a1 a2 a3 a4 a5 a6 a7 a8 a9 a10 a11 a12 a13 a14 a15 => ⟨a0, a1, a2, a3, a4, a5, a6, a7, R16.rec (motive := fun _ => R16 AV) (fun b0 b1 b2 b3 b4 b5 b6 b7 b8 b9 b10 b11 b12 b13 b14 b15 => ⟨b0, b1, b2, v, b4, b5, b6, b7, b8, b9, b10, b11, b12, b13, b14, b15⟩) a8, a9, a10, a11, a12, a13, a14, a15⟩) e⟩
  | 4 => ⟨fun e => e.a8.a4, fun e v => R16.rec (motive := fun _ => E) (fun a0 a1 a2 a3 a4 a5 a6 a7 a8 a9 a10 a11 a12 a13 a14 a15 => ⟨a0, a1, a2, a3, a4, a5, a6, a7, R16.rec (motive := fun _ => R16 AV) (fun b0 b1 b2 b3 b4 b5 b6 b7 b8 b9 b10 b11 b12 b13 b14 b15 => ⟨b0, b1, b2, b3, v, b5, b6, b7, b8, b9, b10, b11, b12, b13, b14, b15⟩) a8, a9, a10, a11, a12, a13, a14, a15⟩) e⟩
  | 5 => ⟨fun e => e.a8.a5, fun e v => R16.rec (motive := fun _ => E) (fun a0 a1 a2 a3 a4 a5 a6 a7 a8 a9 a10 a11 a12 a13 a14 a15 => ⟨a0, a1, a2, a3, a4, a5, a6, a7, R16.rec (motive := fun _ => R16 AV) (fun b0 b1 b2 b3 b4 b5 b6 b7 b8 b9 b10 b11 b12 b13 b14 b15 => ⟨b0, b1, b2, b3, b4, v, b6, b7, b8, b9, b10, b11, b12, b13, b14, b15⟩) a8, a9, a10, a11, a12, a13, a14, a15⟩) e⟩
  | 6 => ⟨fun e => e.a8.a6, fun e v => R16.rec (motive := fun _ => E) (fun a0 a1 a2 a3 a4 a5 a6 a7 a8 a9 a10 a11 a12 a13 a14 a15 => ⟨a0, a1, a2, a3, a4, a5, a6, a7, R16.rec (motive := fun _ => R16 AV) (fun b0 b1 b2 b3 b4 b5 b6 b7 b8 b9 b10 b11 b12 b13 b14 b15 => ⟨b0, b1, b2, b3, b4, b5, v, b7, b8, b9, b10, b11, b12, b13, b14, b15⟩) a8, a9, a10, a11, a12, a13, a14, a15⟩) e⟩
  | 7 => ⟨fun e => e.a8.a7, fun e v => R16.rec (motive := fun _ => E) (fun a0 a1 a2 a3 a4 a5 a6 a7 a8 a9 a10 a11 a12 a13 a14 a15 => ⟨a0, a1, a2, a3, a4, a5, a6, a7, R16.rec (motive := fun _ => R16 AV) (fun b0 b1 b2 b3 b4 b5 b6 b7 b8 b9 b10 b11 b12 b13 b14 b15 => ⟨b0, b1, b2, b3, b4, b5, b6, v, b8, b9, b10, b11, b12, b13, b14, b15⟩) a8, a9, a10, a11, a12, a13, a14, a15⟩) e⟩
  | 8 => ⟨fun e => e.a8.a8, fun e v => R16.rec (motive := fun _ => E) (fun a0 a1 a2 a3 a4 a5 a6 a7 a8 a9 a10 a11 a12 a13 a14 a15 => ⟨a0, a1, a2, a3, a4, a5, a6, a7, R16.rec (motive := fun _ => R16 AV) (fun b0 b1 b2 b3 b4 b5 b6 b7 b8 b9 b10 b11 b12 b13 b14 b15 => ⟨b0, b1, b2, b3, b4, b5, b6, b7, v, b9, b10, b11, b12, b13, b14, b15⟩) a8, a9, a10, a11, a12, a13, a14, a15⟩) e⟩
  | 9 => ⟨fun e => e.a8.a9, fun e v => R16.rec (motive := fun _ => E) (fun a0 a1 a2 a3 a4 a5 a6 a7 a8 a9 a10 a11 a12 a13 a14 a15 => ⟨a0, a1, a2, a3, a4, a5, a6, a7, R16.rec (motive := fun _ => R16 AV) (fun b0 b1 b2 b3 b4 b5 b6 b7 b8 b9 b10 b11 b12 b13 b14 b15 => ⟨b0, b1, b2, b3, b4, b5, b6, b7, b8, v, b10, b11, b12, b13, b14, b15⟩) a8, a9, a10, a11, a12, a13, a14, a15⟩) e⟩
  | 10 => ⟨fun e => e.a8.a10, fun e v => R16.rec (motive := fun _ => E) (fun a0 a1 a2 a3 a4 a5 a6 a7 a8 a9 a10 a11 a12 a13 a14 a15 => ⟨a0, a1, a2, a3, a4, a5, a6, a7, R16.rec (motive := fun _ => R16 AV) (fun b0 b1 b2 b3 b4 b5 b6 b7 b8 b9 b10 b11 b12 b13 b14 b15 => ⟨b0, b1, b2, b3, b4, b5, b6, b7, b8, b9, v, b11, b12, b13, b14, b15⟩) a8, a9, a10, a11, a12, a13, a14, a15⟩) e⟩
  | 11 => ⟨fun e => e.a8.a11, fun e v => R16.rec (motive := fun _ => E) (fun a0 a1 a2 a3 a4 a5 a6 a7 a8 a9 a10 a11 a12 a13 a14 a15 => ⟨a0, a1, a2, a3, a4, a5, a6, a7, R16.rec (motive := fun _ => R16 AV) (fun b0 b1 b2 b3 b4 b5 b6 b7 b8 b9 b10 b11 b12 b13 b14 b15 => ⟨b0, b1, b2, b3, b4, b5, b6, b7, b8, b9, b10, v, b12, b13, b14, b15⟩) a8, a9, a10, a11, a12, a13, a14, a15⟩) e⟩
  | 12 => ⟨fun e => e.a8.a12, fun e v => R16.rec (motive := fun _ => E) (fun a0 a1 a2 a3 a4 a5 a6 a7 a8 a9 a10 a11 a12 a13 a14 a15 => ⟨a0, a1, a2, a3, a4, a5, a6, a7, R16.rec (motive := fun _ => R16 AV) (fun b0 b1 b2 b3 b4 b5 b6 b7 b8 b9 b10 b11 b12 b13 b14 b15 => ⟨b0, b1, b2, b3, b4, b5, b6, b7, b8, b9, b10, b11, v, b13, b14, b15⟩) a8, a9, a10, a11, a12, a13, a14, a15⟩) e⟩
  | 13 => ⟨fun e => e.a8.a13, fun e v => R16.rec (motive := fun _ => E) (fun a0 a1 a2 a3 a4 a5 a6 a7 a8 a9 a10 a11 a12 a13 a14 a15 => ⟨a0, a1, a2, a3, a4, a5, a6, a7, R16.rec (motive := fun _ => R16 AV) (fun b0 b1 b2 b3 b4 b5 b6 b7 b8 b9 b10 b11 b12 b13 b14 b15 => ⟨b0, b1, b2, b3, b4, b5, b6, b7, b8, b9, b10, b11, b12, v, b14, b15⟩) a8, a9, a10, a11, a12, a13, a14, a15⟩) e⟩
  | 14 => ⟨fun e => e.a8.a14, fun e v => R16.rec (motive := fun _ => E) (fun a0 a1 a2 a3 a4 a5 a6 a7 a8 a9 a10 a11 a12 a13 a14 a15 => ⟨a0, a1, a2, a3, a4, a5, a6, a7, R16.rec (motive := fun _ => R16 AV) (fun b0 b1 b2 b3 b4 b5 b6 b7 b8 b9 b10 b11 b12 b13 b14 b15 => ⟨b0, b1, b2, b3, b4, b5, b6, b7, b8, b9, b10, b11, b12, b13, v, b15⟩) a8, a9, a10, a11, a12, a13, a14, a15⟩) e⟩
  | _ => ⟨fun e => e.a8.a15, fun e v => R16.rec (motive := fun _ => E) (fun a0 a1 a2 a3 a4 a5 a6 a7 a8 a9 a10 a11 a12 a13 a14 a15 => ⟨a0, a1, a2, a3, a4, a5, a6, a7, R16.rec (motive := fun _ => R16 AV) (fun b0 b1 b2 b3 b4 b5 b6 b7 b8 b9 b10 b11 b12 b13 b14 b15 => ⟨b0, b1, b2, b3, b4, b5, b6, b7, b8, b9, b10, b11, b12, b13, b14, v⟩) a8, a9, a10, a11, a12, a13, a14, a15⟩) e⟩
noncomputable def gg9 (n : Nat) : GG := match n with
  | 0 => ⟨fun e => e.a9.a0, fun e v => R16.rec (motive := fun _ => E) (fun a0 a1 a2 a3 a4 a5 a6 a7 a8 a9 a10 a11 a12 a13 a14 a15 => ⟨a0, a1, a2, a3, a4, a5, a6, a7, a8, R16.rec (motive := fun _ => R16 AV) (fun b0 b1 b2 b3 b4 b5 b6 b7 b8 b9 b10 b11 b12 b13 b14 b15 => ⟨v, b1, b2, b3, b4, b5, b6, b7, b8, b9, b10, b11, b12, b13, b14, b15⟩) a9, a10, a11, a12, a13, a14, a15⟩) e⟩
  | 1 => ⟨fun e => e.a9.a1, fun e v => R16.rec (motive := fun _ => E) (fun a0 a1 a2 a3 a4 a5 a6 a7 a8 a9 a10 a11 a12 a13 a14 a15 => ⟨a0, a1, a2, a3, a4, a5, a6, a7, a8, R16.rec (motive := fun _ => R16 AV) (fun b0 b1 b2 b3 b4 b5 b6 b7 b8 b9 b10 b11 b12 b13 b14 b15 => ⟨b0, v, b2, b3, b4, b5, b6, b7, b8, b9, b10, b11, b12, b13, b14, b15⟩) a9, a10, a11, a12, a13, a14, a15⟩) e⟩
  | 2 => ⟨fun e => e.a9.a2, fun e v => R16.rec (motive := fun _ => E) (fun a0 a1 a2 a3 a4 a5 a6 a7 a8 a9 a10 a11 a12 a13 a14 a15 => ⟨a0, a1, a2, a3, a4, a5, a6, a7, a8, R16.rec (motive := fun _ => R16 AV) (fun b0 b1 b2 b3 b4 b5 b6 b7 b8 b9 b10 b11 b12 b13 b14 b15 => ⟨b0, b1, v, b3, b4, b5, b6, b7, b8, b9, b10, b11, b12, b13, b14, b15⟩) a9, a10, a11, a12, a13, a14, a15⟩) e⟩
  | 3 => ⟨fun e => e.a9.a3, fun e v => R16.rec (motive := fun _ => E) (fun a0 a1 a2 a3 a4 a5 a6 a7 a8 a9 a10 a11 a12 a13 a14 a15 => ⟨a0, a1, a2, a3, a4, a5, a6, a7, a8, R16.rec (motive := fun _ => R16 AV) (fun b0 b1 b2 b3 b4 b5 b6 b7 b8 b9 b10 b11 b12 b13 b14 b15 => ⟨b0, b1, b2, v, b4, b5, b6, b7, b8, b9, b10, b11, b12, b13, b14, b15⟩) a9, a10, a11, a12, a13, a14, a15⟩) e⟩
  | 4 => ⟨fun e => e.a9.a4, fun e v => R16.rec (motive := fun _ => E) (fun a0 a1 a2 a3 a4 a5 a6 a7 a8 a9 a10 a11 a12 a13 a14 a15 => ⟨a0, a1, a2, a3, a4, a5, a6, a7, a8, R16.rec (motive := fun _ => R16 AV) (fun b0 b1 b2 b3 b4 b5 b6 b7 b8 b9 b10 b11 b12 b13 b14 b15 => ⟨b0, b1, b2, b3, v, b5, b6, b7, b8, b9, b10, b11, b12, b13, b14, b15⟩) a9, a10, a11, a12, a13, a14, a15⟩) e⟩
  | 5 => ⟨fun e => e.a9.a5, fun e v => R16.rec (motive := fun _ => E) (fun a0 a1 a2 a3 a4 a5 a6 a7 a8 a9 a10 a11 a12 a13 a14 a15 => ⟨a0, a1, a2, a3, a4, a5, a6, a7, a8, R16.rec (motive := fun _ => R16 AV) (fun b0 b1 b2 b3 b4 b5 b6 b7 b8 b9 b10 b11 b12 b13 b14 b15 => ⟨b0, b1, b2, b3, b4, v, b6, b7, b8, b9, b10, b11, b12, b13, b14, b15⟩) a9, a10, a11, a12, a13, a14, a15⟩) e⟩
  | 6 => ⟨fun e => e.a9.a6, fun e v => R16.rec (motive := fun _ => E) (fun a0 a1 a2 a3 a4 a5 a6 a7 a8 a9 a10 a11 a12 a13 a14 a15 => ⟨a0, a1, a2, a3, a4, a5, a6, a7, a8, R16.rec (motive := fun _ => R16 AV) (fun b0 b1 b2 b3 b4 b5 b6 b7 b8 b9 b10 b11 b12 b13 b14 b15 => ⟨b0, b1, b2, b3, b4, b5, v, b7, b8, b9, b10, b11, b12, b13, b14, b15⟩) a9, a10, a11, a12, a13, a14, a15⟩) e⟩
  | 7 => ⟨fun e => e.a9.a7, fun e v => R16.rec (motive := fun _ => E) (fun a0 a1 a2 a3 a4 a5 a6 a7 a8 a9 a10 a11 a12 a13 a14 a15 => ⟨a0, a1, a2, a3, a4, a5, a6, a7, a8, R16.rec (motive := fun _ => R16 AV) (fun b0 b1 b2 b3 b4 b5 b6 b7 b8 b9 b10 b11 b12 b13 b14 b15 => ⟨b0, b1, b2, b3, b4, b5, b6, v, b8, b9, b10, b11, b12, b13, b14, b15⟩) a9, a10, a11, a12, a13, a14, a15⟩) e⟩
  | 8 => ⟨fun e => e.a9.a8, fun e v => R16.rec (motive := fun _ => E) (fun a0 a1 a2 a3 a4 a5 a6 a7 a8 a9 a10 a11 a12 a13 a14 a15 => ⟨a0, a1, a2, a3, a4, a5, a6, a7, a8, R16.rec (motive := fun _ => R16 AV) (fun b0 b1 b2 b3 b4 b5 b6 b7 b8 b9 b10 b11 b12 b13 b14 b15 => ⟨b0, b1, b2, b3, b4, b5, b6, b7, v, b9, b10, b11, b12, b13, b14, b15⟩) a9, a10, a11, a12, a13, a14, a15⟩) e⟩
  | 9 => ⟨fun e => e.a9.a9, fun e v => R16.rec (motive := fun _ => E) (fun a0 a1 a2 a3 a4 a5 a6 a7 a8 a9 a10 a11 a12 a13 a14 a15 => ⟨a0, a1, a2, a3, a4, a5, a6, a7, a8, R16.rec (motive := fun _ => R16 AV) (fun b0 b1 b2 b3 b4 b5 b6 b7 b8 b9 b10 b11 b12 b13 b14 b15 => ⟨b0, b1, b2, b3, b4, b5, b6, b7, b8, v, b10, b11, b12, b13, b14, b15⟩) a9, a10, a11, a12, a13, a14, a15⟩) e⟩
  | 10 => ⟨fun e => e.a9.a10, fun e v => R16.rec (motive := fun _ => E) (fun a0 a1 a2 a3 a4 a5 a6 a7 a8 a9 a10 a11 a12 a13 a14 a15 => ⟨a0, a1, a2, a3, a4, a5, a6, a7, a8, R16.rec (motive := fun _ => R16 AV) (fun b0 b1 b2 b3 b4 b5 b6 b7 b8 b9 b10 b11 b12 b13 b14 b15 => ⟨b0, b1, b2, b3, b4, b5, b6, b7, b8, b9, v, b11, b12, b13, b14, b15⟩) a9, a10, a11, a12, a13, a14, a15⟩) e⟩
  | 11 => ⟨fun e => e.a9.a11, fun e v => R16.rec (motive := fun _ => E) (fun a0 a1 a2 a3 a4 a5 a6 a7 a8 a9 a10 a11 a12 a13 a14 a15 => ⟨a0, a1, a2, a3, a4, a5, a6, a7, a8, R16.rec (motive := fun _ => R16 AV) (fun b0 b1 b2 b3 b4 b5 b6 b7 b8 b9 b10 b11 b12 b13 b14 b15 => ⟨b0, b1, b2, b3, b4, b5, b6, b7, b8, b9, b10, v, b12, b13, b14, b15⟩) a9, a10, a11, a12, a13, a14, a15⟩) e⟩
  | 12 => ⟨fun e => e.a9.a12, fun e v => R16.rec (motive := fun _ => E) (fun a0 a1 a2 a3 a4 a5 a6 a7 a8 a9 a10 a11 a12 a13 a14 a15 => ⟨a0, a1, a2, a3, a4, a5, a6, a7, a8, R16.rec (motive := fun _ => R16 AV) (fun b0 b1 b2 b3 b4 b5 b6 b7 b8 b9 b10 b11 b12 b13 b14 b15 => ⟨b0, b1, b2, b3, b4, b5, b6, b7, b8, b9, b10, b11, v, b13, b14, b15⟩) a9, a10, a11, a12, a13, a14, a15⟩) e⟩
  | 13 => ⟨fun e => e.a9.a13, fun e v => R16.rec (motive := fun _ => E) (fun a0 a1 a2 a3 a4 a5 a6 a7 a8 a9 a10 a11 a12 a13 a14 a15 => ⟨a0, a1, a2, a3, a4, a5, a6, a7, a8, R16.rec (motive := fun _ => R16 AV) (fun b0 b1 b2 b3 b4 b5 b6 b7 b8 b9 b10 b11 b12 b13 b14 b15 => ⟨b0, b1, b2, b3, b4, b5, b6, b7, b8, b9, b10, b11, b12, v, b14, b15⟩) a9, a10, a11, a12, a13, a14, a15⟩) e⟩
  | 14 => ⟨fun e => e.a9.a14, fun e v => R16.rec (motive := fun _ => E) (fun a0 a1 a2 a3 a4 a5 a6 a7 a8 a9 a10 a11 a12 a13 a14 a15 => ⟨a0, a1, a2, a3, a4, a5, a6, a7, a8, R16.rec (motive := fun _ => R16 AV) (fun b0 b1 b2 b3 b4 b5 b6 b7 b8 b9 b10 b11 b12 b13 b14 b15 => ⟨b0, b1, b2, b3, b4, b5, b6, b7, b8, b9, b10, b11, b12, b13, v, b15⟩) a9, a10, a11, a12, a13, a14, a15⟩) e⟩
  | _ => ⟨fun e => e.a9.a15, fun e v => R16.rec (motive := fun _ => E) (fun a0 a1 a2 a3 a4 a5 a6 a7 a8 a9 a10 a11 a12 a13 a14 a15 => ⟨a0, a1, a2, a3, a4, a5, a6, a7, a8, R16.rec (motive := fun _ => R16 AV) (fun b0 b1 b2 b3 b4 b5 b6 b7 b8 b9 b10 b11 b12 b13 b14 b15 => ⟨b0, b1, b2, b3, b4, b5, b6, b7, b8, b9, b10, b11, b12, b13, b14, v⟩) a9, a10, a11, a12, a13, a14, a15⟩) e⟩
noncomputable def gg10 (n : Nat) : GG := match n with
  | 0 => ⟨fun e => e.a10.a0, fun e v => R16.rec (motive := fun _ => E) (fun a0 a1 a2 a3 a4 a5 a6 a7 a8 a9 a10 a11 a12 a13 a14 a15 => ⟨a0, a1, a2, a3, a4, a5, a6, a7, a8, a9, R16.rec (motive := fun _ => R16 AV) (fun b0 b1 b2 b3 b4 b5 b6 b7 b8 b9 b10 b11 b12 b13 b14 b15 => ⟨v, b1, b2, b3, b4, b5, b6, b7, b8, b9, b10, b11, b12, b13, b14, b15⟩) a10, a11, a12, a13, a14, a15⟩) e⟩
  | 1 => ⟨fun e => e.a10.a1, fun e v => R16.rec (motive := fun _ => E) (fun a0 a1 a2 a3 a4 a5 a6 a7 a8 a9 a10 a11 a12 a13 a14 a15 => ⟨a0, a1, a2, a3, a4, a5, a6, a7, a8, a9, R16.rec (motive := fun _ => R16 AV) (fun b0 b1 b2 b3 b4 b5 b6 b7 b8 b9 b10 b11 b12 b13 b14 b15 => ⟨b0, v, b2, b3, b4, b5, b6, b7, b8, b9, b10, b11, b12, b13, b14, b15⟩) a10, a11, a12, a13, a14, a15⟩) e⟩
  | 2 => ⟨fun e => e.a10.a2, fun e v => R16.rec (motive := fun _ => E) (fun a0 a1 a2 a3 a4 a5 a6 a7 a8 a9 a10 a11 a12 a13 a14 a15 => ⟨a0, a1, a2, a3, a4, a5, a6, a7, a8, a9, R16.rec (motive := fun _ => R16 AV) (fun b0 b1 b2 b3 b4 b5 b6 b7 b8 b9 b10 b11 b12 b13 b14 b15 => ⟨b0, b1, v, b3, b4, b5, b6, b7, b8, b9, b10, b11, b12, b13, b14, b15⟩) a10, a11, a12, a13, a14, a15⟩) e⟩
  | 3 => ⟨fun e => e.a10.a3, fun e v => R16.rec (motive := fun _ => E) (fun a0 a1 a2 a3 a4 a5 a6 a7 a8 a9 a10 a11 a12 a13 a14 a15 => ⟨a0, a1, a2, a3, a4, a5, a6, a7, a8, a9, R16.rec (motive := fun _ => R16 AV) (fun b0 b1 b2 b3 b4 b5 b6 b7 b8 b9 b10 b11 b12 b13 b14 b15 => ⟨b0, b1, b2, v, b4, b5, b6, b7, b8, b9, b10, b11, b12, b13, b14, b15⟩) a10, a11, a12, a13, a14, a15⟩) e⟩
  | 4 => ⟨fun e => e.a10.a4, fun e v => R16.rec (motive := fun _ => E) (fun a0 a1 a2 a3 a4 a5 a6 a7 a8 a9 a10 a11 a12 a13 a14 a15 => ⟨a0, a1, a2, a3, a4, a5, a6, a7, a8, a9, R16.rec (motive := fun _ => R16 AV) (fun b0 b1 b2 b3 b4 b5 b6 b7 b8 b9 b10 b11 b12 b13 b14 b15 => ⟨b0, b1, b2, b3, v, b5, b6, b7, b8, b9, b10, b11, b12, b13, b14, b15⟩) a10, a11, a12, a13, a14, a15⟩) e⟩
  | 5 => ⟨fun e => e.a10.a5, fun e v => R16.rec (motive := fun _ => E) (fun a0 a1 a2 a3 a4 a5 a6 a7 a8 a9 a10 a11 a12 a13 a14 a15 => ⟨a0, a1, a2, a3, a4, a5, a6, a7, a8, a9, R16.rec (motive := fun _ => R16 AV) (fun b0 b1 b2 b3 b4 b5 b6 b7 b8 b9 b10 b11 b12 b13 b14 b15 => ⟨b0, b1, b2, b3, b4, v, b6, b7, b8, b9, b10, b11, b12, b13, b14, b15⟩) a10, a11, a12, a13, a14, a15⟩) e⟩
  | 6 => ⟨fun e => e.a10.a6, fun e v => R16.rec (motive := fun _ => E) (fun a0 a1 a2 a3 a4 a5 a6 a7 a8 a9 a10 a11 a12 a13 a14 a15 => ⟨a0, a1, a2, a3, a4, a5, a6, a7, a8, a9, R16.rec (motive := fun _ => R16 AV) (fun b0 b1 b2 b3 b4 b5 b6 b7 b8 b9 b10 b11 b12 b13 b14 b15 => ⟨b0, b1, b2, b3, b4, b5, v, b7, b8, b9, b10, b11, b12, b13, b14, b15⟩) a10, a11, a12, a13, a14, a15⟩) e⟩
  | 7 => ⟨fun e => e.a10.a7, fun e v => R16.rec (motive := fun _ => E) (fun a0 a1 a2 a3 a4 a5 a6 a7 a8 a9 a10 a11 a12 a13 a14 a15 => ⟨a0, a1, a2, a3, a4, a5, a6, a7, a8, a9, R16.rec (motive := fun _ => R16 AV) (fun b0 b1 b2 b3 b4 b5 b6 b7 b8 b9 b10 b11 b12 b13 b14 b15 => ⟨b0, b1, b2, b3, b4, b5, b6, v, b8, b9, b10, b11, b12, b13, b14, b15⟩) a10, a11, a12, a13, a14, a15⟩) e⟩
  | 8 => ⟨fun e => e.a10.a8, fun e v => R16.rec (motive := fun _ => E) (fun a0 a1 a2 a3 a4 a5 a6 a7 a8 a9 a10 a11 a12 a13 a14 a15 => ⟨a0, a1, a2, a3, a4, a5, a6, a7, a8, a9, R16.rec (motive := fun _ => R16 AV) (fun b0 b1 b2 b3 b4 b5 b6 b7 b8 b9 b10 b11 b12 b13 b14 b15 => ⟨b0, b1, b2, b3, b4, b5, b6, b7, v, b9, b10, b11, b12, b13, b14, b15⟩) a10, a11, a12, a13, a14, a15⟩) e⟩
  | 9 => ⟨fun e => e.a10.a9, fun e v => R16.rec (motive := fun _ => E) (fun a0 a1 a2 a3 a4 a5 a6 a7 a8 a9 a10 a11 a12 a13 a14 a15 => ⟨a0, a1, a2, a3, a4, a5, a6, a7, a8, a9, R16.rec (motive := fun _ => R16 AV) (fun b0 b1 b2 b3 b4 b5 b6 b7 b8 b9 b10 b11 b12 b13 b14 b15 => ⟨b0, b1, b2, b3, b4, b5, b6, b7, b8, v, b10, b11, b12, b13, b14, b15⟩) a10, a11, a12, a13, a14, a15⟩) e⟩
  | 10 => ⟨fun e => e.a10.a10, fun e v => R16.rec (motive := fun _ => E) (fun a0 a1 a2 a3 a4 a5 a6 a7 a8 a9 a10 a11 a12 a13 a14 a15 => ⟨a0, a1, a2, a3, a4, a5, a6, a7, a8, a9, R16.rec (motive := fun _ => R16 AV) (fun b0 b1 b2 b3 b4 b5 b6 b7 b8 b9 b10 b11 b12 b13 b14 b15 => ⟨b0, b1, b2, b3, b4, b5, b6, b7, b8, b9, v, b11, b12, b13, b14, b15⟩) a10, a11, a12, a13, a14, a15⟩) e⟩
  | 11 => ⟨fun e => e.a10.a11, fun e v => R16.rec (motive := fun _ => E) (fun a0 a1 a2 a3 a4 a5 a6 a7 a8 a9 a10 a11 a12 a13 a14 a15 => ⟨a0, a1, a2, a3, a4, a5, a6, a7, a8, a9, R16.rec (motive := fun _ => R16 AV) (fun b0 b1 b2 b3 b4 b5 b6 b7 b8 b9 b10 b11 b12 b13 b14 b15 => ⟨b0, b1, b2, b3, b4, b5, b6, b7, b8, b9, b10, v, b12, b13, b14, b15⟩) a10, a11, a12, a13, a14, a15⟩) e⟩
  | 12 => ⟨fun e => e.a10.a12, fun e v => R16.rec (motive := fun _ => E) (fun a0 a1 a2 a3 a4 a5 a6 a7 a8 a9 a10 a11 a12 a13 a14 a15 => ⟨a0, a1, a2, a3, a4, a5, a6, a7, a8, a9, R16.rec (motive := fun _ => R16 AV) (fun b0 b1 b2 b3 b4 b5 b6 b7 b8 b9 b10 b11 b12 b13 b14 b15 => ⟨b0, b1, b2, b3, b4, b5, b6, b7, b8, b9, b10, b11, v, b13, b14, b15⟩) a10, a11, a12, a13, a14, a15⟩) e⟩
  | 13 => ⟨fun e => e.a10.a13, fun e v => R16.rec (motive := fun _ => E) (fun a0 a1 a2 a3 a4 a5 a6 a7 a8 a9 a10 a11 a12 a13 a14 a15 => ⟨a0, a1, a2, a3, a4, a5, a6, a7, a8, a9, R16.rec (motive := fun _ => R16 AV) (fun b0 b1 b2 b3 b4 b5 b6 b7 b8 b9 b10 b11 b12 b13 b14 b15 => ⟨b0, b1, b2, b3, b4, b5, b6, b7, b8, b9, b10, b11, b12, v, b14, b15⟩) a10, a11, a12, a13, a14, a15⟩) e⟩
  | 14 => ⟨fun e => e.a10.a14, fun e v => R16.rec (motive := fun _ => E) (fun a0 a1 a2 a3 a4 a5 a6 a7 a8 a9 a10 a11 a12 a13 a14 a15 => ⟨a0, a1, a2, a3, a4, a5, a6, a7, a8, a9, R16.rec (motive := fun _ => R16 AV) (fun b0 b1 b2 b3 b4 b5 b6 b7 b8 b9 b10 b11 b12 b13 b14 b15 => ⟨b0, b1, b2, b3, b4, b5, b6, b7, b8, b9, b10, b11, b12, b13, v, b15⟩) a10, a11, a12, a13, a14, a15⟩) e⟩
  | _ => ⟨fun e => e.a10.a15, fun e v => R16.rec (motive := fun _ => E) (fun a0 a1 a2 a3 a4 a5 a6 a7 a8 a9 a10 a11 a12 a13 a14 a15 => ⟨a0, a1, a2, a3, a4, a5, a6, a7, a8, a9, R16.rec (motive := fun _ => R16 AV) (fun b0 b1 b2 b3 b4 b5 b6 b7 b8 b9 b10 b11 b12 b13 b14 b15 => ⟨b0, b1, b2, b3, b4, b5, b6, b7, b8, b9, b10, b11, b12, b13, b14, v⟩) a10, a11, a12, a13, a14, a15⟩) e⟩
noncomputable def gg11 (n : Nat) : GG := match n with
  | 0 => ⟨fun e => e.a11.a0, fun e v => R16.rec (motive := fun _ => E) (fun a0 a1 a2 a3 a4 a5 a6 a7 a8 a9 a10 a11 a12 a13 a14 a15 => ⟨a0, a1, a2, a3, a4, a5, a6, a7, a8, a9, a10, R16.rec (motive := fun _ => R16 AV) (fun b0 b1 b2 b3 b4 b5 b6 b7 b8 b9 b10 b11 b12 b13 b14 b15 => ⟨v, b1, b2, b3, b4, b5, b6, b7, b8, b9, b10, b11, b12, b13, b14, b15⟩) a11, a12, a13, a14, a15⟩) e⟩
  | 1 => ⟨fun e => e.a11.a1, fun e v => R16.rec (motive := fun _ => E) (fun a0 a1 a2 a3 a4 a5 a6 a7 a8 a9 a10 a11 a12 a13 a14 a15 => ⟨a0, a1, a2, a3, a4, a5, a6, a7, a8, a9, a10, R16.rec (motive := fun _ => R16 AV) (fun b0 b1 b2 b3 b4 b5 b6 b7 b8 b9 b10 b11 b12 b13 b14 b15 => ⟨b0, v, b2, b3, b4, b5, b6, b7, b8, b9, b10, b11, b12, b13, b14, b15⟩) a11, a12, a13, a14, a15⟩) e⟩
  | 2 => ⟨fun e => e.a11.a2, fun e v => R16.rec (motive := fun _ => E) (fun a0 a1 a2 a3 a4 a5 a6 a7 a8 a9 a10 a11 a12 a13 a14 a15 => ⟨a0, a1, a2, a3, a4, a5, a6, a7, a8, a9, a10, R16.rec (motive := fun _ => R16 AV) (fun b0 b1 b2 b3 b4 b5 b6 b7 b8 b9 b10 b11 b12 b13 b14 b15 => ⟨b0, b1, v, b3, b4, b5, b6, b7, b8, b9, b10, b11, b12, b13, b14, b15⟩) a11, a12, a13, a14, a15⟩) e⟩
  | 3 => ⟨fun e => e.a11.a3, fun e v => R16.rec (motive := fun _ => E) (fun a0 a1 a2 a3 a4 a5 a6 a7 a8 a9 a10 a11 a12 a13 a14 a15 => ⟨a0, a1, a2, a3, a4, a5, a6, a7, a8, a9, a10, R16.rec (motive := fun _ => R16 AV) (fun b0 b1 b2 b3 b4 b5 b6 b7 b8 b9 b10 b11 b12 b13 b14 b15 => ⟨b0, b1, b2, v, b4, b5, b6, b7, b8, b9, b10, b11, b12, b13, b14, b15⟩) a11, a12, a13, a14, a15⟩) e⟩
  | 4 => ⟨fun e => e.a11.a4, fun e v => R16.rec (motive := fun _ => E) (fun a0 a1 a2 a3 a4 a5 a6 a7 a8 a9 a10 a11 a12 a13 a14 a15 => ⟨a0, a1, a2, a3, a4, a5, a6, a7, a8, a9, a10, R16.rec (motive := fun _ => R16 AV) (fun b0 b1 b2 b3 b4 b5 b6 b7 b8 b9 b10 b11 b12 b13 b14 b15 => ⟨b0, b1, b2, b3, v, b5, b6, b7, b8, b9, b10, b11, b12, b13, b14, b15⟩) a11, a12, a13, a14, a15⟩) e⟩
  | 5 => ⟨fun e => e.a11.a5, fun e v => R16.rec (motive := fun _ => E) (fun a0 a1 a2 a3 a4 a5 a6 a7 a8 a9 a10 a11 a12 a13 a14 a15 => ⟨a0, a1, a2, a3, a4, a5, a6, a7, a8, a9, a10, R16.rec (motive := fun _ => R16 AV) (fun b0 b1 b2 b3 b4 b5 b6 b7 b8 b9 b10 b11 b12 b13 b14 b15 => ⟨b0, b1, b2, b3, b4, v, b6, b7, b8, b9, b10, b11, b12, b13, b14, b15⟩) a11, a12, a13, a14, a15⟩) e⟩
  | 6 => ⟨fun e => e.a11.a6, fun e v => R16.rec (motive := fun _ => E) (fun a0 a1 a2 a3 a4 a5 a6 a7 a8 a9 a10 a11 a12 a13 a14 a15 => ⟨a0, a1, a2, a3, a4, a5, a6, a7, a8, a9, a10, R16.rec (motive := fun _ => R16 AV) (fun b0 b1 b2 b3 b4 b5 b6 b7 b8 b9 b10 b11 b12 b13 b14 b15 => ⟨b0, b1, b2, b3, b4, b5, v, b7, b8, b9, b10, b11, b12, b13, b14, b15⟩) a11, a12, a13, a14, a15⟩) e⟩
  | 7 => ⟨fun e => e.a11.a7, fun e v => R16.rec (motive := fun _ => E) (fun a0 a1 a2 a3 a4 a5 a6 a7 a8 a9 a10 a11 a12 a13 a14 a15 => ⟨a0, a1, a2, a3, a4, a5, a6, a7, a8, a9, a10, R16.rec (motive := fun _ => R16 AV) (fun b0 b1 b2 b3 b4 b5 b6 b7 b8 b9 b10 b11 b12 b13 b14 b15 => ⟨b0, b1, b2, b3, b4, b5, b6, v, b8, b9, b10, b11, b12, b13, b14, b15⟩) a11, a12, a13, a14, a15⟩) e⟩
  | 8 => ⟨fun e => e.a11.a8, fun e v => R16.rec (motive := fun _ => E) (fun a0 a1 a2 a3 a4 a5 a6 a7 a8 a9 a10 a11 a12 a13 a14 a15 => ⟨a0, a1, a2, a3, a4, a5, a6, a7, a8, a9, a10, R16.rec (motive := fun _ => R16 AV) (fun b0 b1 b2 b3 b4 b5 b6 b7 b8 b9 b10 b11 b12 b13 b14 b15 => ⟨b0, b1, b2, b3, b4, b5, b6, b7, v, b9, b10, b11, b12, b13, b14, b15⟩) a11, a12, a13, a14, a15⟩) e⟩
  | 9 => ⟨fun e => e.a11.a9, fun e v => R16.rec (motive := fun _ => E) (fun a0 a1 a2 a3 a4 a5 a6 a7 a8 a9 a10 a11 a12 a13 a14 a15 => ⟨a0, a1, a2, a3, a4, a5, a6, a7, a8, a9, a10, R16.rec (motive := fun _ => R16 AV) (fun b0 b1 b2 b3 b4 b5 b6 b7 b8 b9 b10 b11 b12 b13 b14 b15 => ⟨b0, b1, b2, b3, b4, b5, b6, b7, b8, v, b10, b11, b12, b13, b14, b15⟩) a11, a12, a13, a14, a15⟩) e⟩
  | 10 => ⟨fun e => e.a11.a10, fun e v => R16.rec (motive := fun _ => E) (fun a0 a1 a2 a3 a4 a5 a6 a7 a8 a9 a10 a11 a12 a13 a14 a15 => ⟨a0, a1, a2, a3, a4, a5, a6, a7, a8, a9, a10, R16.rec (motive := fun _ => R16 AV) (fun b0 b1 b2 b3 b4 b5 b6 b7 b8 b9 b10 b11 b12 b13 b14 b15 => ⟨b0, b1, b2, b3, b4, b5, b6, b7, b8, b9, v, b11, b12, b13, b14, b15⟩) a11, a12, a13, a14, a15⟩) e⟩
  | 11 => ⟨fun e => e.a11.a11, fun e v => R16.rec (motive := fun _ => E) (fun a0 a1 a2 a3 a4 a5 a6 a7 a8 a9 a10 a11 a12 a13 a14 a15 => ⟨a0, a1, a2, a3, a4, a5, a6, a7, a8, a9, a10, R16.rec (motive := fun _ => R16 AV) (fun b0 b1 b2 b3 b4 b5 b6 b7 b8 b9 b10 b11 b12 b13 b14 b15 => ⟨b0, b1, b2, b3, b4, b5, b6, b7, b8, b9, b10, v, b12, b13, b14, b15⟩) a11, a12, a13, a14, a15⟩) e⟩
  | 12 => ⟨fun e => e.a11.a12, fun e v => R16.rec (motive := fun _ => E) (fun a0 a1 a2 a3 a4 a5 a6 a7 a8 a9 a10 a11 a12 a13 a14 a15 => ⟨a0, a1, a2, a3, a4, a5, a6, a7, a8, a9, a10, R16.rec (motive := fun _ => R16 AV) (fun b0 b1 b2 b3 b4 b5 b6 b7 b8 b9 b10 b11 b12 b13 b14 b15 => ⟨b0, b1, b2, b3, b4, b5, b6, b7, b8, b9, b10, b11, v, b13, b14, b15⟩) a11, a12, a13, a14, a15⟩) e⟩
  | 13 => ⟨fun e => e.a11.a13, fun e v => R16.rec (motive := fun _ => E) (fun a0 a1 a2 a3 a4 a5 a6 a7 a8 a9 a10 a11 a12 a13 a14 a15 => ⟨a0, a1, a2, a3, a4, a5, a6, a7, a8, a9, a10, R16.rec (motive := fun _ => R16 AV) (fun b0 b1 b2 b3 b4 b5 b6 b7 b8 b9 b10 b11 b12 b13 b14 b15 => ⟨b0, b1, b2, b3, b4, b5, b6, b7, b8, b9, b10, b11, b12, v, b14, b15⟩) a11, a12, a13, a14, a15⟩) e⟩
  | 14 => ⟨fun e => e.a11.a14, fun e v => R16.rec (motive := fun _ => E) (fun a0 a1 a2 a3 a4 a5 a6 a7 a8 a9 a10 a11 a12 a13 a14 a15 => ⟨a0, a1, a2, a3, a4, a5, a6, a7, a8, a9, a10, R16.rec (motive := fun _ => R16 AV) (fun b0 b1 b2 b3 b4 b5 b6 b7 b8 b9 b10 b11 b12 b13 b14 b15 => ⟨b0, b1, b2, b3, b4, b5, b6, b7, b8, b9, b10, b11, b12, b13, v, b15⟩) a11, a12, a13, a14, a15⟩) e⟩
  | _ => ⟨fun e => e.a11.a15, fun e v => R16.rec (motive := fun _ => E) (fun a0 a1 a2 a3 a4 a5 a6 a7 a8 a9 a10 a11 a12 a13 a14 a15 => ⟨a0, a1, a2, a3, a4, a5, a6, a7, a8, a9, a10, R16.rec (motive := fun _ => R16 AV) (fun b0 b1 b2 b3 b4 b5 b6 b7 b8 b9 b10 b11 b12 b13 b14 b15 => ⟨b0, b1, b2, b3, b4, b5, b6, b7, b8, b9, b10, b11, b12, b13, b14, v⟩) a11, a12, a13, a14, a15⟩) e⟩
noncomputable def gg12 (n : Nat) : GG := match n with
  | 0 => ⟨fun e => e.a12.a0, fun e v => R16.rec (motive := fun _ => E) (fun a0 a1 a2 a3 a4 a5 a6 a7 a8 a9 a10 a11 a12 a13 a14 a15 => ⟨a0, a1, a2, a3, a4, a5, a6, a7, a8, a9, a10, a11, R16.rec (motive := fun _ => R16 AV) (fun b0 b1 b2 b3 b4 b5 b6 b7 b8 b9 b10 b11 b12 b13 b14 b15 => ⟨v, b1, b2, b3, b4, b5, b6, b7, b8, b9, b10, b11, b12, b13, b14, b15⟩) a12, a13, a14, a15⟩) e⟩
  | 1 => ⟨fun e => e.a12.a1, fun e v => R16.rec (motive := fun _ => E) (fun a0 a1 a2 a3 a4 a5 a6 a7 a8 a9 a10 a11 a12 a13 a14 a15 => ⟨a0, a1, a2, a3, a4, a5, a6, a7, a8, a9, a10, a11, R16.rec (motive := fun _ => R16 AV) (fun b0 b1 b2 b3 b4 b5 b6 b7 b8 b9 b10 b11 b12 b13 b14 b15 => ⟨b0, v, b2, b3, b4, b5, b6, b7, b8, b9, b10, b11, b12, b13, b14, b15⟩) a12, a13, a14, a15⟩) e⟩
  | 2 => ⟨fun e => e.a12.a2, fun e v => R16.rec (motive := fun _ => E) (fun a0 a1 a2 a3 a4 a5 a6 a7 a8 a9 a10 a11 a12 a13 a14 a15 => ⟨a0, a1, a2, a3, a4, a5, a6, a7, a8, a9, a10, a11, R16.rec (motive := fun _ => R16 AV) (fun b0 b1 b2 b3 b4 b5 b6 b7 b8 b9 b10 b11 b12 b13 b14 b15 => ⟨b0, b1, v, b3, b4, b5, b6, b7, b8, b9, b10, b11, b12, b13, b14, b15⟩) a12, a13, a14, a15⟩) e⟩
  | 3 => ⟨fun e => e.a12.a3, fun e v => R16.rec (motive := fun _ => E) (fun a0 a1 a2 a3 a4 a5 a6 a7 a8 a9 a10 a11 a12 a13 a14 a15 => ⟨a0, a1, a2, a3, a4, a5, a6, a7, a8, a9, a10, a11, R16.rec (motive := fun _ => R16 AV) (fun b0 b1 b2 b3 b4 b5 b6 b7 b8 b9 b10 b11 b12 b13 b14 b15 => ⟨b0, b1, b2, v, b4, b5, b6, b7, b8, b9, b10, b11, b12, b13, b14, b15⟩) a12, a13, a14, a15⟩) e⟩
  | 4 => ⟨fun e => e.a12.a4, fun e v => R16.rec (motive := fun _ => E) (fun a0 a1 a2 a3 a4 a5 a6 a7 a8 a9 a10 a11 a12 a13 a14 a15 => ⟨a0, a1, a2, a3, a4, a5, a6, a7, a8, a9, a10, a11, R16.rec (motive := fun _ => R16 AV) (fun b0 b1 b2 b3 b4 b5 b6 b7 b8 b9 b10 b11 b12 b13 b14 b15 => ⟨b0, b1, b2, b3, v, b5, b6, b7, b8, b9, b10, b11, b12, b13, b14, b15⟩) a12, a13, a14, a15⟩) e⟩
  | 5 => ⟨fun e => e.a12.a5, fun e v => R16.rec (motive := fun _ => E) (fun a0 a1 a2 a3 a4 a5 a6 a7 a8 a9 a10 a11 a12 a13 a14 a15 => ⟨a0, a1, a2, a3, a4, a5, a6, a7, a8, a9, a10, a11, R16.rec (motive := fun _ => R16 AV) (fun b0 b1 b2 b3 b4 b5 b6 b7 b8 b9 b10 b11 b12 b13 b14 b15 => ⟨b0, b1, b2, b3, b4, v, b6, b7, b8, b9, b10, b11, b12, b13, b14, b15⟩) a12, a13, a14, a15⟩) e⟩
  | 6 => ⟨fun e => e.a12.a6, fun e v => R16.rec (motive := fun _ => E) (fun a0 a1 a2 a3 a4 a5 a6 a7 a8 a9 a10 a11 a12 a13 a14 a15 => ⟨a0, a1, a2, a3, a4, a5, a6, a7, a8, a9, a10, a11, R16.rec (motive := fun _ => R16 AV) (fun b0 b1 b2 b3 b4 b5 b6 b7 b8 b9 b10 b11 b12 b13 b14 b15 => ⟨b0, b1, b2, b3, b4, b5, v, b7, b8, b9, b10, b11, b12, b13, b14, b15⟩) a12, a13, a14, a15⟩) e⟩
  | 7 => ⟨fun e => e.a12.a7, fun e v => R16.rec (motive := fun _ => E) (fun a0 a1 a2 a3 a4 a5 a6 a7 a8 a9 a10 a11 a12 a13 a14 a15 => ⟨a0, a1, a2, a3, a4, a5, a6, a7, a8, a9, a10, a11, R16.rec (motive := fun _ => R16 AV) (fun b0 b1 b2 b3 b4 b5 b6 b7 b8 b9 b10 b11 b12 b13 b14 b15 => ⟨b0, b1, b2, b3, b4, b5, b6, v, b8, b9, b10, b11, b12, b13, b14, b15⟩) a12, a13, a14, a15⟩) e⟩
  | 8 => ⟨fun e => e.a12.a8, fun e v => R16.rec (motive := fun _ => E) (fun a0 a1 a2 a3 a4 a5 a6 a7 a8 a9 a10 a11 a12 a13 a14 a15 => ⟨a0, a1, a2, a3, a4, a5, a6, a7, a8, a9, a10, a11, R16.rec (motive := fun _ => R16 AV) (fun b0 b1 b2 b3 b4 b5 b6 b7 b8 b9 b10 b11 b12 b13 b14 b15 => ⟨b0, b1, b2, b3, b4, b5, b6, b7, v, b9, b10, b11, b12, b13, b14, b15⟩) a12, a13, a14, a15⟩) e⟩
  | 9 => ⟨fun e => e.a12.a9, fun e v => R16.rec (motive := fun _ => E) (fun a0 a1 a2 a3 a4 a5 a6 a7 a8 a9 a10 a11 a12 a13 a14 a15 => ⟨a0, a1, a2, a3, a4, a5, a6, a7, a8, a9, a10, a11, R16.rec (motive := fun _ => R16 AV) (fun b0 b1 b2 b3 b4 b5 b6 b7 b8 b9 b10 b11 b12 b13 b14 b15 => ⟨b0, b1, b2, b3, b4, b5, b6, b7, b8, v, b10, b11, b12, b13, b14, b15⟩) a12, a13, a14, a15⟩) e⟩
  | 10 => ⟨fun e => e.a12.a10, fun e v => R16.rec (motive := fun _ => E) (fun a0 a1 a2 a3 a4 a5 a6 a7 a8 a9 a10 a11 a12 a13 a14 a15 => ⟨a0, a1, a2, a3, a4, a5, a6, a7, a8, a9, a10, a11, R16.rec (motive := fun _ => R16 AV) (fun b0 b1 b2 b3 b4 b5 b6 b7 b8 b9 b10 b11 b12 b13 b14 b15 => ⟨b0, b1, b2, b3, b4, b5, b6, b7, b8, b9, v, b11, b12, b13, b14, b15⟩) a12, a13, a14, a15⟩) e⟩
  | 11 => ⟨fun e => e.a12.a11, fun e v => R16.rec (motive := fun _ => E) (fun a0 a1 a2 a3 a4 a5 a6 a7 a8 a9 a10 a11 a12 a13 a14 a15 => ⟨a0, a1, a2, a3, a4, a5, a6, a7, a8, a9, a10, a11, R16.rec (motive := fun _ => R16 AV) (fun b0 b1 b2 b3 b4 b5 b6 b7 b8 b9 b10 b11 b12 b13 b14 b15 => ⟨b0, b1, b2, b3, b4, b5, b6, b7, b8, b9, b10, v, b12, b13, b14, b15⟩) a12, a13, a14, a15⟩) e⟩
  | 12 => ⟨fun e => e.a12.a12, fun e v => R16.rec (motive := fun _ => E) (fun a0 a1 a2 a3 a4 a5 a6 a7 a8 a9 a10 a11 a12 a13 a14 a15 => ⟨a0, a1, a2, a3, a4, a5, a6, a7, a8, a9, a10, a11, R16.rec (motive := fun _ => R16 AV) (fun b0 b1 b2 b3 b4 b5 b6 b7 b8 b9 b10 b11 b12 b13 b14 b15 => ⟨b0, b1, b2, b3, b4, b5, b6, b7, b8, b9, b10, b11, v, b13, b14, b15⟩) a12, a13, a14, a15⟩) e⟩
  | 13 => ⟨fun e => e.a12.a13, fun e v => R16.rec (motive := fun _ => E) (fun a0 a1 a2 a3 a4 a5 a6 a7 a8 a9 a10 a11 a12 a13 a14 a15 => ⟨a0, a1, a2, a3, a4, a5, a6, a7, a8, a9, a10, a11, R16.rec (motive := fun _ => R16 AV) (fun b0 b1 b2 b3 b4 b5 b6 b7 b8 b9 b10 b11 b12 b13 b14 b15 => ⟨b0, b1, b2, b3, b4, b5, b6, b7, b8, b9, b10, b11, b12, v, b14, b15⟩) a12, a13, a14, a15⟩) e⟩
  | 14 => ⟨fun e => e.a12.a14, fun e v => R16.rec (motive := fun _ => E) (fun a0 a1 a2 a3 a4 a5 a6 a7 a8 a9 a10 a11 a12 a13 a14 a15 => ⟨a0, a1, a2, a3, a4, a5, a6, a7, a8, a9, a10, a11, R16.rec (motive := fun _ => R16 AV) (fun b0 b1 b2 b3 b4 b5 b6 b7 b8 b9 b10 b11 b12 b13 b14 b15 => ⟨b0, b1, b2, b3, b4, b5, b6, b7, b8, b9, b10, b11, b12, b13, v, b15⟩) a12, a13, a14, a15⟩) e⟩
  | _ => ⟨fun e => e.a12.a15, fun e v => R16.rec (motive := fun _ => E) (fun a0 a1 a2 a3 a4 a5 a6 a7 a8 a9 a10 a11 a12 a13 a14 a15 => ⟨a0, a1, a2, a3, a4, a5, a6, a7, a8, a9, a10, a11, R16.rec (motive := fun _ => R16 AV) (fun b0 b1 b2 b3 b4 b5 b6 b7 b8 b9 b10 b11 b12 b13 b14 b15 => ⟨b0, b1, b2, b3, b4, b5, b6, b7, b8, b9, b10, b11, b12, b13, b14, v⟩) a12, a13, a14, a15⟩) e⟩
noncomputable def gg13 (n : Nat) : GG := match n with
  | 0 => ⟨fun e => e.a13.a0, fun e v => R16.rec (motive := fun _ => E) (fun a0 a1 a2 a3 a4 a5 a6 a7 a8 a9 a10 a11 a12 a13 a14 a15 => ⟨a0, a1, a2, a3, a4, a5, a6, a7, a8, a9, a10, a11, a12, R16.rec (motive := fun _ => R16 AV) (fun b0 b1 b2 b3 b4 b5 b6 b7 b8 b9 b10 b11 b12 b13 b14 b15 => ⟨v, b1, b2, b3, b4, b5, b6, b7, b8, b9, b10, b11, b12, b13, b14, b15⟩) a13, a14, a15⟩) e⟩
  | 1 => ⟨fun e => e.a13.a1, fun e v => R16.rec (motive := fun _ => E) (fun a0 a1 a2 a3 a4 a5 a6 a7 a8 a9 a10 a11 a12 a13 a14 a15 => ⟨a0, a1, a2, a3, a4, a5, a6, a7, a8, a9, a10, a11, a12, R16.rec (motive := fun _ => R16 AV) (fun b0 b1 b2 b3 b4 b5 b6 b7 b8 b9 b10 b11 b12 b13 b14 b15 => ⟨b0, v, b2, b3, b4, b5, b6, b7, b8, b9, b10, b11, b12, b13, b14, b15⟩) a13, a14, a15⟩) e⟩
  | 2 => ⟨fun e => e.a13.a2, fun e v => R16.rec (motive := fun _ => E) (fun a0 a1 a2 a3 a4 a5 a6 a7 a8 a9 a10 a11 a12 a13 a14 a15 => ⟨a0, a1, a2, a3, a4, a5, a6, a7, a8, a9, a10, a11, a12, R16.rec (motive := fun _ => R16 AV) (fun b0 b1 b2 b3 b4 b5 b6 b7 b8 b9 b10 b11 b12 b13 b14 b15 => ⟨b0, b1, v, b3, b4, b5, b6, b7, b8, b9, b10, b11, b12, b13, b14, b15⟩) a13, a14, a15⟩) e⟩
  | 3 => ⟨fun e => e.a13.a3, fun e v => R16.rec (motive := fun _ => E) (fun a0 a1 a2 a3 a4 a5 a6 a7 a8 a9 a10 a11 a12 a13 a14 a15 => ⟨a0, a1, a2, a3, a4, a5, a6, a7, a8, a9, a10, a11, a12, R16.rec (motive := fun _ => R16 AV) (fun b0 b1 b2 b3 b4 b5 b6 b7 b8 b9 b10 b11 b12 b13 b14 b15 => ⟨b0, b1, b2, v, b4, b5, b6, b7, b8, b9, b10, b11, b12, b13, b14, b15⟩) a13, a14, a15⟩) e⟩
  | 4 => ⟨fun e => e.a13.a4, fun e v => R16.rec (motive := fun _ => E) (fun a0 a1 a2 a3 a4 a5 a6 a7 a8 a9 a10 a11 a12 a13 a14 a15 => ⟨a0, a1, a2, a3, a4, a5, a6, a7, a8, a9, a10, a11, a12, R16.rec (motive := fun _ => R16 AV) (fun b0 b1 b2 b3 b4 b5 b6 b7 b8 b9 b10 b11 b12 b13 b14 b15 => ⟨b0, b1, b2, b3, v, b5, b6, b7, b8, b9, b10, b11, b12, b13, b14, b15⟩) a13, a14, a15⟩) e⟩
  | 5 => ⟨fun e => e.a13.a5, fun e v => R16.rec (motive := fun _ => E) (fun a0 a1 a2 a3 a4 a5 a6 a7 a8 a9 a10 a11 a12 a13 a14 a15 => ⟨a0, a1, a2, a3, a4, a5, a6, a7, a8, a9, a10, a11, a12, R16.rec (motive := fun _ => R16 AV) (fun b0 b1 b2 b3 b4 b5 b6 b7 b8 b9 b10 b11 b12 b13 b14 b15 => ⟨b0, b1, b2, b3, b4, v, b6, b7, b8, b9, b10, b11, b12, b13, b14, b15⟩) a13, a14, a15⟩) e⟩
  | 6 => ⟨fun e => e.a13.a6, fun e v => R16.rec (motive := fun _ => E) (fun a0 a1 a2 a3 a4 a5 a6 a7 a8 a9 a10 a11 a12 a13 a14 a15 => ⟨a0, a1, a2, a3, a4, a5, a6, a7, a8, a9, a10, a11, a12, R16.rec (motive := fun _ => R16 AV) (fun b0 b1 b2 b3 b4 b5 b6 b7 b8 b9 b10 b11 b12 b13 b14 b15 => ⟨b0, b1, b2, b3, b4, b5, v, b7, b8, b9, b10, b11, b12, b13, b14, b15⟩) a13, a14, a15⟩) e⟩
  | 7 => ⟨fun e => e.a13.a7, fun e v => R16.rec (motive := fun _ => E) (fun a0 a1 a2 a3 a4 a5 a6 a7 a8 a9 a10 a11 a12 a13 a14 a15 => ⟨a0, a1, a2, a3, a4, a5, a6, a7, a8, a9, a10, a11, a12, R16.rec (motive := fun _ => R16 AV) (fun b0 b1 b2 b3 b4 b5 b6 b7 b8 b9 b10 b11 b12 b13 b14 b15 => ⟨b0, b1, b2, b3, b4, b5, b6, v, b8, b9, b10, b11, b12, b13, b14, b15⟩) a13, a14, a15⟩) e⟩
  | 8 => ⟨fun e => e.a13.a8, fun e v => R16.rec (motive := fun _ => E) (fun a0 a1 a2 a3 a4 a5 a6 a7 a8 a9 a10 a11 a12 a13 a14 a15 => ⟨a0, a1, a2, a3, a4, a5, a6, a7, a8, a9, a10, a11, a12, R16.rec (motive := fun _ => R16 AV) (fun b0 b1 b2 b3 b4 b5 b6 b7 b8 b9 b10 b11 b12 b13 b14 b15 => ⟨b0, b1, b2, b3, b4, b5, b6, b7, v, b9, b10, b11, b12, b13, b14, b15⟩) a13, a14, a15⟩) e⟩
  | 9 => ⟨fun e => e.a13.a9, fun e v => R16.rec (motive := fun _ => E) (fun a0 a1 a2 a3 a4 a5 a6 a7 a8 a9 a10 a11 a12 a13 a14 a15 => ⟨a0, a1, a2, a3, a4, a5, a6, a7, a8, a9, a10, a11, a12, R16.rec (motive := fun _ => R16 AV) (fun b0 b1 b2 b3 b4 b5 b6 b7 b8 b9 b10 b11 b12 b13 b14 b15 => ⟨b0, b1, b2, b3, b4, b5, b6, b7, b8, v, b10, b11, b12, b13, b14, b15⟩) a13, a14, a15⟩) e⟩
  | 10 => ⟨fun e => e.a13.a10, fun e v => R16.rec (motive := fun _ => E) (fun a0 a1 a2 a3 a4 a5 a6 a7 a8 a9 a10 a11 a12 a13 a14 a15 => ⟨a0, a1, a2, a3, a4, a5, a6, a7, a8, a9, a10, a11, a12, R16.rec (motive := fun _ => R16 AV) (fun b0 b1 b2 b3 b4 b5 b6 b7 b8 b9 b10 b11 b12 b13 b14 b15 => ⟨b0, b1, b2, b3, b4, b5, b6, b7, b8, b9, v, b11, b12, b13, b14, b15⟩) a13, a14, a15⟩) e⟩
  | 11 => ⟨fun e => e.a13.a11, fun e v => R16.rec (motive := fun _ => E) (fun a0 a1 a2 a3 a4 a5 a6 a7 a8 a9 a10 a11 a12 a13 a14 a15 => ⟨a0, a1, a2, a3, a4, a5, a6, a7, a8, a9, a10, a11, a12, R16.rec (motive := fun _ => R16 AV) (fun b0 b1 b2 b3 b4 b5 b6 b7 b8 b9 b10 b11 b12 b13 b14 b15 => ⟨b0, b1, b2, b3, b4, b5, b6, b7, b8, b9, b10, v, b12, b13, b14, b15⟩) a13, a14, a15⟩) e⟩
  | 12 => ⟨fun e => e.a13.a12, fun e v => R16.rec (motive := fun _ => E) (fun a0 a1 a2 a3 a4 a5 a6 a7 a8 a9 a10 a11 a12 a13 a14 a15 => ⟨a0, a1, a2, a3, a4, a5, a6, a7, a8, a9, a10, a11, a12, R16.rec (motive := fun _ => R16 AV) (fun b0 b1 b2 b3 b4 b5 b6 b7 b8 b9 b10 b11 b12 b13 b14 b15 => ⟨b0, b1, b2, b3, b4, b5, b6, b7, b8, b9, b10, b11, v, b13, b14, b15⟩) a13, a14, a15⟩) e⟩
  | 13 => ⟨fun e => e.a13.a13, fun e v => R16.rec (motive := fun _ => E) (fun a0 a1 a2 a3 a4 a5 a6 a7 a8 a9 a10 a11 a12 a13 a14 a15 => ⟨a0, a1, a2, a3, a4, a5, a6, a7, a8, a9, a10, a11, a12, R16.rec (motive := fun _ => R16 AV) (fun b0 b1 b2 b3 b4 b5 b6 b7 b8 b9 b10 b11 b12 b13 b14 b15 => ⟨b0, b1, b2, b3, b4, b5, b6, b7, b8, b9, b10, b11, b12, v, b14, b15⟩) a13, a14, a15⟩) e⟩
  | 14 => ⟨fun e => e.a13.a14, fun e v => R16.rec (motive := fun _ => E) (fun a0 a1 a2 a3 a4 a5 a6 a7 a8 a9 a10 a11 a12 a13 a14 a15 => ⟨a0, a1, a2, a3, a4, a5, a6, a7, a8, a9, a10, a11, a12, R16.rec (motive := fun _ => R16 AV) (fun b0 b1 b2 b3 b4 b5 b6 b7 b8 b9 b10 b11 b12 b13 b14 b15 => ⟨b0, b1, b2, b3, b4, b5, b6, b7, b8, b9, b10, b11, b12, b13, v, b15⟩) a13, a14, a15⟩) e⟩
  | _ => ⟨fun e => e.a13.a15, fun e v => R16.rec (motive := fun _ => E) (fun a0 a1 a2 a3 a4 a5 a6 a7 a8 a9 a10 a11 a12 a13 a14 a15 => ⟨a0, a1, a2, a3, a4, a5, a6, a7, a8, a9, a10, a11, a12, R16.rec (motive := fun _ => R16 AV) (fun b0 b1 b2 b3 b4 b5 b6 b7 b8 b9 b10 b11 b12 b13 b14 b15 => ⟨b0, b1, b2, b3, b4, b5, b6, b7, b8, b9, b10, b11, b12, b13, b14, v⟩) a13, a14, a15⟩) e⟩
noncomputable def gg14 (n : Nat) : GG := match n with
  | 0 => ⟨fun e => e.a14.a0, fun e v => R16.rec (motive := fun _ => E) (fun a0 a1 a2 a3 a4 a5 a6 a7 a8 a9 a10 a11 a12 a13 a14 a15 => ⟨a0, a1, a2, a3, a4, a5, a6, a7, a8, a9, a10, a11, a12, a13, R16.rec (motive := fun _ => R16 AV) (fun b0 b1 b2 b3 b4 b5 b6 b7 b8 b9 b10 b11 b12 b13 b14 b15 => ⟨v, b1, b2, b3, b4, b5, b6, b7, b8, b9, b10, b11, b12, b13, b14, b15⟩) a14, a15⟩) e⟩
  | 1 => ⟨fun e => e.a14.a1, fun e v => R16.rec (motive := fun _ => E) (fun a0 a1 a2 a3 a4 a5 a6 a7 a8 a9 a10 a11 a12 a13 a14 a15 => ⟨a0, a1, a2, a3, a4, a5, a6, a7, a8, a9, a10, a11, a12, a13, R16.rec (motive := fun _ => R16 AV) (fun b0 b1 b2 b3 b4 b5 b6 b7 b8 b9 b10 b11 b12 b13 b14 b15 => ⟨b0, v, b2, b3, b4, b5, b6, b7, b8, b9, b10, b11, b12, b13, b14, b15⟩) a14, a15⟩) e⟩
  | 2 => ⟨fun e => e.a14.a2, fun e v => R16.rec (motive := fun _ => E) (fun a0 a1 a2 a3 a4 a5 a6 a7 a8 a9 a10 a11 a12 a13 a14 a15 => ⟨a0, a1, a2, a3, a4, a5, a6, a7, a8, a9, a10, a11, a12, a13, R16.rec (motive := fun _ => R16 AV) (fun b0 b1 b2 b3 b4 b5 b6 b7 b8 b9 b10 b11 b12 b13 b14 b15 => ⟨b0, b1, v, b3, b4, b5, b6, b7, b8, b9, b10, b11, b12, b13, b14, b15⟩) a14, a15⟩) e⟩
  | 3 => ⟨fun e => e.a14.a3, fun e v => R16.rec (motive := fun _ => E) (fun a0 a1 a2 a3 a4 a5 a6 a7 a8 a9 a10 a11 a12 a13 a14 a15 => ⟨a0, a1, a2, a3, a4, a5, a6, a7, a8, a9, a10, a11, a12, a13, R16.rec (motive := fun _ => R16 AV) (fun b0 b1 b2 b3 b4 b5 b6 b7 b8 b9 b10 b11 b12 b13 b14 b15 => ⟨b0, b1, b2, v, b4, b5, b6, b7, b8, b9, b10, b11, b12, b13, b14, b15⟩) a14, a15⟩) e⟩
  | 4 => ⟨fun e => e.a14.a4, fun e v => R16.rec (motive := fun _ => E) (fun a0 a1 a2 a3 a4 a5 a6 a7 a8 a9 a10 a11 a12 a13 a14 a15 => ⟨a0, a1, a2, a3, a4, a5, a6, a7, a8, a9, a10, a11, a12, a13, R16.rec (motive := fun _ => R16 AV) (fun b0 b1 b2 b3 b4 b5 b6 b7 b8 b9 b10 b11 b12 b13 b14 b15 => ⟨b0, b1, b2, b3, v, b5, b6, b7, b8, b9, b10, b11, b12, b13, b14, b15⟩) a14, a15⟩) e⟩
  | 5 => ⟨fun e => e.a14.a5, fun e v => R16.rec (motive := fun _ => E) (fun a0 a1 a2 a3 a4 a5 a6 a7 a8 a9 a10 a11 a12 a13 a14 a15 => ⟨a0, a1, a2, a3, a4, a5, a6, a7, a8, a9, a10, a11, a12, a13, R16.rec (motive := fun _ => R16 AV) (fun b0 b1 b2 b3 b4 b5 b6 b7 b8 b9 b10 b11 b12 b13 b14 b15 => ⟨b0, b1, b2, b3, b4, v, b6, b7, b8, b9, b10, b11, b12, b13, b14, b15⟩) a14, a15⟩) e⟩
  | 6 => ⟨fun e => e.a14.a6, fun e v => R16.rec (motive := fun _ => E) (fun a0 a1 a2 a3 a4 a5 a6 a7 a8 a9 a10 a11 a12 a13 a14 a15 => ⟨a0, a1, a2, a3, a4, a5, a6, a7, a8, a9, a10, a11, a12, a13, R16.rec (motive := fun _ => R16 AV) (fun b0 b1 b2 b3 b4 b5 b6 b7 b8 b9 b10 b11 b12 b13 b14 b15 => ⟨b0, b1, b2, b3, b4, b5, v, b7, b8, b9, b10, b11, b12, b13, b14, b15⟩) a14, a15⟩) e⟩
  | 7 => ⟨fun e => e.a14.a7, fun e v => R16.rec (motive := fun _ => E) (fun a0 a1 a2 a3 a4 a5 a6 a7 a8 a9 a10 a11 a12 a13 a14 a15 => ⟨a0, a1, a2, a3, a4, a5, a6, a7, a8, a9, a10, a11, a12, a13, R16.rec (motive := fun _ => R16 AV) (fun b0 b1 b2 b3 b4 b5 b6 b7 b8 b9 b10 b11 b12 b13 b14 b15 => ⟨b0, b1, b2, b3, b4, b5, b6, v, b8, b9, b10, b11, b12, b13, b14, b15⟩) a14, a15⟩) e⟩
  | 8 => ⟨fun e => e.a14.a8, fun e v => R16.rec (motive := fun _ => E) (fun a0 a1 a2 a3 a4 a5 a6 a7 a8 a9 a10 a11 a12 a13 a14 a15 => ⟨a0, a1, a2, a3, a4, a5, a6, a7, a8, a9, a10, a11, a12, a13, R16.rec (motive := fun _ => R16 AV) (fun b0 b1 b2 b3 b4 b5 b6 b7 b8 b9 b10 b11 b12 b13 b14 b15 => ⟨b0, b1, b2, b3, b4, b5, b6, b7, v, b9, b10, b11, b12, b13, b14, b15⟩) a14, a15⟩) e⟩
  | 9 => ⟨fun e => e.a14.a9, fun e v => R16.rec (motive := fun _ => E) (fun a0 a1 a2 a3 a4 a5 a6 a7 a8 a9 a10 a11 a12 a13 a14 a15 => ⟨a0, a1, a2, a3, a4, a5, a6, a7, a8, a9, a10, a11, a12, a13, R16.rec (motive := fun _ => R16 AV) (fun b0 b1 b2 b3 b4 b5 b6 b7 b8 b9 b10 b11 b12 b13 b14 b15 => ⟨b0, b1, b2, b3, b4, b5, b6, b7, b8, v, b10, b11, b12, b13, b14, b15⟩) a14, a15⟩) e⟩
  | 10 => ⟨fun e => e.a14.a10, fun e v => R16.rec (motive := fun _ => E) (fun a0 a1 a2 a3 a4 a5 a6 a7 a8 a9 a10 a11 a12 a13 a14 a15 => ⟨a0, a1, a2, a3, a4, a5, a6, a7, a8, a9, a10, a11, a12, a13, R16.rec (motive := fun _ => R16 AV) (fun b0 b1 b2 b3 b4 b5 b6 b7 b8 b9 b10 b11 b12 b13 b14 b15 => ⟨b0, b1, b2, b3, b4, b5, b6, b7, b8, b9, v, b11, b12, b13, b14, b15⟩) a14, a15⟩) e⟩
  | 11 => ⟨fun e => e.a14.a11, fun e v => R16.rec (motive := fun _ => E) (fun a0 a1 a2 a3 a4 a5 a6 a7 a8 a9 a10 a11 a12 a13 a14 a15 => ⟨a0, a1, a2, a3, a4, a5, a6, a7, a8, a9, a10, a11, a12, a13, R16.rec (motive := fun _ => R16 AV) (fun b0 b1 b2 b3 b4 b5 b6 b7 b8 b9 b10 b11 b12 b13 b14 b15 => ⟨b0, b1, b2, b3, b4, b5, b6, b7, b8, b9, b10, v, b12, b13, b14, b15⟩) a14, a15⟩) e⟩
  | 12 => ⟨fun e => e.a14.a12, fun e v => R16.rec (motive := fun _ => E) (fun a0 a1 a2 a3 a4 a5 a6 a7 a8 a9 a10 a11 a12 a13 a14 a15 => ⟨a0, a1, a2, a3, a4, a5, a6, a7, a8, a9, a10, a11, a12, a13, R16.rec (motive := fun _ => R16 AV) (fun b0 b1 b2 b3 b4 b5 b6 b7 b8 b9 b10 b11 b12 b13 b14 b15 => ⟨b0, b1, b2, b3, b4, b5, b6, b7, b8, b9, b10, b11, v, b13, b14, b15⟩) a14, a15⟩) e⟩
  | 13 => ⟨fun e => e.a14.a13, fun e v => R16.rec (motive := fun _ => E) (fun a0 a1 a2 a3 a4 a5 a6 a7 a8 a9 a10 a11 a12 a13 a14 a15 => ⟨a0, a1, a2, a3, a4, a5, a6, a7, a8, a9, a10, a11, a12, a13, R16.rec (motive := fun _ => R16 AV) (fun b0 b1 b2 b3 b4 b5 b6 b7 b8 b9 b10 b11 b12 b13 b14 b15 => ⟨b0, b1, b2, b3, b4, b5, b6, b7, b8, b9, b10, b11, b12, v, b14, b15⟩) a14, a15⟩) e⟩
  | 14 => ⟨fun e => e.a14.a14, fun e v => R16.rec (motive := fun _ => E) (fun a0 a1 a2 a3 a4 a5 a6 a7 a8 a9 a10 a11 a12 a13 a14 a15 => ⟨a0, a1, a2, a3, a4, a5, a6, a7, a8, a9, a10, a11, a12, a13, R16.rec (motive := fun _ => R16 AV) (fun b0 b1 b2 b3 b4 b5 b6 b7 b8 b9 b10 b11 b12 b13 b14 b15 => ⟨b0, b1, b2, b3, b4, b5, b6, b7, b8, b9, b10, b11, b12, b13, v, b15⟩) a14, a15⟩) e⟩
  | _ => ⟨fun e => e.a14.a15, fun e v => R16.rec (motive := fun _ => E) (fun a0 a1 a2 a3 a4 a5 a6 a7 a8 a9 a10 a11 a12 a13 a14 a15 => ⟨a0, a1, a2, a3, a4, a5, a6, a7, a8, a9, a10, a11, a12, a13, R16.rec (motive := fun _ => R16 AV) (fun b0 b1 b2 b3 b4 b5 b6 b7 b8 b9 b10 b11 b12 b13 b14 b15 => ⟨b0, b1, b2, b3, b4, b5, b6, b7, b8, b9, b10, b11, b12, b13, b14, v⟩) a14, a15⟩) e⟩
noncomputable def gg15 (n : Nat) : GG := match n with
  | 0 => ⟨fun e => e.a15.a0, fun e v => R16.rec (motive := fun _ => E) (fun a0 a1 a2 a3 a4 a5 a6 a7 a8 a9 a10 a11 a12 a13 a14 a15 => ⟨a0, a1, a2, a3, a4, a5, a6, a7, a8, a9, a10, a11, a12, a13, a14, R16.rec (motive := fun _ => R16 AV) (fun b0 b1 b2 b3 b4 b5 b6 b7 b8 b9 b10 b11 b12 b13 b14 b15 => ⟨v, b1, b2, b3, b4, b5, b6, b7, b8, b9, b10, b11, b12, b13, b14, b15⟩) a15⟩) e⟩
  | 1 => ⟨fun e => e.a15.a1, fun e v => R16.rec (motive := fun _ => E) (fun a0 a1 a2 a3 a4 a5 a6 a7 a8 a9 a10 a11 a12 a13 a14 a15 => ⟨a0, a1, a2, a3, a4, a5, a6, a7, a8, a9, a10, a11, a12, a13, a14, R16.rec (motive := fun _ => R16 AV) (fun b0 b1 b2 b3 b4 b5 b6 b7 b8 b9 b10 b11 b12 b13 b14 b15 => ⟨b0, v, b2, b3, b4, b5, b6, b7, b8, b9, b10, b11, b12, b13, b14, b15⟩) a15⟩) e⟩
  | 2 => ⟨fun e => e.a15.a2, fun e v => R16.rec (motive := fun _ => E) (fun a0 a1 a2 a3 a4 a5 a6 a7 a8 a9 a10 a11 a12 a13 a14 a15 => ⟨a0, a1, a2, a3, a4, a5, a6, a7, a8, a9, a10, a11, a12, a13, a14, R16.rec (motive := fun _ => R16 AV) (fun b0 b1 b2 b3 b4 b5 b6 b7 b8 b9 b10 b11 b12 b13 b14 b15 => ⟨b0, b1, v, b3, b4, b5, b6, b7, b8, b9, b10, b11, b12, b13, b14, b15⟩) a15⟩) e⟩
  | 3 => ⟨fun e => e.a15.a3, fun e v => R16.rec (motive := fun _ => E) (fun a0 a1 a2 a3 a4 a5 a6 a7 a8 a9 a10 a11 a12 a13 a14 a15 => ⟨a0, a1, a2, a3, a4, a5, a6, a7, a8, a9, a10, a11, a12, a13, a14, R16.rec (motive := fun _ => R16 AV) (fun b0 b1 b2 b3 b4 b5 b6 b7 b8 b9 b10 b11 b12 b13 b14 b15 => ⟨b0, b1, b2, v, b4, b5, b6, b7, b8, b9, b10, b11, b12, b13, b14, b15⟩) a15⟩) e⟩
  | 4 => ⟨fun e => e.a15.a4, fun e v => R16.rec (motive := fun _ => E) (fun a0 a1 a2 a3 a4 a5 a6 a7 a8 a9 a10 a11 a12 a13 a14 a15 => ⟨a0, a1, a2, a3, a4, a5, a6, a7, a8, a9, a10, a11, a12, a13, a14, R16.rec (motive := fun _ => R16 AV) (fun b0 b1 b2 b3 b4 b5 b6 b7 b8 b9 b10 b11 b12 b13 b14 b15 => ⟨b0, b1, b2, b3, v, b5, b6, b7, b8, b9, b10, b11, b12, b13, b14, b15⟩) a15⟩) e⟩
  | 5 => ⟨fun e => e.a15.a5, fun e v => R16.rec (motive := fun _ => E) (fun a0 a1 a2 a3 a4 a5 a6 a7 a8 a9 a10 a11 a12 a13 a14 a15 => ⟨a0, a1, a2, a3, a4, a5, a6, a7, a8, a9, a10, a11, a12, a13, a14, R16.rec (motive := fun _ => R16 AV) (fun b0 b1 b2 b3 b4 b5 b6 b7 b8 b9 b10 b11 b12 b13 b14 b15 => ⟨b0, b1, b2, b3, b4, v, b6, b7, b8, b9, b10, b11, b12, b13, b14, b15⟩) a15⟩) e⟩
  | 6 => ⟨fun e => e.a15.a6, fun e v => R16.rec (motive := fun _ => E) (fun a0 a1 a2 a3 a4 a5 a6 a7 a8 a9 a10 a11 a12 a13 a14 a15 => ⟨a0, a1, a2, a3, a4, a5, a6, a7, a8, a9, a10, a11, a12, a13, a14, R16.rec (motive := fun _ => R16 AV) (fun b0 b1 b2 b3 b4 b5 b6 b7 b8 b9 b10 b11 b12 b13 b14 b15 => ⟨b0, b1, b2, b3, b4, b5, v, b7, b8, b9, b10, b11, b12, b13, b14, b15⟩) a15⟩) e⟩
  | 7 => ⟨fun e => e.a15.a7, fun e v => R16.rec (motive := fun _ => E) (fun a0 a1 a2 a3 a4 a5 a6 a7 a8 a9 a10 a11 a12 a13 a14 a15 => ⟨a0, a1, a2, a3, a4, a5, a6, a7, a8, a9, a10, a11, a12, a13, a14, R16.rec (motive := fun _ => R16 AV) (fun b0 b1 b2 b3 b4 b5 b6 b7 b8 b9 b10 b11 b12 b13 b14 b15 => ⟨b0, b1, b2, b3, b4, b5, b6, v, b8, b9, b10, b11, b12, b13, b14, b15⟩) a15⟩) e⟩
  | 8 => ⟨fun e => e.a15.a8, fun e v => R16.rec (motive := fun _ => E) (fun a0 a1 a2 a3 a4 a5 a6 a7 a8 a9 a10 a11 a12 a13 a14 a15 => ⟨a0, a1, a2, a3, a4, a5, a6, a7, a8, a9, a10, a11, a12, a13, a14, R16.rec (motive := fun _ => R16 AV) (fun b0 b1 b2 b3 b4 b5 b6 b7 b8 b9 b10 b11 b12 b13 b14 b15 => ⟨b0, b1, b2, b3, b4, b5, b6, b7, v, b9, b10, b11, b12, b13, b14, b15⟩) a15⟩) e⟩
  | 9 => ⟨fun e => e.a15.a9, fun e v => R16.rec (motive := fun _ => E) (fun a0 a1 a2 a3 a4 a5 a6 a7 a8 a9 a10 a11 a12 a13 a14 a15 => ⟨a0, a1, a2, a3, a4, a5, a6, a7, a8, a9, a10, a11, a12, a13, a14, R16.rec (motive := fun _ => R16 AV) (fun b0 b1 b2 b3 b4 b5 b6 b7 b8 b9 b10 b11 b12 b13 b14 b15 => ⟨b0, b1, b2, b3, b4, b5, b6, b7, b8, v, b10, b11, b12, b13, b14, b15⟩) a15⟩) e⟩
  | 10 => ⟨fun e => e.a15.a10, fun e v => R16.rec (motive := fun _ => E) (fun a0 a1 a2 a3 a4 a5 a6 a7 a8 a9 a10 a11 a12 a13 a14 a15 => ⟨a0, a1, a2, a3, a4, a5, a6, a7, a8, a9, a10, a11, a12, a13, a14, R16.rec (motive := fun _ => R16 AV) (fun b0 b1 b2 b3 b4 b5 b6 b7 b8 b9 b10 b11 b12 b13 b14 b15 => ⟨b0, b1, b2, b3, b4, b5, b6, b7, b8, b9, v, b11, b12, b13, b14, b15⟩) a15⟩) e⟩
  | 11 => ⟨fun e => e.a15.a11, fun e v => R16.rec (motive := fun _ => E) (fun a0 a1 a2 a3 a4 a5 a6 a7 a8 a9 a10 a11 a12 a13 a14 a15 => ⟨a0, a1, a2, a3, a4, a5, a6, a7, a8, a9, a10, a11, a12, a13, a14, R16.rec (motive := fun _ => R16 AV) (fun b0 b1 b2 b3 b4 b5 b6 b7 b8 b9 b10 b11 b12 b13 b14 b15 => ⟨b0, b1, b2, b3, b4, b5, b6, b7, b8, b9, b10, v, b12, b13, b14, b15⟩) a15⟩) e⟩
  | 12 => ⟨fun e => e.a15.a12, fun e v => R16.rec (motive := fun _ => E) (fun a0 a1 a2 a3 a4 a5 a6 a7 a8 a9 a10 a11 a12 a13 a14 a15 => ⟨a0, a1, a2, a3, a4, a5, a6, a7, a8, a9, a10, a11, a12, a13, a14, R16.rec (motive := fun _ => R16 AV) (fun b0 b1 b2 b3 b4 b5 b6 b7 b8 b9 b10 b11 b12 b13 b14 b15 => ⟨b0, b1, b2, b3, b4, b5, b6, b7, b8, b9, b10, b11, v, b13, b14, b15⟩) a15⟩) e⟩
  | 13 => ⟨fun e => e.a15.a13, fun e v => R16.rec (motive := fun _ => E) (fun a0 a1 a2 a3 a4 a5 a6 a7 a8 a9 a10 a11 a12 a13 a14 a15 => ⟨a0, a1, a2, a3, a4, a5, a6, a7, a8, a9, a10, a11, a12, a13, a14, R16.rec (motive := fun _ => R16 AV) (fun b0 b1 b2 b3 b4 b5 b6 b7 b8 b9 b10 b11 b12 b13 b14 b15 => ⟨b0, b1, b2, b3, b4, b5, b6, b7, b8, b9, b10, b11, b12, v, b14, b15⟩) a15⟩) e⟩
  | 14 => ⟨fun e => e.a15.a14, fun e v => R16.rec (motive := fun _ => E) (fun a0 a1 a2 a3 a4 a5 a6 a7 a8 a9 a10 a11 a12 a13 a14 a15 => ⟨a0, a1, a2, a3, a4, a5, a6, a7, a8, a9, a10, a11, a12, a13, a14, R16.rec (motive := fun _ => R16 AV) (fun b0 b1 b2 b3 b4 b5 b6 b7 b8 b9 b10 b11 b12 b13 b14 b15 => ⟨b0, b1, b2, b3, b4, b5, b6, b7, b8, b9, b10, b11, b12, b13, v, b15⟩) a15⟩) e⟩
  | _ => ⟨fun e => e.a15.a15, fun e v => R16.rec (motive := fun _ => E) (fun a0 a1 a2 a3 a4 a5 a6 a7 a8 a9 a10 a11 a12 a13 a14 a15 => ⟨a0, a1, a2, a3, a4, a5, a6, a7, a8, a9, a10, a11, a12, a13, a14, R16.rec (motive := fun _ => R16 AV) (fun b0 b1 b2 b3 b4 b5 b6 b7 b8 b9 b10 b11 b12 b13 b14 b15 => ⟨b0, b1, b2, b3, b4, b5, b6, b7, b8, b9, b10, b11, b12, b13, b14, v⟩) a15⟩) e⟩
noncomputable def gg (n : Nat) : GG := match n / 16 with
  | 0 => gg0 (n % 16)
  | 1 => gg1 (n % 16)
  | 2 => gg2 (n % 16)
  | 3 => gg3 (n % 16)
  | 4 => gg4 (n % 16)
  | 5 => gg5 (n % 16)
  | 6 => gg6 (n % 16)
  | 7 => gg7 (n % 16)
  | 8 => gg8 (n % 16)
  | 9 => gg9 (n % 16)
  | 10 => gg10 (n % 16)
  | 11 => gg11 (n % 16)
  | 12 => gg12 (n % 16)
  | 13 => gg13 (n % 16)
  | 14 => gg14 (n % 16)
  | _ => gg15 (n % 16)

/-- The same by two steps. -/
def gh (n : Nat) : GG := ⟨fun r => (g16 (n % 16)).get ((g16 (n / 16)).get r), fun r v => (g16 (n / 16)).set r (fun q => (g16 (n % 16)).set q (fun _ => v))⟩

theorem gg_gh (n : Nat) (hn : n < 256) : (∀ e, (gg n).get e = (gh n).get e) ∧ ∀ e v, (gg n).set e v = (gh n).set e v := by
  have h1 : n / 16 < 16 := by omega
  have h2 : n % 16 < 16 := by omega
  simp only [gg, gh]
  generalize n / 16 = i at h1
  generalize n % 16 = j at h2
  rcases i with _ | _ | _ | _ | _ | _ | _ | _ | _ | _ | _ | _ | _ | _ | _ | _ | i
  all_goals first
    | (exfalso; omega)
    | (rcases j with _ | _ | _ | _ | _ | _ | _ | _ | _ | _ | _ | _ | _ | _ | _ | _ | j
       all_goals first | exact ⟨fun _ => rfl, fun _ _ => rfl⟩ | (exfalso; omega))

theorem gh_get (i j : Nat) (hi : i < 256) (hj : j < 256) (e : E) (v : AV) : (gh i).get ((gh j).set e v) = if i = j then v else (gh i).get e := by
  simp only [gh]
  rw [g16_get _ _ (by omega) (by omega)]
  by_cases h : i / 16 = j / 16
  · rw [if_pos h, h, g16_get _ _ (by omega) (by omega)]
    by_cases h2 : i % 16 = j % 16
    · rw [if_pos h2, if_pos (by omega)]
    · rw [if_neg h2, if_neg (by omega)]
  · rw [if_neg h, if_neg (by omega)]

theorem gg_get (i j : Nat) (hi : i < 256) (hj : j < 256) (e : E) (v : AV) : (gg i).get ((gg j).set e v) = if i = j then v else (gg i).get e := by
  rw [(gg_gh i hi).1, (gg_gh i hi).1, (gg_gh j hj).2]
  exact gh_get i j hi hj e v

/-! ### lists -/
noncomputable def lget {α : Type} (l : List α) : Nat → Option α := List.rec (fun _ => none) (fun x _ ih n => Nat.rec (some x) (fun m _ => ih m) n) l

theorem lget_eq {α : Type} : ∀ (l : List α) (n : Nat), lget l n = l[n]?
  | [], n => rfl
  | x :: l, 0 => rfl
  | x :: l, n + 1 => by
    change lget l n = _
    rw [lget_eq l n]; rfl

noncomputable def lset {α : Type} (l : List α) : Nat → α → Option (List α) := List.rec (fun _ _ => none) (fun x l ih n v => Nat.rec (some (v :: l)) (fun m _ => Option.rec none (fun l' => some (x :: l')) (ih m v)) n) l

theorem lset_eq {α : Type} : ∀ (l : List α) (n : Nat) (v : α) (r : List α), lset l n v = some r → n < l.length ∧ r = l.set n v
  | [], n, v, r, h => by cases h
  | x :: l, 0, v, r, h => by cases h; exact ⟨Nat.zero_lt_succ _, rfl⟩
  | x :: l, n + 1, v, r, h => by
    change (Option.rec none (fun l' => some (x :: l')) (lset l n v) : Option (List α)) = some r at h
    cases e : lset l n v with
    | none => rw [e] at h; cases h
    | some r' =>
      rw [e] at h
      cases h
      obtain ⟨h1, rfl⟩ := lset_eq l n v r' e
      exact ⟨Nat.succ_lt_succ h1, rfl⟩

/-- What is behind the n-th: the kernel keeps each. -/
noncomputable def ltail {α : Type} (l : List α) : List α := List.rec [] (fun _ l _ => l) l
noncomputable def lfrom {α : Type} (l : List α) (n : Nat) : List α := Nat.rec l (fun _ ih => ltail ih) n
noncomputable def lhead {α : Type} (l : List α) : Option α := List.rec none (fun x _ _ => some x) l

theorem lfrom_eq {α : Type} (l : List α) : ∀ n, lfrom l n = l.drop n
  | 0 => rfl
  | n + 1 => by
    have := lfrom_eq l n
    change ltail (lfrom l n) = _
    rw [this]
    rcases h : l.drop n with _ | ⟨x, r⟩
    · have h1 : l.length ≤ n := by simpa using h
      have : l.drop (n + 1) = [] := by simp; omega
      rw [this]; rfl
    · have : l.drop (n + 1) = (l.drop n).drop 1 := by rw [List.drop_drop]
      rw [this, h]; rfl

theorem lhead_from {α : Type} (l : List α) (n : Nat) : lhead (lfrom l n) = l[n]? := by
  rw [lfrom_eq]
  have : l[n]? = (l.drop n)[0]? := by simp
  rw [this]
  cases l.drop n <;> rfl

/-! ### what a value is -/
inductive OI where
  | none
  | some (k : IntKind) (n : Int)
inductive OB where
  | none
  | tt
  | ff

noncomputable def asI (v : AV) : OI := AV.rec (motive_1 := fun _ => OI) (motive_2 := fun _ => Unit) (motive_3 := fun _ => Unit) (fun _ => .none) (fun k n => .some k n) (fun _ => .none) .none (fun _ _ => .none) (fun _ _ => .none) .none (fun _ _ _ _ => .none) (fun _ _ => .none)
  .none (fun _ => .none) .none (fun _ _ _ _ _ => .none) .none (fun _ _ _ => .none) (fun _ _ => .none) (fun _ _ => .none) (fun _ _ => .none) (fun _ => .none) (fun _ _ => .none) () (fun _ _ _ _ => ()) () (fun _ _ _ _ => ()) v
theorem asI_eq {v : AV} {k : IntKind} {n : Int} (h : asI v = .some k n) : v = .int k n := by cases v <;> cases h; rfl

noncomputable def asB (v : AV) : OB := AV.rec (motive_1 := fun _ => OB) (motive_2 := fun _ => Unit) (motive_3 := fun _ => Unit) (fun b => Bool.rec .ff .tt b) (fun k n => .none) (fun _ => .none) .none (fun _ _ => .none) (fun _ _ => .none) .none (fun _ _ _ _ => .none) (fun _ _ => .none)
  .none (fun _ => .none) .none (fun _ _ _ _ _ => .none) .none (fun _ _ _ => .none) (fun _ _ => .none) (fun _ _ => .none) (fun _ _ => .none) (fun _ => .none) (fun _ _ => .none) () (fun _ _ _ _ => ()) () (fun _ _ _ _ => ()) v
theorem asB_tt {v : AV} (h : asB v = .tt) : v = .bool true := by
  cases v with
  | bool b => cases b <;> first | rfl | cases h
  | _ => cases h
theorem asB_ff {v : AV} (h : asB v = .ff) : v = .bool false := by
  cases v with
  | bool b => cases b <;> first | rfl | cases h
  | _ => cases h

/-- A pointer to a named block. -/
noncomputable def asP (v : AV) : Option (Nat × Nat) := AV.rec (motive_1 := fun _ => Option (Nat × Nat)) (motive_2 := fun _ => Unit) (motive_3 := fun _ => Unit) (fun _ => .none) (fun k n => .none) (fun _ => .none) .none (fun i o => some (i, o)) (fun _ _ => .none) .none (fun _ _ _ _ => .none) (fun _ _ => .none)
  .none (fun _ => .none) .none (fun _ _ _ _ _ => .none) .none (fun _ _ _ => .none) (fun _ _ => .none) (fun _ _ => .none) (fun _ _ => .none) (fun _ => .none) (fun _ _ => .none) () (fun _ _ _ _ => ()) () (fun _ _ _ _ => ()) v
theorem asP_eq {v : AV} {p : Nat × Nat} (h : asP v = some p) : v = .ptr p.1 p.2 := by cases v <;> cases h; rfl

noncomputable def asS (v : AV) : Option (List UInt8) := AV.rec (motive_1 := fun _ => Option (List UInt8)) (motive_2 := fun _ => Unit) (motive_3 := fun _ => Unit) (fun _ => .none) (fun k n => .none) (fun s => some s) .none (fun i o => .none) (fun _ _ => .none) .none (fun _ _ _ _ => .none) (fun _ _ => .none)
  .none (fun _ => .none) .none (fun _ _ _ _ _ => .none) .none (fun _ _ _ => .none) (fun _ _ => .none) (fun _ _ => .none) (fun _ _ => .none) (fun _ => .none) (fun _ _ => .none) () (fun _ _ _ _ => ()) () (fun _ _ _ _ => ()) v
theorem asS_eq {v : AV} {p : List UInt8} (h : asS v = some p) : v = .str p := by cases v <;> cases h; rfl

/-- One cell. -/
noncomputable def isOne (v : AV) : Bool := AV.rec (motive_1 := fun _ => Bool) (motive_2 := fun _ => Unit) (motive_3 := fun _ => Unit) (fun _ => true) (fun k n => true) (fun s => true) true (fun i o => true) (fun _ _ => true) true (fun _ _ _ _ => true) (fun _ _ => true)
  true (fun _ => true) true (fun _ _ _ _ _ => true) true (fun _ _ _ => true) (fun _ _ => false) (fun _ _ => false) (fun _ _ => false) (fun _ => false) (fun _ _ => false) () (fun _ _ _ _ => ()) () (fun _ _ _ _ => ()) v
noncomputable def isPanF (v : AV) : Bool := AV.rec (motive_1 := fun _ => Bool) (motive_2 := fun _ => Unit) (motive_3 := fun _ => Unit) (fun _ => false) (fun k n => false) (fun s => false) false (fun i o => false) (fun _ _ => false) false (fun _ _ _ _ => false) (fun _ _ => false)
  false (fun _ => false) false (fun _ _ _ _ _ => false) false (fun _ _ _ => false) (fun _ _ => false) (fun _ _ => false) (fun _ _ => true) (fun _ => false) (fun _ _ => false) () (fun _ _ _ _ => ()) () (fun _ _ _ _ => ()) v
theorem isPanF_eq {v : AV} (h : isPanF v = false) : v.isPan = false := by cases v <;> first | rfl | cases h
noncomputable def isIf (v : AV) : Bool := AV.rec (motive_1 := fun _ => Bool) (motive_2 := fun _ => Unit) (motive_3 := fun _ => Unit) (fun _ => false) (fun k n => false) (fun s => false) false (fun i o => false) (fun _ _ => false) false (fun _ _ _ _ => false) (fun _ _ => false)
  false (fun _ => false) false (fun _ _ _ _ _ => false) false (fun _ _ _ => true) (fun _ _ => false) (fun _ _ => false) (fun _ _ => false) (fun _ => false) (fun _ _ => false) () (fun _ _ _ _ => ()) () (fun _ _ _ _ => ()) v
theorem isIf_eq {v : AV} (h : isIf v = true) : ∃ t u, v = .iface t u := by cases v <;> first | exact ⟨_, _, rfl⟩ | cases h
theorem isOne_eq {v : AV} (h : isOne v = true) : v.cells = [v] ∧ v.st = true := by cases v <;> first | exact ⟨rfl, rfl⟩ | cases h

/-- A slice: block, place, length. -/
inductive OS where
  | none
  | nils
  | sl (id off len sz : Nat)
noncomputable def asL (v : AV) : OS := AV.rec (motive_1 := fun _ => OS) (motive_2 := fun _ => Unit) (motive_3 := fun _ => Unit) (fun _ => .none) (fun k n => .none) (fun s => .none) .none (fun i o => .none) (fun _ _ => .none) .nils (fun a b c d => .sl a b c d) (fun _ _ => .none)
  .none (fun _ => .none) .none (fun _ _ _ _ _ => .none) .none (fun _ _ _ => .none) (fun _ _ => .none) (fun _ _ => .none) (fun _ _ => .none) (fun _ => .none) (fun _ _ => .none) () (fun _ _ _ _ => ()) () (fun _ _ _ _ => ()) v
theorem asL_nils {v : AV} (h : asL v = .nils) : v = .nils := by cases v <;> cases h; rfl
theorem asL_sl {v : AV} {a b c d : Nat} (h : asL v = .sl a b c d) : v = .sl a b c d := by cases v <;> cases h; rfl

/-! ### numbers -/
noncomputable def kidx (k : IntKind) : Nat := IntKind.rec 0 1 2 3 4 5 6 7 k

noncomputable def kEq (a b : IntKind) : Bool := Nat.beq (kidx a) (kidx b)
theorem kEq_eq {a b : IntKind} (h : kEq a b = true) : a = b := by
  have := Nat.eq_of_beq_eq_true h
  cases a <;> cases b <;> first | rfl | (exact absurd this (by decide))

/-- The greatest number of a kind. -/
noncomputable def kmax (k : IntKind) : Nat := IntKind.rec 127 32767 2147483647 9223372036854775807 255 65535 4294967295 18446744073709551615 k
theorem kmax_lt (k : IntKind) (m : Nat) (h : Nat.ble m (kmax k) = true) : k.wrap (m : Int) = m := by
  have h := Nat.le_of_ble_eq_true h
  cases k <;> simp only [kmax] at h <;> simp only [IntKind.wrap, IntKind.bits, IntKind.signed] <;> simp <;> omega

noncomputable def fadd (k : IntKind) (a b : Int) : Int := Int.rec (fun m => Int.rec (fun n => Bool.rec (k.wrap (Int.ofNat m + Int.ofNat n)) (Int.ofNat (Nat.add m n)) (Nat.ble (Nat.add m n) (kmax k))) (fun n => k.wrap (Int.ofNat m + Int.negSucc n)) b) (fun m => k.wrap (Int.negSucc m + b)) a
theorem fadd_eq (k : IntKind) (a b : Int) : fadd k a b = k.wrap (a + b) := by
  cases a with
  | negSucc m => rfl
  | ofNat m => cases b with
    | negSucc n => rfl
    | ofNat n =>
      change (Bool.rec (k.wrap (Int.ofNat m + Int.ofNat n)) (Int.ofNat (Nat.add m n)) (Nat.ble (Nat.add m n) (kmax k)) : Int) = _
      cases h : Nat.ble (Nat.add m n) (kmax k) with
      | false => rfl
      | true => exact (kmax_lt k _ h).symm

noncomputable def fsub (k : IntKind) (a b : Int) : Int := Int.rec (fun m => Int.rec (fun n => Bool.rec (k.wrap (Int.ofNat m - Int.ofNat n)) (Bool.rec (k.wrap (Int.ofNat m - Int.ofNat n)) (Int.ofNat (Nat.sub m n)) (Nat.ble (Nat.sub m n) (kmax k))) (Nat.ble n m)) (fun n => k.wrap (Int.ofNat m - Int.negSucc n)) b) (fun m => k.wrap (Int.negSucc m - b)) a
theorem fsub_eq (k : IntKind) (a b : Int) : fsub k a b = k.wrap (a - b) := by
  cases a with
  | negSucc m => rfl
  | ofNat m => cases b with
    | negSucc n => rfl
    | ofNat n =>
      change (Bool.rec (k.wrap (Int.ofNat m - Int.ofNat n)) (Bool.rec (k.wrap (Int.ofNat m - Int.ofNat n)) (Int.ofNat (Nat.sub m n)) (Nat.ble (Nat.sub m n) (kmax k))) (Nat.ble n m) : Int) = _
      cases hl : Nat.ble n m with
      | false => rfl
      | true =>
        cases h : Nat.ble (Nat.sub m n) (kmax k) with
        | false => rfl
        | true =>
          have hl := Nat.le_of_ble_eq_true hl
          have : (Int.ofNat m - Int.ofNat n) = ((Nat.sub m n : Nat) : Int) := by
            simp only [Int.ofNat_eq_natCast]
            have : Nat.sub m n = m - n := rfl
            omega
          change Int.ofNat (Nat.sub m n) = k.wrap (Int.ofNat m - Int.ofNat n)
          rw [this]
          exact (kmax_lt k _ h).symm

noncomputable def flt (a b : Int) : Bool := Int.rec (fun m => Int.rec (fun n => Nat.ble (Nat.succ m) n) (fun _ => false) b) (fun m => Int.rec (fun _ => true) (fun n => Nat.ble (Nat.succ n) m) b) a
theorem flt_eq (a b : Int) : flt a b = decide (a < b) := by
  cases a with
  | ofNat m => cases b with
    | ofNat n =>
      change Nat.ble (m + 1) n = _
      rw [Bool.eq_iff_iff, Nat.ble_eq, decide_eq_true_iff]
      simp only [Int.ofNat_eq_natCast]
      omega
    | negSucc n =>
      change false = _
      symm
      rw [decide_eq_false_iff_not]
      simp only [Int.ofNat_eq_natCast]
      omega
  | negSucc m => cases b with
    | ofNat n =>
      change true = _
      symm
      rw [decide_eq_true_iff]
      simp only [Int.ofNat_eq_natCast]
      omega
    | negSucc n =>
      change Nat.ble (n + 1) m = _
      rw [Bool.eq_iff_iff, Nat.ble_eq, decide_eq_true_iff]
      omega

noncomputable def feq (a b : Int) : Bool := Int.rec (fun m => Int.rec (fun n => Nat.beq m n) (fun _ => false) b) (fun m => Int.rec (fun _ => false) (fun n => Nat.beq m n) b) a
theorem feq_eq (a b : Int) : feq a b = (a == b) := by
  cases a with
  | ofNat m => cases b with
    | ofNat n =>
      change Nat.beq m n = _
      rw [Bool.eq_iff_iff, Nat.beq_eq, beq_iff_eq]
      simp only [Int.ofNat_eq_natCast]
      omega
    | negSucc n =>
      change false = _
      symm
      rw [beq_eq_false_iff_ne]
      simp only [Int.ofNat_eq_natCast]
      omega
  | negSucc m => cases b with
    | ofNat n =>
      change false = _
      symm
      rw [beq_eq_false_iff_ne]
      simp only [Int.ofNat_eq_natCast]
      omega
    | negSucc n =>
      change Nat.beq m n = _
      rw [Bool.eq_iff_iff, Nat.beq_eq, beq_iff_eq]
      omega

/-! ### texts -/
noncomputable def ueq (a b : UInt8) : Bool := Nat.beq a.toNat b.toNat
noncomputable def seq (a : List UInt8) : List UInt8 → Bool := List.rec (fun b => List.rec true (fun _ _ _ => false) b) (fun x _ ih b => List.rec false (fun y b _ => Bool.rec false (ih b) (ueq x y)) b) a
theorem seq_eq : ∀ (a b : List UInt8), seq a b = (a == b)
  | [], [] => rfl
  | [], y :: b => rfl
  | x :: a, [] => rfl
  | x :: a, y :: b => by
    have ih := seq_eq a b
    change (Bool.rec false (seq a b) (ueq x y) : Bool) = _
    rw [ih]
    have hu : ueq x y = (x == y) := by
      rw [Bool.eq_iff_iff, ueq, Nat.beq_eq, beq_iff_eq]
      exact ⟨fun h => UInt8.toNat_inj.1 h, fun h => by rw [h]⟩
    rw [hu, List.cons_beq_cons]
    cases (x == y) <;> rfl

/-! ### memory -/
noncomputable def frev {α : Type} (l : List α) : List α → List α := List.rec (fun r => r) (fun x _ ih r => ih (x :: r)) l
theorem frev_eq {α : Type} : ∀ (l r : List α), frev l r = l.reverse ++ r
  | [], r => rfl
  | x :: l, r => by
    change frev l (x :: r) = _
    rw [frev_eq l]; simp
noncomputable def llen {α : Type} (l : List α) : Nat := List.rec 0 (fun _ _ ih => Nat.succ ih) l
theorem llen_eq {α : Type} : ∀ (l : List α), llen l = l.length
  | [] => rfl
  | x :: l => by
    change Nat.succ (llen l) = _
    rw [llen_eq l]; rfl

/-- A block as the kernel holds it: as it is, or its cells from the last one on. -/
inductive FB where
  | raw (b : Option Blk)
  | rev (l : List AV) (n : Nat) (h : l.length = n)

noncomputable def FB.blk (b : FB) : Option Blk := FB.rec (fun b => b) (fun l _ _ => some (.cells (frev l []))) b

/-- Memory as the kernel goes through it. -/
inductive BT where
  | leaf
  | val (b : FB)
  | node (l r : BT)

noncomputable def bget (d : Nat) : BT → Nat → FB :=
  Nat.rec (fun t i => BT.rec (.raw none) (fun b => Bool.rec (.raw none) b (Nat.beq i 0)) (fun _ _ _ _ => .raw none) t)
    (fun _ ih t i => BT.rec (.raw none) (fun _ => .raw none) (fun l r _ _ => Bool.rec (ih r (Nat.div i 2)) (ih l (Nat.div i 2)) (Nat.beq (Nat.mod i 2) 0)) t) d
noncomputable def bput (d : Nat) : BT → Nat → FB → BT :=
  Nat.rec (fun _ _ b => .val b)
    (fun _ ih t i b => BT.rec (Bool.rec (.node .leaf (ih .leaf (Nat.div i 2) b)) (.node (ih .leaf (Nat.div i 2) b) .leaf) (Nat.beq (Nat.mod i 2) 0))
      (fun _ => Bool.rec (.node .leaf (ih .leaf (Nat.div i 2) b)) (.node (ih .leaf (Nat.div i 2) b) .leaf) (Nat.beq (Nat.mod i 2) 0))
      (fun l r _ _ => Bool.rec (.node l (ih r (Nat.div i 2) b)) (.node (ih l (Nat.div i 2) b) r) (Nat.beq (Nat.mod i 2) 0)) t) d

theorem bget_leaf : ∀ (d j : Nat), bget d .leaf j = .raw none
  | 0, j => rfl
  | d + 1, j => rfl

theorem bget_node (d : Nat) (l r : BT) (j : Nat) : bget (d + 1) (.node l r) j = Bool.rec (bget d r (j / 2)) (bget d l (j / 2)) (Nat.beq (j % 2) 0) := rfl

theorem beq_cases (n : Nat) : (n % 2 = 0 ∧ Nat.beq (n % 2) 0 = true) ∨ (n % 2 = 1 ∧ Nat.beq (n % 2) 0 = false) := by
  rcases Nat.mod_two_eq_zero_or_one n with h | h
  · exact .inl ⟨h, by rw [h]; rfl⟩
  · exact .inr ⟨h, by rw [h]; rfl⟩

theorem bget_bput : ∀ (d : Nat) (t : BT) (i : Nat) (b : FB) (j : Nat), i < 2 ^ d → bget d (bput d t i b) j = if j = i then b else bget d t j
  | 0, t, i, b, j, hi => by
    have hi : i = 0 := by simpa using hi
    subst hi
    change (Bool.rec (.raw none) b (Nat.beq j 0) : FB) = _
    cases j with
    | zero => rfl
    | succ j =>
      rw [if_neg (by omega)]
      cases t <;> rfl
  | d + 1, t, i, b, j, hi => by
    have hi2 : i / 2 < 2 ^ d := by rw [Nat.pow_succ] at hi; omega
    have ih := fun t j => bget_bput d t (i / 2) b j hi2
    have core : ∀ l r : BT, bget (d + 1) (Bool.rec (.node l (bput d r (i / 2) b)) (.node (bput d l (i / 2) b) r) (Nat.beq (i % 2) 0)) j = if j = i then b else bget (d + 1) (.node l r) j := by
      intro l r
      rcases beq_cases i with ⟨h1, h2⟩ | ⟨h1, h2⟩ <;> rcases beq_cases j with ⟨h3, h4⟩ | ⟨h3, h4⟩ <;> rw [h2]
      · rw [bget_node, bget_node, h4]
        simp only
        rw [ih]
        by_cases h : j = i
        · rw [if_pos h, if_pos (by omega)]
        · rw [if_neg h, if_neg (by omega)]
      · rw [bget_node, bget_node, h4]
        simp only
        rw [if_neg (by omega)]
      · rw [bget_node, bget_node, h4]
        simp only
        rw [if_neg (by omega)]
      · rw [bget_node, bget_node, h4]
        simp only
        rw [ih]
        by_cases h : j = i
        · rw [if_pos h, if_pos (by omega)]
        · rw [if_neg h, if_neg (by omega)]
    cases t with
    | leaf =>
      have := core .leaf .leaf
      rw [bget_node, bget_leaf] at this
      rw [bget_leaf]
      refine Eq.trans this ?_
      split
      · rfl
      · cases Nat.beq (j % 2) 0 <;> rfl
    | val c =>
      have := core .leaf .leaf
      rw [bget_node, bget_leaf] at this
      refine Eq.trans this ?_
      split
      · rfl
      · change _ = FB.raw none
        cases Nat.beq (j % 2) 0 <;> rfl
    | node l r => exact core l r

noncomputable def den (h : BT) : Heap := fun j => FB.blk (bget 16 h j)
noncomputable def hput (h : BT) (i : Nat) (b : FB) : BT := bput 16 h i b

theorem den_hput (h : BT) {i : Nat} (hi : i < 65536) (b : FB) : den (hput h i b) = fun j => if j = i then b.blk else den h j := by
  funext j
  simp only [den, hput]
  rw [bget_bput 16 h i b j hi]
  split <;> rfl
theorem den_put (h : BT) {i : Nat} (hi : i < 65536) (b : Blk) : den (hput h i (.raw (some b))) = (den h).put i b := den_hput h hi (.raw (some b))
theorem den_leaf : den .leaf = fun _ => none := rfl

noncomputable def bcells (b : Option Blk) : Option (List AV) := Option.rec none (fun b => Blk.rec (fun cs => some cs) (fun _ => none) (fun _ _ => none) (fun _ => none) (fun _ => none) b) b
theorem bcells_eq {b : Option Blk} {cs : List AV} (h : bcells b = some cs) : b = some (.cells cs) := by
  cases b with
  | none => cases h
  | some b => cases b <;> cases h; rfl

/-- A cell of a block. -/
noncomputable def fcell (b : FB) (i : Nat) : Option AV := FB.rec (fun b => Option.rec none (fun cs => lhead (lfrom cs i)) (bcells b)) (fun l n _ => Bool.rec none (lhead (lfrom l (Nat.sub n (Nat.succ i)))) (Nat.ble (Nat.succ i) n)) b
theorem fcell_ok {b : FB} {i : Nat} {v : AV} (h : fcell b i = some v) : ∃ cs, b.blk = some (.cells cs) ∧ cs[i]? = some v := by
  cases b with
  | raw b =>
    change (Option.rec none (fun cs => lhead (lfrom cs i)) (bcells b) : Option AV) = _ at h
    cases hb : bcells b with
    | none => rw [hb] at h; cases h
    | some cs =>
      rw [hb] at h
      simp only at h
      rw [lhead_from] at h
      exact ⟨cs, bcells_eq hb, h⟩
  | rev l n hn =>
    change (Bool.rec none (lhead (lfrom l (Nat.sub n (Nat.succ i)))) (Nat.ble (Nat.succ i) n) : Option AV) = _ at h
    cases hb : Nat.ble (Nat.succ i) n with
    | false => rw [hb] at h; cases h
    | true =>
      rw [hb] at h
      simp only at h
      rw [lhead_from] at h
      have hi : i < n := Nat.le_of_ble_eq_true hb
      refine ⟨frev l [], rfl, ?_⟩
      rw [frev_eq, List.append_nil, List.getElem?_reverse (by omega), hn]
      rw [← h]
      congr 1
      show n - 1 - i = n - (i + 1)
      omega
end Go.Ev
