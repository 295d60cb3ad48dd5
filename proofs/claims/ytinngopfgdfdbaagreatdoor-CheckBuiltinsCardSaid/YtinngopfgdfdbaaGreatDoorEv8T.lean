/- Abstract operations: type assertions, greatest, bytes of a text, clearing of a map. -/
import Derived.Test.YtinngopfgdfdbaaGreatDoorEv8
import Derived.Stop.Asserts
import Derived.Lib.ConvBytes
import Derived.RangeFuncRecord
set_option linter.unusedVariables false
set_option linter.unusedSimpArgs false
namespace Go.Ev

/-! ### type assertions, with ok -/
def evTA (P : Program) (as : TypeId) (ok : Bool) (v : AV) : Option AV :=
  if ok = true then match P.underlying as with
    | some (.interface want) => match v with
      | .nili => (zero? P as).map fun z => .tup [z, .bool false]
      | .iface t u => match P.info? t with
        | some i => if (lacking want i.methods).isEmpty = true then some (.tup [.iface t u, .bool true]) else (zero? P as).map fun z => .tup [z, .bool false]
        | none => none
      | _ => none
    | some _ => match v with
      | .nili => (zero? P as).map fun z => .tup [z, .bool false]
      | .iface t u => if t = as then some (.tup [u, .bool true]) else (zero? P as).map fun z => .tup [z, .bool false]
      | _ => none
    | none => none
  else none

section
variable {P : Program} {X : Cx} {s : HS} {w0 : W0} {w : World}

theorem V.pair {x : AV} {y : Value} {b : Bool} (h : V X x y) : V X (.tup [x, .bool b]) (.tuple #[y, .bool b]) := by
  simpa using V.tupL (.cons h (.one (.bool b)))

theorem evTA_sound {xT as : TypeId} {ok : Bool} {v r : AV} {vv : Value} (hv : V X v vv) (h : evTA P as ok v = some r) : ∃ y, (Instr.typeAssert vv xT as ok).run P w = .ok y w ∧ V X r y := by
  unfold evTA at h
  split at h <;> try cases h
  rename_i hok
  subst hok
  have fails : ∀ {z : AV}, zero? P as = some z → ∃ zv, (zeroValue as).run P w = .ok zv w ∧ V X z zv := fun hz => run_zero (P := P) (X := X) w hz
  split at h <;> try cases h
  · rename_i want hu
    split at h <;> try cases h
    · cases hv
      rw [Option.map_eq_some_iff] at h
      obtain ⟨z, hz, rfl⟩ := h
      obtain ⟨zv, h1, h2⟩ := fails hz
      exact ⟨_, by simp [Instr.typeAssert, run_underlying hu, h1], h2.pair⟩
    · rename_i t u
      cases hv with
      | iface _ hx =>
      split at h <;> try cases h
      rename_i i hi
      split at h
      · rename_i hl
        cases h
        exact ⟨_, run_typeAssert_has hu hi (List.isEmpty_iff.1 hl), (V.iface t hx).pair⟩
      · rename_i hl
        rw [Option.map_eq_some_iff] at h
        obtain ⟨z, hz, rfl⟩ := h
        obtain ⟨zv, h1, h2⟩ := fails hz
        obtain ⟨m, hm⟩ := missingMethod_some (fun e => hl (by rw [e]; rfl))
        exact ⟨_, by simp [Instr.typeAssert, run_underlying hu, typeInfo, hi, hm, h1], h2.pair⟩
  · rename_i d hni hu
    have hne : ∀ want, d ≠ .interface want := fun want e => hni want e
    split at h <;> try cases h
    · cases hv
      rw [Option.map_eq_some_iff] at h
      obtain ⟨z, hz, rfl⟩ := h
      obtain ⟨zv, h1, h2⟩ := fails hz
      refine ⟨_, ?_, h2.pair⟩
      simp only [Instr.typeAssert, Sem.run_bind, run_underlying hu, Result.andThen_ok]
      cases d <;> first | exact absurd rfl (hne _) | simp [h1]
    · rename_i t u
      cases hv with
      | iface _ hx =>
      split at h
      · rename_i ht
        cases h
        refine ⟨_, ?_, hx.pair⟩
        simp only [Instr.typeAssert, Sem.run_bind, run_underlying hu, Result.andThen_ok]
        cases d <;> first | exact absurd rfl (hne _) | simp [ht]
      · rename_i ht
        rw [Option.map_eq_some_iff] at h
        obtain ⟨z, hz, rfl⟩ := h
        obtain ⟨zv, h1, h2⟩ := fails hz
        refine ⟨_, ?_, h2.pair⟩
        simp only [Instr.typeAssert, Sem.run_bind, run_underlying hu, Result.andThen_ok]
        cases d <;> first | exact absurd rfl (hne _) | simp [ht, h1]

/-! ### the greatest of two -/
def evMax (x y : AV) : Option AV := match x, y with
  | .int k a, .int _ b => some (.int k (if b > a then b else a))
  | _, _ => none

theorem evMax_sound {tys : Array TypeId} {ty : TypeId} {x y r : AV} {xv yv : Value} (hx : V X x xv) (hy : V X y yv) (h : evMax x y = some r) : ∃ v, (Builtin.max_ tys ty #[xv, yv]).run P w = .ok v w ∧ V X r v := by
  unfold evMax at h
  split at h <;> cases h
  cases hx; cases hy
  rename_i k a k' b
  exact ⟨.int k (if b > a then b else a), by simp [Builtin.max_, Builtin.max2], .int _ _⟩

/-! ### the bytes of a text, which nobody writes -/
def evBytes (P : Program) (src dst : TypeId) (x : AV) : Option AV := match P.underlying src with
  | some _ => match P.underlying dst with
    | some (.slice e) => match P.underlying e with
      | some (.int .u8) => match x with
        | .str l => some (.fsl (l.map fun b => [.int .u8 b.toNat]))
        | _ => none
      | _ => none
    | _ => none
  | none => none

/-- A new block, frozen. -/
theorem R.newIce (h : R X s w0 w) {o : Obj} {w' : World} (hos : w'.os = w.os) (htape : w'.tape = w.tape) (hout : w'.output = w.output) (hsz : w'.heap.size = w.heap.size + 1)
    (hnew : w'.heap[w.heap.size]? = some o) (hold : ∀ j, j < w.heap.size → w'.heap[j]? = w.heap[j]?) : R (X.ice w.heap.size o) s w0 w' := by
  have hle : X.Le (X.ice w.heap.size o) := Cx.le_ice (.inl h.phi_none)
  have hs0 := h.size
  refine ⟨hos.trans h.os, htape.trans h.tape, hout.trans h.output, by omega, ?_, ?_, ?_, h.inj, h.fresh, fun r g hg => let ⟨g1, g2, g3⟩ := h.gh r g hg; ⟨g1, g2, g3.turn hg (fun _ _ _ => rfl) ?_⟩⟩
  rotate_right
  · intro b sz u h2 h3 h4
    have hlt : b < w.heap.size := (Array.getElem?_eq_some_iff.1 h3).1
    refine ⟨?_, by rw [hold b hlt]; exact h3, h4⟩
    simp only [Cx.ice]
    rw [if_neg (by omega)]
    exact h2
  · intro b hb
    obtain ⟨o1, o2, o3⟩ := h.old b hb
    simp only [Cx.ice]
    rw [if_neg (by omega)]
    exact ⟨o1, by rw [hold b (by omega)]; exact o2, o3⟩
  · intro b u hb
    simp only [Cx.ice] at hb
    split at hb
    · cases hb; subst_vars; exact hnew
    · rw [hold b (h.phi_lt hb)]; exact h.phi b u hb
  · intro id k hk
    obtain ⟨b, base, size, o', h1, h2, h3, h4⟩ := h.live id k hk
    have hlt := h.live_lt hk h1
    refine ⟨b, base, size, o', h1, ?_, by rw [hold b hlt]; exact h3, h4.mono hle⟩
    simp only [Cx.ice]
    rw [if_neg (by omega)]
    exact h2

theorem evBytes_sound (hR : R X s w0 w) {src dst : TypeId} {x r : AV} {xv : Value} (hx : V X x xv) (h : evBytes P src dst x = some r) : ∃ Y y w', X.Le Y ∧ (convert src dst xv).run P w = .ok y w' ∧ V Y r y ∧ R Y s w0 w' := by
  unfold evBytes at h
  split at h <;> try cases h
  rename_i u hs
  split at h <;> try cases h
  rename_i e hd
  split at h <;> try cases h
  rename_i he
  split at h <;> cases h
  rename_i l
  cases hx
  have hrun := Lib.run_convert_string_bytes (P := P) w src dst e ⟨⟨l⟩⟩ hs hd he
  have hsz : (⟨⟨l⟩⟩ : ByteArray).size = l.length := rfl
  have hR' := hR.newIce (o := .cells (Lib.bytesCells w e ⟨⟨l⟩⟩) e ((Lib.bytesCells w e ⟨⟨l⟩⟩).size, (Lib.bytesCells w e ⟨⟨l⟩⟩).size + 1)) (w' := Lib.bytesWorld w e ⟨⟨l⟩⟩) (by rfl) (by rfl) (by rfl) (Lib.bytesWorld_size w e _) (Lib.bytesWorld_at_new w e _) (Lib.bytesWorld_at_old w e _)
  refine ⟨_, _, _, Cx.le_ice (.inl hR.phi_none), hrun, ?_, hR'⟩
  have hlen : (l.map fun b => [AV.int .u8 b.toNat]).length = l.length := by simp
  have key := V.fsl (X := X.ice w.heap.size (.cells (Lib.bytesCells w e ⟨⟨l⟩⟩) e ((Lib.bytesCells w e ⟨⟨l⟩⟩).size, (Lib.bytesCells w e ⟨⟨l⟩⟩).size + 1))) (rows := l.map fun b => [AV.int .u8 b.toNat]) (b := w.heap.size) (o := 0) (cap := grownCap w (⟨⟨l⟩⟩ : ByteArray).size 0 e) (sz := 1)
    (fun i _ => .int .u8 (l.getD i 0).toNat) (by simp [Cx.ice]; exact ⟨rfl, rfl, rfl⟩) (by simp) ?_ ?_ (by rw [hlen]; have := grownCap_ge w (⟨⟨l⟩⟩ : ByteArray).size 0 e; rw [hsz] at this ⊢; exact this) (by simp [AV.one])
  · rw [hlen] at key
    exact key
  · intro i j hi hj
    have hj0 : j = 0 := by omega
    subst hj0
    rw [hlen] at hi
    simp [Lib.bytesCells, Array.getElem?_append, hi, List.getD]
  · intro i row j x hr hx
    simp only [List.getElem?_map, Option.map_eq_some_iff] at hr
    obtain ⟨b, hb, rfl⟩ := hr
    rcases j with _ | j
    · simp at hx
      subst hx
      simp only [List.getD, hb, Option.getD_some]
      exact .int _ _
    · simp at hx

def evConv2 (P : Program) (h : Heap) (src dst : TypeId) (x : AV) : Option AV := match evConv P h src dst x with
  | some r => some r
  | none => evBytes P src dst x

theorem evConv2_sound (hR : R X s w0 w) {src dst : TypeId} {x r : AV} {xv : Value} (hx : V X x xv) (h : evConv2 P s.h src dst x = some r) : ∃ Y y w', X.Le Y ∧ (convert src dst xv).run P w = .ok y w' ∧ V Y r y ∧ R Y s w0 w' := by
  unfold evConv2 at h
  split at h
  · rename_i u hu
    cases h
    obtain ⟨y, h1, h2⟩ := evConv_sound (P := P) hR hx hu
    exact ⟨X, y, w, Cx.Le.refl X, h1, h2, hR⟩
  · exact evBytes_sound hR hx h

/-! ### a map is cleared -/
def evClear (P : Program) (s : HS) (t : TypeId) (x : AV) : Option HS := match P.underlying t with
  | some _ => match x with
    | .nilm => some s
    | .map id => match s.h id with
      | some (.map _) => some ⟨s.h.put id (.map []), s.n⟩
      | _ => none
    | _ => none
  | none => none

theorem evClear_sound (hR : R X s w0 w) {t ty : TypeId} {x : AV} {xv : Value} {s' : HS} (hx : V X x xv) (h : evClear P s t x = some s') : ∃ w', (Builtin.clear_ #[t] ty #[xv]).run P w = .ok (.tuple #[]) w' ∧ R X s' w0 w' := by
  unfold evClear at h
  split at h <;> try cases h
  rename_i d hu
  split at h <;> try cases h
  · cases hx
    exact ⟨w, by simp [Builtin.clear_, run_underlying hu], hR⟩
  · rename_i id
    cases hx with
    | @map _ b base size hm =>
    split at h <;> cases h
    rename_i es hk
    obtain ⟨b', base', size', o, h1, h2, h3, h4⟩ := hR.live id _ hk
    rw [hm] at h1; cases h1
    cases h4 with
    | @map _ ms clock hl hmm =>
      have hlt := hR.live_lt hk hm
      have hg : (getObj b).run P w = .ok (.map ms clock) w := by simp only [getObj, Sem.run, h3]
      have hs : (setObj b (.map #[] clock)).run P w = .ok () (w.putObj b (.map #[] clock)) := by simp only [setObj, Sem.run, h3]; rfl
      refine ⟨w.putObj b (.map #[] clock), ?_, hR.turn (w' := w.putObj b (.map #[] clock)) hk hm (k' := .map []) (o' := .map #[] clock) (.map (by simp) (fun i x m hx _ => by simp at hx)) rfl rfl rfl (by simp) (World.putObj_heap_same hlt) (fun j hj => World.putObj_heap_other hj)⟩
      simp [Builtin.clear_, run_underlying hu, hg, hs]
end
end Go.Ev
