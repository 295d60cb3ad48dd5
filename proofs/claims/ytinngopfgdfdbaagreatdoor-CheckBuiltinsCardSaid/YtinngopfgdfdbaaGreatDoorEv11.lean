/- Regions: in the listed order, and in whatever order the edges allow. -/
import Derived.Test.YtinngopfgdfdbaaGreatDoorEv10
import Derived.OrdersIn
set_option linter.unusedVariables false
set_option linter.unusedSimpArgs false
namespace Go.Ev

/-! ### what comes before what -/
def emask (acc : List Nat) : List Edge → Nat
  | [] => 0
  | e :: es => if Region.binds .any e then 2 ^ e.on ||| acc.getD e.on 0 ||| emask acc es else emask acc es

def masksFrom (acc : List Nat) : List Oper → List Nat
  | [] => acc
  | o :: os => masksFrom (acc ++ [emask acc o.after.toList]) os

def masks (ops : Array Oper) : List Nat := masksFrom [] ops.toList

theorem emask_bit {acc : List Nat} : ∀ {es : List Edge} {j : Nat}, (emask acc es).testBit j = true → ∃ e ∈ es, Region.binds .any e = true ∧ (e.on = j ∨ (acc.getD e.on 0).testBit j = true)
  | [], j, h => by simp [emask] at h
  | e :: es, j, h => by
    unfold emask at h
    split at h
    · rename_i hb
      simp only [Nat.testBit_or, Bool.or_eq_true] at h
      rcases h with (h | h) | h
      · refine ⟨e, .head _, hb, .inl ?_⟩
        rw [Nat.testBit_two_pow] at h
        simpa using h
      · exact ⟨e, .head _, hb, .inr h⟩
      · obtain ⟨e', he', hb', hj⟩ := emask_bit h
        exact ⟨e', .tail _ he', hb', hj⟩
    · obtain ⟨e', he', hb', hj⟩ := emask_bit h
      exact ⟨e', .tail _ he', hb', hj⟩

theorem masksFrom_spec : ∀ (os : List Oper) (acc : List Nat), ∃ rest, masksFrom acc os = acc ++ rest ∧ rest.length = os.length ∧
    ∀ i o, os[i]? = some o → ∃ pre, pre <+: masksFrom acc os ∧ pre.length = acc.length + i ∧ (masksFrom acc os)[acc.length + i]? = some (emask pre o.after.toList)
  | [], acc => ⟨[], by simp [masksFrom], rfl, fun i o h => by simp at h⟩
  | o :: os, acc => by
    obtain ⟨rest, h1, h2, h3⟩ := masksFrom_spec os (acc ++ [emask acc o.after.toList])
    refine ⟨emask acc o.after.toList :: rest, by simp [masksFrom, h1], by simp [h2], ?_⟩
    intro i u hu
    cases i with
    | zero =>
      simp at hu
      subst hu
      refine ⟨acc, ⟨emask acc o.after.toList :: rest, by simp [masksFrom, h1]⟩, by simp, ?_⟩
      simp [masksFrom, h1]
    | succ i =>
      simp at hu
      obtain ⟨pre, hp, hl, he⟩ := h3 i u hu
      refine ⟨pre, hp, by simp at hl; omega, ?_⟩
      simp only [List.length_append, List.length_singleton] at he
      rw [show acc.length + (i + 1) = acc.length + 1 + i by omega]
      exact he

theorem masks_bit {ops : Array Oper} {i j : Nat} {o : Oper} (ho : ops[i]? = some o) (h : ((masks ops).getD i 0).testBit j = true) :
    ∃ e ∈ o.after.toList, Region.binds .any e = true ∧ (e.on = j ∨ ((masks ops).getD e.on 0).testBit j = true) := by
  obtain ⟨rest, h1, h2, h3⟩ := masksFrom_spec ops.toList []
  obtain ⟨pre, hp, hl, he⟩ := h3 i o (by simpa using ho)
  simp only [List.length_nil, Nat.zero_add] at hl he
  have hg : (masks ops).getD i 0 = emask pre o.after.toList := by
    unfold masks
    rw [List.getD, he]
    rfl
  rw [hg] at h
  obtain ⟨e, hem, hb, hj⟩ := emask_bit h
  refine ⟨e, hem, hb, hj.imp id fun hj => ?_⟩
  rcases Nat.lt_or_ge e.on pre.length with hlt | hge
  · obtain ⟨t, ht⟩ := hp
    have : (masks ops).getD e.on 0 = pre.getD e.on 0 := by
      unfold masks
      rw [← ht, List.getD, List.getD, List.getElem?_append_left hlt]
    rw [this]; exact hj
  · have : pre.getD e.on 0 = 0 := by simp [List.getD, List.getElem?_eq_none hge]
    rw [this] at hj
    simp at hj

/-! ### the slots -/
def putA (ts : List AV) (dst : Option Tmp) (v : AV) : List AV :=
  match dst with
  | some d => ts.set d v
  | none => ts

def yieldedA (ops : Array Oper) (ts : List AV) (j : Nat) : Option Bool :=
  match ops[j]? with
  | some o => match o.dst with
    | some d => match ts.getD d (.tup []) with
      | .bool b => some b
      | _ => none
    | none => none
  | none => none

def wantedA (ops : Array Oper) (o : Oper) (ts : List AV) : Bool :=
  match o.guard with
  | none => true
  | some (j, want) => yieldedA ops ts j == some want

theorem put_V {X : Cx} {ts : List AV} {a : Act} (ha : VL X ts a.tmps.toList) {x : AV} {y : Value} (dst : Option Tmp) (hv : V X x y) : VL X (putA ts dst x) (a.put dst y).tmps.toList := by
  cases dst with
  | none => simpa [putA, Act.put] using ha
  | some d =>
    have := ha.set d hv
    simpa [putA, Act.put] using this

theorem yielded_V {X : Cx} {ops : Array Oper} {ts : List AV} {tmps : Array Value} (ha : VL X ts tmps.toList) (j : Nat) : yielded ops tmps j = yieldedA ops ts j := by
  unfold yielded yieldedA
  cases ho : ops[j]? with
  | none => simp
  | some o =>
    cases hd : o.dst with
    | none => simp [hd]
    | some d =>
      simp only [Option.bind_some, hd]
      rcases Nat.lt_or_ge d ts.length with hl | hl
      · obtain ⟨y, hy, hv⟩ := ha.get (List.getElem?_eq_getElem hl)
        have hy' : tmps[d]? = some y := by simpa using hy
        have h2 : ts.getD d (.tup []) = ts[d] := by simp [List.getD, hl]
        rw [hy', h2]
        generalize ts[d] = x at hv ⊢
        cases hv <;> rfl
      · have hlt : ¬ d < tmps.size := by
          have hs : ts.length = tmps.size := by have := ha.len; simpa using this
          exact Nat.not_lt.2 (hs ▸ hl)
        have h2 : ts.getD d (.tup []) = .tup [] := by simp [List.getD, hl]
        rw [h2]
        simp [hlt]

theorem wanted_V {X : Cx} {ops : Array Oper} {ts : List AV} {tmps : Array Value} (ha : VL X ts tmps.toList) (o : Oper) : Region.wanted o (yielded ops tmps) = wantedA ops o ts := by
  unfold Region.wanted wantedA
  cases o.guard with
  | none => rfl
  | some g => simp only [yielded_V ha]

/-! ### in the listed order -/
/-- The slots and the memory behind a list of operations; the memory ahead of each that may turn it, and the last. -/
def runR (step : Nat → Oper → List AV → HS → Option (AV × HS)) (eff : Nat → Oper → Bool) (ops : Array Oper) : Nat → List Oper → List AV → HS → Option (List AV × List HS)
  | _, [], ts, s => some (ts, [s])
  | i, o :: os, ts, s =>
    if wantedA ops o ts then match step i o ts s with
      | some (v, s') => match runR step eff ops (i + 1) os (putA ts o.dst v) s' with
        | some (T, ph) => some (T, if eff i o then s :: ph else ph)
        | none => none
      | none => none
    else match runR step eff ops (i + 1) os (putA ts o.dst (.tup [])) s with
      | some (T, ph) => some (T, if eff i o then s :: ph else ph)
      | none => none

/-- The fence that lets all in; of frames of functions, or of the rounds of a loop. -/
def WF (ro : Option Nat) : Fence := { Fence.wide with round := ro }
theorem WF.room (ro : Option Nat) (n : Nat) : (WF ro).room n := fun _ h => by simp [WF, Fence.wide] at h
theorem WF.fn (ro : Option Nat) (f : FuncId) : (WF ro).fn f := trivial

theorem callsWF {P : Program} {ro : Option Nat} {n : Nat} {f : FuncId} {args : Array Value} {w : World} {R : Ending → World → Prop} (h : Calls P f args w R) : CallsIn (WF ro) n P f args w R := (callsIn_wide (n := n)).2 h

/-- What is asked of a step. -/
def StepAt (P : Program) (ro : Option Nat) (w0 : W0) (Q : Exit → Act → World → Prop) (step : Nat → Oper → List AV → HS → Option (AV × HS)) (i : Nat) : Prop :=
  ∀ o ts s v s', step i o ts s = some (v, s') → ∀ X a w, R X s w0 w → VL X ts a.tmps.toList → ∀ K : Act → World → Prop,
    (∀ Y y w', X.Le Y → V Y v y → R Y s' w0 w' → K (a.put o.dst y) w') → o.wpIn (WF ro) 0 P a w K Q
def StepOK (P : Program) (ro : Option Nat) (w0 : W0) (Q : Exit → Act → World → Prop) (step : Nat → Oper → List AV → HS → Option (AV × HS)) : Prop := ∀ i, StepAt P ro w0 Q step i

theorem runR_plain {P : Program} {ro : Option Nat} {w0 : W0} {Q : Exit → Act → World → Prop} {step : Nat → Oper → List AV → HS → Option (AV × HS)} {eff : Nat → Oper → Bool} {ops : Array Oper} (hst : StepOK P ro w0 Q step) :
    ∀ (os : List Oper) (i : Nat) (ts T : List AV) (s : HS) (ph : List HS) (X : Cx) (a : Act) (w : World), (∀ j o, os[j]? = some o → ops[i + j]? = some o) → runR step eff ops i os ts s = some (T, ph) → R X s w0 w → VL X ts a.tmps.toList →
      (∀ Y a' w' s', X.Le Y → ph.getLast? = some s' → VL Y T a'.tmps.toList → R Y s' w0 w' → a'.defers = a.defers → Q .normal a' w') →
      wpOpsIn (WF ro) 0 P ops Q (List.range' i os.length) a w
  | [], i, ts, T, s, ph, X, a, w, hops, h, hR, ha, hQ => by
    simp [runR] at h
    obtain ⟨rfl, rfl⟩ := h
    exact hQ X a w s (Cx.Le.refl X) rfl ha hR rfl
  | o :: os, i, ts, T, s, ph, X, a, w, hops, h, hR, ha, hQ => by
    have ho : ops[i]? = some o := by simpa using hops 0 o rfl
    have hrest : ∀ j u, os[j]? = some u → ops[i + 1 + j]? = some u := fun j u hu => by
      have := hops (j + 1) u (by simpa using hu)
      rwa [show i + (j + 1) = i + 1 + j by omega] at this
    have hlast : ∀ {s0 s' : HS} {ph' : List HS} {b : Bool}, ph' ≠ [] → (if b then s0 :: ph' else ph').getLast? = some s' → ph'.getLast? = some s' := by
      intro s0 s' ph' b hne hl
      cases b
      · exact hl
      · cases ph' with
        | nil => exact absurd rfl hne
        | cons x xs => simpa [List.getLast?_cons] using hl
    simp only [List.length_cons, List.range'_succ, wpOpsIn, ho, wanted_V ha]
    unfold runR at h
    split at h
    · rename_i hw
      rw [if_pos hw]
      split at h <;> try cases h
      rename_i v s1 hs1
      split at h <;> cases h
      rename_i T' ph' hr
      refine hst i o ts s v s1 hs1 X a w hR ha _ ?_
      intro Y y w' hY hv hR'
      refine runR_plain hst os (i + 1) _ _ _ _ Y _ _ hrest hr hR' (put_V (ha.mono hY) _ hv) ?_
      intro Z a' w'' s' hZ hl hT hR'' hd
      refine hQ Z a' w'' s' (hY.trans hZ) ?_ hT hR'' (by cases hdd : o.dst <;> simp [hdd, Act.put] at hd <;> exact hd)
      cases eff i o
      · exact hl
      · cases ph' with
        | nil => simp at hl
        | cons x xs => simpa [List.getLast?_cons] using hl
    · rename_i hw
      rw [if_neg hw]
      split at h <;> cases h
      rename_i T' ph' hr
      refine ⟨fun _ _ => trivial, ?_⟩
      refine runR_plain hst os (i + 1) _ _ _ _ X _ _ hrest hr hR (put_V ha _ (.undef X)) ?_
      intro Z a' w'' s' hZ hl hT hR'' hd
      refine hQ Z a' w'' s' hZ ?_ hT hR'' (by cases hdd : o.dst <;> simp [hdd, Act.put] at hd <;> exact hd)
      cases eff i o
      · exact hl
      · cases ph' with
        | nil => simp at hl
        | cons x xs => simpa [List.getLast?_cons] using hl

/-! ### panics -/
/-- The operation that panics, with what; the slots and the memory ahead of it; the memory behind. -/
def runP (step pan : Nat → Oper → List AV → HS → Option (AV × HS)) (ops : Array Oper) : Nat → List Oper → List AV → HS → Option (Nat × AV × List AV × HS × HS)
  | _, [], ts, s => none
  | i, o :: os, ts, s =>
    if wantedA ops o ts then match pan i o ts s with
      | some (v, s') => some (i, v, ts, s, s')
      | none => match step i o ts s with
        | some (v, s') => runP step pan ops (i + 1) os (putA ts o.dst v) s'
        | none => none
    else runP step pan ops (i + 1) os (putA ts o.dst (.tup [])) s

/-- What is asked of a panic. -/
def PanOK (P : Program) (ro : Option Nat) (w0 : W0) (Q : Exit → Act → World → Prop) (pan : Nat → Oper → List AV → HS → Option (AV × HS)) : Prop :=
  ∀ i o ts s v s', pan i o ts s = some (v, s') → ∀ X a w, R X s w0 w → VL X ts a.tmps.toList → (∀ Y y w', X.Le Y → V Y v y → R Y s' w0 w' → Q (.panic [{ v := y, recovered := false }]) a w') → ∀ K : Act → World → Prop, o.wpIn (WF ro) 0 P a w K Q

theorem runP_plain {P : Program} {ro : Option Nat} {w0 : W0} {Q : Exit → Act → World → Prop} {step pan : Nat → Oper → List AV → HS → Option (AV × HS)} {ops : Array Oper} (hst : StepOK P ro w0 Q step) (hpan : PanOK P ro w0 Q pan) {n : Nat} {v : AV} {tn : List AV} {sn s' : HS} :
    ∀ (os : List Oper) (i : Nat) (ts : List AV) (s : HS) (X : Cx) (a : Act) (w : World), (∀ j o, os[j]? = some o → ops[i + j]? = some o) → runP step pan ops i os ts s = some (n, v, tn, sn, s') → R X s w0 w → VL X ts a.tmps.toList →
      (∀ Y y a' w', X.Le Y → V Y v y → R Y s' w0 w' → VL Y tn a'.tmps.toList → a'.defers = a.defers → Q (.panic [{ v := y, recovered := false }]) a' w') →
      wpOpsIn (WF ro) 0 P ops Q (List.range' i os.length) a w
  | [], i, ts, s, X, a, w, hops, h, hR, ha, hQ => by simp [runP] at h
  | o :: os, i, ts, s, X, a, w, hops, h, hR, ha, hQ => by
    have ho : ops[i]? = some o := by simpa using hops 0 o rfl
    have hrest : ∀ j u, os[j]? = some u → ops[i + 1 + j]? = some u := fun j u hu => by
      have := hops (j + 1) u (by simpa using hu)
      rwa [show i + (j + 1) = i + 1 + j by omega] at this
    simp only [List.length_cons, List.range'_succ, wpOpsIn, ho, wanted_V ha]
    unfold runP at h
    split at h
    · rename_i hw
      rw [if_pos hw]
      split at h
      · rename_i v1 s1 hp
        cases h
        exact hpan _ _ _ _ _ _ hp X a w hR ha (fun Y y w' hY hv hR' => hQ Y y a w' hY hv hR' (ha.mono hY) rfl) _
      · split at h <;> try cases h
        rename_i v1 s1 hs1
        refine hst i o ts s v1 s1 hs1 X a w hR ha _ ?_
        intro Y y w' hY hv hR'
        refine runP_plain hst hpan os (i + 1) _ _ Y _ _ hrest h hR' (put_V (ha.mono hY) _ hv) ?_
        intro Z z a' w'' hZ hvz hR'' hT hd
        exact hQ Z z a' w'' (hY.trans hZ) hvz hR'' hT (by cases hdd : o.dst <;> simp [hdd, Act.put] at hd <;> exact hd)
    · rename_i hw
      rw [if_neg hw]
      refine ⟨fun _ _ => trivial, ?_⟩
      refine runP_plain hst hpan os (i + 1) _ _ X _ _ hrest h hR (put_V ha _ (.undef X)) ?_
      intro Z z a' w'' hZ hvz hR'' hT hd
      exact hQ Z z a' w'' hZ hvz hR'' hT (by cases hdd : o.dst <;> simp [hdd, Act.put] at hd <;> exact hd)

end Go.Ev
