/- The evaluator of code and calls, and that what it tells, the model does. -/
import Derived.Test.YtghpalokaedpkaaGreatEv15
set_option linter.unusedVariables false
set_option linter.unusedSimpArgs false
namespace Go.Ev

inductive AX where
  | normal
  | exit (id : Nat)
  | ret

def AX.toExit : AX → Exit
  | .normal => .normal
  | .exit id => .exit id
  | .ret => .ret

open Classical in
noncomputable def evRegion (P : Program) (fz : Nat → Bool) (cf : CallF) (ops : Array Oper) (draw : Bool) (ts : List AV) (s : HS) : Option (List AV × HS) :=
  match runR (evStep P fz cf) (effR fz) ops 0 ops.toList ts s with
  | some (T, ph) => match ph.getLast? with
    | some s' => if draw then if StabL P fz cf ops T ph (checks fz ops) then some (T, s') else none else some (T, s')
    | none => none
  | none => none

noncomputable def evLoop (body : List AV → HS → Option (AX × List AV × HS)) : Nat → List AV → HS → Option (AX × List AV × HS)
  | 0, _, _ => none
  | n + 1, ts, s => match body ts s with
    | some (.normal, ts', s') => evLoop body n ts' s'
    | r => r

noncomputable def evCode (P : Program) (Hn : Hints) (f : FuncId) (cf : CallF) (F : Nat) : Code → List AV → HS → Option (AX × List AV × HS)
  | .skip, ts, s => some (.normal, ts, s)
  | .label _, ts, s => some (.normal, ts, s)
  | .region id ops draw, ts, s => match evRegion P (Hn.fz f id) cf ops draw ts s with
    | some (ts', s') => some (.normal, ts', s')
    | none => none
  | .seq a b, ts, s => match evCode P Hn f cf F a ts s with
    | some (.normal, ts', s') => evCode P Hn f cf F b ts' s'
    | r => r
  | .cond c a b, ts, s => match rho ts c with
    | some (.bool t) => if t then evCode P Hn f cf F a ts s else evCode P Hn f cf F b ts s
    | _ => none
  | .block id b, ts, s => match evCode P Hn f cf F b ts s with
    | some (.exit id', ts', s') => if id' = id then some (.normal, ts', s') else some (.exit id', ts', s')
    | r => r
  | .loop b, ts, s => evLoop (evCode P Hn f cf F b) F ts s
  | .exit id, ts, s => some (.exit id, ts, s)
  | .ret, ts, s => some (.ret, ts, s)
  | _, _, _ => none

def evResult (P : Program) (s : HS) (ts : List AV) : ResultVar → Option AV
  | .tmp t => some (slot ts t)
  | .cell a t => evLoad P s.h t (slot ts a)

def evResults (P : Program) (fn : Func) (s : HS) (ts : List AV) : Option AV :=
  match fn.results.toList with
  | [r] => evResult P s ts r
  | rs => (mapO (evResult P s ts) rs).map .tup

def evReturn (Hn : Hints) (f : FuncId) (args : List AV) (n0 : Nat) (v : AV) (s : HS) : Option (AV × HS) :=
  if Hn.snap f then match snapV true (Hn.keep f args s n0) s.h 8 v with
    | some v' => some (v', sweptD (Hn.keep f args s n0) (Hn.deep f args s n0) s)
    | none => none
  else some (v, sweptD (Hn.keep f args s n0) (Hn.deep f args s n0) s)

noncomputable def evCall (P : Program) (Hn : Hints) : Nat → CallF
  | 0 => fun _ _ _ => none
  | F + 1 => fun f args s => match Hn.orc f args with
    | some v => some (v, s)
    | none => match P.funcs[f]? with
      | some fn => match fn.body with
        | some c => match evCode P Hn f (evCall P Hn F) F c (args ++ List.replicate (fn.ntmps - args.length) (.tup [])) s with
          | some (.exit _, _, _) => none
          | some (_, ts, s') => match evResults P fn s' ts with
            | some v => evReturn Hn f args s.n v s'
            | none => none
          | none => none
        | none => none
      | none => none

/-! ### it is right -/
/-- Is each region that draws of the shape that is asked? -/
def codeOk (fz : Nat → Nat → Bool) : Code → Bool
  | .region id ops draw => !draw || planOk (effR (fz id)) ops
  | .seq a b => codeOk fz a && codeOk fz b
  | .cond _ a b => codeOk fz a && codeOk fz b
  | .block _ b => codeOk fz b
  | .loop b => codeOk fz b
  | _ => true

/-- What is known of a call beforehand: it comes to a value that names nothing, and turns nothing that is there. -/
def OrcFor (P : Program) (g : FuncId) (args : List AV) (v : AV) : Prop :=
  (∃ fn, P.funcs[g]? = some fn ∧ fn.body.isNone = false) ∧ ∀ (X : Cx) (w : World) (vargs : Array Value), (∀ b o, X.phi b = some o → w.heap[b]? = some o) → VL X args vargs.toList →
    Calls P g vargs w fun e w' => ∃ y phi, e = .returned y ∧ RowKit.Below w.heap.size w w' ∧ (∀ b o, X.phi b = some o → phi b = some o) ∧ (∀ b, b < w.heap.size → phi b = X.phi b) ∧ (∀ b o, phi b = some o → w'.heap[b]? = some o) ∧ V ⟨fun _ => none, phi⟩ v y

structure ProgOK (P : Program) (Hn : Hints) : Prop where
  orcs : ∀ g args v, Hn.orc g args = some v → OrcFor P g args v
  mixed : P.follows .mixedOrders = true
  name : ∀ (g : Nat) (fn : Func), P.funcs[g]? = some fn → (fn.name == "runtime.NumGoroutine") = false
  codes : ∀ (g : Nat) (fn : Func) (c : Code), P.funcs[g]? = some fn → fn.body = some c → codeOk (Hn.fz g) c = true

section
variable {P : Program} {w0 : W0}

/-- A post of a piece of code. -/
def Post (X : Cx) (w0 : W0) (e : AX) (ts : List AV) (s : HS) (ds : List Deferred) : Exit → Act → World → Prop :=
  fun e' a' w' => e' = e.toExit ∧ a'.defers = ds ∧ ∃ Y, X.Le Y ∧ VL Y ts a'.tmps.toList ∧ R Y s w0 w'

theorem Post.mono {X Y : Cx} {e : AX} {ts : List AV} {s : HS} {ds : List Deferred} {e' : Exit} {a' : Act} {w' : World} (hle : X.Le Y) (h : Post Y w0 e ts s ds e' a' w') : Post X w0 e ts s ds e' a' w' :=
  let ⟨h1, h2, Z, h3, h4, h5⟩ := h
  ⟨h1, h2, Z, hle.trans h3, h4, h5⟩

theorem region_sound {cf : CallF} (hcf : CallOK P w0 cf) (hP : P.follows .mixedOrders = true) (hname : ∀ (g : Nat) (fn : Func), P.funcs[g]? = some fn → (fn.name == "runtime.NumGoroutine") = false) {fz : Nat → Bool} {id : Nat} {ops : Array Oper} {draw : Bool}
    (hok : (!draw || planOk (effR fz) ops) = true) {ts ts' : List AV} {s s' : HS} (h : evRegion P fz cf ops draw ts s = some (ts', s')) {X : Cx} {a : Act} {w : World} (hR : R X s w0 w) (ha : VL X ts a.tmps.toList) :
    (Code.region id ops draw).wp P (Post X w0 .normal ts' s' a.defers) a w := by
  unfold evRegion at h
  split at h <;> try cases h
  rename_i T ph hrun
  split at h <;> try cases h
  rename_i sl hl
  have hQ : ∀ Y a' w' s2, X.Le Y → ph.getLast? = some s2 → VL Y T a'.tmps.toList → R Y s2 w0 w' → a'.defers = a.defers → Post X w0 .normal T sl a.defers .normal a' w' := by
    intro Y a' w' s2 hY hl2 hT hR2 hd
    rw [hl] at hl2; cases hl2
    exact ⟨rfl, hd, Y, hY, hT, hR2⟩
  cases draw with
  | false =>
    simp only [Bool.false_eq_true, if_false, Option.some.injEq, Prod.mk.injEq] at h
    obtain ⟨rfl, rfl⟩ := h
    refine wp_region ?_
    have := runR_plain (P := P) (Q := Post X w0 .normal T sl a.defers) (step_ok hcf hname fz _) ops.toList 0 ts T s ph X a w (fun j o ho => by simpa using ho) hrun hR ha hQ
    rw [Array.length_toList, ← List.range_eq_range'] at this
    exact this
  | true =>
    simp only [if_true] at h
    split at h <;> cases h
    rename_i hst
    simp only [Bool.not_true, Bool.false_or] at hok
    refine wp_region_any hP ?_
    exact region_any (step_ok hcf hname fz _) (step_laws P fz cf) hok hrun (stab_of (planOk_spec hok) hrun hst) hR.drew ha hQ

/-- A loop, from its body on. -/
def LoopWp (P : Program) (c : Code) (Q : Exit → Act → World → Prop) (a : Act) (w : World) : Prop :=
  ∀ (b : Frame) (k : List Item) (cs : List Frame), ∃ e a' w', Q e a' w' ∧ Arrives P (lone (b.at a (.code c :: .inLoop c :: k)) cs w) b k cs e a' w'

theorem LoopWp.loop {c : Code} {Q : Exit → Act → World → Prop} {a : Act} {w : World} (h : LoopWp P c Q a w) : (Code.loop c).wp P Q a w :=
  fun b k cs => let ⟨e, a', w', q, r⟩ := h b k cs; ⟨e, a', w', q, .of_steps (.one step_loop) r⟩

theorem LoopWp.of {c : Code} {Q : Exit → Act → World → Prop} {a : Act} {w : World} (h : c.wp P (Exit.then (LoopWp P c Q) Q) a w) : LoopWp P c Q a w := by
  intro b k cs
  obtain ⟨e, a₁, w₁, hq, harr⟩ := h b (.inLoop c :: k) cs
  cases e with
  | normal =>
    obtain ⟨e₂, a₂, w₂, hq₂, harr₂⟩ := hq b k cs
    exact ⟨e₂, a₂, w₂, hq₂, .of_steps (Steps.trans harr (.one step_inLoop)) harr₂⟩
  | exit id => exact ⟨_, a₁, w₁, hq, .pass (x := .inLoop c) rfl (fun _ _ => .inl (by simp)) harr⟩
  | goto l => exact ⟨_, a₁, w₁, hq, .pass (x := .inLoop c) rfl (fun _ _ => .inl (by simp)) harr⟩
  | ret => exact ⟨_, a₁, w₁, hq, .pass (x := .inLoop c) rfl (fun _ _ => .inl (by simp)) harr⟩
  | panic ch => exact ⟨_, a₁, w₁, hq, .pass (x := .inLoop c) rfl (fun _ _ => .inl (by simp)) harr⟩
  | outgrown => exact ⟨_, a₁, w₁, hq, .pass (x := .inLoop c) rfl (fun _ _ => .inl (by simp)) harr⟩

theorem code_sound {Hn : Hints} {f : FuncId} {cf : CallF} {F : Nat} (hcf : CallOK P w0 cf) (hP : P.follows .mixedOrders = true) (hname : ∀ (g : Nat) (fn : Func), P.funcs[g]? = some fn → (fn.name == "runtime.NumGoroutine") = false) :
    ∀ (c : Code), codeOk (Hn.fz f) c = true → ∀ (ts : List AV) (s : HS) (e : AX) (ts' : List AV) (s' : HS), evCode P Hn f cf F c ts s = some (e, ts', s') → ∀ (X : Cx) (a : Act) (w : World), R X s w0 w → VL X ts a.tmps.toList →
      c.wp P (Post X w0 e ts' s' a.defers) a w := by
  intro c
  induction c with
  | skip =>
    intro _ ts s e ts' s' h X a w hR ha
    simp only [evCode] at h; cases h
    exact wp_skip ⟨rfl, rfl, X, Cx.Le.refl X, ha, hR⟩
  | label l =>
    intro _ ts s e ts' s' h X a w hR ha
    simp only [evCode] at h; cases h
    exact wp_label ⟨rfl, rfl, X, Cx.Le.refl X, ha, hR⟩
  | region id ops draw =>
    intro hok ts s e ts' s' h X a w hR ha
    simp only [evCode] at h
    split at h <;> cases h
    rename_i hr
    exact region_sound hcf hP hname hok hr hR ha
  | seq x y ihx ihy =>
    intro hok ts s e ts' s' h X a w hR ha
    simp only [codeOk, Bool.and_eq_true] at hok
    simp only [evCode] at h
    refine wp_seq ?_
    split at h
    · rename_i ts1 s1 hx
      refine wp_mono (ihx hok.1 ts s _ _ _ hx X a w hR ha) ?_
      rintro e1 a1 w1 ⟨rfl, hd, Y, hY, hT, hR1⟩
      show y.wp P _ a1 w1
      have := ihy hok.2 ts1 s1 e ts' s' h Y a1 w1 hR1 hT
      rw [hd] at this
      exact wp_mono this (fun _ _ _ hp => hp.mono hY)
    · rename_i hne
      have hex : evCode P Hn f cf F x ts s = some (e, ts', s') := h
      refine wp_mono (ihx hok.1 ts s _ _ _ hex X a w hR ha) ?_
      rintro e1 a1 w1 ⟨rfl, hd, Y, hY, hT, hR1⟩
      cases e with
      | normal => exact absurd hex (hne ts' s')
      | exit id => exact ⟨rfl, hd, Y, hY, hT, hR1⟩
      | ret => exact ⟨rfl, hd, Y, hY, hT, hR1⟩
  | cond c x y ihx ihy =>
    intro hok ts s e ts' s' h X a w hR ha
    simp only [codeOk, Bool.and_eq_true] at hok
    simp only [evCode] at h
    split at h <;> try cases h
    rename_i t hc
    have hcv := rho_sound ha hc
    have hce : a.eval c = .bool t := by generalize a.eval c = cv at hcv ⊢; cases hcv; rfl
    refine wp_cond hce ?_
    cases t with
    | true => exact ihx hok.1 ts s e ts' s' (by simpa using h) X a w hR ha
    | false => exact ihy hok.2 ts s e ts' s' (by simpa using h) X a w hR ha
  | block id x ih =>
    intro hok ts s e ts' s' h X a w hR ha
    simp only [codeOk] at hok
    simp only [evCode] at h
    refine wp_block ?_
    split at h
    · rename_i id' ts1 s1 hx
      refine wp_mono (ih hok ts s _ _ _ hx X a w hR ha) ?_
      rintro e1 a1 w1 ⟨rfl, hd, Y, hY, hT, hR1⟩
      split at h
      · rename_i hid
        cases h
        simp only [AX.toExit, Exit.inBlock, hid, if_true]
        exact ⟨rfl, hd, Y, hY, hT, hR1⟩
      · rename_i hid
        cases h
        simp only [AX.toExit, Exit.inBlock, hid, if_false]
        exact ⟨rfl, hd, Y, hY, hT, hR1⟩
    · rename_i hne
      have hex : evCode P Hn f cf F x ts s = some (e, ts', s') := h
      refine wp_mono (ih hok ts s _ _ _ hex X a w hR ha) ?_
      rintro e1 a1 w1 ⟨rfl, hd, Y, hY, hT, hR1⟩
      cases e with
      | normal => exact ⟨rfl, hd, Y, hY, hT, hR1⟩
      | exit id' => exact absurd hex (hne id' ts' s')
      | ret => exact ⟨rfl, hd, Y, hY, hT, hR1⟩
  | loop x ih =>
    intro hok ts s e ts' s' h X a w hR ha
    simp only [codeOk] at hok
    simp only [evCode] at h
    refine LoopWp.loop ?_
    have key : ∀ n ts s X a w, R X s w0 w → VL X ts a.tmps.toList → evLoop (evCode P Hn f cf F x) n ts s = some (e, ts', s') → LoopWp P x (Post X w0 e ts' s' a.defers) a w := by
      intro n
      induction n with
      | zero => intro ts s X a w _ _ h; simp [evLoop] at h
      | succ n ihn =>
        intro ts s X a w hR ha h
        unfold evLoop at h
        refine LoopWp.of ?_
        split at h
        · rename_i ts1 s1 hx
          refine wp_mono (ih hok ts s _ _ _ hx X a w hR ha) ?_
          rintro e1 a1 w1 ⟨rfl, hd, Y, hY, hT, hR1⟩
          show LoopWp P x _ a1 w1
          have := ihn ts1 s1 Y a1 w1 hR1 hT h
          rw [hd] at this
          intro b k cs
          obtain ⟨e2, a2, w2, hq, harr⟩ := this b k cs
          exact ⟨e2, a2, w2, hq.mono hY, harr⟩
        · rename_i hne
          have hex : evCode P Hn f cf F x ts s = some (e, ts', s') := h
          refine wp_mono (ih hok ts s _ _ _ hex X a w hR ha) ?_
          rintro e1 a1 w1 ⟨rfl, hd, Y, hY, hT, hR1⟩
          cases e with
          | normal => exact absurd hex (hne ts' s')
          | exit id => exact ⟨rfl, hd, Y, hY, hT, hR1⟩
          | ret => exact ⟨rfl, hd, Y, hY, hT, hR1⟩
    exact key F ts s X a w hR ha h
  | exit id =>
    intro _ ts s e ts' s' h X a w hR ha
    simp only [evCode] at h; cases h
    exact wp_exit ⟨rfl, rfl, X, Cx.Le.refl X, ha, hR⟩
  | ret =>
    intro _ ts s e ts' s' h X a w hR ha
    simp only [evCode] at h; cases h
    exact wp_ret ⟨rfl, rfl, X, Cx.Le.refl X, ha, hR⟩
  | rangeFunc => intro _ ts s e ts' s' h; simp [evCode] at h
  | scope => intro _ ts s e ts' s' h; simp [evCode] at h
  | goto => intro _ ts s e ts' s' h; simp [evCode] at h
  | refuse => intro _ ts s e ts' s' h; simp [evCode] at h

def resM (tmps : Array Value) : ResultVar → Sem Value
  | .tmp t => pure (tmps.getD t undef)
  | .cell a t => do loadVar t (← asAddr (tmps.getD a undef))

theorem results_eq (fn : Func) (tmps : Array Value) : results fn tmps = (do let vs ← fn.results.mapM (resM tmps); pure (if h : vs.size = 1 then vs[0] else .tuple vs)) := by
  unfold results
  congr 1

theorem result_sound {X : Cx} {s : HS} {w : World} (hR : R X s w0 w) {ts : List AV} {tmps : Array Value} (ha : VL X ts tmps.toList) {r : ResultVar} {v : AV} (h : evResult P s ts r = some v) :
    ∃ y, (resM tmps r).run P w = .ok y w ∧ V X v y := by
  cases r with
  | tmp t =>
    simp only [evResult] at h
    cases h
    exact ⟨_, rfl, getD_V ha t⟩
  | cell p t =>
    simp only [evResult] at h
    obtain ⟨y, hy, hv, _⟩ := evLoad_sound (P := P) hR (getD_V ha p) h
    refine ⟨y, ?_, hv⟩
    have hpv := getD_V ha p
    simp only [resM]
    generalize tmps.getD p undef = pv at hy hpv ⊢
    cases pv <;> simp [Instr.loadAt, Instr.sureAddr] at hy
    rename_i ad
    cases ad with
    | none => simp at hy
    | some ad => simpa [asAddr] using hy

theorem results_list {X : Cx} {s : HS} {w : World} (hR : R X s w0 w) {ts : List AV} {tmps : Array Value} (ha : VL X ts tmps.toList) : ∀ {rs : List ResultVar} {vs : List AV}, mapO (evResult P s ts) rs = some vs →
    ∃ ys, (rs.mapM (resM tmps)).run P w = .ok ys w ∧ VL X vs ys
  | [], vs, h => by simp [mapO] at h; subst h; exact ⟨[], by simp, .nil X⟩
  | r :: rs, vs, h => by
    unfold mapO at h
    split at h <;> try cases h
    rename_i v hv
    split at h <;> cases h
    rename_i us hus
    obtain ⟨y, hy, hvy⟩ := result_sound hR ha hv
    obtain ⟨ys, hys, hvys⟩ := results_list hR ha hus
    refine ⟨y :: ys, ?_, .cons hvy hvys⟩
    rw [List.mapM_cons, Sem.run_bind, hy, Result.andThen_ok, Sem.run_bind, hys]
    rfl

theorem results_sound {X : Cx} {s : HS} {w : World} (hR : R X s w0 w) {ts : List AV} {tmps : Array Value} (ha : VL X ts tmps.toList) {fn : Func} {v : AV} (h : evResults P fn s ts = some v) : ∃ y, (results fn tmps).run P w = .ok y w ∧ V X v y := by
  unfold evResults at h
  split at h
  · rename_i r hr
    obtain ⟨y, hy, hv⟩ := result_sound (P := P) hR ha h
    refine ⟨y, ?_, hv⟩
    have h1 : (List.mapM (resM tmps) [r]).run P w = .ok [y] w := by
      rw [List.mapM_cons, Sem.run_bind, hy]
      rfl
    rw [results_eq, Sem.run_bind, Array.mapM_eq_mapM_toList, hr, Sem.run_map, h1]
    rfl
  · rename_i rs hne
    rw [Option.map_eq_some_iff] at h
    obtain ⟨vs, hvs, rfl⟩ := h
    obtain ⟨ys, hys, hvys⟩ := results_list (P := P) hR ha hvs
    refine ⟨.tuple ys.toArray, ?_, V.tupL hvys⟩
    rw [results_eq, Sem.run_bind, Array.mapM_eq_mapM_toList, Sem.run_map, hys]
    have hlen : ys.length ≠ 1 := by
      intro h1
      have h2 := (mapO_get hvs).1
      rw [hvys.len, h1] at h2
      match hfr : fn.results.toList, h2 with
      | [r], _ => exact hne r hfr
    simp only [Result.andThen_ok, List.size_toArray]
    rw [dif_neg hlen]
    rfl

theorem return_sound {Hn : Hints} {X : Cx} {s : HS} {w : World} (hR : R X s w0 w) {f : FuncId} {args : List AV} {n0 : Nat} {v r : AV} {y : Value} (hv : V X v y) {s' : HS} (h : evReturn Hn f args n0 v s = some (r, s')) : ∃ Y, X.Le Y ∧ V Y r y ∧ R Y s' w0 w := by
  unfold evReturn at h
  split at h
  · split at h <;> cases h
    rename_i v' hsn
    exact ⟨_, hR.le_iceAll _, snapV_sound hR _ _ _ _ _ hv hsn, hR.sweptD _ _⟩
  · cases h
    exact ⟨_, hR.le_iceAll (Hn.keep f args s n0), hv.mono (hR.le_iceAll _), hR.sweptD _ _⟩

/-- Behind a call that is known. -/
theorem R.orc {X : Cx} {s : HS} {w w' : World} (hR : R X s w0 w) (hb : RowKit.Below w.heap.size w w') {phi : Nat → Option Obj} (h1 : ∀ b o, X.phi b = some o → phi b = some o) (h2 : ∀ b, b < w.heap.size → phi b = X.phi b) (h3 : ∀ b o, phi b = some o → w'.heap[b]? = some o) : R ⟨X.mu, phi⟩ s w0 w' := by
  have hle : X.Le ⟨X.mu, phi⟩ := ⟨fun _ _ h => h, h1⟩
  refine ⟨hb.os.trans hR.os, hb.tape.trans hR.tape, hb.output.trans hR.output, Nat.le_trans hR.size hb.size, ?_, h3, ?_, hR.inj, hR.fresh⟩
  · intro b hlt
    obtain ⟨o1, o2, o3⟩ := hR.old b hlt
    have hlt2 : b < w.heap.size := Nat.lt_of_lt_of_le hlt hR.size
    exact ⟨by show phi b = _; rw [h2 b hlt2, o1], by rw [hb.block b hlt2, o2], o3⟩
  · intro id k hk
    obtain ⟨b, base, size, o, m1, m2, m3, m4⟩ := hR.live id k hk
    have hlt2 : b < w.heap.size := (Array.getElem?_eq_some_iff.1 m3).1
    exact ⟨b, base, size, o, m1, by show phi b = none; rw [h2 b hlt2, m2], by rw [hb.block b hlt2, m3], m4.mono hle⟩

theorem evCall_ok {Hn : Hints} (hP : ProgOK P Hn) : ∀ F, CallOK P w0 (evCall P Hn F) := by
  intro F
  induction F with
  | zero => exact ⟨fun g args s r h => by simp [evCall] at h, fun g args s r s' h => by simp [evCall] at h⟩
  | succ F ih =>
    constructor
    · intro g args s r h
      simp only [evCall] at h
      split at h
      · rename_i v ho
        exact (hP.orcs g args v ho).1
      split at h <;> try cases h
      rename_i fn hfn
      split at h <;> try cases h
      rename_i c hc
      exact ⟨fn, hfn, by rw [hc]; rfl⟩
    · intro g args s r s' h X w vargs hR ha
      simp only [evCall] at h
      split at h
      · rename_i v ho
        simp only [Option.some.injEq, Prod.mk.injEq] at h
        obtain ⟨rfl, rfl⟩ := h
        refine Calls.mono ((hP.orcs g args v ho).2 X w vargs hR.phi ha) ?_
        rintro e w' ⟨y, phi, rfl, hb, h1, h2, h3, hv⟩
        exact ⟨⟨X.mu, phi⟩, y, ⟨fun _ _ h => h, h1⟩, rfl, V.mono (X := ⟨fun _ => none, phi⟩) (Y := ⟨X.mu, phi⟩) ⟨fun _ _ h => absurd h (by simp), fun _ _ h => h⟩ hv, hR.orc hb h1 h2 h3⟩
      split at h <;> try cases h
      rename_i fn hfn
      split at h <;> try cases h
      rename_i c hc
      refine calls_of_wp hfn hc ?_
      have ha' : VL X (args ++ List.replicate (fn.ntmps - args.length) (.tup [])) (vargs ++ Array.replicate (fn.ntmps - vargs.size) undef).toList := by
        have hl : args.length = vargs.size := by have := ha.len; simpa using this
        rw [Array.toList_append, Array.toList_replicate, hl]
        refine ha.append ⟨by simp, fun i x y hx hy => ?_⟩
        rw [List.getElem?_replicate] at hx hy
        split at hx <;> cases hx
        rw [if_pos (by assumption)] at hy
        cases hy
        exact .undef X
      split at h
      · cases h
      · rename_i e ts1 s1 hex hcode
        split at h <;> try cases h
        rename_i v hv
        refine wp_mono (code_sound ih hP.mixed hP.name c (hP.codes g fn c hfn hc) _ _ _ _ _ hcode X { tmps := vargs ++ Array.replicate (fn.ntmps - vargs.size) undef, defers := [] } w hR ha') ?_
        rintro e1 a1 w1 ⟨rfl, hd, Y, hY, hT, hR1⟩
        obtain ⟨y, hy, hvy⟩ := results_sound (P := P) hR1 hT hv
        obtain ⟨Z, hZ, hvz, hRz⟩ := return_sound hR1 hvy h
        cases e with
        | normal => exact ⟨hd, y, hy, Z, y, hY.trans hZ, rfl, hvz, hRz⟩
        | ret => exact ⟨hd, y, hy, Z, y, hY.trans hZ, rfl, hvz, hRz⟩
        | exit id => exact absurd rfl (hex id)
      · cases h

/-- The memory when a law is called: all that is there is frozen, no name is given. -/
def Cx.start (w : World) : Cx := ⟨fun _ => none, fun b => w.heap[b]?⟩
def HS.start : HS := ⟨fun _ => none, 0⟩

/-- The memory when a call begins of which nothing there is told but what is frozen. -/
theorem R.begin {phi : Nat → Option Obj} {w : World} (h : ∀ b o, phi b = some o → w.heap[b]? = some o) : R ⟨fun _ => none, phi⟩ HS.start ⟨w, phi⟩ w :=
  ⟨rfl, rfl, rfl, Nat.le_refl _, fun _ _ => ⟨rfl, rfl, fun _ _ _ h => (nomatch h)⟩, h, fun _ _ h => (nomatch h), fun _ _ _ _ _ _ _ _ _ h => (nomatch h), fun _ _ => ⟨rfl, rfl⟩⟩

theorem R.start (w : World) : R (Cx.start w) HS.start ⟨w, fun b => w.heap[b]?⟩ w := R.begin (fun _ _ h => h)

theorem calls_of_ev {Hn : Hints} (hP : ProgOK P Hn) {F : Nat} {f : FuncId} {args : List AV} {b : Bool} {s' : HS} (h : evCall P Hn F f args HS.start = some (.bool b, s')) {w : World} {vargs : Array Value} (ha : VL (Cx.start w) args vargs.toList) :
    Calls P f vargs w fun e w' => e = .returned (.bool b) ∧ RowKit.Below w.heap.size w w' := by
  refine Calls.mono ((evCall_ok (w0 := ⟨w, fun b => w.heap[b]?⟩) hP F).calls f args HS.start _ _ h (Cx.start w) w vargs (R.start w) ha) ?_
  rintro e w' ⟨Y, y, _, rfl, hv, hR⟩
  cases hv
  exact ⟨rfl, hR.below⟩

end
end Go.Ev
