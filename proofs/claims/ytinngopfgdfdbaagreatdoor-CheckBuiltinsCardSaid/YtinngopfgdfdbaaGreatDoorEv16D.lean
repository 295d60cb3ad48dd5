/- Functions that defer a call; what is called so may recover. -/
import Derived.Test.YtinngopfgdfdbaaGreatDoorEv16
import Derived.RecoverIn
import Derived.RangeFuncLeaves
import Derived.RangeFuncRecord
set_option linter.unusedVariables false
set_option linter.unusedSimpArgs false
namespace Go.Ev

/-! ### a deferred call -/
/-- How the function stands that a deferred call is of: it returns; it panics; its panic has been recovered. -/
inductive DM where
  | ret
  | pan (v : AV)
  | recd

def isRecover : Op → Bool
  | .call ⟨.builtin .recover, _, _⟩ => true
  | _ => false

def runD (P : Program) (fz : Nat → Bool) (ops : Array Oper) : Nat → List Oper → List AV → HS → DM → Option (List AV × HS × DM)
  | _, [], ts, s, u => some (ts, s, u)
  | i, o :: os, ts, s, u =>
    if wantedA ops o ts then
      if isRecover o.op then match u with
        | .pan v => runD P fz ops (i + 1) os (putA ts o.dst v) s .recd
        | u => runD P fz ops (i + 1) os (putA ts o.dst .nili) s u
      else match evOp P (fz i) o.op ts s with
        | some (v, s') => runD P fz ops (i + 1) os (putA ts o.dst v) s' u
        | none => none
    else runD P fz ops (i + 1) os (putA ts o.dst (.tup [])) s u

noncomputable def evD (P : Program) (Hn : Hints) (f : FuncId) (cf : CallF) (F : Nat) : Code → List AV → HS → DM → Option (AX × List AV × HS × DM)
  | .seq a b, ts, s, u => match evD P Hn f cf F a ts s u with
    | some (.normal, ts', s', u') => evD P Hn f cf F b ts' s' u'
    | r => r
  | .cond c a b, ts, s, u => match rho ts c with
    | some (.bool t) => if t then evD P Hn f cf F a ts s u else evD P Hn f cf F b ts s u
    | _ => none
  | .region id ops draw, ts, s, u => if ops.toList.any (fun o => isRecover o.op) then match draw with
      | false => match runD P (Hn.fz f id) ops 0 ops.toList ts s u with
        | some (ts', s', u') => some (.normal, ts', s', u')
        | none => none
      | true => none
    else match evCode P Hn f [] cf F (.region id ops draw) ts s with
      | some (e, ts', s') => some (e, ts', s', u)
      | none => none
  | c, ts, s, u => match evCode P Hn f [] cf F c ts s with
    | some (e, ts', s') => some (e, ts', s', u)
    | none => none

/-- A deferred call, made. -/
noncomputable def evDef (P : Program) (Hn : Hints) (cf : CallF) (F : Nat) (g : FuncId) (args : List AV) (s : HS) (u : DM) : Option (HS × DM) :=
  match P.funcs[g]? with
  | some fn => match fn.body with
    | some c => match evD P Hn g cf F c (args ++ List.replicate (fn.ntmps - args.length) (.tup [])) s u with
      | some (.normal, ts, s', u') => match evResults P fn s' ts with
        | some _ => some (s', u')
        | none => none
      | some (.ret, ts, s', u') => match evResults P fn s' ts with
        | some _ => some (s', u')
        | none => none
      | _ => none
    | none => none
  | none => none

/-! ### the function that defers -/
/-- The operations ahead of a last one that defers a call, and that one. -/
def dlast (ops : Array Oper) : Option (List Oper × Oper × Operand × Array Operand) :=
  match ops.toList.reverse with
  | o :: r => match o.op, o.guard with
    | .defer ⟨.value fo, args, _⟩, none => some (r.reverse, o, fo, args)
    | _, _ => none
  | [] => none

/-- Does a piece of code defer a call, or range over a function? -/
def defers : Code → Bool
  | .seq a b => defers a || defers b
  | .region _ ops _ => (dlast ops).isSome
  | .rangeFunc .. => true
  | .block _ b => defers b
  | _ => false

/-- What is deferred: nothing; a call; the mark of a loop over a function. -/
inductive DSt where
  | none
  | call (g : Nat) (args : List AV)
  | mark (id : Nat)

/-- The slots with which a round begins. -/
def setPs : List Tmp → List AV → List AV → List AV
  | p :: ps, v :: vs, ts => setPs ps vs (ts.set p v)
  | _, _, ts => ts

/-- What a round leaves for behind the loop. -/
def jumpOf : AX → Option (Option Code)
  | .normal => some none
  | .ret => some (some .ret)
  | .exit k => some (some (.exit k))
  | .panic _ => none

/-- A round of a loop over a function. -/
noncomputable def evRound (P : Program) (Hn : Hints) (cf : CallF) (F : Nat) (id : Nat) (vs : List AV) (s : HS) : Option (AV × HS) :=
  match s.h id with
  | some (.loop L) => if vs.length = L.params.size ∧ codeOk (Hn.fz L.f) L.assign = true ∧ codeOk (Hn.fz L.f) L.body = true then match evCode P Hn L.f [] cf F L.assign (setPs L.params.toList vs L.tmps) s with
    | some (.normal, ts1, s1) => match s1.h id with
      | some (.loop L1) => if L1.st = .ready then match evCode P Hn L.f [] cf F L.body ts1 ⟨s1.h.put id (.loop { L1 with st := .busy }), s1.n⟩ with
        | some (e, _, s2) => match jumpOf e, s2.h id with
          | some j, some (.loop L2) => some (.bool j.isNone, ⟨s2.h.put id (.loop { L2 with st := if j.isNone then .ready else .done, pend := j }), s2.n⟩)
          | _, _ => none
        | none => none
        else none
      | _ => none
    | _ => none
    else none
  | _ => none

/-- The statement: the loop is laid; the one call; what a round has left. -/
noncomputable def evRange (P : Program) (f : FuncId) (cf : CallF) (g : Operand) (ps : Array Tmp) (assign body : Code) (ts : List AV) (s : HS) : Option (AX × List AV × HS × DSt) :=
  match rho ts g with
  | some (.clo (.func gf) first cap) => match cf gf (first ++ [.yld (s.n + 1)] ++ cap) ⟨(s.h.put s.n (.defd true)).put (s.n + 1) (.loop ⟨.ready, none, f, ts, ps, assign, body⟩), s.n + 1 + 1⟩ with
    | some (v, s2) => if v.isPan = true then none else match s2.h (s.n + 1) with
      | some (.loop L) => if L.st = .busy then none else match L.pend with
        | none => some (.normal, ts, ⟨s2.h.put (s.n + 1) (.loop { L with st := .exhausted }), s2.n⟩, .mark s.n)
        | some .ret => some (.ret, ts, ⟨s2.h.put (s.n + 1) (.loop { L with st := .exhausted }), s2.n⟩, .mark s.n)
        | some (.exit k) => some (.exit k, ts, ⟨s2.h.put (s.n + 1) (.loop { L with st := .exhausted }), s2.n⟩, .mark s.n)
        | _ => none
      | _ => none
    | none => none
  | _ => none

/-- The mark of a loop is come to. -/
def closeM (s : HS) : DSt → Option HS
  | .none => some s
  | .mark id => match s.h id with
    | some (.defd true) => some ⟨s.h.put id (.defd false), s.n⟩
    | _ => none
  | .call .. => none

noncomputable def evE (P : Program) (Hn : Hints) (f : FuncId) (rs : List Nat) (cf : CallF) (F : Nat) : Code → List AV → HS → DSt → Option (AX × List AV × HS × DSt)
  | .seq a b, ts, s, d => match evE P Hn f rs cf F a ts s d with
    | some (.normal, ts', s', d') => evE P Hn f rs cf F b ts' s' d'
    | r => r
  | .region id ops draw, ts, s, d => match dlast ops with
    | some (init, o, fo, args) => match draw, d with
      | false, .none => match runR (evStep P (Hn.fz f id) cf) (effR (Hn.fz f id)) ops 0 init ts s with
        | some (T, ph) => match ph.getLast?, rho T fo, rhos T args.toList with
          | some s', some (.clo (.func g) first cap), some vs => some (.normal, putA T o.dst (.tup []), s', .call g (first ++ vs ++ cap))
          | _, _, _ => none
        | none => none
      | _, _ => none
    | none => match evCode P Hn f rs cf F (.region id ops draw) ts s with
      | some (e, ts', s') => some (e, ts', s', d)
      | none => none
  | .rangeFunc g ps assign body, ts, s, d => match d with
    | .none => evRange P f cf g ps assign body ts s
    | _ => none
  | .block id b, ts, s, d => match evE P Hn f rs cf F b ts s d with
    | some (.exit id', ts', s', d') => if id' = id then some (.normal, ts', s', d') else some (.exit id', ts', s', d')
    | r => r
  | c, ts, s, d => match evCode P Hn f rs cf F c ts s with
    | some (e, ts', s') => some (e, ts', s', d)
    | none => none

/-- The slots in which the results lie. -/
def resSlots (fn : Func) : List Nat := fn.results.toList.map fun
  | .tmp t => t
  | .cell a _ => a

/-- A call of a function that defers one. -/
noncomputable def evDefer (P : Program) (Hn : Hints) (f : FuncId) (cf : CallF) (F : Nat) (fn : Func) (c : Code) (args : List AV) (s : HS) : Option (AV × HS) :=
  match evE P Hn f (resSlots fn) cf F c (args ++ List.replicate (fn.ntmps - args.length) (.tup [])) s .none with
  | some (.panic v, ts, s', d) => match d with
    | .call g dargs => match evDef P Hn cf F g dargs s' (.pan v) with
      | some (s2, .recd) => match evResults P fn s2 ts with
        | some r => some (r, s2)
        | none => none
      | some (s2, .pan v') => some (.pan v', s2)
      | _ => none
    | d => match closeM s' d with
      | some s2 => some (.pan v, s2)
      | none => none
  | some (.exit _, _, _, _) => none
  | some (_, ts, s', d) => match d with
    | .call g dargs => match evDef P Hn cf F g dargs s' .ret with
      | some (s2, .ret) => match evResults P fn s2 ts with
        | some r => some (r, s2)
        | none => none
      | _ => none
    | d => match closeM s' d with
      | some s2 => match evResults P fn s2 ts with
        | some r => some (r, s2)
        | none => none
      | none => none
  | none => none

/-! ### it is right -/
section
variable {P : Program} {w0 : W0}

def DM.Is (Y : Cx) : DM → FrameMode → Prop
  | .ret, m => m = .returning
  | .pan v, m => ∃ y, m = .panicking [{ v := y, recovered := false }] ∧ V Y v y
  | .recd, m => ∃ y, m = .panicking [{ v := y, recovered := true }]

theorem DM.Is.mono {Y Z : Cx} (h : Y.Le Z) {u : DM} {m : FrameMode} (hu : u.Is Y m) : u.Is Z m := by
  cases u with
  | ret => exact hu
  | pan v => obtain ⟨y, h1, h2⟩ := hu; exact ⟨y, h1, h2.mono h⟩
  | recd => exact hu

/-- A post of a piece of a deferred call. -/
def PostD (X : Cx) (w0 : W0) (c₀ : Frame) (cs : List Frame) (e : AX) (ts : List AV) (s : HS) (u : DM) : Exit → Act → List Frame → World → Prop :=
  fun e' a' cs' w' => a'.defers = [] ∧ ∃ Y m, X.Le Y ∧ cs' = { c₀ with mode := m } :: cs ∧ u.Is Y m ∧ e.Is Y e' ∧ SlotsOf Y [] e ts a'.tmps.toList ∧ R Y s w0 w'

theorem recoverD_pan {c₀ : Frame} {cs : List Frame} {y : Value} (h : c₀.mode = .panicking [{ v := y, recovered := false }]) : recoverD (c₀ :: cs) = some (y, { c₀ with mode := .panicking [{ v := y, recovered := true }] } :: cs) := by
  simp [recoverD, h]
theorem recoverD_ret {c₀ : Frame} {cs : List Frame} (h : c₀.mode = .returning) : recoverD (c₀ :: cs) = none := by
  simp [recoverD, h]
theorem recoverD_recd {c₀ : Frame} {cs : List Frame} {y : Value} (h : c₀.mode = .panicking [{ v := y, recovered := true }]) : recoverD (c₀ :: cs) = none := by
  simp [recoverD, h]

theorem runD_sound {fz : Nat → Bool} {ops : Array Oper} {Q : Exit → Act → List Frame → World → Prop} {c₀ : Frame} {cs : List Frame} {T : List AV} {s2 : HS} {u2 : DM} :
    ∀ (os : List Oper) (i : Nat) (ts : List AV) (s : HS) (u : DM) (X : Cx) (a : Act) (m : FrameMode) (w : World), (∀ j o, os[j]? = some o → ops[i + j]? = some o) → runD P fz ops i os ts s u = some (T, s2, u2) → R X s w0 w → VL X ts a.tmps.toList → u.Is X m →
      (∀ Y a' m' w', X.Le Y → VL Y T a'.tmps.toList → R Y s2 w0 w' → u2.Is Y m' → a'.defers = a.defers → Q .normal a' ({ c₀ with mode := m' } :: cs) w') →
      wpOpsSIn (WF none) 0 P ops Q (List.range' i os.length) a ({ c₀ with mode := m } :: cs) w
  | [], i, ts, s, u, X, a, m, w, hops, h, hR, ha, hu, hQ => by
    simp [runD] at h
    obtain ⟨rfl, rfl, rfl⟩ := h
    exact hQ X a m w (Cx.Le.refl X) ha hR hu rfl
  | o :: os, i, ts, s, u, X, a, m, w, hops, h, hR, ha, hu, hQ => by
    have ho : ops[i]? = some o := by simpa using hops 0 o rfl
    have hrest : ∀ j x, os[j]? = some x → ops[i + 1 + j]? = some x := fun j x hx => by
      have := hops (j + 1) x (by simpa using hx)
      rwa [show i + (j + 1) = i + 1 + j by omega] at this
    have ih := fun {Y : Cx} {ts' : List AV} {s' : HS} {u' : DM} {m' : FrameMode} {w' : World} {y : Value} (hY : X.Le Y) (h : runD P fz ops (i + 1) os ts' s' u' = some (T, s2, u2)) (hR' : R Y s' w0 w') (ha' : VL Y ts' (a.put o.dst y).tmps.toList) (hu' : u'.Is Y m') =>
      runD_sound (Q := Q) (c₀ := c₀) (cs := cs) os (i + 1) ts' s' u' Y (a.put o.dst y) m' w' hrest h hR' ha' hu' (fun Z a' m2 w2 hZ hT hRz huz hd => hQ Z a' m2 w2 (hY.trans hZ) hT hRz huz (by cases hdd : o.dst <;> simp [hdd, Act.put] at hd <;> exact hd))
    simp only [List.length_cons, List.range'_succ, wpOpsSIn, ho, wanted_V ha]
    refine ⟨fun _ _ => trivial, ?_⟩
    unfold runD at h
    split at h
    · rename_i hw
      rw [if_pos hw]
      split at h
      · rename_i hrec
        have hrun : (execOp a.eval o).run P w = .ok .recover w := by
          obtain ⟨dst, op, type, pos, after, guard⟩ := o
          cases op with
          | call c =>
            obtain ⟨callee, args, tys⟩ := c
            cases callee with
            | builtin b =>
              cases b <;> first | (simp [isRecover] at hrec; done) | skip
              simp [execOp, resolve, invoke, builtin]
            | _ => simp [isRecover] at hrec
          | _ => simp [isRecover] at hrec
        rw [hrun]
        simp only
        split at h
        · rename_i v
          obtain ⟨y, hm, hv⟩ := hu
          rw [recoverD_pan (c₀ := { c₀ with mode := m }) (cs := cs) hm]
          exact ih (Cx.Le.refl X) h hR (put_V ha _ hv) ⟨y, rfl⟩
        · rename_i hne
          have hnone : recoverD ({ c₀ with mode := m } :: cs) = none := by
            cases u with
            | ret => exact recoverD_ret hu
            | pan v => exact absurd rfl (hne v)
            | recd => obtain ⟨y, hm⟩ := hu; exact recoverD_recd hm
          rw [hnone]
          exact ih (Cx.Le.refl X) h hR (put_V ha _ .nili) hu
      · split at h <;> try cases h
        rename_i v s1 hs
        obtain ⟨Y, n, w', y, hle, hr, hn, hv, hR'⟩ := evOp_sound hR ha hs
        rw [hr]
        rcases hn with rfl | ⟨rfl, rfl⟩
        · exact ih hle h hR' (put_V (ha.mono hle) _ hv) (hu.mono hle)
        · exact ih hle h hR' (put_V (ha.mono hle) _ hv) (hu.mono hle)
    · rename_i hw
      rw [if_neg hw]
      exact ih (Cx.Le.refl X) h hR (put_V ha _ (.undef X)) hu

theorem evD_sound {Hn : Hints} {f : FuncId} {cf : CallF} {F : Nat} (hcf : ∀ w1, CallOK P w1 cf) (hP : P.follows .mixedOrders = true) (hname : ∀ (g : Nat) (fn : Func), P.funcs[g]? = some fn → (fn.name == "runtime.NumGoroutine") = false) {c₀ : Frame} {cs : List Frame} :
    ∀ (c : Code), codeOk (Hn.fz f) c = true → ∀ (ts : List AV) (s : HS) (u : DM) (e : AX) (ts' : List AV) (s' : HS) (u' : DM), evD P Hn f cf F c ts s u = some (e, ts', s', u') → ∀ (X : Cx) (a : Act) (m : FrameMode) (w : World), R X s w0 w → VL X ts a.tmps.toList → u.Is X m → a.defers = [] →
      c.wpSIn (WF none) 0 P (PostD X w0 c₀ cs e ts' s' u') a ({ c₀ with mode := m } :: cs) w := by
  have plain : ∀ (c : Code), codeOk (Hn.fz f) c = true → ∀ (ts : List AV) (s : HS) (u : DM) (e : AX) (ts' : List AV) (s' : HS) (u' : DM), (match evCode P Hn f [] cf F c ts s with | some (e, ts', s') => some (e, ts', s', u) | none => none) = some (e, ts', s', u') → ∀ (X : Cx) (a : Act) (m : FrameMode) (w : World), R X s w0 w → VL X ts a.tmps.toList → u.Is X m → a.defers = [] →
      c.wpSIn (WF none) 0 P (PostD X w0 c₀ cs e ts' s' u') a ({ c₀ with mode := m } :: cs) w := by
    intro c hok ts s u e ts' s' u' h X a m w hR ha hu hd
    split at h <;> cases h
    rename_i hc
    refine wpSIn_of_wpIn rfl (wpIn_mono (code_sound (ro := none) hcf hP hname c hok ts s e ts' s' hc X a w hR ha) ?_)
    rintro e1 a1 w1 ⟨hd1, Y, hY, he, hT, hR1⟩
    exact ⟨hd1.trans hd, Y, m, hY, rfl, hu.mono hY, he, hT, hR1⟩
  intro c
  induction c with
  | seq x y ihx ihy =>
    intro hok ts s u e ts' s' u' h X a m w hR ha hu hd
    simp only [codeOk, Bool.and_eq_true] at hok
    simp only [evD] at h
    refine wpSIn_seq ?_
    split at h
    · rename_i ts1 s1 u1 hx
      intro b k hb hr hF hroom
      obtain ⟨e1, a1, cs1, w1, hl, ⟨hd1, Y, m1, hY, rfl, hu1, he, hT, hR1⟩, harr⟩ := ihx hok.1 ts s u _ _ _ _ hx X a m w hR ha hu hd b k hb hr hF hroom
      cases he
      refine ⟨_, a1, _, w1, hl, ?_, harr⟩
      show y.wpSIn (WF none) 0 P _ a1 _ w1
      intro b2 k2 hb2 hr2 hF2 hroom2
      obtain ⟨e2, a2, cs2, w2, hl2, ⟨hd2, Z, m2, hZ, h1, h2, h3, h4, h5⟩, harr2⟩ := ihy hok.2 ts1 s1 u1 e ts' s' u' h Y a1 m1 w1 hR1 hT hu1 hd1 b2 k2 hb2 hr2 hF2 hroom2
      exact ⟨e2, a2, cs2, w2, hl2, ⟨hd2, Z, m2, hY.trans hZ, h1, h2, h3, h4, h5⟩, harr2⟩
    · rename_i hne
      have hex : evD P Hn f cf F x ts s u = some (e, ts', s', u') := h
      intro b k hb hr hF hroom
      obtain ⟨e1, a1, cs1, w1, hl, ⟨hd1, Y, m1, hY, h1, hu1, he, hT, hR1⟩, harr⟩ := ihx hok.1 ts s u _ _ _ _ hex X a m w hR ha hu hd b k hb hr hF hroom
      refine ⟨e1, a1, cs1, w1, hl, ?_, harr⟩
      cases e with
      | normal => exact absurd hex (hne ts' s' u')
      | exit id => cases he; exact ⟨hd1, Y, m1, hY, h1, hu1, rfl, hT, hR1⟩
      | ret => cases he; exact ⟨hd1, Y, m1, hY, h1, hu1, rfl, hT, hR1⟩
      | panic v => obtain ⟨y, rfl, hv⟩ := he; exact ⟨hd1, Y, m1, hY, h1, hu1, ⟨y, rfl, hv⟩, hT, hR1⟩
  | cond c x y ihx ihy =>
    intro hok ts s u e ts' s' u' h X a m w hR ha hu hd
    simp only [codeOk, Bool.and_eq_true] at hok
    simp only [evD] at h
    split at h <;> try cases h
    rename_i t hc
    have hcv := rho_sound ha hc
    have hce : a.eval c = .bool t := by generalize a.eval c = cv at hcv ⊢; cases hcv; rfl
    refine wpSIn_cond hce ?_
    cases t with
    | true => exact ihx hok.1 ts s u e ts' s' u' (by simpa using h) X a m w hR ha hu hd
    | false => exact ihy hok.2 ts s u e ts' s' u' (by simpa using h) X a m w hR ha hu hd
  | region id ops draw =>
    intro hok ts s u e ts' s' u' h X a m w hR ha hu hd
    simp only [evD] at h
    split at h
    · split at h <;> try cases h
      split at h <;> cases h
      rename_i hrun
      refine wpSIn_region ?_
      have := runD_sound (P := P) (w0 := w0) (Q := PostD X w0 c₀ cs .normal ts' s' u') (c₀ := c₀) (cs := cs) ops.toList 0 ts s u X a m w (fun j o ho => by simpa using ho) hrun hR ha hu
        (fun Y a' m' w' hY hT hR' hu' hd' => ⟨hd'.trans hd, Y, m', hY, rfl, hu', rfl, hT, hR'⟩)
      rw [Array.length_toList, ← List.range_eq_range'] at this
      exact this
    · exact plain _ hok ts s u e ts' s' u' h X a m w hR ha hu hd
  | _ => intro hok ts s u e ts' s' u' h X a m w hR ha hu hd; exact plain _ hok ts s u e ts' s' u' (by simpa only [evD] using h) X a m w hR ha hu hd

theorem pad_V {X : Cx} {args : List AV} {vargs : Array Value} {n : Nat} (ha : VL X args vargs.toList) : VL X (args ++ List.replicate (n - args.length) (.tup [])) (vargs ++ Array.replicate (n - vargs.size) undef).toList := by
  have hl : args.length = vargs.size := by have := ha.len; simpa using this
  rw [Array.toList_append, Array.toList_replicate, hl]
  refine ha.append ⟨by simp, fun i x y hx hy => ?_⟩
  rw [List.getElem?_replicate] at hx hy
  split at hx <;> cases hx
  rw [if_pos (by assumption)] at hy
  cases hy
  exact .undef X

theorem evDef_sound {Hn : Hints} {cf : CallF} {F : Nat} (hcf : ∀ w1, CallOK P w1 cf) (hP : P.follows .mixedOrders = true) (hname : ∀ (g : Nat) (fn : Func), P.funcs[g]? = some fn → (fn.name == "runtime.NumGoroutine") = false)
    (hcodes : ∀ (g : Nat) (fn : Func) (c : Code), P.funcs[g]? = some fn → fn.body = some c → codeOk (Hn.fz g) c = true) {g : FuncId} {args : List AV} {s s' : HS} {u u' : DM} (h : evDef P Hn cf F g args s u = some (s', u')) {X : Cx} {vargs : Array Value} {m : FrameMode} {w : World} (hR : R X s w0 w) (ha : VL X args vargs.toList) (hu : u.Is X m) :
    CallsDIn (WF none) 0 P g vargs m w fun e m' w' => ∃ Y v, X.Le Y ∧ e = .returned v ∧ u'.Is Y m' ∧ R Y s' w0 w' := by
  unfold evDef at h
  split at h <;> try cases h
  rename_i fn hfn
  split at h <;> try cases h
  rename_i c hc
  have key : ∀ (e : AX) (ts : List AV), e = .normal ∨ e = .ret → evD P Hn g cf F c (args ++ List.replicate (fn.ntmps - args.length) (.tup [])) s u = some (e, ts, s', u') → (∃ r, evResults P fn s' ts = some r) →
      CallsDIn (WF none) 0 P g vargs m w fun e m' w' => ∃ Y v, X.Le Y ∧ e = .returned v ∧ u'.Is Y m' ∧ R Y s' w0 w' := by
    intro e ts he hev hres
    obtain ⟨r, hres⟩ := hres
    refine callsDIn_of_wpSIn hfn hc (WF.fn _ _) (fun c₀ cs hm => ?_)
    have h1 := evD_sound (c₀ := c₀) (cs := cs) hcf hP hname c (hcodes g fn c hfn hc) _ s u e ts s' u' hev X { tmps := vargs ++ Array.replicate (fn.ntmps - vargs.size) undef, defers := [] } m w hR (pad_V ha) hu rfl
    have hc0 : ({ c₀ with mode := m } : Frame) = c₀ := by subst hm; rfl
    rw [hc0] at h1
    intro b k hb hr hF hroom
    obtain ⟨e1, a1, cs1, w1, hl, ⟨hd1, Y, m1, hY, h2, hu1, hE, hT, hR1⟩, harr⟩ := h1 b k hb hr hF hroom
    refine ⟨e1, a1, cs1, w1, hl, ?_, harr⟩
    rcases he with rfl | rfl
    · cases hE
      obtain ⟨y, hy, _⟩ := results_sound (P := P) hR1 hT hres
      exact ⟨hd1, m1, h2, y, hy, Y, y, hY, rfl, hu1, hR1⟩
    · cases hE
      obtain ⟨y, hy, _⟩ := results_sound (P := P) hR1 hT hres
      exact ⟨hd1, m1, h2, y, hy, Y, y, hY, rfl, hu1, hR1⟩
  split at h
  · rename_i ts s1 u1 hev
    split at h <;> cases h
    rename_i r hr
    exact key .normal ts (.inl rfl) hev ⟨r, hr⟩
  · rename_i ts s1 u1 hev
    split at h <;> cases h
    rename_i r hr
    exact key .ret ts (.inr rfl) hev ⟨r, hr⟩
  · cases h

/-! ### the function that defers, right -/
/-- What has been deferred. -/
def DRel (P : Program) (Y : Cx) : DSt → List Deferred → Prop
  | .none, ds => ds = []
  | .mark id, ds => ∃ r base size, ds = [{ target := .collected r, args := #[] }] ∧ Y.mu id = some (r, base, size)
  | .call g dargs, ds => ∃ fv cap vs vargs, ds = [{ target := .fn fv cap, args := vs }] ∧ ((∃ fn, P.funcs[g]? = some fn ∧ fn.body.isNone = false ∧ (fn.name == "runtime.NumGoroutine") = false) → ∀ w, (invoke (.fn fv cap) vs).run P w = .ok (.enter g vargs) w) ∧ VL Y dargs vargs.toList

theorem DRel.mono {Y Z : Cx} (h : Y.Le Z) {d : DSt} {ds : List Deferred} (hd : DRel P Y d ds) : DRel P Z d ds := by
  cases d with
  | none => exact hd
  | mark id => obtain ⟨r, base, size, h1, h2⟩ := hd; exact ⟨r, base, size, h1, h.mu _ _ h2⟩
  | call g dargs => obtain ⟨fv, cap, vs, vargs, h1, h2, h3⟩ := hd; exact ⟨fv, cap, vs, vargs, h1, h2, h3.mono h⟩

def PostE (P : Program) (X : Cx) (w0 : W0) (rs : List Nat) (e : AX) (ts : List AV) (s : HS) (d : DSt) : Exit → Act → World → Prop :=
  fun e' a' w' => ∃ Y, X.Le Y ∧ e.Is Y e' ∧ SlotsOf Y rs e ts a'.tmps.toList ∧ R Y s w0 w' ∧ DRel P Y d a'.defers

/-- What comes behind some operations. -/
def thenOps (F : Fence) (n : Nat) (P : Program) (ops : Array Oper) (Q : Exit → Act → World → Prop) (l : List Nat) : Exit → Act → World → Prop
  | .normal, a, w => wpOpsIn F n P ops Q l a w
  | e, a, w => Q e a w

theorem wpIn_thenOps {F : Fence} {n : Nat} {ops : Array Oper} {Q : Exit → Act → World → Prop} {l : List Nat} {o : Oper} {a : Act} {w : World} {K K' : Act → World → Prop} (hk : ∀ a w, K a w → K' a w) (h : o.wpIn F n P a w K (thenOps F n P ops Q l)) : o.wpIn F n P a w K' Q := by
  unfold Oper.wpIn at *
  refine ⟨h.1, ?_⟩
  have hh := h.2
  generalize (o.semAt F.round a.eval).run P w = r at *
  cases r with
  | ok x w' =>
    cases x <;> simp only [Oper.uponIn] at hh ⊢ <;>
      first
        | exact hk _ _ hh
        | exact ⟨hh.1, CallsIn.mono hh.2 (fun e w'' he => by cases e <;> first | exact hk _ _ he | exact he)⟩
        | exact ⟨hh.1, RowsIn.mono hh.2 (fun _ _ he => hk _ _ he)⟩
        | exact ⟨hh.1, RoundIn.mono hh.2 (fun e w'' he => by cases e <;> first | exact hk _ _ he | exact he)⟩
  | halt x w' => cases x <;> simp only [Oper.uponIn] at hh ⊢ <;> exact hh

theorem wpOpsIn_append {F : Fence} {n : Nat} {ops : Array Oper} {Q : Exit → Act → World → Prop} {l2 : List Nat} : ∀ (l1 : List Nat) (a : Act) (w : World), wpOpsIn F n P ops (thenOps F n P ops Q l2) l1 a w → wpOpsIn F n P ops Q (l1 ++ l2) a w
  | [], a, w, h => h
  | i :: l1, a, w, h => by
    simp only [List.cons_append, wpOpsIn] at h ⊢
    split at h
    · exact wpOpsIn_append l1 a w h
    · split at h
      · rename_i hw
        rw [if_pos hw]
        exact wpIn_thenOps (fun a w h => wpOpsIn_append l1 a w h) h
      · rename_i hw
        rw [if_neg hw]
        exact ⟨h.1, wpOpsIn_append l1 _ w h.2⟩

theorem dlast_eq {ops : Array Oper} {init : List Oper} {o : Oper} {fo : Operand} {args : Array Operand} (h : dlast ops = some (init, o, fo, args)) : ops.toList = init ++ [o] ∧ o.guard = none ∧ ∃ tys, o.op = .defer ⟨.value fo, args, tys⟩ := by
  unfold dlast at h
  split at h
  · rename_i u r hr
    split at h
    · rename_i fo' args' tys hop hg
      cases h
      refine ⟨?_, hg, tys, hop⟩
      have : ops.toList = (ops.toList.reverse).reverse := by simp
      rw [this, hr]; simp
    · cases h
  · cases h

/-- A named block turns. -/
theorem R.put {X : Cx} {s : HS} {w : World} (h : R X s w0 w) {id : Nat} {k k' : Blk} (hk : s.h id = some k) {b base size : Nat} (hm : X.mu id = some (b, base, size)) {o' : Obj} (hB : B X base size k' o') : R X ⟨s.h.put id k', s.n⟩ w0 (w.putObj b o') := by
  have hlt := h.live_lt hk hm
  exact h.turn hk hm hB rfl rfl rfl (by simp) (World.putObj_heap_same hlt) (fun j hj => World.putObj_heap_other hj)

theorem R.loop {X : Cx} {s : HS} {w : World} (h : R X s w0 w) {id : Nat} {L : LoopA} (hk : s.h id = some (.loop L)) {b base size : Nat} (hm : X.mu id = some (b, base, size)) : ∃ r, w.heap[b]? = some (.loop r) ∧ B X base size (.loop L) (.loop r) := by
  obtain ⟨b', base', size', o, h1, h2, h3, h4⟩ := h.live id _ hk
  rw [hm] at h1; cases h1
  cases h4 with
  | loop e1 e2 e3 e4 e5 e6 => exact ⟨_, h3, .loop e1 e2 e3 e4 e5 e6⟩

theorem evRange_sound {f : FuncId} {cf : CallF} (hcf : CallOK P w0 cf) (hname : ∀ (g : Nat) (fn : Func), P.funcs[g]? = some fn → (fn.name == "runtime.NumGoroutine") = false) {g : Operand} {ps : Array Tmp} {asg body : Code} {rs : List Nat} {ts ts' : List AV} {s s' : HS} {e : AX} {d' : DSt} (h : evRange P f cf g ps asg body ts s = some (e, ts', s', d')) {X : Cx} {a : Act} {w : World} (hR : R X s w0 w) (ha : VL X ts a.tmps.toList) (hd : DRel P X .none a.defers) :
    (Code.rangeFunc g ps asg body).wpIn (WF none) 0 P (PostE P X w0 rs e ts' s' d') a w := by
  unfold evRange at h
  split at h <;> try cases h
  rename_i gf first cap hg
  split at h <;> try cases h
  rename_i v s2 hcall
  split at h
  · cases h
  rename_i hnp
  split at h <;> try cases h
  rename_i L hL
  split at h
  · cases h
  rename_i hbusy
  refine wpIn_rangeFunc (fun fn _ => ?_)
  -- the two blocks
  have hR1 := hR.alloc (k := .defd true) (o := .deferred (some [])) (size := 0) (fun Y _ => .defdT)
  have hle1 : X.Le (X.name s.n (w.heap.size, 0, 0)) := Cx.le_name (hR.fresh s.n (Nat.le_refl _)).1
  have hR2 := hR1.alloc (k := .loop ⟨.ready, none, f, ts, ps, asg, body⟩) (o := .loop { state := .ready, pending := none, fn := fn, tmps := a.tmps, params := ps, assign := asg, body := body, defers := w.heap.size }) (size := 0) (fun Y hY => .loop rfl rfl (ha.mono (hle1.trans hY)) rfl rfl rfl)
  simp only [World.size_alloc] at hR2
  have hle2 : (X.name s.n (w.heap.size, 0, 0)).Le ((X.name s.n (w.heap.size, 0, 0)).name (s.n + 1) (w.heap.size + 1, 0, 0)) := Cx.le_name (hR1.fresh (s.n + 1) (Nat.le_refl _)).1
  have hleX := hle1.trans hle2
  have hmL : ((X.name s.n (w.heap.size, 0, 0)).name (s.n + 1) (w.heap.size + 1, 0, 0)).mu (s.n + 1) = some (w.heap.size + 1, 0, 0) := by simp [Cx.name]
  have hmD : ((X.name s.n (w.heap.size, 0, 0)).name (s.n + 1) (w.heap.size + 1, 0, 0)).mu s.n = some (w.heap.size, 0, 0) := by simp [Cx.name]
  generalize (X.name s.n (w.heap.size, 0, 0)).name (s.n + 1) (w.heap.size + 1, 0, 0) = X2 at hR2 hle2 hleX hmL hmD
  have hgv := rho_sound ha hg
  have key : ∀ gv, V X (.clo (.func gf) first cap) gv → a.eval g = gv → ∃ (l : Nat) (mark : List Deferred) (w₁ : World) (d : Deferred) (w₁' : World) (f : FuncId) (args : Array Value) (w₂ : World),
      (Instr.enterLoop fn a.tmps ps asg body none).run P w = .ok (l, mark) w₁ ∧ (resolve a.eval (rangeCall g l) 0).run P w₁ = .ok d w₁' ∧ (∀ f', Target.leads P w₁' d.target d.args = some f' → (WF none).fn f') ∧
      (invoke d.target d.args).run P w₁' = .ok (.enter f args) w₂ ∧ ((WF none).depth.isSome = true → 1 ≤ 0) ∧ CallsIn (WF none) (0 - 1) P f args w₂ (rangePost (WF none) 0 P l (PostE P X w0 rs e ts' s' d') { a with defers := mark ++ a.defers }) := by
    intro gv hgv he
    cases hgv with
    | @clo _ _ _ fs cs h1 h2 v1 v2 =>
      have hV : VL X2 (first ++ [.yld (s.n + 1)] ++ cap) (fs ++ #[Value.func (.yield (w.heap.size + 1)) #[] #[]] ++ cs).toList := by
        have e1 := (VL.ofArr h1 v1).mono hleX
        have e2 := (VL.ofArr h2 v2).mono hleX
        have e3 : VL X2 [.yld (s.n + 1)] [Value.func (.yield (w.heap.size + 1)) #[] #[]] := .one (.yld hmL)
        simpa using (e1.append e3).append e2
      obtain ⟨fn', hfn', hbody'⟩ := hcf.body gf _ _ _ hcall hV.noPan
      have hb' : fn'.body ≠ none := fun e => by rw [e] at hbody'; simp at hbody'
      have hn' : fn'.name ≠ "runtime.NumGoroutine" := by simpa using hname gf fn' hfn'
      refine ⟨w.heap.size + 1, _, _, { target := .fn (.func gf) cs, args := fs ++ #[Value.func (.yield (w.heap.size + 1)) #[] #[]] }, (w.alloc (.deferred (some []))).alloc (.loop { state := .ready, pending := none, fn := fn, tmps := a.tmps, params := ps, assign := asg, body := body, defers := w.heap.size }), gf, fs ++ #[Value.func (.yield (w.heap.size + 1)) #[] #[]] ++ cs, _, run_enterLoop_outer fn a.tmps ps asg body, ?_, fun _ _ => trivial, ?_, fun h => by simp [WF, Fence.wide] at h, callsWF (Calls.mono (hcf.calls gf _ _ _ _ hcall X2 _ _ hR2 hV) ?_)⟩
      · simp [resolve, rangeCall, he, Deferred.ofValue, show ∀ v, a.eval (.const v) = v from fun _ => rfl]
      · simp [invoke, callFunc, hfn', hn', hb']
      · rintro ed w3 ⟨Y, hY, hE, hR3⟩
        obtain ⟨y, rfl, hv⟩ := hE.val (by simpa using hnp)
        have hmL3 := hY.mu _ _ hmL
        obtain ⟨r, hr, hB⟩ := hR3.loop hL hmL3
        have hB' := hB
        cases hB with
        | loop e1 e2 e3 e4 e5 e6 =>
          have hnb : r.state ≠ .busy := by rw [e1]; exact hbusy
          have hR4 := hR3.put hL hmL3 (k' := .loop { L with st := .exhausted }) (o' := .loop { r with state := .exhausted }) (.loop rfl e2 e3 e4 e5 e6)
          refine ⟨r.pending, _, run_endLoop hr hnb, ?_⟩
          have hds : ([{ target := .collected w.heap.size, args := #[] }] ++ a.defers : List Deferred) = [{ target := .collected w.heap.size, args := #[] }] := by rw [show a.defers = [] from hd]; rfl
          have post : ∀ e : AX, (∀ v, e ≠ .panic v) → PostE P X w0 rs e ts ⟨s2.h.put (s.n + 1) (.loop { L with st := .exhausted }), s2.n⟩ (.mark s.n) e.toExit { a with defers := [{ target := .collected w.heap.size, args := #[] }] ++ a.defers } (w3.putObj (w.heap.size + 1) (.loop { r with state := .exhausted })) := by
            intro e hne
            refine ⟨Y, hleX.trans hY, ?_, ?_, hR4, w.heap.size, 0, 0, hds, hY.mu _ _ hmD⟩
            · cases e <;> first | rfl | exact absurd rfl (hne _)
            · have := (ha.mono hleX).mono hY
              cases e <;> first | exact this | exact absurd rfl (hne _)
          split at h <;> try cases h
          · rename_i hp
            split
            · exact post .normal (fun _ h => by cases h)
            · rename_i c hc
              rw [e2, hp] at hc; cases hc
          · rename_i hp
            split
            · rename_i hc
              rw [e2, hp] at hc; cases hc
            · rename_i c hc
              have hcr : c = .ret := by rw [e2, hp] at hc; cases hc; rfl
              subst hcr
              exact wpIn_ret (post .ret (fun _ h => by cases h))
          · rename_i k hp
            split
            · rename_i hc
              rw [e2, hp] at hc; cases hc
            · rename_i c hc
              have hcr : c = .exit k := by rw [e2, hp] at hc; cases hc; rfl
              subst hcr
              exact wpIn_exit (post (.exit k) (fun _ h => by cases h))
  exact key _ hgv rfl

theorem evE_sound {Hn : Hints} {f : FuncId} {rs : List Nat} {cf : CallF} {F : Nat} (hcf : ∀ w1, CallOK P w1 cf) (hP : P.follows .mixedOrders = true) (hname : ∀ (g : Nat) (fn : Func), P.funcs[g]? = some fn → (fn.name == "runtime.NumGoroutine") = false) :
    ∀ (c : Code), codeOk (Hn.fz f) c = true → ∀ (ts : List AV) (s : HS) (d : DSt) (e : AX) (ts' : List AV) (s' : HS) (d' : DSt), evE P Hn f rs cf F c ts s d = some (e, ts', s', d') → ∀ (X : Cx) (a : Act) (w : World), R X s w0 w → VL X ts a.tmps.toList → DRel P X d a.defers →
      c.wpIn (WF none) 0 P (PostE P X w0 rs e ts' s' d') a w := by
  have plain : ∀ (c : Code), codeOk (Hn.fz f) c = true → ∀ (ts : List AV) (s : HS) (d : DSt) (e : AX) (ts' : List AV) (s' : HS) (d' : DSt), (match evCode P Hn f rs cf F c ts s with | some (e, ts', s') => some (e, ts', s', d) | none => none) = some (e, ts', s', d') → ∀ (X : Cx) (a : Act) (w : World), R X s w0 w → VL X ts a.tmps.toList → DRel P X d a.defers →
      c.wpIn (WF none) 0 P (PostE P X w0 rs e ts' s' d') a w := by
    intro c hok ts s d e ts' s' d' h X a w hR ha hd
    split at h <;> cases h
    rename_i hc
    refine wpIn_mono (code_sound (ro := none) hcf hP hname c hok ts s e ts' s' hc X a w hR ha) ?_
    rintro e1 a1 w1 ⟨hd1, Y, hY, he, hT, hR1⟩
    exact ⟨Y, hY, he, hT, hR1, by rw [hd1]; exact hd.mono hY⟩
  intro c
  induction c with
  | seq x y ihx ihy =>
    intro hok ts s d e ts' s' d' h X a w hR ha hd
    simp only [codeOk, Bool.and_eq_true] at hok
    simp only [evE] at h
    refine wpIn_seq ?_
    split at h
    · rename_i ts1 s1 d1 hx
      refine wpIn_mono (ihx hok.1 ts s d _ _ _ _ hx X a w hR ha hd) ?_
      rintro e1 a1 w1 ⟨Y, hY, rfl, hT, hR1, hd1⟩
      show y.wpIn (WF none) 0 P _ a1 w1
      refine wpIn_mono (ihy hok.2 ts1 s1 d1 e ts' s' d' h Y a1 w1 hR1 hT hd1) ?_
      rintro e2 a2 w2 ⟨Z, hZ, h2⟩
      exact ⟨Z, hY.trans hZ, h2⟩
    · rename_i hne
      have hex : evE P Hn f rs cf F x ts s d = some (e, ts', s', d') := h
      refine wpIn_mono (ihx hok.1 ts s d _ _ _ _ hex X a w hR ha hd) ?_
      rintro e1 a1 w1 ⟨Y, hY, he, h2⟩
      cases e with
      | normal => exact absurd hex (hne ts' s' d')
      | exit id => cases he; exact ⟨Y, hY, rfl, h2⟩
      | ret => cases he; exact ⟨Y, hY, rfl, h2⟩
      | panic v => obtain ⟨y, rfl, hv⟩ := he; exact ⟨Y, hY, ⟨y, rfl, hv⟩, h2⟩
  | region id ops draw =>
    intro hok ts s d e ts' s' d' h X a w hR ha hd
    simp only [evE] at h
    split at h
    · rename_i init o fo args hdl
      split at h <;> try cases h
      split at h <;> try cases h
      rename_i T ph hrun
      split at h <;> cases h
      rename_i g first cap vs hfo hargs hl
      obtain ⟨hops, hg, tys, hop⟩ := dlast_eq hdl
      have hsz : ops.size = init.length + 1 := by rw [← Array.length_toList, hops]; simp
      have hgetI : ∀ j x, init[j]? = some x → ops[0 + j]? = some x := by
        intro j x hx
        have : ops.toList[j]? = some x := by
          rw [hops, List.getElem?_append_left (List.getElem?_eq_some_iff.1 hx).1]; exact hx
        simpa using this
      have hgetO : ops[init.length]? = some o := by
        have : ops.toList[init.length]? = some o := by rw [hops]; simp
        simpa using this
      refine wpIn_region ?_
      have hrange : List.range ops.size = List.range' 0 init.length ++ [init.length] := by
        rw [hsz, List.range_succ, List.range_eq_range']
      rw [hrange]
      refine wpOpsIn_append _ _ _ ?_
      refine runR_plain (ro := none) (step_ok (hcf w0) hname _ _) init 0 ts T s ph X a w hgetI hrun hR ha ?_
      intro Y a1 w1 s2 hY hl2 hT hR2 hda
      rw [hl] at hl2; cases hl2
      show wpOpsIn (WF none) 0 P ops _ [init.length] a1 w1
      simp only [wpOpsIn, hgetO]
      rw [if_pos (by simp [Region.wanted, hg])]
      refine ⟨fun _ _ => trivial, ?_⟩
      have hfv := rho_sound hT hfo
      have hvl := rhos_sound hT hargs
      have key : ∀ fv, V Y (.clo (.func g) first cap) fv → a1.eval fo = fv → o.uponIn (WF none) 0 P a1 (wpOpsIn (WF none) 0 P ops (PostE P X w0 rs .normal (putA T o.dst (.tup [])) s' (.call g (first ++ vs ++ cap))) []) (PostE P X w0 rs .normal (putA T o.dst (.tup [])) s' (.call g (first ++ vs ++ cap))) ((o.semAt none a1.eval).run P w1) := by
        intro fv hfv he
        cases hfv with
        | @clo _ _ _ fs cs h1 h2 v1 v2 =>
          have hrun : (o.semAt none a1.eval).run P w1 = .ok (.defer { target := .fn (.func g) cs, args := fs ++ args.map a1.eval }) w1 := by
            simp [Oper.semAt, execOp, hop, resolve, he, Deferred.ofValue]
          rw [hrun]
          show PostE P X w0 rs .normal _ _ _ .normal _ w1
          have hd0 : a1.defers = [] := by rw [hda]; exact hd
          refine ⟨Y, hY, rfl, ?_, hR2, ?_⟩
          · have := put_V (a := { a1 with defers := { target := .fn (.func g) cs, args := fs ++ args.map a1.eval } :: a1.defers }) hT o.dst (.undef Y)
            exact this
          · have hde : (({ a1 with defers := { target := .fn (.func g) cs, args := fs ++ args.map a1.eval } :: a1.defers } : Act).put o.dst undef).defers = [{ target := .fn (.func g) cs, args := fs ++ args.map a1.eval }] := by
              cases hdd : o.dst <;> simp [Act.put, hd0]
            rw [hde]
            refine ⟨.func g, cs, fs ++ args.map a1.eval, fs ++ args.map a1.eval ++ cs, rfl, ?_, ?_⟩
            · rintro ⟨fn, hfn, hb, hn⟩ w2
              have hn' : fn.name ≠ "runtime.NumGoroutine" := by simpa using hn
              have hb' : fn.body ≠ none := fun e => by rw [e] at hb; simp at hb
              simp [invoke, callFunc, hfn, hn', hb']
            · have e1 := VL.ofArr h1 v1
              have e2 := VL.ofArr h2 v2
              simpa using (e1.append hvl).append e2
      exact key _ hfv rfl
    · exact plain _ hok ts s d e ts' s' d' h X a w hR ha hd
  | rangeFunc g ps asg body iha ihb =>
    intro hok ts s d e ts' s' d' h X a w hR ha hd
    simp only [evE] at h
    split at h
    · exact evRange_sound (hcf w0) hname h hR ha hd
    · cases h
  | block id x ih =>
    intro hok ts s d e ts' s' d' h X a w hR ha hd
    simp only [codeOk] at hok
    simp only [evE] at h
    refine wpIn_block ?_
    split at h
    · rename_i id' ts1 s1 d1 hx
      refine wpIn_mono (ih hok ts s d _ _ _ _ hx X a w hR ha hd) ?_
      rintro e1 a1 w1 ⟨Y, hY, rfl, hT, hR1, hd1⟩
      split at h
      · rename_i hid
        cases h
        simp only [AX.toExit, Exit.inBlock, hid, if_true]
        exact ⟨Y, hY, rfl, hT, hR1, hd1⟩
      · rename_i hid
        cases h
        simp only [AX.toExit, Exit.inBlock, hid, if_false]
        exact ⟨Y, hY, rfl, hT, hR1, hd1⟩
    · rename_i hne
      have hex : evE P Hn f rs cf F x ts s d = some (e, ts', s', d') := h
      refine wpIn_mono (ih hok ts s d _ _ _ _ hex X a w hR ha hd) ?_
      rintro e1 a1 w1 ⟨Y, hY, he, h2⟩
      cases e with
      | normal => cases he; exact ⟨Y, hY, rfl, h2⟩
      | exit id' => exact absurd hex (hne id' ts' s' d')
      | ret => cases he; exact ⟨Y, hY, rfl, h2⟩
      | panic v => obtain ⟨y, rfl, hv⟩ := he; exact ⟨Y, hY, ⟨y, rfl, hv⟩, h2⟩
  | _ => intro hok ts s d e ts' s' d' h X a w hR ha hd; exact plain _ hok ts s d e ts' s' d' (by simpa only [evE] using h) X a w hR ha hd

theorem evResult_congr {s : HS} {ts ts' : List AV} {r : ResultVar} (h : slot ts (match r with | .tmp t => t | .cell a _ => a) = slot ts' (match r with | .tmp t => t | .cell a _ => a)) : evResult P s ts r = evResult P s ts' r := by
  cases r <;> simp only [evResult] at h ⊢ <;> rw [h]

theorem evResults_congr {fn : Func} {s : HS} {ts ts' : List AV} (h : ∀ t ∈ resSlots fn, slot ts t = slot ts' t) : evResults P fn s ts = evResults P fn s ts' := by
  have h1 : ∀ r ∈ fn.results.toList, evResult P s ts r = evResult P s ts' r := by
    intro r hr
    refine evResult_congr (h _ ?_)
    unfold resSlots
    rw [List.mem_map]
    exact ⟨r, hr, by cases r <;> rfl⟩
  have h2 : ∀ (rs : List ResultVar), (∀ r ∈ rs, evResult P s ts r = evResult P s ts' r) → mapO (evResult P s ts) rs = mapO (evResult P s ts') rs := by
    intro rs
    induction rs with
    | nil => intro _; rfl
    | cons r rs ih =>
      intro hr
      simp only [mapO, hr r (.head _), ih (fun x hx => hr x (.tail _ hx))]
  unfold evResults
  split
  · rename_i r hr
    exact h1 r (by rw [hr]; exact .head _)
  · rw [h2 _ h1]

theorem evDefer_ok {Hn : Hints} {cf : CallF} {F : Nat} (hcf : ∀ w1, CallOK P w1 cf) (hP : P.follows .mixedOrders = true) (hname : ∀ (g : Nat) (fn : Func), P.funcs[g]? = some fn → (fn.name == "runtime.NumGoroutine") = false)
    (hcodes : ∀ (g : Nat) (fn : Func) (c : Code), P.funcs[g]? = some fn → fn.body = some c → codeOk (Hn.fz g) c = true) {f : FuncId} {fn : Func} {c : Code} (hfn : P.funcs[f]? = some fn) (hc : fn.body = some c) {args : List AV} {s s' : HS} {r : AV} (h : evDefer P Hn f cf F fn c args s = some (r, s'))
    {X : Cx} {vargs : Array Value} {w : World} (hR : R X s w0 w) (ha : VL X args vargs.toList) : Calls P f vargs w fun e w' => ∃ Y, X.Le Y ∧ EndsV Y r e ∧ R Y s' w0 w' := by
  have hdef : ∀ {g : FuncId} {dargs : List AV} {s1 s2 : HS} {u u2 : DM}, evDef P Hn cf F g dargs s1 u = some (s2, u2) → ∃ fn, P.funcs[g]? = some fn ∧ fn.body.isNone = false ∧ (fn.name == "runtime.NumGoroutine") = false := by
    intro g dargs s1 s2 u u2 h
    unfold evDef at h
    split at h <;> try cases h
    rename_i fn hfn
    split at h <;> try cases h
    rename_i c hc
    exact ⟨fn, hfn, by rw [hc]; rfl, hname g fn hfn⟩
  have done : ∀ (e : AX) (ts : List AV) (s1 : HS) (d : DSt), evE P Hn f (resSlots fn) cf F c (args ++ List.replicate (fn.ntmps - args.length) (.tup [])) s .none = some (e, ts, s1, d) →
      (∀ Y e1 a1 w1, X.Le Y → e.Is Y e1 → SlotsOf Y (resSlots fn) e ts a1.tmps.toList → R Y s1 w0 w1 → DRel P Y d a1.defers → bodyPostM (WF none) 0 P fn (fun e w' => ∃ Y, X.Le Y ∧ EndsV Y r e ∧ R Y s' w0 w') e1 a1 w1) → Calls P f vargs w fun e w' => ∃ Y, X.Le Y ∧ EndsV Y r e ∧ R Y s' w0 w' := by
    intro e ts s1 d hev hpost
    refine (callsIn_wide (n := 0)).1 (callsIn_of_wp_marks (F := WF none) hfn hc (WF.fn _ _) ?_)
    refine wpIn_mono (evE_sound hcf hP hname c (hcodes f fn c hfn hc) _ s .none e ts s1 d hev X { tmps := vargs ++ Array.replicate (fn.ntmps - vargs.size) undef, defers := [] } w hR (pad_V ha) rfl) ?_
    rintro e1 a1 w1 ⟨Y, hY, he, hT, hR1, hd⟩
    exact hpost Y e1 a1 w1 hY he hT hR1 hd
  have hres : ∀ {Y : Cx} {ts : List AV} {tmps : Array Value} {s1 : HS} {w1 : World} {v : AV}, R Y s1 w0 w1 → VL Y ts tmps.toList → evResults P fn s1 ts = some v → ∃ y, (results fn tmps).run P w1 = .ok y w1 ∧ V Y v y := fun hR hT h => results_sound (P := P) hR hT h
  -- where no call is deferred
  have fin : ∀ (d : DSt) (s1 s2 : HS) (Y : Cx) (a1 : Act) (w1 : World) (u : FrameMode) (Rr : Ending → World → Prop), closeM s1 d = some s2 → R Y s1 w0 w1 → DRel P Y d a1.defers → u ≠ .run → (∀ w2, R Y s2 w0 w2 → LeavesInM (WF none) 0 P fn a1.tmps Rr [] u w2) → LeavesInM (WF none) 0 P fn a1.tmps Rr a1.defers u w1 := by
    intro d s1 s2 Y a1 w1 u Rr hcl hR1 hd hu hk
    cases d with
    | none =>
      cases hcl
      rw [show a1.defers = [] from hd]
      exact hk w1 hR1
    | call g dargs => cases hcl
    | mark id =>
      obtain ⟨b, base, size, hds, hm⟩ := hd
      rw [hds]
      simp only [closeM] at hcl
      split at hcl <;> cases hcl
      rename_i hid
      obtain ⟨b', base', size', o, h1, h2, h3, h4⟩ := hR1.live id _ hid
      rw [hm] at h1; cases h1
      cases h4 with
      | defdT => exact ⟨hu, .inl ⟨b, _, rfl, run_takeDeferred h3, hk _ (hR1.put hid hm .defdF)⟩⟩
  unfold evDefer at h
  split at h
  · rename_i v ts s1 d hev
    split at h
    · rename_i g dargs
      refine done _ _ _ _ hev ?_
      rintro Y e1 a1 w1 hY ⟨y, rfl, hv⟩ ⟨ts1, hT, hag⟩ hR1 ⟨fv, cap, vs, va, hds, hinv, hva⟩
      show LeavesInM (WF none) 0 P fn a1.tmps _ a1.defers _ w1
      rw [hds]
      split at h
      · rename_i s2 hdf
        split at h <;> cases h
        rename_i hr
        refine ⟨by simp, .inr ⟨fun h => by simp [WF, Fence.wide] at h, fv, cap, g, va, rfl, hinv (hdef hdf) w1, fun _ _ => trivial, ?_⟩⟩
        have hcall := evDef_sound hcf hP hname hcodes hdf hR1 hva (m := .panicking [{ v := y, recovered := false }]) ⟨y, rfl, hv⟩
        refine ⟨hcall.1, fun c₀ cs hm hroom => ?_⟩
        obtain ⟨e, u', w', fr, ⟨Z, vv, hZ, rfl, ⟨y2, rfl⟩, hR2⟩, hs⟩ := hcall.2 c₀ cs hm hroom
        refine ⟨_, _, w', fr, ?_, hs⟩
        have hT2 := hT.mono hZ
        rw [evResults_congr (fun t ht => (hag t ht).symm)] at hr
        obtain ⟨yr, hy, hvr⟩ := hres hR2 hT2 hr
        exact ⟨yr, hy, Z, hY.trans hZ, EndsV.of hvr, hR2⟩
      · rename_i s2 v' hdf
        cases h
        refine ⟨by simp, .inr ⟨fun h => by simp [WF, Fence.wide] at h, fv, cap, g, va, rfl, hinv (hdef hdf) w1, fun _ _ => trivial, ?_⟩⟩
        have hcall := evDef_sound hcf hP hname hcodes hdf hR1 hva (m := .panicking [{ v := y, recovered := false }]) ⟨y, rfl, hv⟩
        refine ⟨hcall.1, fun c₀ cs hm hroom => ?_⟩
        obtain ⟨e, u', w', fr, ⟨Z, vv, hZ, rfl, ⟨y2, rfl, hv2⟩, hR2⟩, hs⟩ := hcall.2 c₀ cs hm hroom
        refine ⟨_, _, w', fr, ?_, hs⟩
        exact ⟨Z, hY.trans hZ, ⟨y2, rfl, hv2⟩, hR2⟩
      · cases h
    · split at h <;> cases h
      rename_i hcl
      refine done _ _ _ _ hev ?_
      rintro Y e1 a1 w1 hY ⟨y, rfl, hv⟩ hT hR1 hd
      exact fin _ _ _ Y a1 w1 _ _ hcl hR1 hd (by simp) (fun w2 hR2 => ⟨Y, hY, ⟨y, rfl, hv⟩, hR2⟩)
  · cases h
  · rename_i e ts s1 d hnp hne hev
    have hex : ∀ (Y : Cx) (e1 : Exit) (a1 : Act) (w1 : World) (Rr : Ending → World → Prop), e.Is Y e1 → SlotsOf Y (resSlots fn) e ts a1.tmps.toList → (VL Y ts a1.tmps.toList → LeavesInM (WF none) 0 P fn a1.tmps Rr a1.defers .returning w1) → bodyPostM (WF none) 0 P fn Rr e1 a1 w1 := by
      intro Y e1 a1 w1 Rr he hT hk
      cases e with
      | panic v => first | exact absurd rfl (hnp v) | exact absurd rfl (hnp v _)
      | exit id => first | exact absurd rfl (hne id) | exact absurd rfl (hne id _)
      | normal => cases he; exact hk hT
      | ret => cases he; exact hk hT
    split at h
    · rename_i g dargs
      split at h <;> try cases h
      rename_i s2 hdf
      split at h <;> cases h
      rename_i hr
      refine done _ _ _ _ hev ?_
      rintro Y e1 a1 w1 hY he hT hR1 ⟨fv, cap, vs, va, hds, hinv, hva⟩
      refine hex Y e1 a1 w1 _ he hT (fun hT => ?_)
      rw [hds]
      refine ⟨by simp, .inr ⟨fun h => by simp [WF, Fence.wide] at h, fv, cap, g, va, rfl, hinv (hdef hdf) w1, fun _ _ => trivial, ?_⟩⟩
      have hcall := evDef_sound hcf hP hname hcodes hdf hR1 hva (m := .returning) rfl
      refine ⟨hcall.1, fun c₀ cs hm hroom => ?_⟩
      obtain ⟨e, u', w', fr, ⟨Z, vv, hZ, rfl, hu, hR2⟩, hs⟩ := hcall.2 c₀ cs hm hroom
      have hu : u' = .returning := hu
      subst hu
      refine ⟨_, _, w', fr, ?_, hs⟩
      obtain ⟨yr, hy, hvr⟩ := hres hR2 (hT.mono hZ) hr
      exact ⟨yr, hy, Z, hY.trans hZ, EndsV.of hvr, hR2⟩
    · split at h <;> try cases h
      rename_i s2 hcl
      split at h <;> cases h
      rename_i hr
      refine done _ _ _ _ hev ?_
      rintro Y e1 a1 w1 hY he hT hR1 hd
      refine hex Y e1 a1 w1 _ he hT (fun hT => ?_)
      refine fin _ _ _ Y a1 w1 _ _ hcl hR1 hd (by simp) (fun w2 hR2 => ?_)
      obtain ⟨yr, hy, hvr⟩ := hres hR2 hT hr
      exact ⟨yr, hy, Y, hY, EndsV.of hvr, hR2⟩
  · cases h

theorem setPs_V {X : Cx} : ∀ (ps : List Tmp) (vs : List AV) (ys : List Value) (ts : List AV) (tmps : Array Value), VL X vs ys → vs.length = ps.length → VL X ts tmps.toList → VL X (setPs ps vs ts) ((ps.zip ys).foldl (fun t (p : Tmp × Value) => t.setIfInBounds p.1 p.2) tmps).toList
  | [], [], ys, ts, tmps, hv, hl, ht => by simpa [setPs] using ht
  | [], v :: vs, ys, ts, tmps, hv, hl, ht => by simp at hl
  | p :: ps, [], ys, ts, tmps, hv, hl, ht => by simp at hl
  | p :: ps, v :: vs, [], ts, tmps, hv, hl, ht => by have := hv.len; simp at this
  | p :: ps, v :: vs, y :: ys, ts, tmps, hv, hl, ht => by
    simp only [setPs, List.zip_cons_cons, List.foldl_cons]
    refine setPs_V ps vs ys _ _ hv.tail (by simpa using hl) ?_
    simpa using ht.set p hv.head

theorem evRound_sound {Hn : Hints} {cf : CallF} {F : Nat} (hcf : ∀ w1, CallOK P w1 cf) (hP : P.follows .mixedOrders = true) (hname : ∀ (g : Nat) (fn : Func), P.funcs[g]? = some fn → (fn.name == "runtime.NumGoroutine") = false) {id : Nat} {vs : List AV} {s s' : HS} {r : AV} (h : evRound P Hn cf F id vs s = some (r, s'))
    {X : Cx} {w : World} {b base size : Nat} {vargs : Array Value} (hR : R X s w0 w) (hm : X.mu id = some (b, base, size)) (ha : VL X vs vargs.toList) :
    ∃ f tmps assign body, (Instr.yield b vargs).run P w = .ok (.round b f tmps assign body) w ∧ RoundIn Fence.wide 0 P b f tmps assign body w fun e w' => ∃ Y, X.Le Y ∧ EndsV Y r e ∧ R Y s' w0 w' := by
  unfold evRound at h
  split at h <;> try cases h
  rename_i L hL
  split at h <;> try cases h
  rename_i hc
  obtain ⟨hlen, ok1, ok2⟩ := hc
  split at h <;> try cases h
  rename_i ts1 s1 hasg
  split at h <;> try cases h
  rename_i L1 hL1
  split at h <;> try cases h
  rename_i hst1
  split at h <;> try cases h
  rename_i e ts2 s2 hbody
  split at h <;> cases h
  rename_i j L2 hj hL2
  obtain ⟨rr, hrr, hB⟩ := hR.loop hL hm
  cases hB with
  | loop e1 e2 e3 e4 e5 e6 =>
    have hsz : vargs.size = rr.params.size := by
      have := ha.len
      rw [e4]
      simp at this
      omega
    refine ⟨_, _, _, _, run_yield hrr hsz, ?_⟩
    rw [e5, e6]
    refine roundIn_of_wpIn (F := Fence.wide) trivial ?_
    have hT0 : VL X (setPs L.params.toList vs L.tmps) ((rr.params.zip vargs).foldl (fun tmps (x : Tmp × Value) => tmps.setIfInBounds x.1 x.2) rr.tmps).toList := by
      have := setPs_V L.params.toList vs vargs.toList L.tmps rr.tmps ha (by simpa using hlen) e3
      rw [e4]
      rw [← Array.foldl_toList, Array.toList_zip]
      exact this
    have h1 := code_sound (ro := some b) (rs := []) hcf hP hname L.assign ok1 _ s .normal ts1 s1 hasg X { tmps := (rr.params.zip vargs).foldl (fun tmps (x : Tmp × Value) => tmps.setIfInBounds x.1 x.2) rr.tmps, defers := [] } w hR hT0
    refine wpIn_mono (F := WF (some b)) h1 ?_
    rintro x1 a1 w1 ⟨hd1, Y, hY, rfl, hT1, hR1⟩
    have hm1 := hY.mu _ _ hm
    obtain ⟨r1, hr1, hB1⟩ := hR1.loop hL1 hm1
    cases hB1 with
    | loop f1 f2 f3 f4 f5 f6 =>
      refine ⟨_, run_beginRound hr1 (by rw [f1]; exact hst1), ?_⟩
      have hR2 := hR1.put hL1 hm1 (k' := .loop { L1 with st := .busy }) (o' := .loop { r1 with state := .busy }) (.loop rfl f2 f3 f4 f5 f6)
      have h2 := code_sound (ro := some b) (rs := []) hcf hP hname L.body ok2 _ _ e ts2 s2 hbody Y a1 _ hR2 hT1
      refine wpIn_mono (F := WF (some b)) h2 ?_
      rintro x2 a2 w2 ⟨hd2, Z, hZ, hE, hT2, hR3⟩
      have hm2 := hZ.mu _ _ hm1
      obtain ⟨r2, hr2, hB2⟩ := hR3.loop hL2 hm2
      cases hB2 with
      | loop g1 g2 g3 g4 g5 g6 =>
        have hend := run_endRound (P := P) j hr2
        have hR4 := hR3.put hL2 hm2 (k' := .loop { L2 with st := if j.isNone then .ready else .done, pend := j }) (o' := .loop { r2 with state := if j.isNone then .ready else .done, pending := j }) (.loop rfl rfl g3 g4 g5 g6)
        have fin : ∃ Y, X.Le Y ∧ EndsV Y (.bool j.isNone) (.returned (.bool j.isNone)) ∧ R Y ⟨s2.h.put id (.loop { L2 with st := if j.isNone then .ready else .done, pend := j }), s2.n⟩ w0 (w2.putObj b (.loop { r2 with state := if j.isNone then .ready else .done, pending := j })) := ⟨Z, hY.trans hZ, ⟨_, rfl, .bool _⟩, hR4⟩
        cases e with
        | normal => cases hE; cases hj; exact ⟨_, _, hend, fin⟩
        | ret => cases hE; cases hj; exact ⟨_, _, hend, fin⟩
        | exit k => cases hE; cases hj; exact ⟨_, _, hend, fin⟩
        | panic v => cases hj
end
end Go.Ev
