/- Rules: the evaluator step by step. -/
import Derived.Test.YtinngopfgdfdbaaGreatDoorEv17
set_option linter.unusedVariables false
set_option linter.unusedSimpArgs false
namespace Go.Ev

section
variable (P : Program) (Hn : Hints)

def CodeK (f : FuncId) (rs : List Nat) (c : Code) (ts : List AV) (s : HS) (Q : AX → List AV → HS → Prop) : Prop := ∃ e ts' s', codeL P Hn f rs (evLim P Hn) c ts s = some (e, ts', s') ∧ Q e ts' s'

def StepK (fz : Nat → Bool) (i : Nat) (o : Oper) (ts : List AV) (s : HS) (K : AV → HS → Prop) : Prop := ∃ v s', evStep P fz (evLim P Hn) i o ts s = some (v, s') ∧ K v s'

/-- A region from the i-th operation on: it comes to an end (Q), or panics (QP). -/
def OpsK (fz : Nat → Bool) (ops : Array Oper) (i : Nat) (os : List Oper) (ts : List AV) (s : HS) (pre : List HS) (Q : List AV → List HS → HS → Prop) (QP : Nat → AV → List AV → List HS → HS → Prop) : Prop :=
  (∃ T ph s', runR (evStep P fz (evLim P Hn)) (effR fz) ops i os ts s = some (T, ph) ∧ ph.getLast? = some s' ∧ Q T (pre ++ ph) s') ∨
  (∃ n v tn sn s' ph, runP (evStep P fz (evLim P Hn)) (evPan (evLim P Hn)) ops i os ts s = some (n, v, tn, sn, s') ∧ i ≤ n ∧ runR (evStep P fz (evLim P Hn)) (effR fz) ops i (os.take (n - i)) ts s = some (tn, ph) ∧ QP n v tn (pre ++ ph) s')
end

section
variable {P : Program} {Hn : Hints} {f : FuncId} {rs : List Nat} {fz : Nat → Bool} {ops : Array Oper}

theorem runR_last {cf : CallF} : ∀ {os : List Oper} {i : Nat} {ts T : List AV} {s : HS} {ph : List HS}, runR (evStep P fz cf) (effR fz) ops i os ts s = some (T, ph) → ∃ s', ph.getLast? = some s'
  | [], i, ts, T, s, ph, h => by simp [runR] at h; exact ⟨s, by simp [← h.2]⟩
  | o :: os, i, ts, T, s, ph, h => by
    unfold runR at h
    split at h
    · split at h <;> try cases h
      split at h <;> cases h
      rename_i ph' hr
      obtain ⟨s', hs'⟩ := runR_last hr
      refine ⟨s', ?_⟩
      cases effR fz i o
      · exact hs'
      · cases ph' with
        | nil => simp at hs'
        | cons x xs => simpa [List.getLast?_cons] using hs'
    · split at h <;> cases h
      rename_i ph' hr
      obtain ⟨s', hs'⟩ := runR_last hr
      refine ⟨s', ?_⟩
      cases effR fz i o
      · exact hs'
      · cases ph' with
        | nil => simp at hs'
        | cons x xs => simpa [List.getLast?_cons] using hs'

section
variable {Q : List AV → List HS → HS → Prop} {QP : Nat → AV → List AV → List HS → HS → Prop}

theorem o_nil {i : Nat} {ts : List AV} {s : HS} {pre : List HS} (h : Q ts (pre ++ [s]) s) : OpsK P Hn fz ops i [] ts s pre Q QP := .inl ⟨ts, [s], s, rfl, rfl, h⟩

theorem o_on {i : Nat} {o : Oper} {os : List Oper} {ts : List AV} {s : HS} {pre : List HS} (hw : wantedA ops o ts = true)
    (h : StepK P Hn fz i o ts s fun v s' => OpsK P Hn fz ops (i + 1) os (putA ts o.dst v) s' (if effR fz i o then pre ++ [s] else pre) Q QP) : OpsK P Hn fz ops i (o :: os) ts s pre Q QP := by
  obtain ⟨v, s', hs, ⟨T, ph, sl, hr, hl, hq⟩ | ⟨n, u, tn, sn, sl, ph, hr, hle, hr2, hq⟩⟩ := h
  · have hrun : runR (evStep P fz (evLim P Hn)) (effR fz) ops i (o :: os) ts s = some (T, if effR fz i o then s :: ph else ph) := by
      unfold runR
      rw [if_pos hw, hs]
      simp only [hr]
    refine .inl ⟨T, _, sl, hrun, ?_, ?_⟩
    · cases effR fz i o
      · exact hl
      · cases ph with
        | nil => simp at hl
        | cons x xs => simpa [List.getLast?_cons] using hl
    · cases he : effR fz i o
      · simpa [he] using hq
      · simpa [he] using hq
  · refine .inr ⟨n, u, tn, sn, sl, if effR fz i o then s :: ph else ph, ?_, by omega, ?_, ?_⟩
    · unfold runP
      rw [if_pos hw, pan_none (fun _ _ _ _ h => h) hs, hs]
      exact hr
    · rw [show n - i = (n - (i + 1)) + 1 by omega, List.take_succ_cons]
      unfold runR
      rw [if_pos hw, hs]
      simp only [hr2]
    · cases he : effR fz i o
      · simpa [he] using hq
      · simpa [he] using hq

theorem o_off {i : Nat} {o : Oper} {os : List Oper} {ts : List AV} {s : HS} {pre : List HS} (hw : wantedA ops o ts = false)
    (h : OpsK P Hn fz ops (i + 1) os (putA ts o.dst (.tup [])) s (if effR fz i o then pre ++ [s] else pre) Q QP) : OpsK P Hn fz ops i (o :: os) ts s pre Q QP := by
  obtain ⟨T, ph, sl, hr, hl, hq⟩ | ⟨n, u, tn, sn, sl, ph, hr, hle, hr2, hq⟩ := h
  · have hrun : runR (evStep P fz (evLim P Hn)) (effR fz) ops i (o :: os) ts s = some (T, if effR fz i o then s :: ph else ph) := by
      unfold runR
      rw [if_neg (by rw [hw]; simp)]
      simp only [hr]
    refine .inl ⟨T, _, sl, hrun, ?_, ?_⟩
    · cases effR fz i o
      · exact hl
      · cases ph with
        | nil => simp at hl
        | cons x xs => simpa [List.getLast?_cons] using hl
    · cases he : effR fz i o
      · simpa [he] using hq
      · simpa [he] using hq
  · refine .inr ⟨n, u, tn, sn, sl, if effR fz i o then s :: ph else ph, ?_, by omega, ?_, ?_⟩
    · unfold runP
      rw [if_neg (by rw [hw]; simp)]
      exact hr
    · rw [show n - i = (n - (i + 1)) + 1 by omega, List.take_succ_cons]
      unfold runR
      rw [if_neg (by rw [hw]; simp)]
      simp only [hr2]
    · cases he : effR fz i o
      · simpa [he] using hq
      · simpa [he] using hq

theorem o_pan {i : Nat} {o : Oper} {os : List Oper} {ts : List AV} {s s' : HS} {v : AV} {pre : List HS} (hw : wantedA ops o ts = true) (hp : evPan (evLim P Hn) i o ts s = some (v, s')) (h : QP i v ts (pre ++ [s]) s') : OpsK P Hn fz ops i (o :: os) ts s pre Q QP := by
  refine .inr ⟨i, v, ts, s, s', [s], ?_, Nat.le_refl _, by simp [runR], h⟩
  unfold runP
  rw [if_pos hw, hp]
end

/-! ### code -/
def thenK (next : List AV → HS → Prop) (Q : AX → List AV → HS → Prop) : AX → List AV → HS → Prop
  | .normal, ts, s => next ts s
  | e, ts, s => Q e ts s

def blockK (id : Nat) (Q : AX → List AV → HS → Prop) : AX → List AV → HS → Prop
  | .exit id', ts, s => if id' = id then Q .normal ts s else Q (.exit id') ts s
  | e, ts, s => Q e ts s

theorem c_skip {ts : List AV} {s : HS} {Q : AX → List AV → HS → Prop} (h : Q .normal ts s) : CodeK P Hn f rs .skip ts s Q := ⟨.normal, ts, s, rfl, h⟩
theorem c_ret {ts : List AV} {s : HS} {Q : AX → List AV → HS → Prop} (h : Q .ret ts s) : CodeK P Hn f rs .ret ts s Q := ⟨.ret, ts, s, rfl, h⟩
theorem c_exit {id : Nat} {ts : List AV} {s : HS} {Q : AX → List AV → HS → Prop} (h : Q (.exit id) ts s) : CodeK P Hn f rs (.exit id) ts s Q := ⟨.exit id, ts, s, rfl, h⟩

theorem c_seq {a b : Code} {ts : List AV} {s : HS} {Q : AX → List AV → HS → Prop} (h : CodeK P Hn f rs a ts s (thenK (fun ts' s' => CodeK P Hn f rs b ts' s' Q) Q)) : CodeK P Hn f rs (.seq a b) ts s Q := by
  obtain ⟨e, ts', s', hc, hq⟩ := h
  cases e with
  | normal =>
    obtain ⟨e2, ts2, s2, hc2, hq2⟩ := hq
    exact ⟨e2, ts2, s2, by simp only [codeL, hc, hc2], hq2⟩
  | exit id => exact ⟨_, _, _, by simp only [codeL, hc], hq⟩
  | ret => exact ⟨_, _, _, by simp only [codeL, hc], hq⟩
  | panic v => exact ⟨_, _, _, by simp only [codeL, hc], hq⟩

theorem c_cond {c : Operand} {x y : Code} {b : Bool} {ts : List AV} {s : HS} {Q : AX → List AV → HS → Prop} (hc : rho ts c = some (.bool b)) (h1 : b = true → CodeK P Hn f rs x ts s Q) (h2 : b = false → CodeK P Hn f rs y ts s Q) : CodeK P Hn f rs (.cond c x y) ts s Q := by
  cases b with
  | true =>
    obtain ⟨e, ts', s', hx, hq⟩ := h1 rfl
    exact ⟨e, ts', s', by simp only [codeL, hc]; simpa using hx, hq⟩
  | false =>
    obtain ⟨e, ts', s', hx, hq⟩ := h2 rfl
    exact ⟨e, ts', s', by simp only [codeL, hc]; simpa using hx, hq⟩

theorem c_block {id : Nat} {b : Code} {ts : List AV} {s : HS} {Q : AX → List AV → HS → Prop} (h : CodeK P Hn f rs b ts s (blockK id Q)) : CodeK P Hn f rs (.block id b) ts s Q := by
  obtain ⟨e, ts', s', hc, hq⟩ := h
  cases e with
  | normal => exact ⟨_, _, _, by simp only [codeL, hc], hq⟩
  | ret => exact ⟨_, _, _, by simp only [codeL, hc], hq⟩
  | panic v => exact ⟨_, _, _, by simp only [codeL, hc], hq⟩
  | exit id' =>
    simp only [blockK] at hq
    by_cases hid : id' = id
    · rw [if_pos hid] at hq
      exact ⟨.normal, ts', s', by simp only [codeL, hc, if_pos hid], hq⟩
    · rw [if_neg hid] at hq
      exact ⟨.exit id', ts', s', by simp only [codeL, hc, if_neg hid], hq⟩

theorem c_loop {b : Code} {ts : List AV} {s : HS} {Q : AX → List AV → HS → Prop} (h : CodeK P Hn f rs b ts s (thenK (fun ts' s' => CodeK P Hn f rs (.loop b) ts' s' Q) Q)) : CodeK P Hn f rs (.loop b) ts s Q := by
  obtain ⟨e, ts', s', hc, hq⟩ := h
  cases e with
  | normal =>
    obtain ⟨e2, ts2, s2, hc2, hq2⟩ := hq
    refine ⟨e2, ts2, s2, ?_, hq2⟩
    simp only [codeL] at hc2 ⊢
    rw [loopL_step, hc]
    exact hc2
  | exit id => exact ⟨_, _, _, by simp only [codeL]; rw [loopL_step, hc], hq⟩
  | ret => exact ⟨_, _, _, by simp only [codeL]; rw [loopL_step, hc], hq⟩
  | panic v => exact ⟨_, _, _, by simp only [codeL]; rw [loopL_step, hc], hq⟩

theorem c_mono {c : Code} {ts : List AV} {s : HS} {Q Q' : AX → List AV → HS → Prop} (h : CodeK P Hn f rs c ts s Q) (hq : ∀ e ts s, Q e ts s → Q' e ts s) : CodeK P Hn f rs c ts s Q' :=
  let ⟨e, ts', s', h1, h2⟩ := h
  ⟨e, ts', s', h1, hq _ _ _ h2⟩

theorem panStab_of {n : Nat} {ts tn : List AV} {s : HS} {ph : List HS} (hr : runR (evStep P fz (evLim P Hn)) (effR fz) ops 0 (ops.toList.take n) ts s = some (tn, ph)) (h : StabL P fz (evLim P Hn) (cutOps ops n) tn ph (checks fz (cutOps ops n))) : PanStab P fz (evLim P Hn) ops n ts s tn := by
  unfold PanStab
  rw [hr]
  exact h

/-- A region none of whose operations is to be looked at twice. -/
theorem c_region {id : Nat} {draw : Bool} {ts : List AV} {s : HS} {Q : AX → List AV → HS → Prop} (hlt : lateOf (Hn.fz f id) ops draw = none) (hch : draw = false ∨ checks (Hn.fz f id) ops = [])
    (h : OpsK P Hn (Hn.fz f id) ops 0 ops.toList ts s [] (fun T _ s' => Q .normal T s') (fun n v tn _ s' => (leaves rs ops && (!draw || (panOk (Hn.fz f id) ops n && (checks (Hn.fz f id) (cutOps ops n)).isEmpty))) = true ∧ Q (.panic v) tn s')) :
    CodeK P Hn f rs (.region id ops draw) ts s Q := by
  obtain ⟨T, ph, s', hr, hl, hq⟩ | ⟨n, v, tn, sn, s', ph, hr, _, hr2, hc, hq⟩ := h
  · refine ⟨.normal, T, s', ?_, hq⟩
    simp only [codeL, evRegion, hlt, evRegion0, hr, hl]
    rcases hch with rfl | hch
    · rfl
    · rw [hch]; cases draw <;> simp [StabL]
  · refine ⟨.panic v, tn, s', ?_, hq⟩
    simp only [codeL, evRegion, hlt, evRegion0, runR_none hr, hr]
    rw [if_pos]
    simp only [Bool.and_eq_true, Bool.or_eq_true, Bool.not_eq_true'] at hc
    refine ⟨hc.1, ?_⟩
    rcases hc.2 with h | h
    · exact .inl h
    · refine .inr (.inl ⟨h.1, panStab_of (by simpa using hr2) ?_⟩)
      have : checks (Hn.fz f id) (cutOps ops n) = [] := by simpa using h.2
      rw [this]; trivial

theorem c_regionS {id : Nat} {draw : Bool} {ts : List AV} {s : HS} {Q : AX → List AV → HS → Prop} (hlt : lateOf (Hn.fz f id) ops draw = none)
    (h : OpsK P Hn (Hn.fz f id) ops 0 ops.toList ts s [] (fun T ph s' => StabL P (Hn.fz f id) (evLim P Hn) ops T ph (checks (Hn.fz f id) ops) ∧ Q .normal T s')
      (fun n v tn ph s' => leaves rs ops = true ∧ ((panOk (Hn.fz f id) ops n = true ∧ StabL P (Hn.fz f id) (evLim P Hn) (cutOps ops n) tn ph (checks (Hn.fz f id) (cutOps ops n))) ∨
        (panXOk (Hn.fz f id) ops n = true ∧ ∃ T sn, ph.getLast? = some sn ∧ runR (stepX (evStep P (Hn.fz f id) (evLim P Hn)) ops n) (effX (effR (Hn.fz f id)) ops n) ops n (ops.toList.drop n) tn sn = some (T, [sn]) ∧ StabL P (Hn.fz f id) (evLim P Hn) ops T ph (checksX (Hn.fz f id) ops n))) ∧ Q (.panic v) tn s')) :
    CodeK P Hn f rs (.region id ops draw) ts s Q := by
  obtain ⟨T, ph, s', hr, hl, hst, hq⟩ | ⟨n, v, tn, sn, s', ph, hr, _, hr2, hlv, hst, hq⟩ := h
  · refine ⟨.normal, T, s', ?_, hq⟩
    simp only [List.nil_append] at hst
    simp only [codeL, evRegion, hlt, evRegion0, hr, hl, if_pos hst]
    cases draw <;> rfl
  · refine ⟨.panic v, tn, s', ?_, hq⟩
    simp only [codeL, evRegion, hlt, evRegion0, runR_none hr, hr]
    rw [if_pos]
    refine ⟨hlv, .inr ?_⟩
    have hr3 : runR (evStep P (Hn.fz f id) (evLim P Hn)) (effR (Hn.fz f id)) ops 0 (ops.toList.take n) ts s = some (tn, ph) := by simpa using hr2
    simp only [List.nil_append] at hst
    rcases hst with ⟨h1, h2⟩ | ⟨h1, T, sn2, h2, h3, h4⟩
    · exact .inl ⟨h1, panStab_of hr3 h2⟩
    · refine .inr ⟨h1, T, ph, hr3, ?_, h4⟩
      obtain ⟨_, u, _, _, _, ph2, k1, k2⟩ := runP_run (eff := effR (Hn.fz f id)) _ _ _ _ hr
      simp only [Nat.sub_zero] at k1
      rw [hr3] at k1
      cases k1
      rw [h2] at k2
      cases k2
      exact h3

/-- A region that makes a variable at whatever time. -/
theorem c_regionL {id : Nat} {ts : List AV} {s : HS} {Q : AX → List AV → HS → Prop} {p d : Nat} {te : TypeId} {z : AV} (hlt : lateOf (Hn.fz f id) ops true = some (p, d, te)) (hz : zero? P te = some z) (hst : z.st = true)
    (h : OpsK P Hn (Hn.fz f id) ops 0 (ops.toList.take p) ts ⟨s.h, s.n + 1⟩ [] (fun tn ph sn => StabL P (Hn.fz f id) (evLim P Hn) (cutOps ops p) tn ph (checks (Hn.fz f id) (cutOps ops p)) ∧
        OpsK P Hn (Hn.fz f id) ops (p + 1) (ops.toList.drop (p + 1)) (tn.set d (.ptr s.n 0)) ⟨sn.h.put s.n (.cells z.cells), sn.n⟩ [] (fun T _ s' => Q .normal T s') (fun _ _ _ _ _ => False))
      (fun n v tn ph s' => (leaves rs ops && latePanOk (Hn.fz f id) ops n p) = true ∧ StabL P (Hn.fz f id) (evLim P Hn) (cutOps ops n) tn ph (checks (Hn.fz f id) (cutOps ops n)) ∧ Q (.panic v) tn s')) :
    CodeK P Hn f rs (.region id ops true) ts s Q := by
  obtain ⟨T, ph, s', hr, hl, hs, h2⟩ | ⟨n, v, tn, sn, s', ph, hr, _, hr2, hc, hst2, hq⟩ := h
  · obtain ⟨T2, ph2, s2, hr2, hl2, hq⟩ | ⟨n, v, tn, sn, s2, ph2, _, _, _, hf⟩ := h2
    · refine ⟨.normal, T2, s2, ?_, hq⟩
      simp only [List.nil_append] at hs
      simp only [codeL, evRegion, hlt, evLate, hz, hst, if_true, hr, hl, if_pos hs, hr2, hl2]
    · exact hf.elim
  · refine ⟨.panic v, tn, s', ?_, hq⟩
    have hnp : n ≤ p := by
      obtain ⟨_, u, hu, _⟩ := runP_run (eff := effR (Hn.fz f id)) _ _ _ _ hr
      have := (List.getElem?_eq_some_iff.1 hu).1
      simp at this
      omega
    simp only [codeL, evRegion, hlt, evLate, hz, hst, if_true, runR_none hr, hr]
    rw [if_pos ⟨hc, panStab_of (by rw [List.take_take, Nat.sub_zero, Nat.min_eq_left hnp] at hr2; exact hr2) (by simpa using hst2)⟩]
end
end Go.Ev
