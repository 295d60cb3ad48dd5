/- The evaluator of code and calls, and that what it tells, the model does. -/
import Derived.Test.YtinngopfgdfdbaaGreatDoorEv15
import Derived.Test.YtinngopfgdfdbaaGreatDoorEv13X
set_option linter.unusedVariables false
set_option linter.unusedSimpArgs false
namespace Go.Ev

inductive AX where
  | normal
  | exit (id : Nat)
  | ret
  | panic (v : AV)

def AX.toExit : AX → Exit
  | .normal => .normal
  | .exit id => .exit id
  | .ret => .ret
  | .panic _ => .outgrown

/-- May the n-th operation of a region that draws its order panic: are those ahead of it, and behind it, of the shape that is asked? -/
def panOk (fz : Nat → Bool) (ops : Array Oper) (n : Nat) : Bool :=
  match ops[n]? with
  | some o => o.guard.isNone && effR fz n o && (cutOps ops n).toList.all (guardIn n) && lateOk ops n && planOk (effR fz) (cutOps ops n) && planOk (effR fz) (cutOps ops (n + 1))
  | none => false

/-- Does a region leave these slots alone? -/
def leaves (rs : List Nat) (ops : Array Oper) : Bool := ops.toList.all fun o => match o.dst with
  | some d => !rs.contains d
  | none => true

/-- Where the n-th operation panics: what is looked at ahead of it is looked at to the same end, wherever it comes up. -/
def PanStab (P : Program) (fz : Nat → Bool) (cf : CallF) (ops : Array Oper) (n : Nat) (ts : List AV) (s : HS) (tn : List AV) : Prop :=
  match runR (evStep P fz cf) (effR fz) ops 0 (ops.toList.take n) ts s with
  | some (_, ph) => StabL P fz cf (cutOps ops n) tn ph (checks fz (cutOps ops n))
  | none => False

/-- May the n-th operation panic while others, that don't wait for it, may have been done or not? -/
def panXOk (fz : Nat → Bool) (ops : Array Oper) (n : Nat) : Bool :=
  match ops[n]? with
  | some o => o.guard.isNone && readOp o.op && planOk (effX (effR fz) ops n) ops && (List.range ops.size).all fun k => match ops[k]? with
    | some u => waits ops n k || !effR fz k u || ((masks ops).getD n 0).testBit k
    | none => true
  | none => false

structure PanX (fz : Nat → Bool) (ops : Array Oper) (n : Nat) : Prop where
  at_ : ∃ o, ops[n]? = some o ∧ o.guard = none ∧ readOp o.op = true
  plan : Plan (effX (effR fz) ops n) ops
  chain : ∀ (k : Nat) u, ops[k]? = some u → waits ops n k = false → effR fz k u = true → ((masks ops).getD n 0).testBit k = true

theorem panXOk_spec {fz : Nat → Bool} {ops : Array Oper} {n : Nat} (h : panXOk fz ops n = true) : PanX fz ops n := by
  unfold panXOk at h
  split at h <;> try cases h
  rename_i o ho
  simp only [Bool.and_eq_true] at h
  obtain ⟨⟨⟨h1, h2⟩, h3⟩, h4⟩ := h
  refine ⟨⟨o, ho, by simpa using h1, h2⟩, planOk_spec h3, fun k u hu hw he => ?_⟩
  rw [List.all_eq_true] at h4
  have := h4 k (List.mem_range.2 (Array.getElem?_eq_some_iff.1 hu).1)
  rw [hu] at this
  simpa [hw, he] using this

theorem PanX.early {fz : Nat → Bool} {ops : Array Oper} {n : Nat} (h : PanX fz ops n) {i : Nat} (hi : i < n) : waits ops n i = false := by
  obtain ⟨o, ho, _⟩ := h.at_
  have hn : n < ops.size := (Array.getElem?_eq_some_iff.1 ho).1
  cases hw : waits ops n i with
  | false => rfl
  | true =>
    exfalso
    unfold waits at hw
    simp only [Bool.or_eq_true] at hw
    rcases hw with hw | hw
    · have := Nat.eq_of_beq_eq_true hw; omega
    · have := mask_lt h.plan i _ (Array.getElem?_eq_getElem (by omega)) n hw; omega

theorem PanX.still {fz : Nat → Bool} {ops : Array Oper} {n : Nat} (h : PanX fz ops n) {k : Nat} (hk : n ≤ k) {u : Oper} (hu : ops[k]? = some u) (hw : waits ops n k = false) : effR fz k u = false := by
  obtain ⟨o, ho, _⟩ := h.at_
  cases he : effR fz k u with
  | false => rfl
  | true =>
    have := mask_lt h.plan n o ho k (h.chain k u hu hw he)
    omega

/-- What is to be looked at, of those that may have been done or not. -/
def checksX (fz : Nat → Bool) (ops : Array Oper) (n : Nat) : List (Nat × Nat) :=
  (List.range ops.size).flatMap fun i => match ops[i]? with
    | some o => if waits ops n i || effR fz i o || !readOp o.op then [] else
      ((List.range (cnt (isE (effX (effR fz) ops n) ops) ops.size + 1)).filter fun q => win (effX (effR fz) ops n) ops i q && q != cnt (isE (effX (effR fz) ops n) ops) i).map fun q => (i, q)
    | none => []

def PanStabX (P : Program) (fz : Nat → Bool) (cf : CallF) (ops : Array Oper) (n : Nat) (ts : List AV) (s : HS) (tn : List AV) (sn : HS) : Prop :=
  ∃ T ph, runR (evStep P fz cf) (effR fz) ops 0 (ops.toList.take n) ts s = some (tn, ph) ∧
    runR (stepX (evStep P fz cf) ops n) (effX (effR fz) ops n) ops n (ops.toList.drop n) tn sn = some (T, [sn]) ∧ StabL P fz cf ops T ph (checksX fz ops n)

/-- Is a panic there to be told of? -/
def PanIf (P : Program) (fz : Nat → Bool) (rs : List Nat) (cf : CallF) (ops : Array Oper) (draw : Bool) (n : Nat) (ts : List AV) (s : HS) (tn : List AV) (sn : HS) : Prop :=
  leaves rs ops = true ∧ (draw = false ∨ (panOk fz ops n = true ∧ PanStab P fz cf ops n ts s tn) ∨ (panXOk fz ops n = true ∧ PanStabX P fz cf ops n ts s tn sn))

open Classical in
noncomputable def evRegion0 (P : Program) (fz : Nat → Bool) (rs : List Nat) (cf : CallF) (ops : Array Oper) (draw : Bool) (ts : List AV) (s : HS) : Option (AX × List AV × HS) :=
  match runR (evStep P fz cf) (effR fz) ops 0 ops.toList ts s with
  | some (T, ph) => match ph.getLast? with
    | some s' => if draw then if StabL P fz cf ops T ph (checks fz ops) then some (.normal, T, s') else none else some (.normal, T, s')
    | none => none
  | none => match runP (evStep P fz cf) (evPan cf) ops 0 ops.toList ts s with
    | some (n, v, tn, sn, s') => if PanIf P fz rs cf ops draw n ts s tn sn then some (.panic v, tn, s') else none
    | none => none

/-- The operation of a region that makes a variable at whatever time: the hints name it. -/
def lateFrom (fz : Nat → Bool) : Nat → List Oper → Option (Nat × Nat × TypeId)
  | _, [] => none
  | i, o :: os => match fz i, o.op, o.dst, o.guard with
    | true, .alloc e, some d, none => some (i, d, e)
    | _, _, _, _ => lateFrom fz (i + 1) os

def lateOf (fz : Nat → Bool) (ops : Array Oper) (draw : Bool) : Option (Nat × Nat × TypeId) := match draw with
  | true => lateFrom fz 0 ops.toList
  | false => none

theorem lateFrom_spec {fz : Nat → Bool} {p d : Nat} {e : TypeId} : ∀ {os : List Oper} {i : Nat}, lateFrom fz i os = some (p, d, e) → i ≤ p ∧ ∃ o, os[p - i]? = some o ∧ o.op = .alloc e ∧ o.dst = some d ∧ o.guard = none
  | [], i, h => by cases h
  | o :: os, i, h => by
    unfold lateFrom at h
    split at h
    · rename_i h1 h2 h3 h4
      cases h
      exact ⟨Nat.le_refl _, o, by simp, h2, h3, h4⟩
    · obtain ⟨h1, u, h2, h3⟩ := lateFrom_spec h
      refine ⟨by omega, u, ?_, h3⟩
      rw [show p - i = (p - (i + 1)) + 1 by omega]
      simpa using h2

/-- Is the region of the shape that is asked? -/
def lateGood (eff : Nat → Oper → Bool) (ops : Array Oper) (p d : Nat) : Bool :=
  (match ops[p]? with
   | some o => o.after.toList.all fun e => !Region.binds .any e
   | none => false) &&
  ((List.range ops.size).all fun i => match ops[i]? with
   | some u => u.after.toList.all fun e => !Region.binds .any e || decide (e.on < i)
   | none => true) &&
  planOk eff (cutOps ops p) && (cutOps ops p).toList.all (guardIn p) &&
  ((List.range p).all fun i => match ops[i]? with
   | some u => u.dst != some d && !(u.looksAt ops).contains d
   | none => true) &&
  (match ops[p + 1]? with
   | some u => u.guard.isNone && ((masks ops).getD (p + 1) 0).testBit p
   | none => false) &&
  planOk (effL eff p (p + 1)) ops &&
  (List.range ops.size).all fun i => match ops[i]? with
   | some u => eff i u || !readOp u.op || Nat.beq i p || Nat.beq i (p + 1) || (Nat.blt i p && ((masks ops).getD (p + 1) 0).testBit i)
   | none => true

structure LateGood (eff : Nat → Oper → Bool) (ops : Array Oper) (p d : Nat) (o : Oper) : Prop extends LatePlan eff ops p d o where
  next : ∃ u, ops[p + 1]? = some u ∧ u.guard = none ∧ ((masks ops).getD (p + 1) 0).testBit p = true
  whole : planOk (effL eff p (p + 1)) ops = true
  reads : ∀ (i : Nat) u, ops[i]? = some u → eff i u = false → readOp u.op = true → i ≠ p → i ≠ p + 1 → i < p ∧ ((masks ops).getD (p + 1) 0).testBit i = true

theorem lateGood_spec {eff : Nat → Oper → Bool} {ops : Array Oper} {p d : Nat} {o : Oper} (h : lateGood eff ops p d = true) (ho : ops[p]? = some o) (hd : o.dst = some d) (hg : o.guard = none) : LateGood eff ops p d o := by
  unfold lateGood at h
  simp only [Bool.and_eq_true] at h
  obtain ⟨⟨⟨⟨⟨⟨⟨h1, h2⟩, h3⟩, h4⟩, h5⟩, h6⟩, h7⟩, h8⟩ := h
  refine ⟨⟨ho, hd, hg, ?_, ?_, h3, h4, ?_⟩, ?_, h7, ?_⟩
  · rw [ho] at h1
    simp only [List.all_eq_true, Bool.not_eq_true'] at h1
    exact h1
  · intro i u hu e he hb
    rw [List.all_eq_true] at h2
    have := h2 i (List.mem_range.2 (Array.getElem?_eq_some_iff.1 hu).1)
    rw [hu] at this
    simp only [List.all_eq_true] at this
    have := this e he
    rw [hb] at this
    simpa using this
  · intro i u hi hu
    rw [List.all_eq_true] at h5
    have := h5 i (List.mem_range.2 hi)
    rw [hu] at this
    simpa [List.contains_iff_mem] using this
  · split at h6
    · rename_i u hu
      simp only [Bool.and_eq_true] at h6
      exact ⟨u, hu, by simpa using h6.1, h6.2⟩
    · cases h6
  · intro i u hu he hr hip hiq
    rw [List.all_eq_true] at h8
    have := h8 i (List.mem_range.2 (Array.getElem?_eq_some_iff.1 hu).1)
    rw [hu] at this
    have n1 : Nat.beq i p = false := by rw [← Bool.not_eq_true]; intro h; exact hip (Nat.eq_of_beq_eq_true h)
    have n2 : Nat.beq i (p + 1) = false := by rw [← Bool.not_eq_true]; intro h; exact hiq (Nat.eq_of_beq_eq_true h)
    simp only [he, hr, n1, n2, Bool.not_true, Bool.or_false, Bool.false_or, Bool.and_eq_true, Nat.blt_eq] at this
    exact this

theorem runR_unw {step : Nat → Oper → List AV → HS → Option (AV × HS)} {eff : Nat → Oper → Bool} {ops : Array Oper} {t : Tmp} : ∀ (os : List Oper) (i : Nat) (ts T : List AV) (s : HS) (ph : List HS), (∀ o ∈ os, o.dst ≠ some t) → runR step eff ops i os ts s = some (T, ph) → slot T t = slot ts t
  | [], i, ts, T, s, ph, _, h => by simp [runR] at h; rw [h.1]
  | o :: os, i, ts, T, s, ph, ht, h => by
    have hp : ∀ v, slot (putA ts o.dst v) t = slot ts t := fun v => by rw [slot_putA, if_neg (fun hc => ht o (.head _) hc.1)]
    unfold runR at h
    split at h
    · split at h <;> try cases h
      split at h <;> cases h
      rename_i hr
      rw [runR_unw os _ _ _ _ _ (fun u hu => ht u (.tail _ hu)) hr, hp]
    · split at h <;> cases h
      rename_i hr
      rw [runR_unw os _ _ _ _ _ (fun u hu => ht u (.tail _ hu)) hr, hp]

theorem isE_late {eff : Nat → Oper → Bool} {ops : Array Oper} {p k : Nat} (hk : k < p) : isE (effL eff p (p + 1)) ops k = isE eff (cutOps ops p) k := by
  unfold isE
  rw [cutOps_get hk]
  cases ops[k]? with
  | none => rfl
  | some o =>
    have h1 : ¬ k = p := by omega
    have h2 : ¬ k = p + 1 := by omega
    simp only [effL, h1, h2, if_false]

theorem stab_late {P : Program} {fz : Nat → Bool} {cf : CallF} {ops : Array Oper} {p d r : Nat} {o : Oper} {k : Blk} (hg : LateGood (effR fz) ops p d o) {ts tn T : List AV} {s sn : HS} {ph ph2 ph3 : List HS}
    (hrun : runR (evStep P fz cf) (effR fz) (cutOps ops p) 0 (cutOps ops p).toList ts s = some (tn, ph)) (hst : Stab (evStep P fz cf) (effR fz) (cutOps ops p) ts tn ph)
    (hrun2 : runR (evStep P fz cf) (effR fz) ops (p + 1) (ops.toList.drop (p + 1)) (tn.set d (.ptr r 0)) sn = some (T, ph2))
    (hrunL : runR (stepL (evStep P fz cf) p (p + 1) r k) (effL (effR fz) p (p + 1)) ops 0 ops.toList ts s = some (T, ph ++ ph3)) :
    Stab (stepL (evStep P fz cf) p (p + 1) r k) (effL (effR fz) p (p + 1)) ops ts T (ph ++ ph3) := by
  have hll := laws_late (step_laws P fz cf) p (p + 1) r k
  have hpl := planOk_spec hg.whole
  have hp : p < ops.size := (Array.getElem?_eq_some_iff.1 hg.at_).1
  have hsz : (cutOps ops p).size = p := cutOps_size (by omega)
  obtain ⟨hlen, hph0, hphl, hunw, hfacts⟩ := run_facts (ts0 := ts) hll hpl ops.toList 0 ts T s (ph ++ ph3) (fun j => by simp) rfl (fun _ _ => rfl) hrunL
  obtain ⟨clen, cph0, cphl, cunw, cfacts⟩ := run_facts (ts0 := ts) (step_laws P fz cf) (planOk_spec hg.plan) (cutOps ops p).toList 0 ts tn s ph (fun j => by simp) rfl (fun _ _ => rfl) hrun
  simp only [Nat.zero_add, Array.length_toList, cnt, Nat.sub_zero] at hphl hfacts
  simp only [Nat.zero_add, Array.length_toList, cnt, Nat.sub_zero, hsz] at cphl
  have hcnt : ∀ e, e ≤ p → cnt (isE (effL (effR fz) p (p + 1)) ops) e = cnt (isE (effR fz) (cutOps ops p)) e := fun e he => cnt_congr (fun k hk => isE_late (by omega))
  intro i u q hu he hw hwin hq hne
  by_cases hip : i = p
  · subst hip
    obtain ⟨s1, s2, v, f1, f2, f3, f4⟩ := (hfacts i u (Nat.zero_le _) hu).on hw
    simp only [stepL, if_true, Option.some.injEq, Prod.mk.injEq] at f2
    obtain ⟨rfl, rfl⟩ := f2
    exact ⟨(ph ++ ph3)[q], .ptr r 0, List.getElem?_eq_getElem hq, by simp only [stepL, if_true], f3⟩
  have hiq : i ≠ p + 1 := fun e => by
    subst e
    have h1 : ¬ p + 1 = p := by omega
    simp only [effL, h1, if_false, if_true] at he
    cases he
  have hstp : ∀ (T : List AV) (s : HS), stepL (evStep P fz cf) p (p + 1) r k i u T s = evStep P fz cf i u T s := fun T s => by simp only [stepL, hip, hiq, if_false]
  have hef : effR fz i u = false := by simp only [effL, hip, hiq, if_false] at he; exact he
  by_cases hr : readOp u.op = true
  · obtain ⟨hlt, hbit⟩ := hg.reads i u hu hef hr hip hiq
    have hu0 : (cutOps ops p)[i]? = some u := by rw [cutOps_get hlt]; exact hu
    have hgi : guardIn p u = true := by
      have := hg.gs
      rw [List.all_eq_true] at this
      exact this u (by rw [Array.mem_toList_iff]; exact Array.mem_of_getElem? hu0)
    -- what is written ahead stays
    have hstay : ∀ t j x, j < p → ops[j]? = some x → x.dst = some t → slot T t = slot tn t := by
      intro t j x hj hx hxt
      have htd : t ≠ d := fun e => by subst e; exact (hg.side j x hj hx).1 hxt
      rw [runR_unw _ _ _ _ _ _ (fun y hy hyt => ?_) hrun2, slot_set_ne _ _ htd]
      obtain ⟨m, hm⟩ := List.mem_iff_getElem?.1 hy
      rw [List.getElem?_drop] at hm
      have hm' : ops[p + 1 + m]? = some y := by simpa using hm
      have := hpl.uniq j (p + 1 + m) x y t hx hm' hxt hyt
      omega
    have hV : ∀ t, slot (Vw ops ts T i) t = slot (Vw (cutOps ops p) ts tn i) t := by
      intro t
      unfold Vw
      rw [slot_TS hlen, slot_TS clen]
      have hwr : wr ops (fun j => ((masks ops).getD i 0).testBit j) t = wr (cutOps ops p) (fun j => ((masks (cutOps ops p)).getD i 0).testBit j) t := by
        rw [Bool.eq_iff_iff, wr_iff, wr_iff]
        constructor
        · rintro ⟨j, x, hj, h1, h2⟩
          have := mask_back hg.back i u hu j h1
          exact ⟨j, x, by rw [cutOps_get (by omega)]; exact hj, by rw [masks_cut hlt (by omega)]; exact h1, h2⟩
        · rintro ⟨j, x, hj, h1, h2⟩
          exact ⟨j, x, (cutOps_lt hj).2, by rw [masks_cut hlt (by omega)] at h1; exact h1, h2⟩
      rw [← hwr]
      split
      · rename_i hw
        obtain ⟨j, x, hj, h1, h2⟩ := wr_iff.1 hw
        have := mask_back hg.back i u hu j h1
        exact hstay t j x (by omega) hj h2
      · rfl
    have hw0 : wantedA (cutOps ops p) u (Vw (cutOps ops p) ts tn i) = true := by
      rw [cut_wantedA hgi, ← wantedA_congr (fun t _ => hV t)]
      exact hw
    have hq1 : q ≤ cnt (isE (effR fz) (cutOps ops p)) p := by
      obtain ⟨uq, huq, _, _⟩ := hg.next
      have hqs : p + 1 < ops.size := (Array.getElem?_eq_some_iff.1 huq).1
      unfold win at hwin
      rw [List.all_eq_true] at hwin
      have h1 := hwin (p + 1) (List.mem_range.2 hqs)
      have h2 : isE (effL (effR fz) p (p + 1)) ops (p + 1) = true := by
        have h1 : ¬ p + 1 = p := by omega
        simp only [isE, huq, effL, h1, if_false, if_true]
      have h3 : cnt (isE (effL (effR fz) p (p + 1)) ops) (p + 1) = cnt (isE (effR fz) (cutOps ops p)) p := by
        have : isE (effL (effR fz) p (p + 1)) ops p = false := by simp only [isE, hg.at_, effL, if_true]
        simp only [cnt, this, Bool.false_eq_true, if_false, Nat.add_zero]
        exact hcnt p (Nat.le_refl _)
      rw [h2] at h1
      simp only [Bool.not_true, Bool.false_or] at h1
      rw [h3] at h1
      by_cases hc : cnt (isE (effR fz) (cutOps ops p)) p < q
      · rw [if_pos hc, hbit] at h1; cases h1
      · omega
    have hwin0 : win (effR fz) (cutOps ops p) i q = true := by
      unfold win at hwin ⊢
      rw [List.all_eq_true] at hwin ⊢
      intro e hen
      rw [hsz] at hen
      have hep := List.mem_range.1 hen
      have h1 := hwin e (List.mem_range.2 (by omega))
      rw [isE_late hep, hcnt e (by omega)] at h1
      rw [masks_cut hep (by omega), masks_cut hlt (by omega)]
      exact h1
    obtain ⟨sq, v, g1, g2, g3⟩ := hst i u q hu0 hef hw0 hwin0 (by omega) (by rw [← hcnt i (by omega)]; exact hne)
    have hql : q < ph.length := by omega
    refine ⟨sq, v, by rw [List.getElem?_append_left hql]; exact g1, ?_, fun t ht htl => ?_⟩
    · rw [hstp, (step_laws P fz cf).looks i u (Vw ops ts T i) (Vw (cutOps ops p) ts tn i) sq (fun t _ => hV t)]
      exact g2
    · rw [hstay t i u hlt hu ht]
      exact g3 t ht (by rw [clen, ← hlen]; exact htl)
  · obtain ⟨s1, s2, v, f1, f2, f3, f4⟩ := (hfacts i u (Nat.zero_le _) hu).on hw
    rw [hstp] at f2
    refine ⟨(ph ++ ph3)[q], v, List.getElem?_eq_getElem hq, ?_, f3⟩
    rw [hstp]
    exact evStep_pure hef (by simpa using hr) f2 _

/-- May the n-th operation of such a region panic? -/
def latePanOk (fz : Nat → Bool) (ops : Array Oper) (n p : Nat) : Bool :=
  match ops[n]? with
  | some o => Nat.blt n p && o.guard.isNone && effR fz n o && (cutOps ops n).toList.all (guardIn n) && lateOk2 ops n p && planOk (effR fz) (cutOps ops n) && planOk (effR fz) (cutOps ops (n + 1))
  | none => false

open Classical in
noncomputable def evLate (P : Program) (fz : Nat → Bool) (rs : List Nat) (cf : CallF) (ops : Array Oper) (p d : Nat) (e : TypeId) (ts : List AV) (s : HS) : Option (AX × List AV × HS) :=
  match zero? P e with
  | none => none
  | some z => if z.st then match runR (evStep P fz cf) (effR fz) ops 0 (ops.toList.take p) ts ⟨s.h, s.n + 1⟩ with
    | some (tn, ph) => match ph.getLast? with
      | some sn => if StabL P fz cf (cutOps ops p) tn ph (checks fz (cutOps ops p)) then
          match runR (evStep P fz cf) (effR fz) ops (p + 1) (ops.toList.drop (p + 1)) (tn.set d (.ptr s.n 0)) ⟨sn.h.put s.n (.cells z.cells), sn.n⟩ with
          | some (T, ph2) => match ph2.getLast? with
            | some s' => some (.normal, T, s')
            | none => none
          | none => none
        else none
      | none => none
    | none => match runP (evStep P fz cf) (evPan cf) ops 0 (ops.toList.take p) ts ⟨s.h, s.n + 1⟩ with
      | some (n, v, tn, _, s') => if (leaves rs ops && latePanOk fz ops n p) = true ∧ PanStab P fz cf ops n ts ⟨s.h, s.n + 1⟩ tn then some (.panic v, tn, s') else none
      | none => none
    else none

noncomputable def evRegion (P : Program) (fz : Nat → Bool) (rs : List Nat) (cf : CallF) (ops : Array Oper) (draw : Bool) (ts : List AV) (s : HS) : Option (AX × List AV × HS) :=
  match lateOf fz ops draw with
  | some (p, d, e) => evLate P fz rs cf ops p d e ts s
  | none => evRegion0 P fz rs cf ops draw ts s

noncomputable def evLoop (body : List AV → HS → Option (AX × List AV × HS)) : Nat → List AV → HS → Option (AX × List AV × HS)
  | 0, _, _ => none
  | n + 1, ts, s => match body ts s with
    | some (.normal, ts', s') => evLoop body n ts' s'
    | r => r

noncomputable def evCode (P : Program) (Hn : Hints) (f : FuncId) (rs : List Nat) (cf : CallF) (F : Nat) : Code → List AV → HS → Option (AX × List AV × HS)
  | .skip, ts, s => some (.normal, ts, s)
  | .label _, ts, s => some (.normal, ts, s)
  | .region id ops draw, ts, s => evRegion P (Hn.fz f id) rs cf ops draw ts s
  | .seq a b, ts, s => match evCode P Hn f rs cf F a ts s with
    | some (.normal, ts', s') => evCode P Hn f rs cf F b ts' s'
    | r => r
  | .cond c a b, ts, s => match rho ts c with
    | some (.bool t) => if t then evCode P Hn f rs cf F a ts s else evCode P Hn f rs cf F b ts s
    | _ => none
  | .block id b, ts, s => match evCode P Hn f rs cf F b ts s with
    | some (.exit id', ts', s') => if id' = id then some (.normal, ts', s') else some (.exit id', ts', s')
    | r => r
  | .loop b, ts, s => evLoop (evCode P Hn f rs cf F b) F ts s
  | .exit id, ts, s => some (.exit id, ts, s)
  | .ret, ts, s => some (.ret, ts, s)
  | _, _, _ => none

def evResult (P : Program) (s : HS) (ts : List AV) : ResultVar → Option AV
  | .tmp t => some (slot ts t)
  | .cell a t => evLoad P s.h t (slot ts a)

def evResults (P : Program) (fn : Func) (s : HS) (ts : List AV) : Option AV :=
  match fn.results.toList with
  | [r] => evResult P s ts r
  | rs => (mapO (evResult P s ts) rs).map .tup

def evReturn (Hn : Hints) (f : FuncId) (args : List AV) (n0 : Nat) (v : AV) (s : HS) : Option (AV × HS) :=
  if Hn.snap f then match snapV true (Hn.keep f args s n0) s.h 8 v with
    | some v' => some (v', sweptD (Hn.keep f args s n0) (Hn.deep f args s n0) s)
    | none => none
  else some (v, sweptD (Hn.keep f args s n0) (Hn.deep f args s n0) s)

/-! ### it is right -/
/-- Is each region that draws of the shape that is asked? -/
def codeOk (fz : Nat → Nat → Bool) : Code → Bool
  | .region id ops draw => match lateOf (fz id) ops draw with
    | some (p, d, _) => lateGood (effR (fz id)) ops p d
    | none => !draw || planOk (effR (fz id)) ops
  | .seq a b => codeOk fz a && codeOk fz b
  | .cond _ a b => codeOk fz a && codeOk fz b
  | .block _ b => codeOk fz b
  | .loop b => codeOk fz b
  | _ => true

section
variable {P : Program} {ro : Option Nat} {w0 : W0}

/-- Is this how a piece of code ends? -/
def AX.Is (Y : Cx) : AX → Exit → Prop
  | .panic v, e => ∃ y, e = .panic [{ v := y, recovered := false }] ∧ V Y v y
  | x, e => e = x.toExit

/-- What the slots hold: behind a panic it is told of some alone. -/
def SlotsOf (Y : Cx) (rs : List Nat) (x : AX) (ts : List AV) (tmps : List Value) : Prop := match x with
  | .panic _ => ∃ ts', VL Y ts' tmps ∧ ∀ t ∈ rs, slot ts' t = slot ts t
  | _ => VL Y ts tmps

/-- A post of a piece of code. -/
def Post (X : Cx) (w0 : W0) (rs : List Nat) (e : AX) (ts : List AV) (s : HS) (ds : List Deferred) : Exit → Act → World → Prop :=
  fun e' a' w' => a'.defers = ds ∧ ∃ Y, X.Le Y ∧ e.Is Y e' ∧ SlotsOf Y rs e ts a'.tmps.toList ∧ R Y s w0 w'

theorem Post.mono {X Y : Cx} {rs : List Nat} {e : AX} {ts : List AV} {s : HS} {ds : List Deferred} {e' : Exit} {a' : Act} {w' : World} (hle : X.Le Y) (h : Post Y w0 rs e ts s ds e' a' w') : Post X w0 rs e ts s ds e' a' w' :=
  let ⟨h1, Z, h3, h4⟩ := h
  ⟨h1, Z, hle.trans h3, h4⟩

theorem runP_run {step pan : Nat → Oper → List AV → HS → Option (AV × HS)} {eff : Nat → Oper → Bool} {ops : Array Oper} {n : Nat} {v : AV} {tn : List AV} {sn s' : HS} : ∀ (os : List Oper) (i : Nat) (ts : List AV) (s : HS), runP step pan ops i os ts s = some (n, v, tn, sn, s') →
    i ≤ n ∧ ∃ o, os[n - i]? = some o ∧ wantedA ops o tn = true ∧ pan n o tn sn = some (v, s') ∧ ∃ ph, runR step eff ops i (os.take (n - i)) ts s = some (tn, ph) ∧ ph.getLast? = some sn
  | [], i, ts, s, h => by simp [runP] at h
  | o :: os, i, ts, s, h => by
    have hlastc : ∀ {s0 s' : HS} {ph' : List HS} {b : Bool}, ph'.getLast? = some s' → (if b then s0 :: ph' else ph').getLast? = some s' := by
      intro s0 s' ph' b hl
      cases b
      · exact hl
      · cases ph' with
        | nil => simp at hl
        | cons x xs => simpa [List.getLast?_cons] using hl
    unfold runP at h
    split at h
    · rename_i hw
      split at h
      · rename_i v1 s1 hp
        cases h
        refine ⟨Nat.le_refl _, o, by simp, hw, hp, _, by simp [runR]; rfl, rfl⟩
      · split at h <;> try cases h
        rename_i v1 s1 hs1
        obtain ⟨h1, u, h2, h3, h4, ph, h5, h6⟩ := runP_run (eff := eff) os (i + 1) _ _ h
        refine ⟨by omega, u, ?_, h3, h4, if eff i o then s :: ph else ph, ?_, hlastc h6⟩
        · rw [show n - i = (n - (i + 1)) + 1 by omega]; simpa using h2
        · rw [show n - i = (n - (i + 1)) + 1 by omega, List.take_succ_cons]
          unfold runR
          rw [if_pos hw, hs1]
          simp only [h5]
    · rename_i hw
      obtain ⟨h1, u, h2, h3, h4, ph, h5, h6⟩ := runP_run (eff := eff) os (i + 1) _ _ h
      refine ⟨by omega, u, ?_, h3, h4, if eff i o then s :: ph else ph, ?_, hlastc h6⟩
      · rw [show n - i = (n - (i + 1)) + 1 by omega]; simpa using h2
      · rw [show n - i = (n - (i + 1)) + 1 by omega, List.take_succ_cons]
        unfold runR
        rw [if_neg hw]
        simp only [h5]

theorem runR_cut {step : Nat → Oper → List AV → HS → Option (AV × HS)} {eff : Nat → Oper → Bool} {ops : Array Oper} {n : Nat} : ∀ (os : List Oper) (i : Nat) (ts : List AV) (s : HS), os.all (guardIn n) = true → runR step eff (cutOps ops n) i os ts s = runR step eff ops i os ts s
  | [], i, ts, s, _ => rfl
  | o :: os, i, ts, s, h => by
    simp only [List.all_cons, Bool.and_eq_true] at h
    have ih := fun ts s => runR_cut (step := step) (eff := eff) (ops := ops) (n := n) os (i + 1) ts s h.2
    unfold runR
    rw [cut_wantedA h.1]
    simp only [ih]

theorem runP_slot {step pan : Nat → Oper → List AV → HS → Option (AV × HS)} {ops : Array Oper} {n : Nat} {v : AV} {tn : List AV} {sn s' : HS} {t : Tmp} : ∀ (os : List Oper) (i : Nat) (ts : List AV) (s : HS), (∀ o ∈ os, o.dst ≠ some t) → runP step pan ops i os ts s = some (n, v, tn, sn, s') → slot tn t = slot ts t
  | [], i, ts, s, _, h => by simp [runP] at h
  | o :: os, i, ts, s, ht, h => by
    have hp : ∀ v, slot (putA ts o.dst v) t = slot ts t := fun v => by rw [slot_putA, if_neg (fun hc => ht o (.head _) hc.1)]
    unfold runP at h
    split at h
    · split at h
      · cases h; rfl
      · split at h <;> try cases h
        rw [runP_slot os _ _ _ (fun u hu => ht u (.tail _ hu)) h, hp]
    · rw [runP_slot os _ _ _ (fun u hu => ht u (.tail _ hu)) h, hp]

theorem runX_of {P : Program} {fz : Nat → Bool} {cf : CallF} {ops : Array Oper} {n : Nat} (hx : PanX fz ops n) {ts tn T : List AV} {s sn : HS} {ph : List HS} (h1 : runR (evStep P fz cf) (effR fz) ops 0 (ops.toList.take n) ts s = some (tn, ph)) (hl : ph.getLast? = some sn)
    (h2 : runR (stepX (evStep P fz cf) ops n) (effX (effR fz) ops n) ops n (ops.toList.drop n) tn sn = some (T, [sn])) :
    runR (stepX (evStep P fz cf) ops n) (effX (effR fz) ops n) ops 0 ops.toList ts s = some (T, ph) ∧ ph.getLast? = some sn := by
  obtain ⟨o, ho, _⟩ := hx.at_
  have hn : n < ops.size := (Array.getElem?_eq_some_iff.1 ho).1
  have hlen : (ops.toList.take n).length = n := by simp; omega
  have e1 : runR (stepX (evStep P fz cf) ops n) (effX (effR fz) ops n) ops 0 (ops.toList.take n) ts s = some (tn, ph) := by
    rw [← h1]
    refine runR_congr _ _ _ _ (fun j _ hj => ?_)
    have hjn : j < n := by omega
    have hw := hx.early hjn
    refine ⟨?_, ?_⟩
    · funext o ts s; simp only [stepX, hw, Bool.false_eq_true, if_false]
    · funext o; simp only [effX, hw, Bool.false_eq_true, if_false]
  have hall := runR_append (ops.toList.take n) (ops.toList.drop n) 0 ts tn T s sn ph [sn] e1 hl (by rw [hlen, Nat.zero_add]; exact h2)
  rw [List.take_append_drop] at hall
  have hne : ph ≠ [] := fun e => by subst e; simp at hl
  have hph : ph.dropLast ++ [sn] = ph := by
    have : sn = ph.getLast hne := by rw [List.getLast?_eq_some_getLast hne] at hl; cases hl; rfl
    rw [this]; exact List.dropLast_concat_getLast hne
  rw [hph] at hall
  exact ⟨hall, hl⟩

theorem stabX_of {P : Program} {fz : Nat → Bool} {cf : CallF} {ops : Array Oper} {n : Nat} (hx : PanX fz ops n) {ts T : List AV} {s : HS} {ph : List HS} (hrun : runR (stepX (evStep P fz cf) ops n) (effX (effR fz) ops n) ops 0 ops.toList ts s = some (T, ph))
    (h : StabL P fz cf ops T ph (checksX fz ops n)) : Stab (stepX (evStep P fz cf) ops n) (effX (effR fz) ops n) ops ts T ph := by
  have hll := laws_x (step_laws P fz cf) ops n
  obtain ⟨hlen, hph0, hphl, hunw, hfacts⟩ := run_facts (ts0 := ts) hll hx.plan ops.toList 0 ts T s ph (fun j => by simp) rfl (fun _ _ => rfl) hrun
  simp only [Nat.zero_add, Array.length_toList, cnt, Nat.sub_zero] at hphl hfacts
  intro i o q ho he hw hwin hq hne
  cases hwi : waits ops n i with
  | true =>
    obtain ⟨s1, s2, v, f1, f2, f3, f4⟩ := (hfacts i o (Nat.zero_le _) ho).on hw
    simp only [stepX, hwi, if_true, Option.some.injEq, Prod.mk.injEq] at f2
    obtain ⟨rfl, rfl⟩ := f2
    exact ⟨ph[q], .tup [], List.getElem?_eq_getElem hq, by simp only [stepX, hwi, if_true], f3⟩
  | false =>
    have hstp : ∀ (T : List AV) (s : HS), stepX (evStep P fz cf) ops n i o T s = evStep P fz cf i o T s := fun T s => by simp only [stepX, hwi, Bool.false_eq_true, if_false]
    have hef : effR fz i o = false := by simpa only [effX, hwi, Bool.false_eq_true, if_false] using he
    by_cases hr : readOp o.op = true
    · have hv : ∀ t ∈ o.looksAt ops, slot (Vw ops ts T i) t = slot T t := by
        intro t ht
        unfold Vw
        rw [slot_TS hlen]
        split
        · rfl
        · rename_i hnw
          refine (hunw t (fun j u _ hj hd => hnw ?_)).symm
          rcases hx.plan.deps i j o u t ho hj hd ht with hm | ⟨hf, _⟩
          · exact wr_iff.2 ⟨j, u, hj, hm, hd⟩
          · rw [hr] at hf; cases hf
      rw [wantedA_congr hv] at hw
      have hl := fun sq => (step_laws P fz cf).looks i o (Vw ops ts T i) T sq (fun t ht => hv t (mem_looks ht))
      simp only [hstp, hl]
      refine stabL_mem h i q o ?_ ho hw
      unfold checksX
      rw [List.mem_flatMap]
      refine ⟨i, List.mem_range.2 (Array.getElem?_eq_some_iff.1 ho).1, ?_⟩
      simp only [ho, hef, hwi, hr, Bool.not_true, Bool.or_false, Bool.false_eq_true, if_false]
      rw [List.mem_map]
      refine ⟨q, List.mem_filter.2 ⟨List.mem_range.2 (by omega), ?_⟩, rfl⟩
      simp [hwin, hne]
    · obtain ⟨s1, s2, v, f1, f2, f3, f4⟩ := (hfacts i o (Nat.zero_le _) ho).on hw
      rw [hstp] at f2
      refine ⟨ph[q], v, List.getElem?_eq_getElem hq, ?_, f3⟩
      rw [hstp]
      exact evStep_pure hef (by simpa using hr) f2 _

theorem region0_sound {cf : CallF} (hcf : CallOK P w0 cf) (hP : P.follows .mixedOrders = true) (hname : ∀ (g : Nat) (fn : Func), P.funcs[g]? = some fn → (fn.name == "runtime.NumGoroutine") = false) {fz : Nat → Bool} {rs : List Nat} {id : Nat} {ops : Array Oper} {draw : Bool}
    (hok : (!draw || planOk (effR fz) ops) = true) {e : AX} {ts ts' : List AV} {s s' : HS} (h : evRegion0 P fz rs cf ops draw ts s = some (e, ts', s')) {X : Cx} {a : Act} {w : World} (hR : R X s w0 w) (ha : VL X ts a.tmps.toList) :
    (Code.region id ops draw).wpIn (WF ro) 0 P (Post X w0 rs e ts' s' a.defers) a w := by
  unfold evRegion0 at h
  split at h
  · rename_i T ph hrun
    split at h <;> try cases h
    rename_i sl hl
    have hQ : ∀ Y a' w' s2, X.Le Y → ph.getLast? = some s2 → VL Y T a'.tmps.toList → R Y s2 w0 w' → a'.defers = a.defers → Post X w0 rs .normal T sl a.defers .normal a' w' := by
      intro Y a' w' s2 hY hl2 hT hR2 hd
      rw [hl] at hl2; cases hl2
      exact ⟨hd, Y, hY, rfl, hT, hR2⟩
    cases draw with
    | false =>
      simp only [Bool.false_eq_true, if_false, Option.some.injEq, Prod.mk.injEq] at h
      obtain ⟨rfl, rfl, rfl⟩ := h
      refine wpIn_region ?_
      have := runR_plain (P := P) (ro := ro) (Q := Post X w0 rs .normal T sl a.defers) (step_ok hcf hname fz _) ops.toList 0 ts T s ph X a w (fun j o ho => by simpa using ho) hrun hR ha hQ
      rw [Array.length_toList, ← List.range_eq_range'] at this
      exact this
    | true =>
      simp only [if_true] at h
      split at h <;> cases h
      rename_i hst
      simp only [Bool.not_true, Bool.false_or] at hok
      refine wpIn_region_any hP ?_
      exact region_any (step_ok hcf hname fz _) (step_laws P fz cf) hok hrun (stab_of (planOk_spec hok) hrun hst) hR.drew ha hQ
  · split at h <;> try cases h
    rename_i n v tn sn s1 hrun
    split at h <;> cases h
    rename_i hc
    obtain ⟨hlv, hc⟩ := hc
    have hrs : ∀ t ∈ rs, ∀ o ∈ ops.toList, o.dst ≠ some t := by
      intro t ht o ho hd
      unfold leaves at hlv
      rw [List.all_eq_true] at hlv
      have := hlv o ho
      rw [hd] at this
      simp only [Bool.not_eq_true', List.contains_eq_mem, decide_eq_false_iff_not] at this
      exact this ht
    cases draw with
    | false =>
      refine wpIn_region ?_
      have := runP_plain (P := P) (ro := ro) (Q := Post X w0 rs (.panic v) ts' s' a.defers) (step_ok hcf hname fz _) (pan_ok hcf hname _) ops.toList 0 ts s X a w (fun j o ho => by simpa using ho) hrun hR ha
        (fun Y y a' w' hY hv hR' hT hd => ⟨hd, Y, hY, ⟨y, rfl, hv⟩, ⟨_, hT, fun _ _ => rfl⟩, hR'⟩)
      rw [Array.length_toList, ← List.range_eq_range'] at this
      exact this
    | true =>
      have hcut : (cutOps ops n).toList = ops.toList.take n := rfl
      obtain ⟨h1, u, h2, h3, h4, ph, h5, h6⟩ := runP_run (eff := effR fz) ops.toList 0 ts s hrun
      simp only [Nat.sub_zero] at h2 h5
      rcases hc with hc | ⟨hc, hst⟩ | ⟨hc, hst⟩
      · cases hc
      · unfold panOk at hc
        split at hc <;> try cases hc
        rename_i o ho
        simp only [Bool.and_eq_true] at hc
        obtain ⟨⟨⟨⟨⟨c1, c2⟩, c3⟩, c4⟩, c5⟩, c6⟩ := hc
        have hu : u = o := by
          have : ops[n]? = some u := by simpa using h2
          rw [ho] at this; cases this; rfl
        subst hu
        unfold PanStab at hst
        rw [h5] at hst
        simp only at hst
        rw [← hcut, ← runR_cut (n := n) (cutOps ops n).toList 0 ts s c3] at h5
        refine wpIn_region_any hP ?_
        refine region_pan (step_ok hcf hname fz _) (pan_ok hcf hname _) (step_laws P fz cf) (pan_looks cf) ho (by simpa using c1) c2 c3 c4 c5 c6 h5 h6 h4 (stab_of (planOk_spec c5) h5 hst) hR.drew ha ?_
        rintro Y y a' w' hY hv hR' hd ⟨t1, hT, hag⟩
        refine ⟨hd, Y, hY, ⟨y, rfl, hv⟩, ⟨t1, hT, fun t ht => ?_⟩, hR'⟩
        rw [hag t (fun j o ho => hrs t ht o (by simpa using Array.mem_of_getElem? ho)), runP_slot _ _ _ _ (hrs t ht) hrun]
      · have hx := panXOk_spec hc
        obtain ⟨o, ho, hgd, hrd⟩ := hx.at_
        have hu : u = o := by
          have : ops[n]? = some u := by simpa using h2
          rw [ho] at this; cases this; rfl
        subst hu
        obtain ⟨T, ph2, e1, e2, hstl⟩ := hst
        rw [h5] at e1
        cases e1
        obtain ⟨hrunX, hlX⟩ := runX_of hx h5 h6 e2
        have hlook : ∀ t ∈ u.looksAt ops, slot T t = slot ts' t := by
          intro t ht
          refine runR_unw _ _ _ _ _ _ (fun x hxm hxt => ?_) e2
          obtain ⟨j, hj⟩ := List.mem_iff_getElem?.1 hxm
          rw [List.getElem?_drop] at hj
          have hj : ops[n + j]? = some x := by simpa using hj
          rcases hx.plan.deps n (n + j) u x t ho hj hxt ht with hm | ⟨hf, _⟩
          · have := mask_lt hx.plan n u ho (n + j) hm; omega
          · rw [hrd] at hf; cases hf
        refine wpIn_region_any hP ?_
        refine region_panX (step_ok hcf hname fz _) (pan_ok hcf hname _) (step_laws P fz cf) (pan_looks cf) ho hgd hrd hx.plan hx.chain hrunX hlX (by rw [pan_looks cf n u T ts' sn (fun t ht => hlook t (mem_looks ht))]; exact h4) (stabX_of hx hrunX hstl) hR.drew ha ?_
        rintro Y y a' w' hY hv hR' hd ⟨t1, hT, hag⟩
        refine ⟨hd, Y, hY, ⟨y, rfl, hv⟩, ⟨t1, hT, fun t ht => ?_⟩, hR'⟩
        rw [hag t (fun j o ho => hrs t ht o (by simpa using Array.mem_of_getElem? ho)), runP_slot _ _ _ _ (hrs t ht) hrun]

theorem make_ok {Q : Exit → Act → World → Prop} {o : Oper} {e : TypeId} (ho : o.op = .alloc e) {z : AV} (hz : zero? P e = some z) (hst : z.st = true) : ∃ obj size, (∀ X, B X 0 size (.cells z.cells) obj) ∧ MakeOK P ro Q o obj := by
  have h0 : ∃ y, (∀ w, (zeroValue e).run P w = .ok y w) ∧ ∀ X, V X z y := by
    unfold zero? at hz
    cases hi : P.info? e with
    | none => simp [hi] at hz
    | some i =>
      cases hzr : i.zero with
      | none => simp [hi, hzr] at hz
      | some y =>
        simp [hi, hzr] at hz
        exact ⟨y, fun w => by simp [zeroValue, typeInfo, hi, hzr], fun X => ofV_sound hz⟩
  obtain ⟨y, hy, hv⟩ := h0
  refine ⟨.cells y.cells e, y.cells.toList.length, fun X => ?_, fun a w K hK => ?_⟩
  · have := B.fresh_cells (hv X).cellsL ((hv X).cells_one hst) e
    simpa using this
  · have hnd : ∀ c, o.op ≠ .defer c := fun c hc => by rw [hc] at ho; cases ho
    have hr : (execOp a.eval o).run P w = .ok (.value (.pointer (some ⟨w.heap.size, 0, none⟩))) (w.alloc (.cells y.cells e)) := by
      simp [execOp, ho, Instr.alloc, hy, newVar, newRow]
    refine ⟨fun _ _ => trivial, ?_⟩
    rw [Oper.semAt_eq _ _ _ hnd, hr]
    exact hK

theorem late_sound {cf : CallF} (hcf : ∀ w1, CallOK P w1 cf) (hP : P.follows .mixedOrders = true) (hname : ∀ (g : Nat) (fn : Func), P.funcs[g]? = some fn → (fn.name == "runtime.NumGoroutine") = false) {fz : Nat → Bool} {rs : List Nat} {id : Nat} {ops : Array Oper} {p d : Nat} {te : TypeId}
    (hlt : lateFrom fz 0 ops.toList = some (p, d, te)) (hok : lateGood (effR fz) ops p d = true) {e : AX} {ts ts' : List AV} {s s' : HS} (h : evLate P fz rs cf ops p d te ts s = some (e, ts', s')) {X : Cx} {a : Act} {w : World} (hR : R X s w0 w) (ha : VL X ts a.tmps.toList) :
    (Code.region id ops true).wpIn (WF ro) 0 P (Post X w0 rs e ts' s' a.defers) a w := by
  obtain ⟨_, o, ho, hop, hod, hog⟩ := lateFrom_spec hlt
  have ho : ops[p]? = some o := by simpa using ho
  have hpl := lateGood_spec hok ho hod hog
  have hcut : ∀ n, (cutOps ops n).toList = ops.toList.take n := fun n => rfl
  unfold evLate at h
  split at h <;> try cases h
  rename_i z hz
  split at h <;> try cases h
  rename_i hst
  obtain ⟨obj, size, hB, hmk⟩ := make_ok (ro := ro) (Q := Post X w0 rs e ts' s' a.defers) hop hz hst
  split at h
  · rename_i tn ph hrun
    split at h <;> try cases h
    rename_i sn hlast
    split at h <;> try cases h
    rename_i hstab
    split at h <;> try cases h
    rename_i T ph2 hrun2
    split at h <;> cases h
    rename_i hl2
    rw [← hcut] at hrun
    refine wpIn_region_any hP ?_
    obtain ⟨oq, hoq, hgq, hmq⟩ := hpl.next
    have hrun0 := hrun
    rw [← runR_cut (n := p) _ 0 ts _ hpl.gs] at hrun
    obtain ⟨ph3, hrunL, hl3, hne3⟩ := run_late hpl.at_ hod hog hoq hgq hrun0 hlast hrun2
    refine region_late (fun w1 => step_ok (hcf w1) hname fz _) (step_laws P fz cf) (Nat.ne_of_lt (Nat.lt_succ_self p)) hpl.at_ hod hog hoq hgq hmq (planOk_spec hpl.whole) hB hmk hrunL (stab_late hpl hrun (stab_of (planOk_spec hpl.plan) hrun hstab) hrun2 hrunL) hR.drew ha ?_
    intro Y a' w' s2 hY hl4 hT hR2 hd
    have : s2 = s' := by
      rw [List.getLast?_append, hl3, hl2] at hl4
      cases hl4; rfl
    subst this
    exact ⟨hd, Y, hY, rfl, hT, hR2⟩
  · split at h <;> try cases h
    rename_i n v tn sn s1 hrun
    split at h <;> cases h
    rename_i hc
    obtain ⟨hc, hps⟩ := hc
    simp only [Bool.and_eq_true] at hc
    obtain ⟨hlv, hc⟩ := hc
    have hrs : ∀ t ∈ rs, ∀ o ∈ ops.toList, o.dst ≠ some t := by
      intro t ht o ho hd
      unfold leaves at hlv
      rw [List.all_eq_true] at hlv
      have := hlv o ho
      rw [hd] at this
      simp only [Bool.not_eq_true', List.contains_eq_mem, decide_eq_false_iff_not] at this
      exact this ht
    unfold latePanOk at hc
    split at hc <;> try cases hc
    rename_i on hon
    simp only [Bool.and_eq_true] at hc
    obtain ⟨⟨⟨⟨⟨⟨c0, c1⟩, c2⟩, c3⟩, c4⟩, c5⟩, c6⟩ := hc
    have hnp : n < p := by rw [Nat.blt_eq] at c0; exact c0
    obtain ⟨h1, u, h2, h3, h4, ph, h5, h6⟩ := runP_run (eff := effR fz) (ops.toList.take p) 0 ts _ hrun
    simp only [Nat.sub_zero] at h2 h5
    have hu : u = on := by
      rw [List.getElem?_take, if_pos hnp] at h2
      have : ops[n]? = some u := by simpa using h2
      rw [hon] at this; cases this; rfl
    subst hu
    rw [List.take_take, Nat.min_eq_left (Nat.le_of_lt hnp)] at h5
    unfold PanStab at hps
    rw [h5] at hps
    simp only at hps
    rw [← hcut, ← runR_cut (n := n) (cutOps ops n).toList 0 ts _ c3] at h5
    refine wpIn_region_any hP ?_
    refine region_late_pan (size := size) (fun w1 => step_ok (hcf w1) hname fz _) (fun w1 => pan_ok (hcf w1) hname _) (step_laws P fz cf) (pan_looks cf) hpl.toLatePlan hmk hnp hon (by simpa using c1) c2 c3 c4 c5 c6 h5 h6 h4 (stab_of (planOk_spec c5) h5 hps) hR.drew ha ?_
    rintro Y y a' w' hY hv hR' hd ⟨t1, hT, hag⟩
    refine ⟨hd, Y, hY, ⟨y, rfl, hv⟩, ⟨t1, hT, fun t ht => ?_⟩, hR'⟩
    rw [hag t (fun j o ho => hrs t ht o (by simpa using Array.mem_of_getElem? ho)), runP_slot _ _ _ _ (fun o ho => hrs t ht o (List.mem_of_mem_take ho)) hrun]

theorem region_sound {cf : CallF} (hcf : ∀ w1, CallOK P w1 cf) (hP : P.follows .mixedOrders = true) (hname : ∀ (g : Nat) (fn : Func), P.funcs[g]? = some fn → (fn.name == "runtime.NumGoroutine") = false) {fz : Nat → Nat → Bool} {rs : List Nat} {id : Nat} {ops : Array Oper} {draw : Bool}
    (hok : codeOk fz (.region id ops draw) = true) {e : AX} {ts ts' : List AV} {s s' : HS} (h : evRegion P (fz id) rs cf ops draw ts s = some (e, ts', s')) {X : Cx} {a : Act} {w : World} (hR : R X s w0 w) (ha : VL X ts a.tmps.toList) :
    (Code.region id ops draw).wpIn (WF ro) 0 P (Post X w0 rs e ts' s' a.defers) a w := by
  unfold evRegion at h
  unfold codeOk at hok
  cases hl : lateOf (fz id) ops draw with
  | none =>
    rw [hl] at h hok
    exact region0_sound (hcf w0) hP hname hok h hR ha
  | some t =>
    obtain ⟨p, d, te⟩ := t
    rw [hl] at h hok
    unfold lateOf at hl
    split at hl <;> try cases hl
    exact late_sound hcf hP hname hl hok h hR ha

/-- A loop, from its body on. -/
def LoopWp (P : Program) (ro : Option Nat) (c : Code) (Q : Exit → Act → World → Prop) (a : Act) (w : World) : Prop :=
  ∀ (b : Frame) (k : List Item) (cs : List Frame), b.roundOf = ro → ∃ e a' w', Q e a' w' ∧ ArrivesIn (Machine.fenced P (WF ro)) P (lone (b.atR a (.code c :: .inLoop c :: k)) cs w) b k cs e a' w'

theorem LoopWp.loop {c : Code} {Q : Exit → Act → World → Prop} {a : Act} {w : World} (h : LoopWp P ro c Q a w) : (Code.loop c).wpIn (WF ro) 0 P Q a w :=
  fun b k cs hro hb hr => let ⟨e, a', w', q, r⟩ := h b k cs hro; ⟨e, a', w', q, .of_steps (.one (fenced_calm (n := 0) hb hr rfl) stepR_loop) r⟩

theorem LoopWp.of {c : Code} {Q : Exit → Act → World → Prop} {a : Act} {w : World} (h : c.wpIn (WF ro) 0 P (Exit.then (LoopWp P ro c Q) Q) a w) : LoopWp P ro c Q a w := by
  intro b k cs hro
  have hb := WF.fn ro b.fn
  have hr := WF.room ro (cs.length + 1 + 0)
  obtain ⟨e, a₁, w₁, hq, harr⟩ := h b (.inLoop c :: k) cs hro hb hr
  cases e with
  | normal =>
    obtain ⟨e₂, a₂, w₂, hq₂, harr₂⟩ := hq b k cs hro
    exact ⟨e₂, a₂, w₂, hq₂, .of_steps (StepsIn.trans harr (.one (fenced_calm (n := 0) hb hr rfl) stepR_inLoop)) harr₂⟩
  | exit id => exact ⟨_, a₁, w₁, hq, .pass (x := .inLoop c) rfl (fun _ _ => .inl (by simp)) harr⟩
  | goto l => exact ⟨_, a₁, w₁, hq, .pass (x := .inLoop c) rfl (fun _ _ => .inl (by simp)) harr⟩
  | ret => exact ⟨_, a₁, w₁, hq, .pass (x := .inLoop c) rfl (fun _ _ => .inl (by simp)) harr⟩
  | panic ch => exact ⟨_, a₁, w₁, hq, .pass (x := .inLoop c) rfl (fun _ _ => .inl (by simp)) harr⟩
  | outgrown => exact ⟨_, a₁, w₁, hq, .pass (x := .inLoop c) rfl (fun _ _ => .inl (by simp)) harr⟩

theorem code_sound {Hn : Hints} {f : FuncId} {rs : List Nat} {cf : CallF} {F : Nat} (hcf : ∀ w1, CallOK P w1 cf) (hP : P.follows .mixedOrders = true) (hname : ∀ (g : Nat) (fn : Func), P.funcs[g]? = some fn → (fn.name == "runtime.NumGoroutine") = false) :
    ∀ (c : Code), codeOk (Hn.fz f) c = true → ∀ (ts : List AV) (s : HS) (e : AX) (ts' : List AV) (s' : HS), evCode P Hn f rs cf F c ts s = some (e, ts', s') → ∀ (X : Cx) (a : Act) (w : World), R X s w0 w → VL X ts a.tmps.toList →
      c.wpIn (WF ro) 0 P (Post X w0 rs e ts' s' a.defers) a w := by
  intro c
  induction c with
  | skip =>
    intro _ ts s e ts' s' h X a w hR ha
    simp only [evCode] at h; cases h
    exact wpIn_skip ⟨rfl, X, Cx.Le.refl X, rfl, ha, hR⟩
  | label l =>
    intro _ ts s e ts' s' h X a w hR ha
    simp only [evCode] at h; cases h
    exact wpIn_label ⟨rfl, X, Cx.Le.refl X, rfl, ha, hR⟩
  | region id ops draw =>
    intro hok ts s e ts' s' h X a w hR ha
    simp only [evCode] at h
    exact region_sound hcf hP hname hok h hR ha
  | seq x y ihx ihy =>
    intro hok ts s e ts' s' h X a w hR ha
    simp only [codeOk, Bool.and_eq_true] at hok
    simp only [evCode] at h
    refine wpIn_seq ?_
    split at h
    · rename_i ts1 s1 hx
      refine wpIn_mono (ihx hok.1 ts s _ _ _ hx X a w hR ha) ?_
      rintro e1 a1 w1 ⟨hd, Y, hY, rfl, hT, hR1⟩
      show y.wpIn (WF ro) 0 P _ a1 w1
      have := ihy hok.2 ts1 s1 e ts' s' h Y a1 w1 hR1 hT
      rw [hd] at this
      exact wpIn_mono this (fun _ _ _ hp => hp.mono hY)
    · rename_i hne
      have hex : evCode P Hn f rs cf F x ts s = some (e, ts', s') := h
      refine wpIn_mono (ihx hok.1 ts s _ _ _ hex X a w hR ha) ?_
      rintro e1 a1 w1 ⟨hd, Y, hY, he, hT, hR1⟩
      cases e with
      | normal => exact absurd hex (hne ts' s')
      | exit id => cases he; exact ⟨hd, Y, hY, rfl, hT, hR1⟩
      | ret => cases he; exact ⟨hd, Y, hY, rfl, hT, hR1⟩
      | panic v => obtain ⟨y, rfl, hv⟩ := he; exact ⟨hd, Y, hY, ⟨y, rfl, hv⟩, hT, hR1⟩
  | cond c x y ihx ihy =>
    intro hok ts s e ts' s' h X a w hR ha
    simp only [codeOk, Bool.and_eq_true] at hok
    simp only [evCode] at h
    split at h <;> try cases h
    rename_i t hc
    have hcv := rho_sound ha hc
    have hce : a.eval c = .bool t := by generalize a.eval c = cv at hcv ⊢; cases hcv; rfl
    refine wpIn_cond hce ?_
    cases t with
    | true => exact ihx hok.1 ts s e ts' s' (by simpa using h) X a w hR ha
    | false => exact ihy hok.2 ts s e ts' s' (by simpa using h) X a w hR ha
  | block id x ih =>
    intro hok ts s e ts' s' h X a w hR ha
    simp only [codeOk] at hok
    simp only [evCode] at h
    refine wpIn_block ?_
    split at h
    · rename_i id' ts1 s1 hx
      refine wpIn_mono (ih hok ts s _ _ _ hx X a w hR ha) ?_
      rintro e1 a1 w1 ⟨hd, Y, hY, rfl, hT, hR1⟩
      split at h
      · rename_i hid
        cases h
        simp only [AX.toExit, Exit.inBlock, hid, if_true]
        exact ⟨hd, Y, hY, rfl, hT, hR1⟩
      · rename_i hid
        cases h
        simp only [AX.toExit, Exit.inBlock, hid, if_false]
        exact ⟨hd, Y, hY, rfl, hT, hR1⟩
    · rename_i hne
      have hex : evCode P Hn f rs cf F x ts s = some (e, ts', s') := h
      refine wpIn_mono (ih hok ts s _ _ _ hex X a w hR ha) ?_
      rintro e1 a1 w1 ⟨hd, Y, hY, he, hT, hR1⟩
      cases e with
      | normal => cases he; exact ⟨hd, Y, hY, rfl, hT, hR1⟩
      | exit id' => exact absurd hex (hne id' ts' s')
      | ret => cases he; exact ⟨hd, Y, hY, rfl, hT, hR1⟩
      | panic v => obtain ⟨y, rfl, hv⟩ := he; exact ⟨hd, Y, hY, ⟨y, rfl, hv⟩, hT, hR1⟩
  | loop x ih =>
    intro hok ts s e ts' s' h X a w hR ha
    simp only [codeOk] at hok
    simp only [evCode] at h
    refine LoopWp.loop ?_
    have key : ∀ n ts s X a w, R X s w0 w → VL X ts a.tmps.toList → evLoop (evCode P Hn f rs cf F x) n ts s = some (e, ts', s') → LoopWp P ro x (Post X w0 rs e ts' s' a.defers) a w := by
      intro n
      induction n with
      | zero => intro ts s X a w _ _ h; simp [evLoop] at h
      | succ n ihn =>
        intro ts s X a w hR ha h
        unfold evLoop at h
        refine LoopWp.of ?_
        split at h
        · rename_i ts1 s1 hx
          refine wpIn_mono (ih hok ts s _ _ _ hx X a w hR ha) ?_
          rintro e1 a1 w1 ⟨hd, Y, hY, rfl, hT, hR1⟩
          show LoopWp P ro x _ a1 w1
          have := ihn ts1 s1 Y a1 w1 hR1 hT h
          rw [hd] at this
          intro b k cs hro
          obtain ⟨e2, a2, w2, hq, harr⟩ := this b k cs hro
          exact ⟨e2, a2, w2, hq.mono hY, harr⟩
        · rename_i hne
          have hex : evCode P Hn f rs cf F x ts s = some (e, ts', s') := h
          refine wpIn_mono (ih hok ts s _ _ _ hex X a w hR ha) ?_
          rintro e1 a1 w1 ⟨hd, Y, hY, he, hT, hR1⟩
          cases e with
          | normal => exact absurd hex (hne ts' s')
          | exit id => cases he; exact ⟨hd, Y, hY, rfl, hT, hR1⟩
          | ret => cases he; exact ⟨hd, Y, hY, rfl, hT, hR1⟩
          | panic v => obtain ⟨y, rfl, hv⟩ := he; exact ⟨hd, Y, hY, ⟨y, rfl, hv⟩, hT, hR1⟩
    exact key F ts s X a w hR ha h
  | exit id =>
    intro _ ts s e ts' s' h X a w hR ha
    simp only [evCode] at h; cases h
    exact wpIn_exit ⟨rfl, X, Cx.Le.refl X, rfl, ha, hR⟩
  | ret =>
    intro _ ts s e ts' s' h X a w hR ha
    simp only [evCode] at h; cases h
    exact wpIn_ret ⟨rfl, X, Cx.Le.refl X, rfl, ha, hR⟩
  | rangeFunc => intro _ ts s e ts' s' h; simp [evCode] at h
  | scope => intro _ ts s e ts' s' h; simp [evCode] at h
  | goto => intro _ ts s e ts' s' h; simp [evCode] at h
  | refuse => intro _ ts s e ts' s' h; simp [evCode] at h

def resM (tmps : Array Value) : ResultVar → Sem Value
  | .tmp t => pure (tmps.getD t undef)
  | .cell a t => do loadVar t (← asAddr (tmps.getD a undef))

theorem results_eq (fn : Func) (tmps : Array Value) : results fn tmps = (do let vs ← fn.results.mapM (resM tmps); pure (if h : vs.size = 1 then vs[0] else .tuple vs)) := by
  unfold results
  congr 1

theorem result_sound {X : Cx} {s : HS} {w : World} (hR : R X s w0 w) {ts : List AV} {tmps : Array Value} (ha : VL X ts tmps.toList) {r : ResultVar} {v : AV} (h : evResult P s ts r = some v) :
    ∃ y, (resM tmps r).run P w = .ok y w ∧ V X v y := by
  cases r with
  | tmp t =>
    simp only [evResult] at h
    cases h
    exact ⟨_, rfl, getD_V ha t⟩
  | cell p t =>
    simp only [evResult] at h
    obtain ⟨y, hy, hv, _⟩ := evLoad_sound (P := P) hR (getD_V ha p) h
    refine ⟨y, ?_, hv⟩
    have hpv := getD_V ha p
    simp only [resM]
    generalize tmps.getD p undef = pv at hy hpv ⊢
    cases pv <;> simp [Instr.loadAt, Instr.sureAddr] at hy
    rename_i ad
    cases ad with
    | none => simp at hy
    | some ad => simpa [asAddr] using hy

theorem results_list {X : Cx} {s : HS} {w : World} (hR : R X s w0 w) {ts : List AV} {tmps : Array Value} (ha : VL X ts tmps.toList) : ∀ {rs : List ResultVar} {vs : List AV}, mapO (evResult P s ts) rs = some vs →
    ∃ ys, (rs.mapM (resM tmps)).run P w = .ok ys w ∧ VL X vs ys
  | [], vs, h => by simp [mapO] at h; subst h; exact ⟨[], by simp, .nil X⟩
  | r :: rs, vs, h => by
    unfold mapO at h
    split at h <;> try cases h
    rename_i v hv
    split at h <;> cases h
    rename_i us hus
    obtain ⟨y, hy, hvy⟩ := result_sound hR ha hv
    obtain ⟨ys, hys, hvys⟩ := results_list hR ha hus
    refine ⟨y :: ys, ?_, .cons hvy hvys⟩
    rw [List.mapM_cons, Sem.run_bind, hy, Result.andThen_ok, Sem.run_bind, hys]
    rfl

theorem results_sound {X : Cx} {s : HS} {w : World} (hR : R X s w0 w) {ts : List AV} {tmps : Array Value} (ha : VL X ts tmps.toList) {fn : Func} {v : AV} (h : evResults P fn s ts = some v) : ∃ y, (results fn tmps).run P w = .ok y w ∧ V X v y := by
  unfold evResults at h
  split at h
  · rename_i r hr
    obtain ⟨y, hy, hv⟩ := result_sound (P := P) hR ha h
    refine ⟨y, ?_, hv⟩
    have h1 : (List.mapM (resM tmps) [r]).run P w = .ok [y] w := by
      rw [List.mapM_cons, Sem.run_bind, hy]
      rfl
    rw [results_eq, Sem.run_bind, Array.mapM_eq_mapM_toList, hr, Sem.run_map, h1]
    rfl
  · rename_i rs hne
    rw [Option.map_eq_some_iff] at h
    obtain ⟨vs, hvs, rfl⟩ := h
    obtain ⟨ys, hys, hvys⟩ := results_list (P := P) hR ha hvs
    refine ⟨.tuple ys.toArray, ?_, V.tupL hvys⟩
    rw [results_eq, Sem.run_bind, Array.mapM_eq_mapM_toList, Sem.run_map, hys]
    have hlen : ys.length ≠ 1 := by
      intro h1
      have h2 := (mapO_get hvs).1
      rw [hvys.len, h1] at h2
      match hfr : fn.results.toList, h2 with
      | [r], _ => exact hne r hfr
    simp only [Result.andThen_ok, List.size_toArray]
    rw [dif_neg hlen]
    rfl

theorem return_sound {Hn : Hints} {X : Cx} {s : HS} {w : World} (hR : R X s w0 w) {f : FuncId} {args : List AV} {n0 : Nat} {v r : AV} {y : Value} (hv : V X v y) {s' : HS} (h : evReturn Hn f args n0 v s = some (r, s')) : ∃ Y, X.Le Y ∧ V Y r y ∧ R Y s' w0 w := by
  unfold evReturn at h
  split at h
  · split at h <;> cases h
    rename_i v' hsn
    exact ⟨_, hR.le_iceAll _, snapV_sound hR _ _ _ _ _ hv hsn, hR.sweptD _ _⟩
  · cases h
    exact ⟨_, hR.le_iceAll (Hn.keep f args s n0), hv.mono (hR.le_iceAll _), hR.sweptD _ _⟩

end
end Go.Ev
