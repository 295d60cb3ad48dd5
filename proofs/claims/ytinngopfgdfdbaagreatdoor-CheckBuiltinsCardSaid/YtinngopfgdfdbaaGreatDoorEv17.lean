/- The evaluator without a bound on its rounds. -/
import Derived.Test.YtinngopfgdfdbaaGreatDoorEv16C
set_option linter.unusedVariables false
set_option linter.unusedSimpArgs false
namespace Go.Ev

def CLe (c c' : CallF) : Prop := ∀ g a s r, c g a s = some r → c' g a s = some r

theorem noPan_of {r : Option (AV × HS)} {p : AV × HS} (h : r = some p) (hp : p.1.isPan = false) : noPan r = some p := by
  subst h
  obtain ⟨v, s'⟩ := p
  cases v <;> first | rfl | cases hp
theorem panOf_of {r : Option (AV × HS)} {v : AV} {s' : HS} (h : r = some (.pan v, s')) : panOf r = some (v, s') := by subst h; rfl
theorem panOf_none {r : Option (AV × HS)} {p : AV × HS} (h : r = some p) (hp : p.1.isPan = false) : panOf r = none := by
  subst h
  obtain ⟨v, s'⟩ := p
  cases v <;> first | rfl | cases hp
theorem noPan_none {r : Option (AV × HS)} {v : AV} {s' : HS} (h : r = some (.pan v, s')) : noPan r = none := by subst h; rfl

theorem evStep_mono {P : Program} {fz : Nat → Bool} {cf cf' : CallF} (h : CLe cf cf') {i : Nat} {o : Oper} {ts : List AV} {s : HS} {r : AV × HS} (e : evStep P fz cf i o ts s = some r) : evStep P fz cf' i o ts s = some r := by
  obtain ⟨dst, op, type, pos, after, guard⟩ := o
  cases op with
  | call c =>
    obtain ⟨callee, args, tys⟩ := c
    cases callee with
    | value f =>
      simp only [evStep] at e ⊢
      split at e <;> try cases e
      · split at e <;> try cases e
        obtain ⟨h1, h2⟩ := noPan_some e
        exact noPan_of (h _ _ _ _ h1) h2
      · split at e <;> try cases e
        obtain ⟨h1, h2⟩ := noPan_some e
        exact noPan_of (h _ _ _ _ h1) h2
    | invoke r m => exact e
    | builtin b => exact e
  | _ => exact e

theorem evPan_mono {cf cf' : CallF} (h : CLe cf cf') {i : Nat} {o : Oper} {ts : List AV} {s : HS} {r : AV × HS} (e : evPan cf i o ts s = some r) : evPan cf' i o ts s = some r := by
  obtain ⟨dst, op, type, pos, after, guard⟩ := o
  cases op with
  | call c =>
    obtain ⟨callee, args, tys⟩ := c
    cases callee with
    | value f =>
      simp only [evPan] at e ⊢
      split at e <;> try cases e
      split at e <;> try cases e
      exact panOf_of (h _ _ _ _ (panOf_some e))
    | invoke r m => exact e
    | builtin b => exact e
  | _ => exact e

/-- What comes to a value doesn't panic. -/
theorem pan_none {P : Program} {fz : Nat → Bool} {cf cf' : CallF} (h : CLe cf cf') {i : Nat} {o : Oper} {ts : List AV} {s : HS} {r : AV × HS} (e : evStep P fz cf i o ts s = some r) : evPan cf' i o ts s = none := by
  obtain ⟨dst, op, type, pos, after, guard⟩ := o
  cases op with
  | call c =>
    obtain ⟨callee, args, tys⟩ := c
    cases callee with
    | value f =>
      simp only [evStep] at e
      simp only [evPan]
      split at e <;> try cases e
      · rename_i hf
        split at e <;> try cases e
        rename_i hvs
        obtain ⟨h1, h2⟩ := noPan_some e
        simp only [hf]
        exact panOf_none (h _ _ _ _ h1) h2
      · rename_i hf
        simp only [hf]
    | invoke r m => rfl
    | builtin b => rfl
  | panic x => simp [evStep, evOp] at e
  | _ => rfl

theorem step_none {P : Program} {fz : Nat → Bool} {cf : CallF} {i : Nat} {o : Oper} {ts : List AV} {s : HS} {r : AV × HS} (e : evPan cf i o ts s = some r) : evStep P fz cf i o ts s = none := by
  cases hs : evStep P fz cf i o ts s with
  | none => rfl
  | some p =>
    have := pan_none (cf' := cf) (fun _ _ _ _ h => h) hs
    rw [this] at e; cases e

theorem evStep_cf {P : Program} {fz : Nat → Bool} {cf cf' : CallF} {i : Nat} {o : Oper} (he : effR fz i o = false) (ts : List AV) (s : HS) : evStep P fz cf i o ts s = evStep P fz cf' i o ts s := by
  obtain ⟨dst, op, type, pos, after, guard⟩ := o
  cases op with
  | call c =>
    obtain ⟨callee, args, tys⟩ := c
    cases callee with
    | value f => simp [effR, effOp] at he
    | invoke r m => rfl
    | builtin b => rfl
  | _ => rfl

theorem runR_mono {P : Program} {fz : Nat → Bool} {cf cf' : CallF} (h : CLe cf cf') {ops : Array Oper} : ∀ {os : List Oper} {i : Nat} {ts : List AV} {s : HS} {r : List AV × List HS}, runR (evStep P fz cf) (effR fz) ops i os ts s = some r → runR (evStep P fz cf') (effR fz) ops i os ts s = some r
  | [], i, ts, s, r, e => e
  | o :: os, i, ts, s, r, e => by
    unfold runR at e ⊢
    split at e
    · rename_i hw
      rw [if_pos hw]
      split at e <;> try cases e
      rename_i v s' hs
      rw [evStep_mono h hs]
      simp only
      split at e <;> try cases e
      rename_i T ph hr
      rw [runR_mono h hr]
    · rename_i hw
      rw [if_neg hw]
      split at e <;> try cases e
      rename_i T ph hr
      rw [runR_mono h hr]

theorem runP_mono {P : Program} {fz : Nat → Bool} {cf cf' : CallF} (h : CLe cf cf') {ops : Array Oper} : ∀ {os : List Oper} {i : Nat} {ts : List AV} {s : HS} {r : Nat × AV × List AV × HS × HS}, runP (evStep P fz cf) (evPan cf) ops i os ts s = some r → runP (evStep P fz cf') (evPan cf') ops i os ts s = some r
  | [], i, ts, s, r, e => e
  | o :: os, i, ts, s, r, e => by
    unfold runP at e ⊢
    split at e
    · rename_i hw
      rw [if_pos hw]
      split at e
      · rename_i v s' hp
        rw [evPan_mono h hp]
        exact e
      · split at e <;> try cases e
        rename_i v s' hs
        rw [pan_none h hs, evStep_mono h hs]
        exact runP_mono h e
    · rename_i hw
      rw [if_neg hw]
      exact runP_mono h e

/-- What panics comes to no end. -/
theorem runR_none {P : Program} {fz : Nat → Bool} {cf : CallF} {ops : Array Oper} : ∀ {os : List Oper} {i : Nat} {ts : List AV} {s : HS} {r : Nat × AV × List AV × HS × HS}, runP (evStep P fz cf) (evPan cf) ops i os ts s = some r → runR (evStep P fz cf) (effR fz) ops i os ts s = none
  | [], i, ts, s, r, e => by simp [runP] at e
  | o :: os, i, ts, s, r, e => by
    unfold runP at e
    unfold runR
    split at e
    · rename_i hw
      rw [if_pos hw]
      split at e
      · rename_i v s' hp
        rw [step_none hp]
      · split at e <;> try cases e
        rename_i v s' hs
        simp only [runR_none e]
    · rename_i hw
      rw [if_neg hw]
      simp only [runR_none e]

theorem checks_eff {fz : Nat → Bool} {ops : Array Oper} {i q : Nat} {o : Oper} (h : (i, q) ∈ checks fz ops) (ho : ops[i]? = some o) : effR fz i o = false := by
  unfold checks at h
  rw [List.mem_flatMap] at h
  obtain ⟨j, _, hj⟩ := h
  cases hoj : ops[j]? with
  | none => rw [hoj] at hj; simp at hj
  | some u =>
    rw [hoj] at hj
    simp only at hj
    split at hj
    · cases hj
    · rename_i hc
      rw [List.mem_map] at hj
      obtain ⟨q', _, hq⟩ := hj
      simp only [Prod.mk.injEq] at hq
      obtain ⟨rfl, rfl⟩ := hq
      rw [ho] at hoj; cases hoj
      cases he : effR fz j o
      · rfl
      · simp [he] at hc

theorem stabL_cf {P : Program} {fz : Nat → Bool} {cf cf' : CallF} {ops : Array Oper} {T : List AV} {ph : List HS} : ∀ {cs : List (Nat × Nat)}, (∀ i q o, (i, q) ∈ cs → ops[i]? = some o → effR fz i o = false) → StabL P fz cf ops T ph cs → StabL P fz cf' ops T ph cs
  | [], _, _ => trivial
  | (i, q) :: cs, hc, h => by
    obtain ⟨h1, h2⟩ := h
    refine ⟨?_, stabL_cf (fun i q o hm ho => hc i q o (.tail _ hm) ho) h2⟩
    cases ho : ops[i]? with
    | none => rw [ho] at h1; exact h1
    | some o =>
      rw [ho] at h1
      have he := hc i q o (.head _) ho
      intro hw
      have h3 := h1 hw
      cases hp : ph[q]? with
      | none => rw [hp] at h3; exact h3
      | some sq =>
        rw [hp] at h3
        simp only at h3 ⊢
        rw [evStep_cf (cf' := cf) he]
        exact h3

theorem panStab_mono {P : Program} {fz : Nat → Bool} {cf cf' : CallF} (h : CLe cf cf') {ops : Array Oper} {n : Nat} {ts tn : List AV} {s : HS} (e : PanStab P fz cf ops n ts s tn) : PanStab P fz cf' ops n ts s tn := by
  unfold PanStab at e ⊢
  split at e
  · rename_i T ph hr
    rw [runR_mono h hr]
    exact stabL_cf (fun i q o hm ho => checks_eff hm ho) e
  · exact e.elim

theorem runR_congrO {step step' : Nat → Oper → List AV → HS → Option (AV × HS)} {eff : Nat → Oper → Bool} {ops : Array Oper} : ∀ (os : List Oper) (i : Nat) (ts : List AV) (s : HS), (∀ (j : Nat) o, os[j]? = some o → ∀ ts s, step (i + j) o ts s = step' (i + j) o ts s) → runR step eff ops i os ts s = runR step' eff ops i os ts s
  | [], i, ts, s, h => rfl
  | o :: os, i, ts, s, h => by
    have h1 := h 0 o rfl
    simp only [Nat.add_zero] at h1
    have hr : ∀ (j : Nat) u, os[j]? = some u → ∀ ts s, step (i + 1 + j) u ts s = step' (i + 1 + j) u ts s := by
      intro j u hu ts s
      have := h (j + 1) u (by simpa using hu) ts s
      rwa [show i + (j + 1) = i + 1 + j by omega] at this
    have ih : ∀ ts s, runR step eff ops (i + 1) os ts s = runR step' eff ops (i + 1) os ts s := fun ts s => runR_congrO os (i + 1) ts s hr
    unfold runR
    simp only [h1, ih]

/-- Those that don't wait call nothing. -/
theorem runX_cf {P : Program} {fz : Nat → Bool} {cf cf' : CallF} {ops : Array Oper} {n : Nat} (hx : PanX fz ops n) (ts : List AV) (s : HS) : runR (stepX (evStep P fz cf) ops n) (effX (effR fz) ops n) ops n (ops.toList.drop n) ts s = runR (stepX (evStep P fz cf') ops n) (effX (effR fz) ops n) ops n (ops.toList.drop n) ts s := by
  refine runR_congrO _ _ _ _ (fun j o ho ts s => ?_)
  rw [List.getElem?_drop] at ho
  have ho : ops[n + j]? = some o := by simpa using ho
  simp only [stepX]
  split
  · rfl
  · rename_i hw
    exact evStep_cf (hx.still (Nat.le_add_right n j) ho (by simpa using hw)) ts s

theorem checksX_eff {fz : Nat → Bool} {ops : Array Oper} {n i q : Nat} {o : Oper} (h : (i, q) ∈ checksX fz ops n) (ho : ops[i]? = some o) : effR fz i o = false := by
  unfold checksX at h
  rw [List.mem_flatMap] at h
  obtain ⟨j, _, hj⟩ := h
  cases hoj : ops[j]? with
  | none => rw [hoj] at hj; simp at hj
  | some u =>
    rw [hoj] at hj
    simp only at hj
    split at hj
    · cases hj
    · rename_i hc
      rw [List.mem_map] at hj
      obtain ⟨q', _, hq⟩ := hj
      simp only [Prod.mk.injEq] at hq
      obtain ⟨rfl, rfl⟩ := hq
      rw [ho] at hoj; cases hoj
      cases he : effR fz j o
      · rfl
      · simp [he] at hc

theorem panStabX_mono {P : Program} {fz : Nat → Bool} {cf cf' : CallF} (h : CLe cf cf') {ops : Array Oper} {n : Nat} (hx : PanX fz ops n) {ts tn : List AV} {s sn : HS} (e : PanStabX P fz cf ops n ts s tn sn) : PanStabX P fz cf' ops n ts s tn sn := by
  obtain ⟨T, ph, e1, e2, e3⟩ := e
  exact ⟨T, ph, runR_mono h e1, by rw [← runX_cf (cf := cf) hx]; exact e2, stabL_cf (fun i q o hm ho => checksX_eff hm ho) e3⟩

theorem panIf_mono {P : Program} {fz : Nat → Bool} {rs : List Nat} {cf cf' : CallF} (h : CLe cf cf') {ops : Array Oper} {draw : Bool} {n : Nat} {ts tn : List AV} {s sn : HS} (e : PanIf P fz rs cf ops draw n ts s tn sn) : PanIf P fz rs cf' ops draw n ts s tn sn := by
  obtain ⟨e0, e1 | ⟨e1, e2⟩ | ⟨e1, e2⟩⟩ := e
  · exact ⟨e0, .inl e1⟩
  · exact ⟨e0, .inr (.inl ⟨e1, panStab_mono h e2⟩)⟩
  · exact ⟨e0, .inr (.inr ⟨e1, panStabX_mono h (panXOk_spec e1) e2⟩)⟩

theorem evRegion0_mono {P : Program} {fz : Nat → Bool} {rs : List Nat} {cf cf' : CallF} (h : CLe cf cf') {ops : Array Oper} {draw : Bool} {ts : List AV} {s : HS} {r : AX × List AV × HS} (e : evRegion0 P fz rs cf ops draw ts s = some r) : evRegion0 P fz rs cf' ops draw ts s = some r := by
  unfold evRegion0 at e ⊢
  split at e
  · rename_i T ph hr
    rw [runR_mono h hr]
    simp only
    split at e <;> try cases e
    rename_i s' hl
    split at e
    · rename_i hd
      rw [if_pos hd]
      split at e <;> cases e
      rename_i hs
      rw [if_pos (stabL_cf (fun i q o hm ho => checks_eff hm ho) hs)]
    · rename_i hd
      cases e
      rw [if_neg hd]
  · split at e <;> try cases e
    rename_i n v tn sn s' hp
    have hp' := runP_mono h hp
    rw [runR_none hp', hp']
    split at e <;> cases e
    rename_i hc
    simp only
    rw [if_pos]
    exact panIf_mono h hc

theorem evLate_mono {P : Program} {fz : Nat → Bool} {rs : List Nat} {cf cf' : CallF} (h : CLe cf cf') {ops : Array Oper} {p d : Nat} {te : TypeId} {ts : List AV} {s : HS} {r : AX × List AV × HS} (e : evLate P fz rs cf ops p d te ts s = some r) : evLate P fz rs cf' ops p d te ts s = some r := by
  unfold evLate at e ⊢
  split at e <;> try cases e
  rename_i z hz
  split at e <;> try cases e
  rename_i hst
  simp only [hst, if_true]
  split at e
  · rename_i tn ph hr
    rw [runR_mono h hr]
    simp only
    split at e <;> try cases e
    rename_i sn hl
    split at e <;> try cases e
    rename_i hs
    rw [if_pos (stabL_cf (fun i q o hm ho => checks_eff hm ho) hs)]
    split at e <;> try cases e
    rename_i T ph2 hr2
    rw [runR_mono h hr2]
    exact e
  · split at e <;> try cases e
    rename_i n v tn sn s' hp
    have hp' := runP_mono h hp
    rw [runR_none hp', hp']
    split at e <;> cases e
    rename_i hc
    simp only
    rw [if_pos]
    exact ⟨hc.1, panStab_mono h hc.2⟩

theorem evRegion_mono {P : Program} {fz : Nat → Bool} {rs : List Nat} {cf cf' : CallF} (h : CLe cf cf') {ops : Array Oper} {draw : Bool} {ts : List AV} {s : HS} {r : AX × List AV × HS} (e : evRegion P fz rs cf ops draw ts s = some r) : evRegion P fz rs cf' ops draw ts s = some r := by
  unfold evRegion at e ⊢
  split at e
  · exact evLate_mono h e
  · exact evRegion0_mono h e

theorem evLoop_mono {b b' : List AV → HS → Option (AX × List AV × HS)} (hb : ∀ ts s r, b ts s = some r → b' ts s = some r) : ∀ {n n' : Nat} {ts : List AV} {s : HS} {r : AX × List AV × HS}, n ≤ n' → evLoop b n ts s = some r → evLoop b' n' ts s = some r
  | 0, n', ts, s, r, _, e => by simp [evLoop] at e
  | n + 1, 0, ts, s, r, hn, e => by omega
  | n + 1, n' + 1, ts, s, r, hn, e => by
    unfold evLoop at e ⊢
    split at e
    · rename_i ts' s' hx
      rw [hb _ _ _ hx]
      exact evLoop_mono hb (by omega) e
    · rename_i hne
      have hex : b ts s = some r := e
      rw [hb _ _ _ hex]
      obtain ⟨x, ts', s'⟩ := r
      cases x with
      | normal => exact absurd hex (hne ts' s')
      | _ => rfl

theorem evCode_mono {P : Program} {Hn : Hints} {f : FuncId} {rs : List Nat} {cf cf' : CallF} (h : CLe cf cf') {F F' : Nat} (hF : F ≤ F') : ∀ (c : Code) (ts : List AV) (s : HS) (r : AX × List AV × HS), evCode P Hn f rs cf F c ts s = some r → evCode P Hn f rs cf' F' c ts s = some r := by
  intro c
  induction c with
  | region id ops draw =>
    intro ts s r e
    simp only [evCode] at e ⊢
    exact evRegion_mono h e
  | seq x y ihx ihy =>
    intro ts s r e
    simp only [evCode] at e ⊢
    split at e
    · rename_i ts' s' hx
      rw [ihx _ _ _ hx]
      exact ihy _ _ _ e
    · rename_i hne
      have hex : evCode P Hn f rs cf F x ts s = some r := e
      rw [ihx _ _ _ hex]
      obtain ⟨q, ts', s'⟩ := r
      cases q with
      | normal => exact absurd hex (hne ts' s')
      | _ => rfl
  | cond c x y ihx ihy =>
    intro ts s r e
    simp only [evCode] at e ⊢
    split at e <;> try cases e
    rename_i t hc
    cases t with
    | true => exact ihx _ _ _ (by simpa using e)
    | false => exact ihy _ _ _ (by simpa using e)
  | block id x ih =>
    intro ts s r e
    simp only [evCode] at e ⊢
    split at e
    · rename_i id' ts' s' hx
      rw [ih _ _ _ hx]
      exact e
    · rename_i hne
      have hex : evCode P Hn f rs cf F x ts s = some r := e
      rw [ih _ _ _ hex]
      obtain ⟨q, ts', s'⟩ := r
      cases q with
      | exit id' => exact absurd hex (hne id' ts' s')
      | _ => rfl
  | loop x ih =>
    intro ts s r e
    simp only [evCode] at e ⊢
    exact evLoop_mono ih hF e
  | _ => intro ts s r e; exact e

/-! ### deferred calls and loops over functions, with more rounds -/
section
variable {P : Program} {Hn : Hints} {cf cf' : CallF} {F F' : Nat}

theorem evD_mono (h : CLe cf cf') (hF : F ≤ F') {f : FuncId} : ∀ (c : Code) (ts : List AV) (s : HS) (u : DM) (r : AX × List AV × HS × DM), evD P Hn f cf F c ts s u = some r → evD P Hn f cf' F' c ts s u = some r := by
  have plain : ∀ (c : Code) (ts : List AV) (s : HS) (u : DM) (r : AX × List AV × HS × DM), (match evCode P Hn f [] cf F c ts s with | some (e, ts', s') => some (e, ts', s', u) | none => none) = some r → (match evCode P Hn f [] cf' F' c ts s with | some (e, ts', s') => some (e, ts', s', u) | none => none) = some r := by
    intro c ts s u r e
    split at e <;> try cases e
    rename_i hc
    rw [evCode_mono h hF c _ _ _ hc]
  intro c
  induction c with
  | seq x y ihx ihy =>
    intro ts s u r e
    simp only [evD] at e ⊢
    split at e
    · rename_i ts' s' u' hx
      rw [ihx _ _ _ _ hx]
      exact ihy _ _ _ _ e
    · rename_i hne
      have hex : evD P Hn f cf F x ts s u = some r := e
      rw [ihx _ _ _ _ hex]
      obtain ⟨q, ts', s', u'⟩ := r
      cases q with
      | normal => exact absurd hex (hne ts' s' u')
      | _ => rfl
  | cond c x y ihx ihy =>
    intro ts s u r e
    simp only [evD] at e ⊢
    split at e <;> try cases e
    rename_i t hc
    cases t with
    | true => exact ihx _ _ _ _ (by simpa using e)
    | false => exact ihy _ _ _ _ (by simpa using e)
  | region id ops draw =>
    intro ts s u r e
    simp only [evD] at e ⊢
    split at e
    · rename_i hr
      rw [if_pos hr]
      exact e
    · rename_i hr
      rw [if_neg hr]
      split at e <;> try cases e
      rename_i hc
      rw [evCode_mono h hF _ _ _ _ hc]
  | _ =>
    intro ts s u r e
    simp only [evD] at e ⊢
    split at e <;> try cases e
    rename_i hc
    rw [evCode_mono h hF _ _ _ _ hc]

theorem evDef_mono (h : CLe cf cf') (hF : F ≤ F') {g : FuncId} {args : List AV} {s : HS} {u : DM} {r : HS × DM} (e : evDef P Hn cf F g args s u = some r) : evDef P Hn cf' F' g args s u = some r := by
  unfold evDef at e ⊢
  split at e <;> try cases e
  rename_i fn hfn
  split at e <;> try cases e
  rename_i c hc
  split at e
  · rename_i ts s1 u1 hev
    rw [evD_mono h hF c _ _ _ _ hev]
    exact e
  · rename_i ts s1 u1 hev
    rw [evD_mono h hF c _ _ _ _ hev]
    exact e
  · cases e

theorem evRange_mono (h : CLe cf cf') {f : FuncId} {g : Operand} {ps : Array Tmp} {asg body : Code} {ts : List AV} {s : HS} {r : AX × List AV × HS × DSt} (e : evRange P f cf g ps asg body ts s = some r) : evRange P f cf' g ps asg body ts s = some r := by
  unfold evRange at e ⊢
  split at e <;> try cases e
  split at e <;> try cases e
  rename_i hc
  rw [h _ _ _ _ hc]
  exact e

theorem evRound_mono (h : CLe cf cf') (hF : F ≤ F') {id : Nat} {vs : List AV} {s : HS} {r : AV × HS} (e : evRound P Hn cf F id vs s = some r) : evRound P Hn cf' F' id vs s = some r := by
  unfold evRound at e ⊢
  split at e <;> try cases e
  rename_i L hL
  split at e <;> try cases e
  rename_i hc
  rw [if_pos hc]
  split at e <;> try cases e
  rename_i ts1 s1 h1
  rw [evCode_mono h hF _ _ _ _ h1]
  simp only
  split at e <;> try cases e
  rename_i L1 hL1
  split at e <;> try cases e
  rename_i hst
  rw [if_pos hst]
  split at e <;> try cases e
  rename_i h2
  rw [evCode_mono h hF _ _ _ _ h2]
  exact e

theorem evE_mono (h : CLe cf cf') (hF : F ≤ F') {f : FuncId} {rs : List Nat} : ∀ (c : Code) (ts : List AV) (s : HS) (d : DSt) (r : AX × List AV × HS × DSt), evE P Hn f rs cf F c ts s d = some r → evE P Hn f rs cf' F' c ts s d = some r := by
  have plain : ∀ (c : Code) (ts : List AV) (s : HS) (d : DSt) (r : AX × List AV × HS × DSt), (match evCode P Hn f rs cf F c ts s with | some (e, ts', s') => some (e, ts', s', d) | none => none) = some r → (match evCode P Hn f rs cf' F' c ts s with | some (e, ts', s') => some (e, ts', s', d) | none => none) = some r := by
    intro c ts s d r e
    split at e <;> try cases e
    rename_i hc
    rw [evCode_mono h hF c _ _ _ hc]
  intro c
  induction c with
  | seq x y ihx ihy =>
    intro ts s d r e
    simp only [evE] at e ⊢
    split at e
    · rename_i ts' s' d' hx
      rw [ihx _ _ _ _ hx]
      exact ihy _ _ _ _ e
    · rename_i hne
      have hex : evE P Hn f rs cf F x ts s d = some r := e
      rw [ihx _ _ _ _ hex]
      obtain ⟨q, ts', s', d'⟩ := r
      cases q with
      | normal => exact absurd hex (hne ts' s' d')
      | _ => rfl
  | region id ops draw =>
    intro ts s d r e
    simp only [evE] at e ⊢
    split at e
    · split at e <;> try cases e
      split at e <;> try cases e
      rename_i hr
      rw [runR_mono h hr]
      exact e
    · split at e <;> try cases e
      rename_i hc
      rw [evCode_mono h hF _ _ _ _ hc]
  | rangeFunc g ps asg body iha ihb =>
    intro ts s d r e
    simp only [evE] at e ⊢
    split at e
    · exact evRange_mono h e
    · cases e
  | block id x ih =>
    intro ts s d r e
    simp only [evE] at e ⊢
    split at e
    · rename_i hx
      rw [ih _ _ _ _ hx]
      exact e
    · rename_i hne
      have hex : evE P Hn f rs cf F x ts s d = some r := e
      rw [ih _ _ _ _ hex]
      obtain ⟨q, ts', s', d'⟩ := r
      cases q with
      | exit id' => exact absurd hex (hne id' ts' s' d')
      | _ => rfl
  | _ =>
    intro ts s d r e
    simp only [evE] at e ⊢
    split at e <;> try cases e
    rename_i hc
    rw [evCode_mono h hF _ _ _ _ hc]

theorem evDefer_mono (h : CLe cf cf') (hF : F ≤ F') {f : FuncId} {fn : Func} {c : Code} {args : List AV} {s : HS} {r : AV × HS} (e : evDefer P Hn f cf F fn c args s = some r) : evDefer P Hn f cf' F' fn c args s = some r := by
  unfold evDefer at e ⊢
  split at e
  · rename_i v ts s' d hev
    rw [evE_mono h hF c _ _ _ _ hev]
    simp only
    split at e
    · split at e <;> try cases e
      · rename_i hd
        rw [evDef_mono h hF hd]
        exact e
      · rename_i hd
        rw [evDef_mono h hF hd]
    · exact e
  · cases e
  · rename_i x ts s' d hnp hne hev
    rw [evE_mono h hF c _ _ _ _ hev]
    cases x with
    | panic v => first | exact absurd rfl (hnp v) | exact absurd rfl (hnp v _)
    | exit id => first | exact absurd rfl (hne id) | exact absurd rfl (hne id _)
    | _ =>
      simp only
      split at e
      · split at e <;> try cases e
        rename_i hd
        rw [evDef_mono h hF hd]
        exact e
      · exact e
  · cases e
end

theorem evCall_mono {P : Program} {Hn : Hints} : ∀ {F F' : Nat}, F ≤ F' → CLe (evCall P Hn F) (evCall P Hn F')
  | 0, F', _ => fun g a s r e => by simp [evCall] at e
  | F + 1, 0, h => by omega
  | F + 1, F' + 1, h => fun g a s r e => by
    simp only [evCall] at e ⊢
    split at e
    · rename_i hsz
      rw [if_pos hsz]
      split at e <;> try cases e
      exact evRound_mono (evCall_mono (by omega)) (by omega) e
    rename_i hsz
    rw [if_neg hsz]
    split at e
    · exact e
    split at e <;> try cases e
    rename_i fn hfn
    split at e <;> try cases e
    rename_i c hc
    split at e
    · exact evDefer_mono (evCall_mono (by omega)) (by omega) e
    split at e
    · cases e
    · rename_i v ts s' hcode
      rw [evCode_mono (evCall_mono (by omega)) (by omega) c _ _ _ hcode]
      exact e
    · rename_i x ts s' hex hnp hcode
      rw [evCode_mono (evCall_mono (by omega)) (by omega) c _ _ _ hcode]
      cases x with
      | exit id => exact absurd rfl (hex id)
      | panic v => exact absurd rfl (hnp v)
      | normal => exact e
      | ret => exact e
    · cases e

/-! ### the limits -/
open Classical in
/-- What a call comes to with enough rounds. -/
noncomputable def evLim (P : Program) (Hn : Hints) : CallF := fun f args s =>
  if h : ∃ r F, evCall P Hn F f args s = some r then some (Classical.choose h) else none

theorem evLim_of {P : Program} {Hn : Hints} {F : Nat} {f : FuncId} {args : List AV} {s : HS} {r : AV × HS} (h : evCall P Hn F f args s = some r) : evLim P Hn f args s = some r := by
  have hex : ∃ r F, evCall P Hn F f args s = some r := ⟨r, F, h⟩
  unfold evLim
  rw [dif_pos hex]
  obtain ⟨F', h'⟩ := Classical.choose_spec hex
  have h1 := evCall_mono (Nat.le_max_left F F') _ _ _ _ h
  have h2 := evCall_mono (Nat.le_max_right F F') _ _ _ _ h'
  rw [h1] at h2
  exact h2.symm

theorem evLim_ex {P : Program} {Hn : Hints} {f : FuncId} {args : List AV} {s : HS} {r : AV × HS} (h : evLim P Hn f args s = some r) : ∃ F, evCall P Hn F f args s = some r := by
  unfold evLim at h
  split at h
  · rename_i hex
    cases h
    exact Classical.choose_spec hex
  · cases h

open Classical in
noncomputable def loopL (b : List AV → HS → Option (AX × List AV × HS)) (ts : List AV) (s : HS) : Option (AX × List AV × HS) :=
  if h : ∃ r n, evLoop b n ts s = some r then some (Classical.choose h) else none

theorem loopL_of {b : List AV → HS → Option (AX × List AV × HS)} {n : Nat} {ts : List AV} {s : HS} {r : AX × List AV × HS} (h : evLoop b n ts s = some r) : loopL b ts s = some r := by
  have hex : ∃ r n, evLoop b n ts s = some r := ⟨r, n, h⟩
  unfold loopL
  rw [dif_pos hex]
  obtain ⟨n', h'⟩ := Classical.choose_spec hex
  have h1 := evLoop_mono (b' := b) (fun _ _ _ e => e) (Nat.le_max_left n n') h
  have h2 := evLoop_mono (b' := b) (fun _ _ _ e => e) (Nat.le_max_right n n') h'
  rw [h1] at h2
  exact h2.symm

theorem loopL_ex {b : List AV → HS → Option (AX × List AV × HS)} {ts : List AV} {s : HS} {r : AX × List AV × HS} (h : loopL b ts s = some r) : ∃ n, evLoop b n ts s = some r := by
  unfold loopL at h
  split at h
  · rename_i hex
    cases h
    exact Classical.choose_spec hex
  · cases h

/-- One round of a loop. -/
theorem loopL_step (b : List AV → HS → Option (AX × List AV × HS)) (ts : List AV) (s : HS) : loopL b ts s = match b ts s with
    | some (.normal, ts', s') => loopL b ts' s'
    | r => r := by
  cases hb : b ts s with
  | none =>
    cases hl : loopL b ts s with
    | none => rfl
    | some r =>
      obtain ⟨n, hn⟩ := loopL_ex hl
      cases n with
      | zero => simp [evLoop] at hn
      | succ n => simp [evLoop, hb] at hn
  | some r =>
    obtain ⟨x, ts', s'⟩ := r
    cases x with
    | normal =>
      simp only
      cases hl : loopL b ts' s' with
      | none =>
        cases hl2 : loopL b ts s with
        | none => rfl
        | some r =>
          obtain ⟨n, hn⟩ := loopL_ex hl2
          cases n with
          | zero => simp [evLoop] at hn
          | succ n =>
            simp only [evLoop, hb] at hn
            rw [loopL_of hn] at hl; cases hl
      | some r =>
        obtain ⟨n, hn⟩ := loopL_ex hl
        exact loopL_of (n := n + 1) (by simp only [evLoop, hb]; exact hn)
    | exit id => exact loopL_of (n := 1) (by simp only [evLoop, hb])
    | panic v => exact loopL_of (n := 1) (by simp only [evLoop, hb])
    | ret => exact loopL_of (n := 1) (by simp only [evLoop, hb])

noncomputable def codeL (P : Program) (Hn : Hints) (f : FuncId) (rs : List Nat) (cf : CallF) : Code → List AV → HS → Option (AX × List AV × HS)
  | .skip, ts, s => some (.normal, ts, s)
  | .label _, ts, s => some (.normal, ts, s)
  | .region id ops draw, ts, s => evRegion P (Hn.fz f id) rs cf ops draw ts s
  | .seq a b, ts, s => match codeL P Hn f rs cf a ts s with
    | some (.normal, ts', s') => codeL P Hn f rs cf b ts' s'
    | r => r
  | .cond c a b, ts, s => match rho ts c with
    | some (.bool t) => if t then codeL P Hn f rs cf a ts s else codeL P Hn f rs cf b ts s
    | _ => none
  | .block id b, ts, s => match codeL P Hn f rs cf b ts s with
    | some (.exit id', ts', s') => if id' = id then some (.normal, ts', s') else some (.exit id', ts', s')
    | r => r
  | .loop b, ts, s => loopL (codeL P Hn f rs cf b) ts s
  | .exit id, ts, s => some (.exit id, ts, s)
  | .ret, ts, s => some (.ret, ts, s)
  | _, _, _ => none

theorem evStep_lim {P : Program} {Hn : Hints} {fz : Nat → Bool} {i : Nat} {o : Oper} {ts : List AV} {s : HS} {r : AV × HS} (hs : evStep P fz (evLim P Hn) i o ts s = some r) : ∃ F, evStep P fz (evCall P Hn F) i o ts s = some r := by
  obtain ⟨dst, op, type, pos, after, guard⟩ := o
  cases op with
  | call c =>
    obtain ⟨callee, args, tys⟩ := c
    cases callee with
    | value f =>
      simp only [evStep] at hs ⊢
      split at hs <;> try cases hs
      · split at hs <;> try cases hs
        obtain ⟨h1, h2⟩ := noPan_some hs
        obtain ⟨F, hF⟩ := evLim_ex h1
        exact ⟨F, noPan_of hF h2⟩
      · split at hs <;> try cases hs
        obtain ⟨h1, h2⟩ := noPan_some hs
        obtain ⟨F, hF⟩ := evLim_ex h1
        exact ⟨F, noPan_of hF h2⟩
    | invoke r m => exact ⟨0, hs⟩
    | builtin b => exact ⟨0, hs⟩
  | _ => exact ⟨0, hs⟩

/-- A finite run of steps asks for finitely many rounds. -/
theorem runR_lim {P : Program} {Hn : Hints} {fz : Nat → Bool} {ops : Array Oper} : ∀ {os : List Oper} {i : Nat} {ts : List AV} {s : HS} {r : List AV × List HS}, runR (evStep P fz (evLim P Hn)) (effR fz) ops i os ts s = some r → ∃ F, runR (evStep P fz (evCall P Hn F)) (effR fz) ops i os ts s = some r
  | [], i, ts, s, r, e => ⟨0, e⟩
  | o :: os, i, ts, s, r, e => by
    unfold runR at e
    split at e
    · rename_i hw
      split at e <;> try cases e
      rename_i v s' hs
      split at e <;> try cases e
      rename_i T ph hr
      obtain ⟨F1, h1⟩ := runR_lim hr
      obtain ⟨F2, h2⟩ := evStep_lim hs
      refine ⟨max F1 F2, ?_⟩
      unfold runR
      rw [if_pos hw, evStep_mono (evCall_mono (Nat.le_max_right F1 F2)) h2]
      simp only
      rw [runR_mono (evCall_mono (Nat.le_max_left F1 F2)) h1]
    · rename_i hw
      split at e <;> try cases e
      rename_i T ph hr
      obtain ⟨F1, h1⟩ := runR_lim hr
      refine ⟨F1, ?_⟩
      unfold runR
      rw [if_neg hw, h1]

theorem runP_lim {P : Program} {Hn : Hints} {fz : Nat → Bool} {ops : Array Oper} : ∀ {os : List Oper} {i : Nat} {ts : List AV} {s : HS} {r : Nat × AV × List AV × HS × HS}, runP (evStep P fz (evLim P Hn)) (evPan (evLim P Hn)) ops i os ts s = some r → ∃ F, runP (evStep P fz (evCall P Hn F)) (evPan (evCall P Hn F)) ops i os ts s = some r
  | [], i, ts, s, r, e => ⟨0, e⟩
  | o :: os, i, ts, s, r, e => by
    unfold runP at e
    split at e
    · rename_i hw
      split at e
      · rename_i v s' hp
        have h2 : ∃ F, evPan (evCall P Hn F) i o ts s = some (v, s') := by
          obtain ⟨dst, op, type, pos, after, guard⟩ := o
          cases op with
          | call c =>
            obtain ⟨callee, args, tys⟩ := c
            cases callee with
            | value f =>
              simp only [evPan] at hp ⊢
              split at hp <;> try cases hp
              split at hp <;> try cases hp
              obtain ⟨F, hF⟩ := evLim_ex (panOf_some hp)
              exact ⟨F, panOf_of hF⟩
            | invoke r m => exact ⟨0, hp⟩
            | builtin b => exact ⟨0, hp⟩
          | _ => exact ⟨0, hp⟩
        obtain ⟨F, hF⟩ := h2
        refine ⟨F, ?_⟩
        unfold runP
        rw [if_pos hw, hF]
        exact e
      · split at e <;> try cases e
        rename_i v s' hs
        obtain ⟨F1, h1⟩ := runP_lim e
        obtain ⟨F2, h2⟩ := evStep_lim hs
        refine ⟨max F1 F2, ?_⟩
        have h2' := evStep_mono (evCall_mono (Nat.le_max_right F1 F2)) h2
        unfold runP
        rw [if_pos hw, pan_none (fun _ _ _ _ h => h) h2', h2']
        exact runP_mono (evCall_mono (Nat.le_max_left F1 F2)) h1
    · rename_i hw
      obtain ⟨F1, h1⟩ := runP_lim e
      refine ⟨F1, ?_⟩
      unfold runP
      rw [if_neg hw]
      exact h1

theorem panStab_lim {P : Program} {Hn : Hints} {fz : Nat → Bool} {ops : Array Oper} {n : Nat} {ts tn : List AV} {s : HS} (e : PanStab P fz (evLim P Hn) ops n ts s tn) : ∃ F, PanStab P fz (evCall P Hn F) ops n ts s tn := by
  unfold PanStab at e
  split at e
  · rename_i T ph hr
    obtain ⟨F, hF⟩ := runR_lim hr
    refine ⟨F, ?_⟩
    unfold PanStab
    rw [hF]
    exact stabL_cf (fun i q o hm ho => checks_eff hm ho) e
  · exact e.elim

theorem panIf_lim {P : Program} {Hn : Hints} {fz : Nat → Bool} {rs : List Nat} {ops : Array Oper} {draw : Bool} {n : Nat} {ts tn : List AV} {s sn : HS} (e : PanIf P fz rs (evLim P Hn) ops draw n ts s tn sn) : ∃ F, PanIf P fz rs (evCall P Hn F) ops draw n ts s tn sn := by
  obtain ⟨e0, e1 | ⟨e1, e2⟩ | ⟨e1, T, ph, e2, e3, e4⟩⟩ := e
  · exact ⟨0, e0, .inl e1⟩
  · obtain ⟨F, hF⟩ := panStab_lim e2
    exact ⟨F, e0, .inr (.inl ⟨e1, hF⟩)⟩
  · obtain ⟨F, hF⟩ := runR_lim e2
    exact ⟨F, e0, .inr (.inr ⟨e1, T, ph, hF, by rw [← runX_cf (cf := evLim P Hn) (panXOk_spec e1)]; exact e3, stabL_cf (fun i q o hm ho => checksX_eff hm ho) e4⟩)⟩

theorem evRegion0_lim {P : Program} {Hn : Hints} {fz : Nat → Bool} {rs : List Nat} {ops : Array Oper} {draw : Bool} {ts : List AV} {s : HS} {r : AX × List AV × HS} (e : evRegion0 P fz rs (evLim P Hn) ops draw ts s = some r) : ∃ F, evRegion0 P fz rs (evCall P Hn F) ops draw ts s = some r := by
  unfold evRegion0 at e
  split at e
  · rename_i T ph hr
    obtain ⟨F, hF⟩ := runR_lim hr
    refine ⟨F, ?_⟩
    unfold evRegion0
    rw [hF]
    simp only
    split at e <;> try cases e
    rename_i s' hl
    split at e
    · rename_i hd
      rw [if_pos hd]
      split at e <;> cases e
      rename_i hs
      rw [if_pos (stabL_cf (fun i q o hm ho => checks_eff hm ho) hs)]
    · rename_i hd
      cases e
      rw [if_neg hd]
  · split at e <;> try cases e
    rename_i n v tn sn s' hp
    obtain ⟨F1, h1⟩ := runP_lim hp
    split at e <;> cases e
    rename_i hc
    obtain ⟨F2, h2⟩ := panIf_lim hc
    have hF := runP_mono (evCall_mono (Nat.le_max_left F1 F2)) h1
    refine ⟨max F1 F2, ?_⟩
    unfold evRegion0
    rw [runR_none hF, hF]
    simp only
    rw [if_pos (panIf_mono (evCall_mono (Nat.le_max_right F1 F2)) h2)]

theorem evLate_lim {P : Program} {Hn : Hints} {fz : Nat → Bool} {rs : List Nat} {ops : Array Oper} {p d : Nat} {te : TypeId} {ts : List AV} {s : HS} {r : AX × List AV × HS} (e : evLate P fz rs (evLim P Hn) ops p d te ts s = some r) : ∃ F, evLate P fz rs (evCall P Hn F) ops p d te ts s = some r := by
  unfold evLate at e
  split at e <;> try cases e
  rename_i z hz
  split at e <;> try cases e
  rename_i hst
  split at e
  · rename_i tn ph hr
    obtain ⟨F1, h1⟩ := runR_lim hr
    split at e <;> try cases e
    rename_i sn hl
    split at e <;> try cases e
    rename_i hs
    split at e <;> try cases e
    rename_i T ph2 hr2
    obtain ⟨F2, h2⟩ := runR_lim hr2
    refine ⟨max F1 F2, ?_⟩
    unfold evLate
    simp only [hz, hst, if_true]
    rw [runR_mono (evCall_mono (Nat.le_max_left F1 F2)) h1]
    simp only [hl]
    rw [if_pos (stabL_cf (fun i q o hm ho => checks_eff hm ho) hs)]
    rw [runR_mono (evCall_mono (Nat.le_max_right F1 F2)) h2]
    exact e
  · split at e <;> try cases e
    rename_i n v tn sn s' hp
    obtain ⟨F1, h1⟩ := runP_lim hp
    split at e <;> cases e
    rename_i hc
    obtain ⟨F2, h2⟩ := panStab_lim hc.2
    have hF := runP_mono (evCall_mono (Nat.le_max_left F1 F2)) h1
    refine ⟨max F1 F2, ?_⟩
    unfold evLate
    simp only [hz, hst, if_true]
    rw [runR_none hF, hF]
    simp only
    rw [if_pos ⟨hc.1, panStab_mono (evCall_mono (Nat.le_max_right F1 F2)) h2⟩]

theorem evRegion_lim {P : Program} {Hn : Hints} {fz : Nat → Bool} {rs : List Nat} {ops : Array Oper} {draw : Bool} {ts : List AV} {s : HS} {r : AX × List AV × HS} (e : evRegion P fz rs (evLim P Hn) ops draw ts s = some r) : ∃ F, evRegion P fz rs (evCall P Hn F) ops draw ts s = some r := by
  unfold evRegion at e
  split at e
  · rename_i p d te hl
    obtain ⟨F, hF⟩ := evLate_lim e
    exact ⟨F, by unfold evRegion; rw [hl]; exact hF⟩
  · rename_i hl
    obtain ⟨F, hF⟩ := evRegion0_lim e
    exact ⟨F, by unfold evRegion; rw [hl]; exact hF⟩

theorem codeL_lim {P : Program} {Hn : Hints} {f : FuncId} {rs : List Nat} : ∀ (c : Code) (ts : List AV) (s : HS) (r : AX × List AV × HS), codeL P Hn f rs (evLim P Hn) c ts s = some r → ∃ F, evCode P Hn f rs (evCall P Hn F) F c ts s = some r := by
  intro c
  induction c with
  | region id ops draw =>
    intro ts s r e
    simp only [codeL] at e
    obtain ⟨F, hF⟩ := evRegion_lim e
    exact ⟨F, by simp only [evCode]; exact hF⟩
  | seq x y ihx ihy =>
    intro ts s r e
    simp only [codeL] at e
    split at e
    · rename_i ts' s' hx
      obtain ⟨F1, h1⟩ := ihx _ _ _ hx
      obtain ⟨F2, h2⟩ := ihy _ _ _ e
      refine ⟨max F1 F2, ?_⟩
      simp only [evCode]
      rw [evCode_mono (evCall_mono (Nat.le_max_left F1 F2)) (Nat.le_max_left F1 F2) x _ _ _ h1]
      exact evCode_mono (evCall_mono (Nat.le_max_right F1 F2)) (Nat.le_max_right F1 F2) y _ _ _ h2
    · rename_i hne
      have hex : codeL P Hn f rs (evLim P Hn) x ts s = some r := e
      obtain ⟨F1, h1⟩ := ihx _ _ _ hex
      refine ⟨F1, ?_⟩
      simp only [evCode]
      rw [h1]
      obtain ⟨q, ts', s'⟩ := r
      cases q with
      | normal => exact absurd hex (hne ts' s')
      | _ => rfl
  | cond c x y ihx ihy =>
    intro ts s r e
    simp only [codeL] at e
    split at e <;> try cases e
    rename_i t hc
    cases t with
    | true =>
      obtain ⟨F, hF⟩ := ihx _ _ _ (by simpa using e)
      exact ⟨F, by simp only [evCode, hc]; simpa using hF⟩
    | false =>
      obtain ⟨F, hF⟩ := ihy _ _ _ (by simpa using e)
      exact ⟨F, by simp only [evCode, hc]; simpa using hF⟩
  | block id x ih =>
    intro ts s r e
    simp only [codeL] at e
    split at e
    · rename_i id' ts' s' hx
      obtain ⟨F, hF⟩ := ih _ _ _ hx
      exact ⟨F, by simp only [evCode, hF]; exact e⟩
    · rename_i hne
      have hex : codeL P Hn f rs (evLim P Hn) x ts s = some r := e
      obtain ⟨F, hF⟩ := ih _ _ _ hex
      refine ⟨F, ?_⟩
      simp only [evCode]
      rw [hF]
      obtain ⟨q, ts', s'⟩ := r
      cases q with
      | exit id' => exact absurd hex (hne id' ts' s')
      | _ => rfl
  | loop x ih =>
    intro ts s r e
    simp only [codeL] at e
    obtain ⟨n, hn⟩ := loopL_ex e
    have key : ∀ n ts s, evLoop (codeL P Hn f rs (evLim P Hn) x) n ts s = some r → ∃ F, evLoop (evCode P Hn f rs (evCall P Hn F) F x) n ts s = some r := by
      intro n
      induction n with
      | zero => intro ts s h; simp [evLoop] at h
      | succ n ihn =>
        intro ts s h
        unfold evLoop at h
        split at h
        · rename_i ts' s' hx
          obtain ⟨F1, h1⟩ := ih _ _ _ hx
          obtain ⟨F2, h2⟩ := ihn _ _ h
          refine ⟨max F1 F2, ?_⟩
          unfold evLoop
          rw [evCode_mono (evCall_mono (Nat.le_max_left F1 F2)) (Nat.le_max_left F1 F2) x _ _ _ h1]
          exact evLoop_mono (evCode_mono (evCall_mono (Nat.le_max_right F1 F2)) (Nat.le_max_right F1 F2) x) (Nat.le_refl _) h2
        · rename_i hne
          have hex : codeL P Hn f rs (evLim P Hn) x ts s = some r := h
          obtain ⟨F, hF⟩ := ih _ _ _ hex
          refine ⟨F, ?_⟩
          unfold evLoop
          rw [hF]
          obtain ⟨q, ts', s'⟩ := r
          cases q with
          | normal => exact absurd hex (hne ts' s')
          | _ => rfl
    obtain ⟨F, hF⟩ := key n ts s hn
    refine ⟨max F n, ?_⟩
    simp only [evCode]
    exact evLoop_mono (evCode_mono (evCall_mono (Nat.le_max_left F n)) (Nat.le_max_left F n) x) (Nat.le_max_right F n) hF
  | skip => intro ts s r e; exact ⟨0, e⟩
  | label => intro ts s r e; exact ⟨0, e⟩
  | exit => intro ts s r e; exact ⟨0, e⟩
  | ret => intro ts s r e; exact ⟨0, e⟩
  | rangeFunc => intro ts s r e; exact ⟨0, e⟩
  | scope => intro ts s r e; exact ⟨0, e⟩
  | goto => intro ts s r e; exact ⟨0, e⟩
  | refuse => intro ts s r e; exact ⟨0, e⟩

/-- What a function's body comes to. -/
noncomputable def bodyL (P : Program) (Hn : Hints) (f : FuncId) (fn : Func) (c : Code) (args : List AV) (s : HS) : Option (AV × HS) :=
  match codeL P Hn f [] (evLim P Hn) c (args ++ List.replicate (fn.ntmps - args.length) (.tup [])) s with
  | some (.exit _, _, _) => none
  | some (.panic v, _, s') => some (.pan v, s')
  | some (_, ts, s') => match evResults P fn s' ts with
    | some v => evReturn Hn f args s.n v s'
    | none => none
  | none => none

theorem evLim_orc {P : Program} {Hn : Hints} {f : FuncId} {args : List AV} {v : AV} (hf : f ≠ P.funcs.size) (ho : Hn.orc f args = some v) (s : HS) : evLim P Hn f args s = some (v, s) := evLim_of (F := 1) (by simp only [evCall, if_neg hf, ho])

theorem evLim_body {P : Program} {Hn : Hints} {f : FuncId} {fn : Func} {c : Code} (hf : P.funcs[f]? = some fn) (hc : fn.body = some c) (hdf : defers c = false) {args : List AV} (ho : Hn.orc f args = none) {s : HS} {r : AV × HS} (h : bodyL P Hn f fn c args s = some r) : evLim P Hn f args s = some r := by
  have hne : f ≠ P.funcs.size := Nat.ne_of_lt (Array.getElem?_eq_some_iff.1 hf).1
  unfold bodyL at h
  split at h
  · cases h
  · rename_i v ts s' hcode
    obtain ⟨F, hF⟩ := codeL_lim _ _ _ _ hcode
    refine evLim_of (F := F + 1) ?_
    simp only [evCall, if_neg hne, ho, hf, hc, hdf, hF]
    exact h
  · rename_i x ts s' hex hnp hcode
    obtain ⟨F, hF⟩ := codeL_lim _ _ _ _ hcode
    refine evLim_of (F := F + 1) ?_
    simp only [evCall, if_neg hne, ho, hf, hc, hdf, hF]
    cases x with
    | exit id => exact absurd rfl (hex id)
    | panic v => exact absurd rfl (hnp v)
    | normal => exact h
    | ret => exact h
  · cases h

theorem evLim_defer {P : Program} {Hn : Hints} {f : FuncId} {fn : Func} {c : Code} (hf : P.funcs[f]? = some fn) (hc : fn.body = some c) (hdf : defers c = true) {args : List AV} (ho : Hn.orc f args = none) {s : HS} {r : AV × HS} {F : Nat} (h : evDefer P Hn f (evCall P Hn F) F fn c args s = some r) : evLim P Hn f args s = some r := by
  have hne : f ≠ P.funcs.size := Nat.ne_of_lt (Array.getElem?_eq_some_iff.1 hf).1
  refine evLim_of (F := F + 1) ?_
  simp only [evCall, if_neg hne, ho, hf, hc, hdf]
  exact h

theorem evLim_round {P : Program} {Hn : Hints} {id : Nat} {vs : List AV} {s : HS} {r : AV × HS} {F : Nat} (h : evRound P Hn (evCall P Hn F) F id vs s = some r) : evLim P Hn P.funcs.size (.pan (.yld id) :: vs) s = some r := by
  refine evLim_of (F := F + 1) ?_
  simp only [evCall, if_true]
  exact h

theorem calls_of_lim {P : Program} {Hn : Hints} (hP : ProgOK P Hn) {f : FuncId} {args : List AV} {b : Bool} {s' : HS} (h : evLim P Hn f args HS.start = some (.bool b, s')) {w : World} {vargs : Array Value} (ha : VL (Cx.start w) args vargs.toList) :
    Calls P f vargs w fun e w' => e = .returned (.bool b) ∧ RowKit.Below w.heap.size w w' := by
  obtain ⟨F, hF⟩ := evLim_ex h
  exact calls_of_ev hP hF ha

end Go.Ev
