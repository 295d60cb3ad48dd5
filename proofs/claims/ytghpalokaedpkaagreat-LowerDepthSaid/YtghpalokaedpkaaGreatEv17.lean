/- The evaluator without a bound on its rounds. -/
import Derived.Test.YtghpalokaedpkaaGreatEv16
set_option linter.unusedVariables false
set_option linter.unusedSimpArgs false
namespace Go.Ev

def CLe (c c' : CallF) : Prop := ∀ g a s r, c g a s = some r → c' g a s = some r

theorem evStep_mono {P : Program} {fz : Nat → Bool} {cf cf' : CallF} (h : CLe cf cf') {i : Nat} {o : Oper} {ts : List AV} {s : HS} {r : AV × HS} (e : evStep P fz cf i o ts s = some r) : evStep P fz cf' i o ts s = some r := by
  obtain ⟨dst, op, type, pos, after, guard⟩ := o
  cases op with
  | call c =>
    obtain ⟨callee, args, tys⟩ := c
    cases callee with
    | value f =>
      simp only [evStep] at e ⊢
      split at e <;> try cases e
      split at e <;> try cases e
      exact h _ _ _ _ e
    | invoke r m => exact e
    | builtin b => exact e
  | _ => exact e

theorem evStep_cf {P : Program} {fz : Nat → Bool} {cf cf' : CallF} {i : Nat} {o : Oper} (he : effR fz i o = false) (ts : List AV) (s : HS) : evStep P fz cf i o ts s = evStep P fz cf' i o ts s := by
  obtain ⟨dst, op, type, pos, after, guard⟩ := o
  cases op with
  | call c =>
    obtain ⟨callee, args, tys⟩ := c
    cases callee with
    | value f => simp [effR, effOp] at he
    | invoke r m => rfl
    | builtin b => rfl
  | _ => rfl

theorem runR_mono {P : Program} {fz : Nat → Bool} {cf cf' : CallF} (h : CLe cf cf') {ops : Array Oper} : ∀ {os : List Oper} {i : Nat} {ts : List AV} {s : HS} {r : List AV × List HS}, runR (evStep P fz cf) (effR fz) ops i os ts s = some r → runR (evStep P fz cf') (effR fz) ops i os ts s = some r
  | [], i, ts, s, r, e => e
  | o :: os, i, ts, s, r, e => by
    unfold runR at e ⊢
    split at e
    · rename_i hw
      rw [if_pos hw]
      split at e <;> try cases e
      rename_i v s' hs
      rw [evStep_mono h hs]
      simp only
      split at e <;> try cases e
      rename_i T ph hr
      rw [runR_mono h hr]
    · rename_i hw
      rw [if_neg hw]
      split at e <;> try cases e
      rename_i T ph hr
      rw [runR_mono h hr]

theorem checks_eff {fz : Nat → Bool} {ops : Array Oper} {i q : Nat} {o : Oper} (h : (i, q) ∈ checks fz ops) (ho : ops[i]? = some o) : effR fz i o = false := by
  unfold checks at h
  rw [List.mem_flatMap] at h
  obtain ⟨j, _, hj⟩ := h
  cases hoj : ops[j]? with
  | none => rw [hoj] at hj; simp at hj
  | some u =>
    rw [hoj] at hj
    simp only at hj
    split at hj
    · cases hj
    · rename_i hc
      rw [List.mem_map] at hj
      obtain ⟨q', _, hq⟩ := hj
      simp only [Prod.mk.injEq] at hq
      obtain ⟨rfl, rfl⟩ := hq
      rw [ho] at hoj; cases hoj
      cases he : effR fz j o
      · rfl
      · simp [he] at hc

theorem stabL_cf {P : Program} {fz : Nat → Bool} {cf cf' : CallF} {ops : Array Oper} {T : List AV} {ph : List HS} : ∀ {cs : List (Nat × Nat)}, (∀ i q o, (i, q) ∈ cs → ops[i]? = some o → effR fz i o = false) → StabL P fz cf ops T ph cs → StabL P fz cf' ops T ph cs
  | [], _, _ => trivial
  | (i, q) :: cs, hc, h => by
    obtain ⟨h1, h2⟩ := h
    refine ⟨?_, stabL_cf (fun i q o hm ho => hc i q o (.tail _ hm) ho) h2⟩
    cases ho : ops[i]? with
    | none => rw [ho] at h1; exact h1
    | some o =>
      rw [ho] at h1
      have he := hc i q o (.head _) ho
      intro hw
      have h3 := h1 hw
      cases hp : ph[q]? with
      | none => rw [hp] at h3; exact h3
      | some sq =>
        rw [hp] at h3
        simp only at h3 ⊢
        rw [evStep_cf (cf' := cf) he]
        exact h3

theorem evRegion_mono {P : Program} {fz : Nat → Bool} {cf cf' : CallF} (h : CLe cf cf') {ops : Array Oper} {draw : Bool} {ts : List AV} {s : HS} {r : List AV × HS} (e : evRegion P fz cf ops draw ts s = some r) : evRegion P fz cf' ops draw ts s = some r := by
  unfold evRegion at e ⊢
  split at e <;> try cases e
  rename_i T ph hr
  rw [runR_mono h hr]
  simp only
  split at e <;> try cases e
  rename_i s' hl
  split at e
  · rename_i hd
    rw [if_pos hd]
    split at e <;> cases e
    rename_i hs
    rw [if_pos (stabL_cf (fun i q o hm ho => checks_eff hm ho) hs)]
  · rename_i hd
    cases e
    rw [if_neg hd]

theorem evLoop_mono {b b' : List AV → HS → Option (AX × List AV × HS)} (hb : ∀ ts s r, b ts s = some r → b' ts s = some r) : ∀ {n n' : Nat} {ts : List AV} {s : HS} {r : AX × List AV × HS}, n ≤ n' → evLoop b n ts s = some r → evLoop b' n' ts s = some r
  | 0, n', ts, s, r, _, e => by simp [evLoop] at e
  | n + 1, 0, ts, s, r, hn, e => by omega
  | n + 1, n' + 1, ts, s, r, hn, e => by
    unfold evLoop at e ⊢
    split at e
    · rename_i ts' s' hx
      rw [hb _ _ _ hx]
      exact evLoop_mono hb (by omega) e
    · rename_i hne
      have hex : b ts s = some r := e
      rw [hb _ _ _ hex]
      obtain ⟨x, ts', s'⟩ := r
      cases x with
      | normal => exact absurd hex (hne ts' s')
      | _ => rfl

theorem evCode_mono {P : Program} {Hn : Hints} {f : FuncId} {cf cf' : CallF} (h : CLe cf cf') {F F' : Nat} (hF : F ≤ F') : ∀ (c : Code) (ts : List AV) (s : HS) (r : AX × List AV × HS), evCode P Hn f cf F c ts s = some r → evCode P Hn f cf' F' c ts s = some r := by
  intro c
  induction c with
  | region id ops draw =>
    intro ts s r e
    simp only [evCode] at e ⊢
    split at e <;> cases e
    rename_i hr
    rw [evRegion_mono h hr]
  | seq x y ihx ihy =>
    intro ts s r e
    simp only [evCode] at e ⊢
    split at e
    · rename_i ts' s' hx
      rw [ihx _ _ _ hx]
      exact ihy _ _ _ e
    · rename_i hne
      have hex : evCode P Hn f cf F x ts s = some r := e
      rw [ihx _ _ _ hex]
      obtain ⟨q, ts', s'⟩ := r
      cases q with
      | normal => exact absurd hex (hne ts' s')
      | _ => rfl
  | cond c x y ihx ihy =>
    intro ts s r e
    simp only [evCode] at e ⊢
    split at e <;> try cases e
    rename_i t hc
    cases t with
    | true => exact ihx _ _ _ (by simpa using e)
    | false => exact ihy _ _ _ (by simpa using e)
  | block id x ih =>
    intro ts s r e
    simp only [evCode] at e ⊢
    split at e
    · rename_i id' ts' s' hx
      rw [ih _ _ _ hx]
      exact e
    · rename_i hne
      have hex : evCode P Hn f cf F x ts s = some r := e
      rw [ih _ _ _ hex]
      obtain ⟨q, ts', s'⟩ := r
      cases q with
      | exit id' => exact absurd hex (hne id' ts' s')
      | _ => rfl
  | loop x ih =>
    intro ts s r e
    simp only [evCode] at e ⊢
    exact evLoop_mono ih hF e
  | _ => intro ts s r e; exact e

theorem evCall_mono {P : Program} {Hn : Hints} : ∀ {F F' : Nat}, F ≤ F' → CLe (evCall P Hn F) (evCall P Hn F')
  | 0, F', _ => fun g a s r e => by simp [evCall] at e
  | F + 1, 0, h => by omega
  | F + 1, F' + 1, h => fun g a s r e => by
    simp only [evCall] at e ⊢
    split at e
    · exact e
    split at e <;> try cases e
    rename_i fn hfn
    split at e <;> try cases e
    rename_i c hc
    split at e
    · cases e
    · rename_i x ts s' hex hcode
      rw [evCode_mono (evCall_mono (by omega)) (by omega) c _ _ _ hcode]
      cases x with
      | exit id => exact absurd rfl (hex id)
      | normal => exact e
      | ret => exact e
    · cases e

/-! ### the limits -/
open Classical in
/-- What a call comes to with enough rounds. -/
noncomputable def evLim (P : Program) (Hn : Hints) : CallF := fun f args s =>
  if h : ∃ r F, evCall P Hn F f args s = some r then some (Classical.choose h) else none

theorem evLim_of {P : Program} {Hn : Hints} {F : Nat} {f : FuncId} {args : List AV} {s : HS} {r : AV × HS} (h : evCall P Hn F f args s = some r) : evLim P Hn f args s = some r := by
  have hex : ∃ r F, evCall P Hn F f args s = some r := ⟨r, F, h⟩
  unfold evLim
  rw [dif_pos hex]
  obtain ⟨F', h'⟩ := Classical.choose_spec hex
  have h1 := evCall_mono (Nat.le_max_left F F') _ _ _ _ h
  have h2 := evCall_mono (Nat.le_max_right F F') _ _ _ _ h'
  rw [h1] at h2
  exact h2.symm

theorem evLim_ex {P : Program} {Hn : Hints} {f : FuncId} {args : List AV} {s : HS} {r : AV × HS} (h : evLim P Hn f args s = some r) : ∃ F, evCall P Hn F f args s = some r := by
  unfold evLim at h
  split at h
  · rename_i hex
    cases h
    exact Classical.choose_spec hex
  · cases h

open Classical in
noncomputable def loopL (b : List AV → HS → Option (AX × List AV × HS)) (ts : List AV) (s : HS) : Option (AX × List AV × HS) :=
  if h : ∃ r n, evLoop b n ts s = some r then some (Classical.choose h) else none

theorem loopL_of {b : List AV → HS → Option (AX × List AV × HS)} {n : Nat} {ts : List AV} {s : HS} {r : AX × List AV × HS} (h : evLoop b n ts s = some r) : loopL b ts s = some r := by
  have hex : ∃ r n, evLoop b n ts s = some r := ⟨r, n, h⟩
  unfold loopL
  rw [dif_pos hex]
  obtain ⟨n', h'⟩ := Classical.choose_spec hex
  have h1 := evLoop_mono (b' := b) (fun _ _ _ e => e) (Nat.le_max_left n n') h
  have h2 := evLoop_mono (b' := b) (fun _ _ _ e => e) (Nat.le_max_right n n') h'
  rw [h1] at h2
  exact h2.symm

theorem loopL_ex {b : List AV → HS → Option (AX × List AV × HS)} {ts : List AV} {s : HS} {r : AX × List AV × HS} (h : loopL b ts s = some r) : ∃ n, evLoop b n ts s = some r := by
  unfold loopL at h
  split at h
  · rename_i hex
    cases h
    exact Classical.choose_spec hex
  · cases h

/-- One round of a loop. -/
theorem loopL_step (b : List AV → HS → Option (AX × List AV × HS)) (ts : List AV) (s : HS) : loopL b ts s = match b ts s with
    | some (.normal, ts', s') => loopL b ts' s'
    | r => r := by
  cases hb : b ts s with
  | none =>
    cases hl : loopL b ts s with
    | none => rfl
    | some r =>
      obtain ⟨n, hn⟩ := loopL_ex hl
      cases n with
      | zero => simp [evLoop] at hn
      | succ n => simp [evLoop, hb] at hn
  | some r =>
    obtain ⟨x, ts', s'⟩ := r
    cases x with
    | normal =>
      simp only
      cases hl : loopL b ts' s' with
      | none =>
        cases hl2 : loopL b ts s with
        | none => rfl
        | some r =>
          obtain ⟨n, hn⟩ := loopL_ex hl2
          cases n with
          | zero => simp [evLoop] at hn
          | succ n =>
            simp only [evLoop, hb] at hn
            rw [loopL_of hn] at hl; cases hl
      | some r =>
        obtain ⟨n, hn⟩ := loopL_ex hl
        exact loopL_of (n := n + 1) (by simp only [evLoop, hb]; exact hn)
    | exit id => exact loopL_of (n := 1) (by simp only [evLoop, hb])
    | ret => exact loopL_of (n := 1) (by simp only [evLoop, hb])

noncomputable def codeL (P : Program) (Hn : Hints) (f : FuncId) (cf : CallF) : Code → List AV → HS → Option (AX × List AV × HS)
  | .skip, ts, s => some (.normal, ts, s)
  | .label _, ts, s => some (.normal, ts, s)
  | .region id ops draw, ts, s => match evRegion P (Hn.fz f id) cf ops draw ts s with
    | some (ts', s') => some (.normal, ts', s')
    | none => none
  | .seq a b, ts, s => match codeL P Hn f cf a ts s with
    | some (.normal, ts', s') => codeL P Hn f cf b ts' s'
    | r => r
  | .cond c a b, ts, s => match rho ts c with
    | some (.bool t) => if t then codeL P Hn f cf a ts s else codeL P Hn f cf b ts s
    | _ => none
  | .block id b, ts, s => match codeL P Hn f cf b ts s with
    | some (.exit id', ts', s') => if id' = id then some (.normal, ts', s') else some (.exit id', ts', s')
    | r => r
  | .loop b, ts, s => loopL (codeL P Hn f cf b) ts s
  | .exit id, ts, s => some (.exit id, ts, s)
  | .ret, ts, s => some (.ret, ts, s)
  | _, _, _ => none

/-- A finite run of steps asks for finitely many rounds. -/
theorem runR_lim {P : Program} {Hn : Hints} {fz : Nat → Bool} {ops : Array Oper} : ∀ {os : List Oper} {i : Nat} {ts : List AV} {s : HS} {r : List AV × List HS}, runR (evStep P fz (evLim P Hn)) (effR fz) ops i os ts s = some r → ∃ F, runR (evStep P fz (evCall P Hn F)) (effR fz) ops i os ts s = some r
  | [], i, ts, s, r, e => ⟨0, e⟩
  | o :: os, i, ts, s, r, e => by
    unfold runR at e
    split at e
    · rename_i hw
      split at e <;> try cases e
      rename_i v s' hs
      split at e <;> try cases e
      rename_i T ph hr
      obtain ⟨F1, h1⟩ := runR_lim hr
      have h2 : ∃ F, evStep P fz (evCall P Hn F) i o ts s = some (v, s') := by
        obtain ⟨dst, op, type, pos, after, guard⟩ := o
        cases op with
        | call c =>
          obtain ⟨callee, args, tys⟩ := c
          cases callee with
          | value f =>
            simp only [evStep] at hs ⊢
            split at hs <;> try cases hs
            split at hs <;> try cases hs
            exact evLim_ex hs
          | invoke r m => exact ⟨0, hs⟩
          | builtin b => exact ⟨0, hs⟩
        | _ => exact ⟨0, hs⟩
      obtain ⟨F2, h2⟩ := h2
      refine ⟨max F1 F2, ?_⟩
      unfold runR
      rw [if_pos hw, evStep_mono (evCall_mono (Nat.le_max_right F1 F2)) h2]
      simp only
      rw [runR_mono (evCall_mono (Nat.le_max_left F1 F2)) h1]
    · rename_i hw
      split at e <;> try cases e
      rename_i T ph hr
      obtain ⟨F1, h1⟩ := runR_lim hr
      refine ⟨F1, ?_⟩
      unfold runR
      rw [if_neg hw, h1]

theorem evRegion_lim {P : Program} {Hn : Hints} {fz : Nat → Bool} {ops : Array Oper} {draw : Bool} {ts : List AV} {s : HS} {r : List AV × HS} (e : evRegion P fz (evLim P Hn) ops draw ts s = some r) : ∃ F, evRegion P fz (evCall P Hn F) ops draw ts s = some r := by
  unfold evRegion at e
  split at e <;> try cases e
  rename_i T ph hr
  obtain ⟨F, hF⟩ := runR_lim hr
  refine ⟨F, ?_⟩
  unfold evRegion
  rw [hF]
  simp only
  split at e <;> try cases e
  rename_i s' hl
  split at e
  · rename_i hd
    rw [if_pos hd]
    split at e <;> cases e
    rename_i hs
    rw [if_pos (stabL_cf (fun i q o hm ho => checks_eff hm ho) hs)]
  · rename_i hd
    cases e
    rw [if_neg hd]

theorem codeL_lim {P : Program} {Hn : Hints} {f : FuncId} : ∀ (c : Code) (ts : List AV) (s : HS) (r : AX × List AV × HS), codeL P Hn f (evLim P Hn) c ts s = some r → ∃ F, evCode P Hn f (evCall P Hn F) F c ts s = some r := by
  intro c
  induction c with
  | region id ops draw =>
    intro ts s r e
    simp only [codeL] at e
    split at e <;> cases e
    rename_i hr
    obtain ⟨F, hF⟩ := evRegion_lim hr
    exact ⟨F, by simp only [evCode, hF]⟩
  | seq x y ihx ihy =>
    intro ts s r e
    simp only [codeL] at e
    split at e
    · rename_i ts' s' hx
      obtain ⟨F1, h1⟩ := ihx _ _ _ hx
      obtain ⟨F2, h2⟩ := ihy _ _ _ e
      refine ⟨max F1 F2, ?_⟩
      simp only [evCode]
      rw [evCode_mono (evCall_mono (Nat.le_max_left F1 F2)) (Nat.le_max_left F1 F2) x _ _ _ h1]
      exact evCode_mono (evCall_mono (Nat.le_max_right F1 F2)) (Nat.le_max_right F1 F2) y _ _ _ h2
    · rename_i hne
      have hex : codeL P Hn f (evLim P Hn) x ts s = some r := e
      obtain ⟨F1, h1⟩ := ihx _ _ _ hex
      refine ⟨F1, ?_⟩
      simp only [evCode]
      rw [h1]
      obtain ⟨q, ts', s'⟩ := r
      cases q with
      | normal => exact absurd hex (hne ts' s')
      | _ => rfl
  | cond c x y ihx ihy =>
    intro ts s r e
    simp only [codeL] at e
    split at e <;> try cases e
    rename_i t hc
    cases t with
    | true =>
      obtain ⟨F, hF⟩ := ihx _ _ _ (by simpa using e)
      exact ⟨F, by simp only [evCode, hc]; simpa using hF⟩
    | false =>
      obtain ⟨F, hF⟩ := ihy _ _ _ (by simpa using e)
      exact ⟨F, by simp only [evCode, hc]; simpa using hF⟩
  | block id x ih =>
    intro ts s r e
    simp only [codeL] at e
    split at e
    · rename_i id' ts' s' hx
      obtain ⟨F, hF⟩ := ih _ _ _ hx
      exact ⟨F, by simp only [evCode, hF]; exact e⟩
    · rename_i hne
      have hex : codeL P Hn f (evLim P Hn) x ts s = some r := e
      obtain ⟨F, hF⟩ := ih _ _ _ hex
      refine ⟨F, ?_⟩
      simp only [evCode]
      rw [hF]
      obtain ⟨q, ts', s'⟩ := r
      cases q with
      | exit id' => exact absurd hex (hne id' ts' s')
      | _ => rfl
  | loop x ih =>
    intro ts s r e
    simp only [codeL] at e
    obtain ⟨n, hn⟩ := loopL_ex e
    have key : ∀ n ts s, evLoop (codeL P Hn f (evLim P Hn) x) n ts s = some r → ∃ F, evLoop (evCode P Hn f (evCall P Hn F) F x) n ts s = some r := by
      intro n
      induction n with
      | zero => intro ts s h; simp [evLoop] at h
      | succ n ihn =>
        intro ts s h
        unfold evLoop at h
        split at h
        · rename_i ts' s' hx
          obtain ⟨F1, h1⟩ := ih _ _ _ hx
          obtain ⟨F2, h2⟩ := ihn _ _ h
          refine ⟨max F1 F2, ?_⟩
          unfold evLoop
          rw [evCode_mono (evCall_mono (Nat.le_max_left F1 F2)) (Nat.le_max_left F1 F2) x _ _ _ h1]
          exact evLoop_mono (evCode_mono (evCall_mono (Nat.le_max_right F1 F2)) (Nat.le_max_right F1 F2) x) (Nat.le_refl _) h2
        · rename_i hne
          have hex : codeL P Hn f (evLim P Hn) x ts s = some r := h
          obtain ⟨F, hF⟩ := ih _ _ _ hex
          refine ⟨F, ?_⟩
          unfold evLoop
          rw [hF]
          obtain ⟨q, ts', s'⟩ := r
          cases q with
          | normal => exact absurd hex (hne ts' s')
          | _ => rfl
    obtain ⟨F, hF⟩ := key n ts s hn
    refine ⟨max F n, ?_⟩
    simp only [evCode]
    exact evLoop_mono (evCode_mono (evCall_mono (Nat.le_max_left F n)) (Nat.le_max_left F n) x) (Nat.le_max_right F n) hF
  | skip => intro ts s r e; exact ⟨0, e⟩
  | label => intro ts s r e; exact ⟨0, e⟩
  | exit => intro ts s r e; exact ⟨0, e⟩
  | ret => intro ts s r e; exact ⟨0, e⟩
  | rangeFunc => intro ts s r e; exact ⟨0, e⟩
  | scope => intro ts s r e; exact ⟨0, e⟩
  | goto => intro ts s r e; exact ⟨0, e⟩
  | refuse => intro ts s r e; exact ⟨0, e⟩

/-- What a function's body comes to. -/
noncomputable def bodyL (P : Program) (Hn : Hints) (f : FuncId) (fn : Func) (c : Code) (args : List AV) (s : HS) : Option (AV × HS) :=
  match codeL P Hn f (evLim P Hn) c (args ++ List.replicate (fn.ntmps - args.length) (.tup [])) s with
  | some (.exit _, _, _) => none
  | some (_, ts, s') => match evResults P fn s' ts with
    | some v => evReturn Hn f args s.n v s'
    | none => none
  | none => none

theorem evLim_orc {P : Program} {Hn : Hints} {f : FuncId} {args : List AV} {v : AV} (ho : Hn.orc f args = some v) (s : HS) : evLim P Hn f args s = some (v, s) := evLim_of (F := 1) (by simp only [evCall, ho])

theorem evLim_body {P : Program} {Hn : Hints} {f : FuncId} {fn : Func} {c : Code} (hf : P.funcs[f]? = some fn) (hc : fn.body = some c) {args : List AV} (ho : Hn.orc f args = none) {s : HS} {r : AV × HS} (h : bodyL P Hn f fn c args s = some r) : evLim P Hn f args s = some r := by
  unfold bodyL at h
  split at h
  · cases h
  · rename_i x ts s' hex hcode
    obtain ⟨F, hF⟩ := codeL_lim _ _ _ _ hcode
    refine evLim_of (F := F + 1) ?_
    simp only [evCall, ho, hf, hc, hF]
    cases x with
    | exit id => exact absurd rfl (hex id)
    | normal => exact h
    | ret => exact h
  · cases h

theorem calls_of_lim {P : Program} {Hn : Hints} (hP : ProgOK P Hn) {f : FuncId} {args : List AV} {b : Bool} {s' : HS} (h : evLim P Hn f args HS.start = some (.bool b, s')) {w : World} {vargs : Array Value} (ha : VL (Cx.start w) args vargs.toList) :
    Calls P f vargs w fun e w' => e = .returned (.bool b) ∧ RowKit.Below w.heap.size w w' := by
  obtain ⟨F, hF⟩ := evLim_ex h
  exact calls_of_ev hP hF ha

end Go.Ev
