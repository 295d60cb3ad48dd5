/- Deferred calls and loops over functions made ready for the kernel. -/
import Derived.Test.YtinngopfgdfdbaaGreatDoorEv23
set_option linter.unusedVariables false
set_option linter.unusedSimpArgs false
namespace Go.Ev

noncomputable def e0 : R16 AV := ⟨.tup [], .tup [], .tup [], .tup [], .tup [], .tup [], .tup [], .tup [], .tup [], .tup [], .tup [], .tup [], .tup [], .tup [], .tup [], .tup []⟩
noncomputable def initR (l : List AV) : R16 AV := List.rec (motive := fun _ => R16 AV) ⟨.tup [], .tup [], .tup [], .tup [], .tup [], .tup [], .tup [], .tup [], .tup [], .tup [], .tup [], .tup [], .tup [], .tup [], .tup [], .tup []⟩ (fun a0 l _ => List.rec (motive := fun _ => R16 AV) ⟨a0, .tup [], .tup [], .tup [], .tup [], .tup [], .tup [], .tup [], .tup [], .tup [], .tup [], .tup [], .tup [], .tup [], .tup [], .tup []⟩ (fun a1 l _ => List.rec (motive := fun _ => R16 AV) ⟨a0, a1, .tup [], .tup [], .tup [], .tup [], .tup [], .tup [], .tup [], .tup [], .tup [], .tup [], .tup [], .tup [], .tup [], .tup []⟩ (fun a2 l _ => List.rec (motive := fun _ => R16 AV) ⟨a0, a1, a2, .tup [], .tup [], .tup [], .tup [], .tup [], .tup [], .tup [], .tup [], .tup [], .tup [], .tup [], .tup [], .tup []⟩ (fun a3 l _ => List.rec (motive := fun _ => R16 AV) ⟨a0, a1, a2, a3, .tup [], .tup [], .tup [], .tup [], .tup [], .tup [], .tup [], .tup [], .tup [], .tup [], .tup [], .tup []⟩ (fun a4 l _ => List.rec (motive := fun _ => R16 AV) ⟨a0, a1, a2, a3, a4, .tup [], .tup [], .tup [], .tup [], .tup [], .tup [], .tup [], .tup [], .tup [], .tup [], .tup []⟩ (fun a5 l _ => List.rec (motive := fun _ => R16 AV) ⟨a0, a1, a2, a3, a4, a5, .tup [], .tup [], .tup [], .tup [], .tup [], .tup [], .tup [], .tup [], .tup [], .tup []⟩ (fun a6 l _ => List.rec (motive := fun _ => R16 AV) ⟨a0, a1, a2, a3, a4, a5, a6, .tup [], .tup [], .tup [], .tup [], .tup [], .tup [], .tup [], .tup [], .tup []⟩ (fun a7 l _ => List.rec (motive := fun _ => R16 AV) ⟨a0, a1, a2, a3, a4, a5, a6, a7, .tup [], .tup [], .tup [], .tup [], .tup [], .tup [], .tup [], .tup []⟩ (fun a8 l _ => List.rec (motive := fun _ => R16 AV) ⟨a0, a1, a2, a3, a4, a5, a6, a7, a8, .tup [], .tup [], .tup [], .tup [], .tup [], .tup [], .tup []⟩ (fun a9 l _ => List.rec (motive := fun _ => R16 AV) ⟨a0, a1, a2, a3, a4, a5, a6, a7, a8, a9, .tup [], .tup [], .tup [], .tup [], .tup [], .tup []⟩ (fun a10 l _ => List.rec (motive := fun _ => R16 AV) ⟨a0, a1, a2, a3, a4, a5, a6, a7, a8, a9, a10, .tup [], .tup [], .tup [], .tup [], .tup []⟩ (fun a11 l _ => List.rec (motive := fun _ => R16 AV) ⟨a0, a1, a2, a3, a4, a5, a6, a7, a8, a9, a10, a11, .tup [], .tup [], .tup [], .tup []⟩ (fun a12 l _ => List.rec (motive := fun _ => R16 AV) ⟨a0, a1, a2, a3, a4, a5, a6, a7, a8, a9, a10, a11, a12, .tup [], .tup [], .tup []⟩ (fun a13 l _ => List.rec (motive := fun _ => R16 AV) ⟨a0, a1, a2, a3, a4, a5, a6, a7, a8, a9, a10, a11, a12, a13, .tup [], .tup []⟩ (fun a14 l _ => List.rec (motive := fun _ => R16 AV) ⟨a0, a1, a2, a3, a4, a5, a6, a7, a8, a9, a10, a11, a12, a13, a14, .tup []⟩ (fun a15 l _ => ⟨a0, a1, a2, a3, a4, a5, a6, a7, a8, a9, a10, a11, a12, a13, a14, a15⟩) l) l) l) l) l) l) l) l) l) l) l) l) l) l) l) l
noncomputable def initE (l : List AV) : E := ⟨initR l, e0, e0, e0, e0, e0, e0, e0, e0, e0, e0, e0, e0, e0, e0, e0⟩
/-- All slots are filled. -/
noncomputable def initF (l : List AV) : E := ⟨initR l, initR (lfrom l 16), initR (lfrom l 32), initR (lfrom l 48), initR (lfrom l 64), initR (lfrom l 80), initR (lfrom l 96), initR (lfrom l 112), initR (lfrom l 128), initR (lfrom l 144), initR (lfrom l 160), initR (lfrom l 176), initR (lfrom l 192), initR (lfrom l 208), initR (lfrom l 224), initR (lfrom l 240)⟩

theorem initR_full (a0 a1 a2 a3 a4 a5 a6 a7 a8 a9 a10 a11 a12 a13 a14 a15 : AV) (l : List AV) : initR (a0 :: a1 :: a2 :: a3 :: a4 :: a5 :: a6 :: a7 :: a8 :: a9 :: a10 :: a11 :: a12 :: a13 :: a14 :: a15 :: l) = ⟨a0, a1, a2, a3, a4, a5, a6, a7, a8, a9, a10, a11, a12, a13, a14, a15⟩ := rfl
theorem initR_get (l : List AV) (i : Nat) (hi : i < 16) : (g16 i).get (initR l) = l.getD i (.tup []) := by
  rcases l with _ | ⟨a0, _ | ⟨a1, _ | ⟨a2, _ | ⟨a3, _ | ⟨a4, _ | ⟨a5, _ | ⟨a6, _ | ⟨a7, _ | ⟨a8, _ | ⟨a9, _ | ⟨a10, _ | ⟨a11, _ | ⟨a12, _ | ⟨a13, _ | ⟨a14, _ | ⟨a15, l⟩⟩⟩⟩⟩⟩⟩⟩⟩⟩⟩⟩⟩⟩⟩⟩
  case cons.cons.cons.cons.cons.cons.cons.cons.cons.cons.cons.cons.cons.cons.cons.cons =>
    rw [initR_full]
    rcases i with _ | _ | _ | _ | _ | _ | _ | _ | _ | _ | _ | _ | _ | _ | _ | _ | i
    case succ.succ.succ.succ.succ.succ.succ.succ.succ.succ.succ.succ.succ.succ.succ.succ => exact absurd hi (Nat.not_lt.2 (Nat.le_add_left 16 i))
    all_goals rfl
  all_goals
    rcases i with _ | _ | _ | _ | _ | _ | _ | _ | _ | _ | _ | _ | _ | _ | _ | _ | i
    all_goals first | rfl | exact absurd hi (Nat.not_lt.2 (Nat.le_add_left 16 i))

set_option maxRecDepth 20000 in
theorem initF_get (l : List AV) (i : Nat) (hi : i < 256) : (gg i).get (initF l) = l.getD i (.tup []) := by
  rw [(gg_gh i hi).1]
  simp only [gh]
  have h2 : i / 16 < 16 := by omega
  have h3 : i % 16 < 16 := by omega
  have he : (g16 (i / 16)).get (initF l) = initR (lfrom l (16 * (i / 16))) := by
    generalize i / 16 = j at h2
    match j, h2 with
    | 0, _ => rfl
    | 1, _ => rfl
    | 2, _ => rfl
    | 3, _ => rfl
    | 4, _ => rfl
    | 5, _ => rfl
    | 6, _ => rfl
    | 7, _ => rfl
    | 8, _ => rfl
    | 9, _ => rfl
    | 10, _ => rfl
    | 11, _ => rfl
    | 12, _ => rfl
    | 13, _ => rfl
    | 14, _ => rfl
    | 15, _ => rfl
    | j + 16, h => exact absurd h (Nat.not_lt.2 (Nat.le_add_left 16 j))
  rw [he, initR_get _ _ h3, lfrom_eq]
  simp only [List.getD, List.getElem?_drop]
  rw [Nat.div_add_mod]

/-- All slots are kept. -/
def ksAll : Nat := 2 ^ 256 - 1

theorem ksAll_bit {t : Nat} (h : t < 256) : kix ksAll t = some t := by
  have h1 : Nat.mod (Nat.shiftRight ksAll t) 2 = 1 := by
    have : (ksAll.testBit t) = true := by
      unfold ksAll
      rw [Nat.testBit_two_pow_sub_one]
      simpa using h
    have h2 : (ksAll >>> t) % 2 = 1 := by
      simpa [Nat.testBit, Nat.and_comm, Nat.and_one_is_mod, bne] using this
    exact h2
  have h3 : kbit ksAll t = true := by unfold kbit; rw [h1]; rfl
  unfold kix
  rw [h3, show Nat.ble (t + 1) 256 = true from Nat.ble_eq_true_of_le h]

theorem ksAll_kix {t s : Nat} (h : kix ksAll t = some s) : s = t := by
  obtain ⟨hb, ⟨_, h1⟩ | ⟨h1, _⟩⟩ := kix_cases h
  · exact h1
  · exfalso
    have h2 : Nat.mod (Nat.shiftRight ksAll t) 2 = 1 := Nat.eq_of_beq_eq_true hb
    have h3 : (ksAll.testBit t) = true := by
      have : (ksAll >>> t) % 2 = 1 := h2
      simp [Nat.testBit, Nat.and_comm, Nat.and_one_is_mod, bne, this]
    unfold ksAll at h3
    rw [Nat.testBit_two_pow_sub_one] at h3
    simp at h3
    omega

theorem Rel.getD {n : Nat} {e : E} {ts : List AV} (hr : Rel n ksAll e ts) {i : Nat} (hi : i < 256) : ts.getD i (.tup []) = (gg i).get e := hr.kept i i (ksAll_bit hi) hi

theorem initF_rel {n : Nat} {l : List AV} (hl : l.length = n) : Rel n ksAll (initF l) l := by
  refine ⟨hl, fun t s ht hs => ?_⟩
  have := ksAll_kix ht
  subst this
  rw [initF_get l s hs]

/-- The slots as a list. -/
noncomputable def elist (e : E) (n : Nat) : List AV → List AV := Nat.rec (fun acc => acc) (fun k ih acc => ih ((gg k).get e :: acc)) n
theorem elist_eq {n : Nat} {e : E} {ts : List AV} (hr : Rel n ksAll e ts) (hn : n ≤ 256) : elist e n [] = ts := by
  have key : ∀ k, k ≤ n → ∀ acc, elist e k acc = ts.take k ++ acc := by
    intro k
    induction k with
    | zero => intro _ acc; rfl
    | succ k ih =>
      intro hk acc
      change elist e k ((gg k).get e :: acc) = _
      have hlt : k < ts.length := by rw [hr.len]; omega
      have hg : (gg k).get e = ts[k] := by
        rw [← hr.getD (by omega)]
        simp [List.getD, List.getElem?_eq_getElem hlt]
      rw [ih (by omega), hg, List.take_add_one, List.getElem?_eq_getElem hlt]
      simp only [Option.toList, List.append_assoc, List.singleton_append]
  rw [key n (Nat.le_refl _), ← hr.len]
  simp

inductive OutE where
  | none
  | norm (e : E) (h : BT) (m : Nat) (d : DSt)
  | exit (id : Nat) (e : E) (h : BT) (m : Nat) (d : DSt)
  | ret (e : E) (h : BT) (m : Nat) (d : DSt)
  | pan (v : AV) (e : E) (h : BT) (m : Nat) (d : DSt)
structure JE where
  run : CF → E → BT → Nat → DSt → OutE
inductive OutD where
  | none
  | norm (e : E) (h : BT) (m : Nat) (u : DM)
  | ret (e : E) (h : BT) (m : Nat) (u : DM)
structure JD where
  run : CF → E → BT → Nat → DM → OutD

section
variable (P : Program)

def jEfail : JE := ⟨fun _ _ _ _ _ => .none⟩
noncomputable def jEplain (j : J) : JE := ⟨fun cf e h m d => Out.rec .none (fun e h m => .norm e h m d) (fun i e h m => .exit i e h m d) (fun e h m => .ret e h m d) (fun v e h m => .pan v e h m d) (j.run cf e h m)⟩

def stBusy : LoopState → Bool
  | .busy => true
  | _ => false
theorem stBusy_eq {s : LoopState} (h : stBusy s = false) : ¬ s = .busy := by intro e; subst e; cases h
def stReady : LoopState → Bool
  | .ready => true
  | _ => false
theorem stReady_eq {s : LoopState} (h : stReady s = true) : s = .ready := by cases s <;> first | rfl | cases h

def aLoop (k : Option Blk) : Option LoopA := match k with
  | some (.loop L) => some L
  | _ => none
theorem aLoop_eq {k : Option Blk} {L : LoopA} (h : aLoop k = some L) : k = some (.loop L) := by
  unfold aLoop at h
  split at h <;> cases h
  rfl

/-- Behind the call of a loop. -/
noncomputable def jrest (e : E) (m0 : Nat) (h : BT) (m : Nat) : OutE := match aLoop (den h (m0 + 1)) with
  | none => .none
  | some ⟨st, pend, f, ts, ps, asg, body⟩ => match stBusy st with
    | true => .none
    | false => match pend with
      | none => .norm e (hput h (m0 + 1) (.raw (some (.loop ⟨.exhausted, none, f, ts, ps, asg, body⟩)))) m (.mark m0)
      | some .ret => .ret e (hput h (m0 + 1) (.raw (some (.loop ⟨.exhausted, some .ret, f, ts, ps, asg, body⟩)))) m (.mark m0)
      | some (.exit k) => .exit k e (hput h (m0 + 1) (.raw (some (.loop ⟨.exhausted, some (.exit k), f, ts, ps, asg, body⟩)))) m (.mark m0)
      | _ => .none

noncomputable def jrange (n : Nat) (f : FuncId) (g : X1) (ps : Array Tmp) (asg body : Code) : JE :=
  ⟨fun cf e h m d => DSt.rec
    (OC.rec .none (fun gf first cap => Bool.rec .none (CO.rec .none (fun _ h2 m2 => jrest e m h2 m2) (fun _ _ _ => .none)
        (cf.call gf (fapp (fapp first [.yld (m + 1)]) cap) (hput (hput h m (.raw (some (.defd true)))) (m + 1) (.raw (some (.loop ⟨.ready, none, f, elist e n [], ps, asg, body⟩)))) (m + 1 + 1)))
      (Nat.ble (m + 2) 65536)) (fun _ => .none) (asC (g.get e)))
    (fun _ _ => .none) (fun _ => .none) d⟩

noncomputable def jE (n : Nat) (f : FuncId) (fz : Nat → Nat → Bool) (rs : List Nat) : Code → JE
  | .seq a b => ⟨fun cf e h m d => OutE.rec .none (fun e h m d => (jE n f fz rs b).run cf e h m d) (fun i e h m d => .exit i e h m d) (fun e h m d => .ret e h m d) (fun v e h m d => .pan v e h m d) ((jE n f fz rs a).run cf e h m d)⟩
  | .region id ops draw => match dlast ops with
    | some (init, o, fo, args) => match draw, jrho (jsr ksAll [] none) fo, jrhos (jsr ksAll [] none) args.toList, jset n ksAll o.dst with
      | false, some fx, some xs, some st => ⟨fun cf e h m d => DSt.rec (Out.rec .none (fun e h m => OC.rec .none (fun g first cap => .norm (st.set e (.tup [])) h m (.call g (fapp (fapp first (xs.get e)) cap))) (fun _ => .none) (asC (fx.get e))) (fun _ _ _ _ => .none) (fun _ _ _ => .none) (fun _ _ _ _ => .none) ((jops P n ksAll (fz id) (fun _ => false) ops jend init [] 0).run cf e h m)) (fun _ _ => .none) (fun _ => .none) d⟩
      | _, _, _, _ => jEfail
    | none => jEplain (jcode P n ksAll fz rs (.region id ops draw) jend)
  | .rangeFunc g ps asg body => match jrho (jsr ksAll [] none) g, Nat.ble n 256 with
    | some x, true => jrange n f x ps asg body
    | _, _ => jEfail
  | .block id b => ⟨fun cf e h m d => OutE.rec .none (fun e h m d => .norm e h m d) (fun i e h m d => Bool.rec (.exit i e h m d) (.norm e h m d) (Nat.beq i id)) (fun e h m d => .ret e h m d) (fun v e h m d => .pan v e h m d) ((jE n f fz rs b).run cf e h m d)⟩
  | c => jEplain (jcode P n ksAll fz rs c jend)

/-! ### what is called behind -/
def jDfail : JD := ⟨fun _ _ _ _ _ => .none⟩
noncomputable def jDplain (j : J) : JD := ⟨fun cf e h m u => Out.rec .none (fun e h m => .norm e h m u) (fun _ _ _ _ => .none) (fun e h m => .ret e h m u) (fun _ _ _ _ => .none) (j.run cf e h m)⟩

def isCallOp : Op → Bool
  | .call _ => true
  | _ => false

noncomputable def jrunD (n : Nat) (fz : Nat → Bool) : List Oper → Nat → JD
  | [], _ => ⟨fun _ e h m u => .norm e h m u⟩
  | o :: os, i => match o.guard, jset n ksAll o.dst with
    | none, some st => match isRecover o.op with
      | true => ⟨fun cf e h m u => DM.rec ((jrunD n fz os (i + 1)).run cf (st.set e .nili) h m .ret) (fun v => (jrunD n fz os (i + 1)).run cf (st.set e v) h m .recd) ((jrunD n fz os (i + 1)).run cf (st.set e .nili) h m .recd) u⟩
      | false => match jpure P (jsr ksAll [] none) o.op with
        | some g => ⟨fun cf e h m u => Option.rec .none (fun v => (jrunD n fz os (i + 1)).run cf (st.set e v) h m u) (g.get e h)⟩
        | none => match isCallOp o.op, jeff P (jsr ksAll [] none) (fz i) false o.op with
          | false, some g => ⟨fun cf e h m u => CO.rec .none (fun v h m => (jrunD n fz os (i + 1)).run cf (st.set e v) h m u) (fun _ _ _ => .none) (g.go cf e h m)⟩
          | _, _ => jDfail
    | _, _ => jDfail

noncomputable def jD (n : Nat) (fz : Nat → Nat → Bool) : Code → JD
  | .seq a b => ⟨fun cf e h m u => OutD.rec .none (fun e h m u => (jD n fz b).run cf e h m u) (fun e h m u => .ret e h m u) ((jD n fz a).run cf e h m u)⟩
  | .cond c a b => match jrho (jsr ksAll [] none) c with
    | some x => ⟨fun cf e h m u => OB.rec .none ((jD n fz a).run cf e h m u) ((jD n fz b).run cf e h m u) (asB (x.get e))⟩
    | none => jDfail
  | .region id ops draw => match ops.toList.any (fun o => isRecover o.op) with
    | true => match draw with
      | false => jrunD P n (fz id) ops.toList 0
      | true => jDfail
    | false => jDplain (jcode P n ksAll fz [] (.region id ops draw) jend)
  | c => jDplain (jcode P n ksAll fz [] c jend)
end

section
variable {P : Program} {Hn : Hints} {n : Nat} {cf : CF}

def EQ (n : Nat) : OutE → AX → List AV → HS → DSt → Prop
  | .none, _, _, _, _ => False
  | .norm e h m d, x, ts, s, d' => x = .normal ∧ s = ⟨den h, m⟩ ∧ d' = d ∧ Rel n ksAll e ts
  | .exit i e h m d, x, ts, s, d' => x = .exit i ∧ s = ⟨den h, m⟩ ∧ d' = d ∧ Rel n ksAll e ts
  | .ret e h m d, x, ts, s, d' => x = .ret ∧ s = ⟨den h, m⟩ ∧ d' = d ∧ Rel n ksAll e ts
  | .pan v e h m d, x, ts, s, d' => x = .panic v ∧ s = ⟨den h, m⟩ ∧ d' = d ∧ Rel n ksAll e ts

def DQ (n : Nat) : OutD → AX → List AV → HS → DM → Prop
  | .none, _, _, _, _ => False
  | .norm e h m d, x, ts, s, d' => x = .normal ∧ s = ⟨den h, m⟩ ∧ d' = d ∧ Rel n ksAll e ts
  | .ret e h m d, x, ts, s, d' => x = .ret ∧ s = ⟨den h, m⟩ ∧ d' = d ∧ Rel n ksAll e ts

/-- The slow form of plain code. -/
theorem plain_ev (hcf : CFok P Hn cf) {f : FuncId} {rs : List Nat} {c : Code} {e : E} {ts : List AV} {h : BT} {m : Nat} (hr : Rel n ksAll e ts) (ho : (jcode P n ksAll (Hn.fz f) rs c jend).run cf e h m ≠ .none) :
    ∃ F x ts' s', evCode P Hn f rs (evCall P Hn F) F c ts ⟨den h, m⟩ = some (x, ts', s') ∧ KQ n ksAll jend cf ((jcode P n ksAll (Hn.fz f) rs c jend).run cf e h m) x ts' s' := by
  obtain ⟨x, ts', s', hc, hq⟩ := jcode_ok (Hn := Hn) (f := f) (rs := rs) hcf c hr ho rfl
  obtain ⟨F, hF⟩ := codeL_lim _ _ _ _ hc
  exact ⟨F, x, ts', s', hF, hq⟩

theorem KQ_norm {ks : Nat} {e : E} {h : BT} {m : Nat} {x : AX} {ts : List AV} {s : HS} (hq : KQ n ks jend cf (.norm e h m) x ts s) : x = .normal ∧ s = ⟨den h, m⟩ ∧ Rel n ks e ts := by
  cases x <;> obtain ⟨e', b', m2, rfl, hr', hk⟩ := hq <;> cases hk
  exact ⟨rfl, rfl, hr'⟩
theorem KQ_exit {ks : Nat} {i : Nat} {e : E} {h : BT} {m : Nat} {x : AX} {ts : List AV} {s : HS} (hq : KQ n ks jend cf (.exit i e h m) x ts s) : x = .exit i ∧ s = ⟨den h, m⟩ ∧ Rel n ks e ts := by
  cases x <;> obtain ⟨e', b', m2, rfl, hr', hk⟩ := hq <;> cases hk
  exact ⟨rfl, rfl, hr'⟩
theorem KQ_ret {ks : Nat} {e : E} {h : BT} {m : Nat} {x : AX} {ts : List AV} {s : HS} (hq : KQ n ks jend cf (.ret e h m) x ts s) : x = .ret ∧ s = ⟨den h, m⟩ ∧ Rel n ks e ts := by
  cases x <;> obtain ⟨e', b', m2, rfl, hr', hk⟩ := hq <;> cases hk
  exact ⟨rfl, rfl, hr'⟩
theorem KQ_pan {ks : Nat} {v : AV} {e : E} {h : BT} {m : Nat} {x : AX} {ts : List AV} {s : HS} (hq : KQ n ks jend cf (.pan v e h m) x ts s) : x = .panic v ∧ s = ⟨den h, m⟩ ∧ Rel n ks e ts := by
  cases x <;> obtain ⟨e', b', m2, rfl, hr', hk⟩ := hq <;> cases hk
  exact ⟨rfl, rfl, hr'⟩

theorem jrest_ok {e : E} {ts : List AV} {m0 : Nat} {h : BT} {m : Nat} {out : OutE} (hr : Rel n ksAll e ts) (hm : m0 + 1 < 65536) (ho : out ≠ .none) (hj : jrest e m0 h m = out) :
    ∃ L, den h (m0 + 1) = some (.loop L) ∧ ¬ L.st = .busy ∧ ∃ x s d, (match L.pend with
        | none => some (.normal, ts, ⟨(den h).put (m0 + 1) (.loop { L with st := .exhausted }), m⟩, .mark m0)
        | some .ret => some (.ret, ts, ⟨(den h).put (m0 + 1) (.loop { L with st := .exhausted }), m⟩, .mark m0)
        | some (.exit k) => some (.exit k, ts, ⟨(den h).put (m0 + 1) (.loop { L with st := .exhausted }), m⟩, .mark m0)
        | _ => none : Option (AX × List AV × HS × DSt)) = some (x, ts, s, d) ∧ EQ n out x ts s d := by
  unfold jrest at hj
  split at hj
  · exact absurd hj.symm ho
  · rename_i st pend f ts0 ps asg body hL
    refine ⟨_, aLoop_eq hL, ?_⟩
    split at hj
    · exact absurd hj.symm ho
    · rename_i hb
      refine ⟨stBusy_eq hb, ?_⟩
      split at hj
      · subst hj
        exact ⟨_, _, _, rfl, rfl, by rw [den_put _ hm], rfl, hr⟩
      · subst hj
        exact ⟨_, _, _, rfl, rfl, by rw [den_put _ hm], rfl, hr⟩
      · subst hj
        exact ⟨_, _, _, rfl, rfl, by rw [den_put _ hm], rfl, hr⟩
      · exact absurd hj.symm ho

theorem evCall_upto {F F' : Nat} (h : F ≤ F') : CLe (evCall P Hn F) (evCall P Hn F') := evCall_mono h

theorem plainE_ok (hcf : CFok P Hn cf) {f : FuncId} {rs : List Nat} {c : Code} {e : E} {ts : List AV} {h : BT} {m : Nat} {d : DSt} {out : OutE} (hr : Rel n ksAll e ts) (ho : out ≠ .none) (hj : (jEplain (jcode P n ksAll (Hn.fz f) rs c jend)).run cf e h m d = out) :
    ∃ F x ts' s' d', (match evCode P Hn f rs (evCall P Hn F) F c ts ⟨den h, m⟩ with | some (x, ts', s') => some (x, ts', s', d) | none => none) = some (x, ts', s', d') ∧ EQ n out x ts' s' d' := by
  unfold jEplain at hj
  simp only at hj
  have hne : (jcode P n ksAll (Hn.fz f) rs c jend).run cf e h m ≠ .none := by
    intro hc; rw [hc] at hj; exact ho hj.symm
  obtain ⟨F, x, ts', s', hF, hq⟩ := plain_ev (n := n) hcf hr hne
  refine ⟨F, x, ts', s', d, by rw [hF], ?_⟩
  cases hv : (jcode P n ksAll (Hn.fz f) rs c jend).run cf e h m with
  | none => exact absurd hv hne
  | norm e1 h1 m1 => rw [hv] at hj hq; subst hj; obtain ⟨h1, h2, h3⟩ := KQ_norm hq; exact ⟨h1, h2, rfl, h3⟩
  | exit i e1 h1 m1 => rw [hv] at hj hq; subst hj; obtain ⟨h1, h2, h3⟩ := KQ_exit hq; exact ⟨h1, h2, rfl, h3⟩
  | ret e1 h1 m1 => rw [hv] at hj hq; subst hj; obtain ⟨h1, h2, h3⟩ := KQ_ret hq; exact ⟨h1, h2, rfl, h3⟩
  | pan v e1 h1 m1 => rw [hv] at hj hq; subst hj; obtain ⟨h1, h2, h3⟩ := KQ_pan hq; exact ⟨h1, h2, rfl, h3⟩

theorem jE_ok (hcf : CFok P Hn cf) {f : FuncId} {rs : List Nat} : ∀ (c : Code) {e : E} {ts : List AV} {h : BT} {m : Nat} {d : DSt} {out : OutE}, Rel n ksAll e ts → out ≠ .none → (jE P n f (Hn.fz f) rs c).run cf e h m d = out →
    ∃ F x ts' s' d', evE P Hn f rs (evCall P Hn F) F c ts ⟨den h, m⟩ d = some (x, ts', s', d') ∧ EQ n out x ts' s' d' := by
  intro c
  induction c with
  | seq a b iha ihb =>
    intro e ts h m d out hr ho hj
    simp only [jE] at hj
    cases hv : (jE P n f (Hn.fz f) rs a).run cf e h m d with
    | none => rw [hv] at hj; exact absurd hj.symm ho
    | norm e1 h1 m1 d1 =>
      rw [hv] at hj
      obtain ⟨F1, x, ts', s', d', hF1, rfl, rfl, rfl, hr'⟩ := iha hr (by simp) hv
      obtain ⟨F2, x2, ts2, s2, d2, hF2, hq⟩ := ihb hr' ho hj
      refine ⟨max F1 F2, x2, ts2, s2, d2, ?_, hq⟩
      simp only [evE]
      rw [evE_mono (evCall_upto (Nat.le_max_left F1 F2)) (Nat.le_max_left F1 F2) _ _ _ _ _ hF1]
      exact evE_mono (evCall_upto (Nat.le_max_right F1 F2)) (Nat.le_max_right F1 F2) _ _ _ _ _ hF2
    | exit i e1 h1 m1 d1 =>
      rw [hv] at hj
      obtain ⟨F1, x, ts', s', d', hF1, rfl, rfl, rfl, hr'⟩ := iha hr (by simp) hv
      subst hj
      exact ⟨F1, _, ts', _, _, by simp only [evE, hF1], rfl, rfl, rfl, hr'⟩
    | ret e1 h1 m1 d1 =>
      rw [hv] at hj
      obtain ⟨F1, x, ts', s', d', hF1, rfl, rfl, rfl, hr'⟩ := iha hr (by simp) hv
      subst hj
      exact ⟨F1, _, ts', _, _, by simp only [evE, hF1], rfl, rfl, rfl, hr'⟩
    | pan v e1 h1 m1 d1 =>
      rw [hv] at hj
      obtain ⟨F1, x, ts', s', d', hF1, rfl, rfl, rfl, hr'⟩ := iha hr (by simp) hv
      subst hj
      exact ⟨F1, _, ts', _, _, by simp only [evE, hF1], rfl, rfl, rfl, hr'⟩
  | block id b ih =>
    intro e ts h m d out hr ho hj
    simp only [jE] at hj
    cases hv : (jE P n f (Hn.fz f) rs b).run cf e h m d with
    | none => rw [hv] at hj; exact absurd hj.symm ho
    | norm e1 h1 m1 d1 =>
      rw [hv] at hj
      obtain ⟨F1, x, ts', s', d', hF1, rfl, rfl, rfl, hr'⟩ := ih hr (by simp) hv
      subst hj
      exact ⟨F1, _, ts', _, _, by simp only [evE, hF1], rfl, rfl, rfl, hr'⟩
    | exit i e1 h1 m1 d1 =>
      rw [hv] at hj
      obtain ⟨F1, x, ts', s', d', hF1, rfl, rfl, rfl, hr'⟩ := ih hr (by simp) hv
      simp only at hj
      cases hb : Nat.beq i id with
      | true =>
        rw [hb] at hj
        subst hj
        exact ⟨F1, _, ts', _, _, by simp only [evE, hF1]; rw [if_pos (Nat.eq_of_beq_eq_true hb)], rfl, rfl, rfl, hr'⟩
      | false =>
        rw [hb] at hj
        subst hj
        exact ⟨F1, _, ts', _, _, by simp only [evE, hF1]; rw [if_neg (fun hc => by rw [hc, Nat.beq_refl] at hb; cases hb)], rfl, rfl, rfl, hr'⟩
    | ret e1 h1 m1 d1 =>
      rw [hv] at hj
      obtain ⟨F1, x, ts', s', d', hF1, rfl, rfl, rfl, hr'⟩ := ih hr (by simp) hv
      subst hj
      exact ⟨F1, _, ts', _, _, by simp only [evE, hF1], rfl, rfl, rfl, hr'⟩
    | pan v e1 h1 m1 d1 =>
      rw [hv] at hj
      obtain ⟨F1, x, ts', s', d', hF1, rfl, rfl, rfl, hr'⟩ := ih hr (by simp) hv
      subst hj
      exact ⟨F1, _, ts', _, _, by simp only [evE, hF1], rfl, rfl, rfl, hr'⟩
  | region id ops draw =>
    intro e ts h m d out hr ho hj
    simp only [jE] at hj
    simp only [evE]
    split at hj
    · rename_i init o fo args hdl
      split at hj
      · rename_i fx xs st hfx hxs hst
        simp only at hj
        cases d with
        | call g a => exact absurd hj.symm ho
        | mark i => exact absurd hj.symm ho
        | none =>
          simp only at hj
          cases hv : (jops P n ksAll (Hn.fz f id) (fun _ => false) ops jend init [] 0).run cf e h m with
          | none => rw [hv] at hj; exact absurd hj.symm ho
          | exit i e1 h1 m1 => rw [hv] at hj; exact absurd hj.symm ho
          | ret e1 h1 m1 => rw [hv] at hj; exact absurd hj.symm ho
          | pan v e1 h1 m1 => rw [hv] at hj; exact absurd hj.symm ho
          | norm e1 h1 m1 =>
            rw [hv] at hj
            simp only at hj
            cases hc : asC (fx.get e1) with
            | none => rw [hc] at hj; exact absurd hj.symm ho
            | yld i => rw [hc] at hj; exact absurd hj.symm ho
            | some g first cap =>
              rw [hc] at hj
              simp only at hj
              subst hj
              rcases jops_ok (pre := []) hcf (Q := fun T s' => Rel n ksAll e1 T ∧ s' = ⟨den h1, m1⟩) (QP := fun _ _ _ _ => False) (by simp) (fun e' ts' b' m' hr' hk => by cases hk; exact ⟨hr', rfl⟩) (fun i v e' ts' b' m' hr' hp hk => by cases hp) (hr.sinv ops) hv with ⟨T, ph, s', h1, h2, h3, rfl⟩ | ⟨i, v, T, sn, s', h1, h2⟩
              · obtain ⟨F, hF⟩ := runR_lim h1
                have hro := jsr_ok (h3.sinv #[]) trivial (g := none)
                refine ⟨F, .normal, _, _, _, ?_, rfl, rfl, rfl, h3.set hst _⟩
                simp only [hdl, hF, h2, jrho_ok hfx hro, asC_eq hc, jrhos_ok hxs hro, fapp_eq]
              · exact h2.2.2.2.elim
      · exact absurd hj.symm ho
    · rename_i hdl
      simp only [hdl]
      exact plainE_ok hcf hr ho hj
  | rangeFunc g ps asg body iha ihb =>
    intro e ts h m d out hr ho hj
    simp only [jE] at hj
    simp only [evE]
    split at hj
    · rename_i x hx hn
      unfold jrange at hj
      simp only at hj
      cases d with
      | call g a => exact absurd hj.symm ho
      | mark i => exact absurd hj.symm ho
      | none =>
        simp only at hj
        cases hc : asC (x.get e) with
        | none => rw [hc] at hj; exact absurd hj.symm ho
        | yld i => rw [hc] at hj; exact absurd hj.symm ho
        | some gf first cap =>
          rw [hc] at hj
          simp only at hj
          cases hb : Nat.ble (m + 2) 65536 with
          | false => rw [hb] at hj; exact absurd hj.symm ho
          | true =>
            rw [hb] at hj
            simp only at hj
            have hm : m + 2 ≤ 65536 := Nat.le_of_ble_eq_true hb
            rw [elist_eq hr (Nat.le_of_ble_eq_true hn)] at hj
            cases hv : cf.call gf (fapp (fapp first [.yld (m + 1)]) cap) (hput (hput h m (.raw (some (.defd true)))) (m + 1) (.raw (some (.loop ⟨.ready, none, f, ts, ps, asg, body⟩)))) (m + 1 + 1) with
            | none => rw [hv] at hj; exact absurd hj.symm ho
            | pan v h2 m2 => rw [hv] at hj; exact absurd hj.symm ho
            | some v h2 m2 =>
              rw [hv] at hj
              simp only at hj
              obtain ⟨hl, hnp⟩ := hcf.val _ _ _ _ _ _ _ hv
              rw [fapp_eq, fapp_eq, den_put _ (by omega), den_put _ (by omega)] at hl
              obtain ⟨F, hF⟩ := evLim_ex hl
              obtain ⟨L, hL, hst, y, s, d', hm2, hq⟩ := jrest_ok (n := n) hr (by omega) ho hj
              refine ⟨F, y, ts, s, d', ?_, hq⟩
              have hro := jsr_ok (hr.sinv #[]) trivial (g := none)
              simp only [evRange, jrho_ok hx hro, asC_eq hc, hF, hnp, hL, if_neg hst]
              refine Eq.trans ?_ hm2
              cases hp : L.pend with
              | none => rfl
              | some c => cases c <;> rfl
    · exact absurd hj.symm ho
  | _ =>
    intro e ts h m d out hr ho hj
    simp only [jE] at hj
    simp only [evE]
    exact plainE_ok hcf hr ho hj

/-! ### what is called behind -/
theorem jrunD_ok (hcf : CFok P Hn cf) {fz : Nat → Bool} {ops : Array Oper} : ∀ {os : List Oper} {i : Nat} {e : E} {ts : List AV} {h : BT} {m : Nat} {u : DM} {out : OutD}, Rel n ksAll e ts → out ≠ .none → (jrunD P n fz os i).run cf e h m u = out →
    ∃ T s u', runD P fz ops i os ts ⟨den h, m⟩ u = some (T, s, u') ∧ DQ n out .normal T s u'
  | [], i, e, ts, h, m, u, out, hr, ho, hj => by
    simp only [jrunD] at hj
    subst hj
    exact ⟨ts, _, u, rfl, rfl, rfl, rfl, hr⟩
  | o :: os, i, e, ts, h, m, u, out, hr, ho, hj => by
    unfold jrunD at hj
    split at hj
    · rename_i st hg hst
      have hw : wantedA ops o ts = true := by simp [wantedA, hg]
      simp only [runD, if_pos hw]
      split at hj
      · rename_i hrec
        rw [if_pos hrec]
        simp only at hj
        cases u with
        | ret => exact jrunD_ok hcf (hr.set hst _) ho hj
        | pan v => exact jrunD_ok hcf (hr.set hst _) ho hj
        | recd => exact jrunD_ok hcf (hr.set hst _) ho hj
      · rename_i hrec
        rw [if_neg (by simp [hrec])]
        have hro := jsr_ok (hr.sinv #[]) trivial (g := none)
        split at hj
        · rename_i g hgp
          simp only at hj
          cases hv : g.get e h with
          | none => rw [hv] at hj; exact absurd hj.symm ho
          | some v =>
            rw [hv] at hj
            rw [jpure_ok hgp hro hv]
            exact jrunD_ok hcf (hr.set hst _) ho hj
        · split at hj
          · rename_i g hnc hge
            simp only at hj
            cases hv : g.go cf e h m with
            | none => rw [hv] at hj; exact absurd hj.symm ho
            | pan v h1 m1 => rw [hv] at hj; exact absurd hj.symm ho
            | some v h1 m1 =>
              rw [hv] at hj
              have h3 : evOp P (fz i) o.op ts ⟨den h, m⟩ = some (v, ⟨den h1, m1⟩) := jeff_op hge hro hv
              rw [h3]
              exact jrunD_ok hcf (hr.set hst _) ho hj
          · exact absurd hj.symm ho
    · exact absurd hj.symm ho

theorem plainD_ok (hcf : CFok P Hn cf) {f : FuncId} {c : Code} {e : E} {ts : List AV} {h : BT} {m : Nat} {u : DM} {out : OutD} (hr : Rel n ksAll e ts) (ho : out ≠ .none) (hj : (jDplain (jcode P n ksAll (Hn.fz f) [] c jend)).run cf e h m u = out) :
    ∃ F x ts' s' u', (match evCode P Hn f [] (evCall P Hn F) F c ts ⟨den h, m⟩ with | some (x, ts', s') => some (x, ts', s', u) | none => none) = some (x, ts', s', u') ∧ DQ n out x ts' s' u' := by
  unfold jDplain at hj
  simp only at hj
  have hne : (jcode P n ksAll (Hn.fz f) [] c jend).run cf e h m ≠ .none := by
    intro hc; rw [hc] at hj; exact ho hj.symm
  obtain ⟨F, x, ts', s', hF, hq⟩ := plain_ev (n := n) hcf hr hne
  refine ⟨F, x, ts', s', u, by rw [hF], ?_⟩
  cases hv : (jcode P n ksAll (Hn.fz f) [] c jend).run cf e h m with
  | none => exact absurd hv hne
  | norm e1 h1 m1 => rw [hv] at hj hq; subst hj; obtain ⟨h1, h2, h3⟩ := KQ_norm hq; exact ⟨h1, h2, rfl, h3⟩
  | exit i e1 h1 m1 => rw [hv] at hj; exact absurd hj.symm ho
  | ret e1 h1 m1 => rw [hv] at hj hq; subst hj; obtain ⟨h1, h2, h3⟩ := KQ_ret hq; exact ⟨h1, h2, rfl, h3⟩
  | pan v e1 h1 m1 => rw [hv] at hj; exact absurd hj.symm ho

theorem jD_ok (hcf : CFok P Hn cf) {f : FuncId} : ∀ (c : Code) {e : E} {ts : List AV} {h : BT} {m : Nat} {u : DM} {out : OutD}, Rel n ksAll e ts → out ≠ .none → (jD P n (Hn.fz f) c).run cf e h m u = out →
    ∃ F x ts' s' u', evD P Hn f (evCall P Hn F) F c ts ⟨den h, m⟩ u = some (x, ts', s', u') ∧ DQ n out x ts' s' u' := by
  intro c
  induction c with
  | seq a b iha ihb =>
    intro e ts h m u out hr ho hj
    simp only [jD] at hj
    cases hv : (jD P n (Hn.fz f) a).run cf e h m u with
    | none => rw [hv] at hj; exact absurd hj.symm ho
    | norm e1 h1 m1 d1 =>
      rw [hv] at hj
      obtain ⟨F1, x, ts', s', d', hF1, rfl, rfl, rfl, hr'⟩ := iha hr (by simp) hv
      obtain ⟨F2, x2, ts2, s2, d2, hF2, hq⟩ := ihb hr' ho hj
      refine ⟨max F1 F2, x2, ts2, s2, d2, ?_, hq⟩
      simp only [evD]
      rw [evD_mono (evCall_upto (Nat.le_max_left F1 F2)) (Nat.le_max_left F1 F2) _ _ _ _ _ hF1]
      exact evD_mono (evCall_upto (Nat.le_max_right F1 F2)) (Nat.le_max_right F1 F2) _ _ _ _ _ hF2
    | ret e1 h1 m1 d1 =>
      rw [hv] at hj
      obtain ⟨F1, x, ts', s', d', hF1, rfl, rfl, rfl, hr'⟩ := iha hr (by simp) hv
      subst hj
      exact ⟨F1, _, ts', _, _, by simp only [evD, hF1], rfl, rfl, rfl, hr'⟩
  | cond c a b iha ihb =>
    intro e ts h m u out hr ho hj
    simp only [jD] at hj
    simp only [evD]
    split at hj
    · rename_i x hx
      have hro := jsr_ok (hr.sinv #[]) trivial (g := none)
      simp only at hj
      cases hB : asB (x.get e) with
      | none => rw [hB] at hj; exact absurd hj.symm ho
      | tt =>
        rw [hB] at hj
        rw [jrho_ok hx hro, asB_tt hB]
        simpa using iha hr ho hj
      | ff =>
        rw [hB] at hj
        rw [jrho_ok hx hro, asB_ff hB]
        simpa using ihb hr ho hj
    · exact absurd hj.symm ho
  | region id ops draw =>
    intro e ts h m u out hr ho hj
    simp only [jD] at hj
    simp only [evD]
    split at hj
    · rename_i hany
      simp only [hany, if_true]
      split at hj
      · obtain ⟨T, s, u', h1, h2⟩ := jrunD_ok (ops := ops) hcf hr ho hj
        exact ⟨0, .normal, T, s, u', by simp only [h1], h2⟩
      · exact absurd hj.symm ho
    · rename_i hany
      simp only [hany, Bool.false_eq_true, if_false]
      exact plainD_ok hcf hr ho hj
  | _ =>
    intro e ts h m u out hr ho hj
    simp only [jD] at hj
    simp only [evD]
    exact plainD_ok hcf hr ho hj
end
end Go.Ev
