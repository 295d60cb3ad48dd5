/- Regions, code and calls made ready for the kernel. -/
import Derived.Test.YtinngopfgdfdbaaGreatDoorEv21
set_option linter.unusedVariables false
set_option linter.unusedSimpArgs false
namespace Go.Ev

/-- Memory and the next name. -/
structure BS where
  h : BT
  n : Nat
noncomputable def BS.hs (b : BS) : HS := ⟨den b.h, b.n⟩

inductive Out where
  | none
  | norm (e : E) (h : BT) (n : Nat)
  | exit (id : Nat) (e : E) (h : BT) (n : Nat)
  | ret (e : E) (h : BT) (n : Nat)
  | pan (v : AV) (e : E) (h : BT) (n : Nat)

inductive TO where
  | none
  | some (e : E) (h : BT) (n : Nat)
  | pan (v : AV) (e : E) (h : BT) (n : Nat)

inductive PO where
  | none
  | some (e : E) (h : BT) (n : Nat) (ph : List BS)
  | pan (i : Nat) (v : AV) (e : E) (h : BT) (n : Nat) (ph : List BS)

structure J where
  run : CF → E → BT → Nat → Out
structure JT where
  go : CF → E → BT → Nat → TO
structure JP where
  go : CF → E → BT → Nat → List BS → PO
structure JS where
  set : E → AV → E
structure JC where
  ok : E → List BS → Bool


/-! ### which slots are kept, and what is handed on within a region -/
/-- The place of a slot that is kept: the slots that are kept are the bits of a number. -/
noncomputable def kbit (ks : Nat) (t : Nat) : Bool := Nat.beq (Nat.mod (Nat.shiftRight ks t) 2) 1
/-- The places that are free. -/
noncomputable def kfree (ks : Nat) : List Nat := (List.range 256).filter fun u => Nat.ble 16 u && !kbit ks u
noncomputable def kix (ks : Nat) (t : Nat) : Option Nat := Bool.rec none (Bool.rec ((kfree ks)[t - 256]?) (some t) (Nat.ble (t + 1) 256)) (kbit ks t)

theorem kix_cases {ks t s : Nat} (h : kix ks t = some s) : kbit ks t = true ∧ ((t < 256 ∧ s = t) ∨ (256 ≤ t ∧ (kfree ks)[t - 256]? = some s ∧ 16 ≤ s ∧ kbit ks s = false)) := by
  unfold kix at h
  cases hb : kbit ks t with
  | false => rw [hb] at h; cases h
  | true =>
    rw [hb] at h
    cases hl : Nat.ble (t + 1) 256 with
    | true =>
      rw [hl] at h
      cases h
      exact ⟨rfl, .inl ⟨Nat.le_of_ble_eq_true hl, rfl⟩⟩
    | false =>
      rw [hl] at h
      have hge : 256 ≤ t := by
        rcases Nat.lt_or_ge t 256 with h1 | h1
        · have := Nat.ble_eq_true_of_le (show t + 1 ≤ 256 from h1)
          rw [hl] at this; cases this
        · exact h1
      have h : (kfree ks)[t - 256]? = some s := h
      have hm := List.mem_of_getElem? h
      unfold kfree at hm
      rw [List.mem_filter] at hm
      simp only [Bool.and_eq_true, Bool.not_eq_true'] at hm
      exact ⟨rfl, .inr ⟨hge, h, Nat.le_of_ble_eq_true hm.2.1, hm.2.2⟩⟩

/-- Each place is one slot's. -/
theorem kix_inj {ks t t' s : Nat} (h : kix ks t = some s) (h' : kix ks t' = some s) : t = t' := by
  obtain ⟨b1, c1⟩ := kix_cases h
  obtain ⟨b2, c2⟩ := kix_cases h'
  rcases c1 with ⟨l1, e1⟩ | ⟨l1, e1, _, f1⟩ <;> rcases c2 with ⟨l2, e2⟩ | ⟨l2, e2, _, f2⟩
  · omega
  · subst e1; rw [b1] at f2; cases f2
  · subst e2; rw [b2] at f1; cases f1
  · have hn : (kfree ks).Nodup := by unfold kfree; exact List.Pairwise.sublist List.filter_sublist List.nodup_range
    have := (List.getElem?_inj (List.getElem?_eq_some_iff.1 e1).1 hn).1 (e1.trans e2.symm)
    omega

structure FW where
  t : Nat
  g : Option (Nat × Bool)
  dep : Option Nat
  x : X1

def gEq (a b : Option (Nat × Bool)) : Bool := match a, b with
  | none, none => true
  | some (i, true), some (j, true) => Nat.beq i j
  | some (i, false), some (j, false) => Nat.beq i j
  | _, _ => false
theorem gEq_eq {a b : Option (Nat × Bool)} (h : gEq a b = true) : a = b := by
  unfold gEq at h
  split at h
  · rfl
  · rw [Nat.eq_of_beq_eq_true h]
  · rw [Nat.eq_of_beq_eq_true h]
  · cases h

noncomputable def xg (s : Nat) : X1 := GG.rec (fun g _ => ⟨g⟩) (gg s)
theorem xg_get (s : Nat) (e : E) : (xg s).get e = (gg s).get e := rfl
noncomputable def sg (s : Nat) : JS := GG.rec (fun _ st => ⟨st⟩) (gg s)
theorem sg_set (s : Nat) (e : E) (v : AV) : (sg s).set e v = (gg s).set e v := rfl

noncomputable def jfind (g : Option (Nat × Bool)) (t : Nat) : List FW → Option (Option Nat × X1)
  | [] => none
  | f :: σ => match Nat.beq f.t t with
    | true => match f.g with
      | none => some (f.dep, f.x)
      | some w => match gEq (some w) g with
        | true => some (f.dep, f.x)
        | false => jfind g t σ
    | false => jfind g t σ

noncomputable def jlook (ks : Nat) (σ : List FW) (g : Option (Nat × Bool)) (t : Nat) : Option (Option Nat × X1) :=
  match jfind g t σ with
  | some r => some r
  | none => match kix ks t with
    | some s => match Nat.ble (s + 1) 256 with
      | true => some (some s, xg s)
      | false => none
    | none => none

noncomputable def jsr (ks : Nat) (σ : List FW) (g : Option (Nat × Bool)) : SR := fun t => match jlook ks σ g t with
  | some (_, x) => some x
  | none => none

def gOn (ops : Array Oper) (ts : List AV) : Option (Nat × Bool) → Prop
  | none => True
  | some (j, w) => yieldedA ops ts j = some w

def dOK : Option Nat → X1 → Prop
  | none, x => ∀ e e', x.get e = x.get e'
  | some s, x => s < 256 ∧ ∀ e, x.get e = (gg s).get e

structure Rel (n : Nat) (ks : Nat) (e : E) (ts : List AV) : Prop where
  len : ts.length = n
  kept : ∀ t s, kix ks t = some s → s < 256 → ts.getD t (.tup []) = (gg s).get e

structure SInv (n : Nat) (ks : Nat) (ops : Array Oper) (σ : List FW) (e : E) (ts : List AV) : Prop where
  rel : Rel n ks e ts
  fw : ∀ f ∈ σ, (gOn ops ts f.g → ts.getD f.t (.tup []) = f.x.get e) ∧ dOK f.dep f.x

theorem Rel.sinv {n : Nat} {ks : Nat} {e : E} {ts : List AV} (h : Rel n ks e ts) (ops : Array Oper) : SInv n ks ops [] e ts := ⟨h, fun f hf => by cases hf⟩

section
variable {n : Nat} {ks : Nat} {ops : Array Oper} {σ : List FW} {e : E} {ts : List AV}

theorem jfind_ok {g : Option (Nat × Bool)} {t : Nat} : ∀ {σ : List FW} {d : Option Nat} {x : X1}, jfind g t σ = some (d, x) → ∃ f ∈ σ, f.t = t ∧ f.dep = d ∧ f.x = x ∧ (f.g = none ∨ f.g = g)
  | [], d, x, h => by cases h
  | f :: σ, d, x, h => by
    simp only [jfind] at h
    have go : jfind g t σ = some (d, x) → ∃ f' ∈ f :: σ, f'.t = t ∧ f'.dep = d ∧ f'.x = x ∧ (f'.g = none ∨ f'.g = g) := fun h => by
      obtain ⟨f', h1, h2⟩ := jfind_ok h
      exact ⟨f', .tail _ h1, h2⟩
    split at h
    · rename_i hb
      split at h
      · rename_i hg
        cases h
        exact ⟨f, .head _, Nat.eq_of_beq_eq_true hb, rfl, rfl, .inl hg⟩
      · rename_i w hg
        split at h
        · rename_i he
          cases h
          exact ⟨f, .head _, Nat.eq_of_beq_eq_true hb, rfl, rfl, .inr (by rw [hg]; exact gEq_eq he)⟩
        · exact go h
    · exact go h

theorem jlook_ok (hI : SInv n ks ops σ e ts) {g : Option (Nat × Bool)} (hg : gOn ops ts g) {t : Nat} {d : Option Nat} {x : X1} (h : jlook ks σ g t = some (d, x)) : ts.getD t (.tup []) = x.get e ∧ dOK d x := by
  unfold jlook at h
  split at h
  · rename_i r hr
    cases h
    obtain ⟨f, hf, rfl, rfl, rfl, hgg⟩ := jfind_ok hr
    obtain ⟨h1, h2⟩ := hI.fw f hf
    refine ⟨h1 ?_, h2⟩
    rcases hgg with hgg | hgg
    · rw [hgg]; trivial
    · rw [hgg]; exact hg
  · split at h <;> try cases h
    rename_i s hs
    split at h <;> cases h
    rename_i hb
    have hlt : s < 256 := Nat.le_of_ble_eq_true hb
    exact ⟨by rw [xg_get]; exact hI.rel.kept t s hs hlt, hlt, fun e => rfl⟩

theorem jsr_ok (hI : SInv n ks ops σ e ts) {g : Option (Nat × Bool)} (hg : gOn ops ts g) : RhoOK (jsr ks σ g) e ts := by
  intro t x h
  unfold jsr at h
  split at h <;> cases h
  rename_i d hl
  exact (jlook_ok hI hg hl).1

/-- What is done with what an operation yields. -/
noncomputable def jset (n : Nat) (ks : Nat) : Option Tmp → Option JS
  | none => some ⟨fun e _ => e⟩
  | some d => match Nat.ble (d + 1) n with
    | true => match kix ks d with
      | some s => match Nat.ble (s + 1) 256 with
        | true => some (sg s)
        | false => none
      | none => some ⟨fun e _ => e⟩
    | false => none

def gHit (ops : Array Oper) (d : Nat) : Option (Nat × Bool) → Bool
  | none => false
  | some (j, _) => match ops[j]? with
    | some o => match o.dst with
      | some d' => Nat.beq d' d
      | none => false
    | none => false

def dHit : Option Nat → Option Nat → Bool
  | some a, some b => Nat.beq a b
  | _, _ => false

noncomputable def stays (ks : Nat) (ops : Array Oper) (d : Nat) (f : FW) : Bool :=
  match Nat.beq f.t d, dHit f.dep (kix ks d), gHit ops d f.g with
  | false, false, false => true
  | _, _, _ => false

noncomputable def nxt (ks : Nat) (ops : Array Oper) (σ : List FW) : Option Tmp → List FW
  | none => σ
  | some d => σ.filter (stays ks ops d)

theorem yieldedA_set {j d : Nat} {v : AV} {w : Bool} (h : gHit ops d (some (j, w)) = false) : yieldedA ops (ts.set d v) j = yieldedA ops ts j := by
  unfold yieldedA
  simp only [gHit] at h
  cases ho : ops[j]? with
  | none => rfl
  | some o =>
    rw [ho] at h
    simp only at h
    cases hd : o.dst with
    | none => simp only [hd]
    | some d' =>
      rw [hd] at h
      simp only at h
      have : d ≠ d' := by
        rintro rfl
        rw [Nat.beq_refl] at h
        cases h
      simp only [hd]
      have h2 : (ts.set d v).getD d' (.tup []) = ts.getD d' (.tup []) := by simp [List.getD, List.getElem?_set_ne this]
      rw [h2]

theorem gOn_set {d : Nat} {v : AV} {g : Option (Nat × Bool)} (h : gHit ops d g = false) : gOn ops (ts.set d v) g ↔ gOn ops ts g := by
  cases g with
  | none => exact Iff.rfl
  | some p =>
    obtain ⟨j, w⟩ := p
    simp only [gOn, yieldedA_set h]

theorem Rel.set (hI : Rel n ks e ts) {dst : Option Tmp} {st : JS} (hst : jset n ks dst = some st) (v : AV) : Rel n ks (st.set e v) (putA ts dst v) := by
  cases dst with
  | none => cases hst; exact hI
  | some d =>
    simp only [jset] at hst
    split at hst <;> try cases hst
    rename_i hb
    have hdn : d < n := Nat.le_of_ble_eq_true hb
    split at hst
    · rename_i s hs
      split at hst <;> cases hst
      rename_i hb2
      have hs2 : s < 256 := Nat.le_of_ble_eq_true hb2
      refine ⟨by simp [putA, hI.len], fun t s' ht hs' => ?_⟩
      rw [sg_set, gg_get s' s hs' hs2]
      by_cases htd : t = d
      · subst htd
        rw [ht] at hs
        cases hs
        have : t < ts.length := by rw [hI.len]; exact hdn
        simp [putA, List.getD, this]
      · have hne : s' ≠ s := by
          rintro rfl
          exact htd (kix_inj ht hs)
        rw [if_neg hne, ← hI.kept t s' ht hs']
        simp [putA, List.getD, List.getElem?_set_ne (Ne.symm htd)]
    · cases hst
      rename_i hs
      refine ⟨by simp [putA, hI.len], fun t s' ht hs' => ?_⟩
      have htd : t ≠ d := by
        rintro rfl
        rw [ht] at hs
        cases hs
      rw [← hI.kept t s' ht hs']
      simp [putA, List.getD, List.getElem?_set_ne (Ne.symm htd)]

theorem SInv.set (hI : SInv n ks ops σ e ts) {dst : Option Tmp} {st : JS} (hst : jset n ks dst = some st) (v : AV) : SInv n ks ops (nxt ks ops σ dst) (st.set e v) (putA ts dst v) := by
  refine ⟨hI.rel.set hst v, ?_⟩
  cases dst with
  | none => cases hst; exact hI.fw
  | some d =>
    intro f hf
    simp only [nxt, List.mem_filter] at hf
    obtain ⟨hm, hsy⟩ := hf
    obtain ⟨h1, h2⟩ := hI.fw f hm
    unfold stays at hsy
    split at hsy <;> try cases hsy
    rename_i ht hd hg
    have htd : d ≠ f.t := by
      rintro rfl
      rw [Nat.beq_refl] at ht
      cases ht
    have hx : f.x.get (st.set e v) = f.x.get e := by
      cases hdep : f.dep with
      | none => rw [hdep] at h2; exact h2 _ _
      | some s' =>
        rw [hdep] at h2 hd
        obtain ⟨hs', h3⟩ := h2
        rw [h3, h3]
        simp only [jset] at hst
        split at hst <;> try cases hst
        split at hst
        · rename_i s hs
          split at hst <;> cases hst
          rename_i hb2
          rw [hs] at hd
          rw [sg_set, gg_get s' s hs' (Nat.le_of_ble_eq_true hb2), if_neg]
          rintro rfl
          simp only [dHit, Nat.beq_refl] at hd
          cases hd
        · cases hst; rfl
    refine ⟨fun hon => ?_, h2⟩
    rw [hx, ← h1 ((gOn_set hg).1 hon)]
    simp [putA, List.getD, List.getElem?_set_ne htd]
end

noncomputable def jguard (ρ : SR) (ops : Array Oper) (j : Nat) : Option X1 :=
  match ops[j]? with
  | some o => match o.dst with
    | some d => ρ d
    | none => none
  | none => none

theorem asB_none {v : AV} (h : asB v = .none) (b : Bool) : v ≠ .bool b := by
  rintro rfl
  cases b <;> cases h

theorem jguard_no {ρ : SR} {ops : Array Oper} {j : Nat} {g : X1} (h : jguard ρ ops j = some g) {e : E} {ts : List AV} (hr : RhoOK ρ e ts) (hb : asB (g.get e) = .none) : yieldedA ops ts j = none := by
  unfold jguard at h
  split at h <;> try cases h
  rename_i o ho
  split at h <;> try cases h
  rename_i d hd
  simp only [yieldedA, ho, hd]
  rw [hr d g h]
  have := asB_none hb
  split
  · rename_i b hv; exact absurd hv (this b)
  · rfl

theorem jguard_ok {ρ : SR} {ops : Array Oper} {j : Nat} {g : X1} (h : jguard ρ ops j = some g) {e : E} {ts : List AV} (hr : RhoOK ρ e ts) {b : Bool} (hb : g.get e = .bool b) : yieldedA ops ts j = some b := by
  unfold jguard at h
  split at h <;> try cases h
  rename_i o ho
  split at h <;> try cases h
  rename_i d hd
  simp only [yieldedA, ho, hd]
  rw [hr d g h, hb]

section
variable (P : Program) (n : Nat) (ks : Nat)

noncomputable def jbody (ρ : SR) (fz fx : Bool) (op : Op) (st : JS) : Option JT :=
  match jpure P ρ op with
  | some g => some ⟨fun _ e h m => Option.rec .none (fun v => .some (st.set e v) h m) (g.get e h)⟩
  | none => match jeff P ρ fz fx op with
    | some g => some ⟨fun cf e h m => CO.rec .none (fun v h m => .some (st.set e v) h m) (fun _ _ _ => .none) (g.go cf e h m)⟩
    | none => match jcallop P ρ op with
      | some g => some ⟨fun cf e h m => CO.rec .none (fun v h m => .some (st.set e v) h m) (fun v h m => .pan v e h m) (g.go cf e h m)⟩
      | none => none

noncomputable def jop (fz : Nat → Bool) (ops : Array Oper) (σ : List FW) (i : Nat) (o : Oper) : Option JT :=
  match jset n ks o.dst with
  | none => none
  | some st => match jbody P (jsr ks σ o.guard) (fz i) (fz (i + 1024)) o.op st with
    | none => none
    | some b => match o.guard with
      | none => some b
      | some (j, want) => match jguard (jsr ks σ none) ops j with
        | none => none
        | some g => match want with
          | true => some ⟨fun cf e h m => OB.rec (.some (st.set e (.tup [])) h m) (b.go cf e h m) (.some (st.set e (.tup [])) h m) (asB (g.get e))⟩
          | false => some ⟨fun cf e h m => OB.rec (.some (st.set e (.tup [])) h m) (.some (st.set e (.tup [])) h m) (b.go cf e h m) (asB (g.get e))⟩

noncomputable def jlookO (σ : List FW) (g : Option (Nat × Bool)) : Operand → Option (Option Nat × X1)
  | .tmp t => jlook ks σ g t
  | .const v => match ofV v with
    | some x => some (none, ⟨fun _ => x⟩)
    | none => none
  | .func f => some (none, ⟨fun _ => .clo (.func f) [] []⟩)
  | .global _ => none

noncomputable def jmove (σ : List FW) (g : Option (Nat × Bool)) : Op → Option (Option Nat × X1)
  | .move x => jlookO ks σ g x
  | .assign x => jlookO ks σ g x
  | _ => none

/-- A move that is handed on. -/
noncomputable def jelim (ops : Array Oper) (σ : List FW) (o : Oper) : Option FW :=
  match o.dst with
  | some d => match kix ks d, Nat.ble (d + 1) n, gHit ops d o.guard with
    | none, true, false => match jmove ks σ o.guard o.op with
      | some (dep, x) => some ⟨d, o.guard, dep, x⟩
      | none => none
    | _, _, _ => none
  | none => none

noncomputable def next (ops : Array Oper) (σ : List FW) (o : Oper) : List FW :=
  match jelim n ks ops σ o with
  | some f => f :: nxt ks ops σ o.dst
  | none => nxt ks ops σ o.dst

def jfail : J := ⟨fun _ _ _ _ => .none⟩

noncomputable def jfast (fz : Nat → Bool) (pk : Nat → Bool) (ops : Array Oper) (σ : List FW) (i : Nat) (o : Oper) (k : J) : J :=
  match jelim n ks ops σ o with
  | some _ => k
  | none => match o.guard with
    | none => match jset n ks o.dst with
      | none => jfail
      | some st => match jmove ks σ none o.op with
        | some (_, x) => ⟨fun cf e h m => k.run cf (st.set e (x.get e)) h m⟩
        | none => match jpure P (jsr ks σ none) o.op with
          | some g => ⟨fun cf e h m => Option.rec .none (fun v => k.run cf (st.set e v) h m) (g.get e h)⟩
          | none => match jeff P (jsr ks σ none) (fz i) (fz (i + 1024)) o.op with
            | some g => ⟨fun cf e h m => CO.rec .none (fun v h m => k.run cf (st.set e v) h m) (fun _ _ _ => .none) (g.go cf e h m)⟩
            | none => match jcallop P (jsr ks σ none) o.op with
              | some g => ⟨fun cf e h m => CO.rec .none (fun v h m => k.run cf (st.set e v) h m) (fun v h m => Bool.rec .none (.pan v e h m) (pk i)) (g.go cf e h m)⟩
              | none => jfail
    | some _ => match jop P n ks fz ops σ i o with
      | some b => ⟨fun cf e h m => TO.rec .none (fun e h m => k.run cf e h m) (fun v e h m => Bool.rec .none (.pan v e h m) (pk i)) (b.go cf e h m)⟩
      | none => jfail

noncomputable def jops (fz : Nat → Bool) (pk : Nat → Bool) (ops : Array Oper) (k : J) : List Oper → List FW → Nat → J
  | [], _, _ => k
  | o :: os, σ, i => jfast P n ks fz pk ops σ i o (jops fz pk ops k os (next n ks ops σ o) (i + 1))

noncomputable def jopsP (fz : Nat → Bool) (ops : Array Oper) : List Oper → Nat → Option JP
  | [], _ => some ⟨fun _ e h m pre => .some e h m (pre ++ [⟨h, m⟩])⟩
  | o :: os, i => match jop P n ks fz ops [] i o with
    | some b => match jopsP fz ops os (i + 1) with
      | some r => match effR fz i o with
        | true => some ⟨fun cf e h m pre => TO.rec .none (fun e' h' m' => r.go cf e' h' m' (pre ++ [⟨h, m⟩])) (fun v e h' m' => .pan i v e h' m' (pre ++ [⟨h, m⟩])) (b.go cf e h m)⟩
        | false => some ⟨fun cf e h m pre => TO.rec .none (fun e' h' m' => r.go cf e' h' m' pre) (fun v e h' m' => .pan i v e h' m' (pre ++ [⟨h, m⟩])) (b.go cf e h m)⟩
      | none => none
    | none => none
/-- Those that don't wait for the nn-th, behind it. -/
noncomputable def jopsX (fz : Nat → Bool) (ops : Array Oper) (nn : Nat) : List Oper → Nat → Option JT
  | [], _ => some ⟨fun _ e h m => .some e h m⟩
  | o :: os, i => match waits ops nn i with
    | true => match jset n ks o.dst, jopsX fz ops nn os (i + 1) with
      | some st, some r => some ⟨fun cf e h m => r.go cf (st.set e (.tup [])) h m⟩
      | _, _ => none
    | false => match effR fz i o with
      | true => none
      | false => match jop P n ks fz ops [] i o, jopsX fz ops nn os (i + 1) with
        | some b, some r => some ⟨fun cf e h m => TO.rec .none (fun e' h' m' => r.go cf e' h' m') (fun _ _ _ _ => .none) (b.go cf e h m)⟩
        | _, _ => none

end

section
variable {P : Program} {Hn : Hints} {n : Nat} {ks : Nat} {fz : Nat → Bool} {ops : Array Oper} {cf : CF} {σ : List FW}

theorem wanted_gOn {o : Oper} {ts : List AV} (h : wantedA ops o ts = true) : gOn ops ts o.guard := by
  unfold wantedA at h
  cases hg : o.guard with
  | none => trivial
  | some p =>
    obtain ⟨j, w⟩ := p
    rw [hg] at h
    simpa [gOn] using h
theorem wanted_off {o : Oper} {ts : List AV} (h : wantedA ops o ts = false) : ¬ gOn ops ts o.guard := by
  unfold wantedA at h
  cases hg : o.guard with
  | none => rw [hg] at h; cases h
  | some p =>
    obtain ⟨j, w⟩ := p
    rw [hg] at h
    simpa [gOn] using h

theorem jbody_ok (hcf : CFok P Hn cf) {i : Nat} {o : Oper} {ρ : SR} {st : JS} {b : JT} (hst : jset n ks o.dst = some st) (hb : jbody P ρ (fz i) (fz (i + 1024)) o.op st = some b) {e e' : E} {ts : List AV} {b0 : BT} {m : Nat} (hI : SInv n ks ops σ e ts) (hr : RhoOK ρ e ts) {h' : BT} {m' : Nat}
    (h : b.go cf e b0 m = .some e' h' m') : ∃ v, evStep P fz (evLim P Hn) i o ts ⟨den b0, m⟩ = some (v, ⟨den h', m'⟩) ∧ SInv n ks ops (nxt ks ops σ o.dst) e' (putA ts o.dst v) := by
  unfold jbody at hb
  split at hb
  · cases hb
    rename_i g hg
    simp only at h
    cases hv : g.get e b0 with
    | none => rw [hv] at h; cases h
    | some v =>
      rw [hv] at h
      cases h
      exact ⟨v, evStep_of (jpure_ok hg hr hv) (jpure_nb hg), hI.set hst v⟩
  · split at hb
    · cases hb
      rename_i g hg
      simp only at h
      cases hv : g.go cf e b0 m with
      | none => rw [hv] at h; cases h
      | pan v h2 m2 => rw [hv] at h; cases h
      | some v h2 m2 =>
        rw [hv] at h
        cases h
        exact ⟨v, jeff_ok hg hr hv, hI.set hst v⟩
    · split at hb <;> cases hb
      rename_i g hg
      simp only at h
      cases hv : g.go cf e b0 m with
      | none => rw [hv] at h; cases h
      | pan v h2 m2 => rw [hv] at h; cases h
      | some v h2 m2 =>
        rw [hv] at h
        cases h
        exact ⟨v, jcallop_ok hg hcf hr hv, hI.set hst v⟩

theorem jbody_pan (hcf : CFok P Hn cf) {i : Nat} {o : Oper} {ρ : SR} {st : JS} {b : JT} (hb : jbody P ρ (fz i) (fz (i + 1024)) o.op st = some b) {e e' : E} {ts : List AV} {b0 : BT} {m : Nat} (hr : RhoOK ρ e ts) {v : AV} {h' : BT} {m' : Nat}
    (h : b.go cf e b0 m = .pan v e' h' m') : e' = e ∧ evPan (evLim P Hn) i o ts ⟨den b0, m⟩ = some (v, ⟨den h', m'⟩) := by
  unfold jbody at hb
  split at hb
  · cases hb
    rename_i g hg
    simp only at h
    cases hv : g.get e b0 <;> (rw [hv] at h; cases h)
  · split at hb
    · cases hb
      rename_i g hg
      simp only at h
      cases hv : g.go cf e b0 m <;> (rw [hv] at h; cases h)
    · split at hb <;> cases hb
      rename_i g hg
      simp only at h
      cases hv : g.go cf e b0 m with
      | none => rw [hv] at h; cases h
      | some v h2 m2 => rw [hv] at h; cases h
      | pan u h2 m2 =>
        rw [hv] at h
        cases h
        exact ⟨rfl, jcallop_pan hg hcf hr hv⟩

/-- What an operation came to. -/
def Came (P : Program) (Hn : Hints) (n : Nat) (ks : Nat) (fz : Nat → Bool) (ops : Array Oper) (σ' : List FW) (i : Nat) (o : Oper) (ts : List AV) (s : HS) (e' : E) (h' : BT) (m' : Nat) : Prop :=
  (wantedA ops o ts = true ∧ ∃ v, evStep P fz (evLim P Hn) i o ts s = some (v, ⟨den h', m'⟩) ∧ SInv n ks ops σ' e' (putA ts o.dst v)) ∨ (wantedA ops o ts = false ∧ s = ⟨den h', m'⟩ ∧ SInv n ks ops σ' e' (putA ts o.dst (.tup [])))

theorem jop_ok (hcf : CFok P Hn cf) {i : Nat} {o : Oper} {b : JT} (hb : jop P n ks fz ops σ i o = some b) {e e' : E} {ts : List AV} {b0 : BT} {m : Nat} (hI : SInv n ks ops σ e ts) {h' : BT} {m' : Nat} (h : b.go cf e b0 m = .some e' h' m') : Came P Hn n ks fz ops (nxt ks ops σ o.dst) i o ts ⟨den b0, m⟩ e' h' m' := by
  unfold jop at hb
  split at hb <;> try cases hb
  rename_i st hst
  split at hb <;> try cases hb
  rename_i bd hbd
  split at hb
  · cases hb
    rename_i hg
    have hw : wantedA ops o ts = true := by simp [wantedA, hg]
    exact .inl ⟨hw, jbody_ok hcf hst hbd hI (jsr_ok hI (wanted_gOn hw)) h⟩
  · rename_i j want hg
    split at hb <;> try cases hb
    rename_i g hgd
    have h0 := jsr_ok hI (g := none) trivial
    split at hb <;> cases hb
    · simp only at h
      cases hB : asB (g.get e) with
      | none =>
        rw [hB] at h
        cases h
        exact .inr ⟨by simp [wantedA, hg, jguard_no hgd h0 hB], rfl, hI.set hst _⟩
      | tt =>
        rw [hB] at h
        have hw : wantedA ops o ts = true := by simp [wantedA, hg, jguard_ok hgd h0 (asB_tt hB)]
        exact .inl ⟨hw, jbody_ok hcf hst hbd hI (jsr_ok hI (wanted_gOn hw)) h⟩
      | ff =>
        rw [hB] at h
        cases h
        exact .inr ⟨by simp [wantedA, hg, jguard_ok hgd h0 (asB_ff hB)], rfl, hI.set hst _⟩
    · simp only at h
      cases hB : asB (g.get e) with
      | none =>
        rw [hB] at h
        cases h
        exact .inr ⟨by simp [wantedA, hg, jguard_no hgd h0 hB], rfl, hI.set hst _⟩
      | ff =>
        rw [hB] at h
        have hw : wantedA ops o ts = true := by simp [wantedA, hg, jguard_ok hgd h0 (asB_ff hB)]
        exact .inl ⟨hw, jbody_ok hcf hst hbd hI (jsr_ok hI (wanted_gOn hw)) h⟩
      | tt =>
        rw [hB] at h
        cases h
        exact .inr ⟨by simp [wantedA, hg, jguard_ok hgd h0 (asB_tt hB)], rfl, hI.set hst _⟩

theorem jop_pan (hcf : CFok P Hn cf) {i : Nat} {o : Oper} {b : JT} (hb : jop P n ks fz ops σ i o = some b) {e e' : E} {ts : List AV} {b0 : BT} {m : Nat} (hI : SInv n ks ops σ e ts) {v : AV} {h' : BT} {m' : Nat} (h : b.go cf e b0 m = .pan v e' h' m') :
    e' = e ∧ wantedA ops o ts = true ∧ evPan (evLim P Hn) i o ts ⟨den b0, m⟩ = some (v, ⟨den h', m'⟩) := by
  unfold jop at hb
  split at hb <;> try cases hb
  rename_i st hst
  split at hb <;> try cases hb
  rename_i bd hbd
  split at hb
  · cases hb
    rename_i hg
    have hw : wantedA ops o ts = true := by simp [wantedA, hg]
    obtain ⟨h1, h2⟩ := jbody_pan (i := i) hcf hbd (jsr_ok hI (wanted_gOn hw)) h
    exact ⟨h1, hw, h2⟩
  · rename_i j want hg
    split at hb <;> try cases hb
    rename_i g hgd
    have h0 := jsr_ok hI (g := none) trivial
    split at hb <;> cases hb
    · simp only at h
      cases hB : asB (g.get e) with
      | none => rw [hB] at h; cases h
      | ff => rw [hB] at h; cases h
      | tt =>
        rw [hB] at h
        have hw : wantedA ops o ts = true := by simp [wantedA, hg, jguard_ok hgd h0 (asB_tt hB)]
        obtain ⟨h1, h2⟩ := jbody_pan (i := i) hcf hbd (jsr_ok hI (wanted_gOn hw)) h
        exact ⟨h1, hw, h2⟩
    · simp only at h
      cases hB : asB (g.get e) with
      | none => rw [hB] at h; cases h
      | tt => rw [hB] at h; cases h
      | ff =>
        rw [hB] at h
        have hw : wantedA ops o ts = true := by simp [wantedA, hg, jguard_ok hgd h0 (asB_ff hB)]
        obtain ⟨h1, h2⟩ := jbody_pan (i := i) hcf hbd (jsr_ok hI (wanted_gOn hw)) h
        exact ⟨h1, hw, h2⟩

theorem jmove_ok {g : Option (Nat × Bool)} {i : Nat} {o : Oper} {d : Option Nat} {x : X1} (hx : jmove ks σ g o.op = some (d, x)) {e : E} {ts : List AV} (hI : SInv n ks ops σ e ts) (hg : gOn ops ts g) (s : HS) (cf : CallF) : evStep P fz cf i o ts s = some (x.get e, s) ∧ dOK d x := by
  have key : ∀ y, jlookO ks σ g y = some (d, x) → rho ts y = some (x.get e) ∧ dOK d x := by
    intro y hy
    cases y with
    | tmp t =>
      obtain ⟨h1, h2⟩ := jlook_ok hI hg hy
      exact ⟨congrArg some h1, h2⟩
    | const v =>
      simp only [jlookO] at hy
      split at hy <;> cases hy
      rename_i x hv
      exact ⟨hv, fun _ _ => rfl⟩
    | func f => cases hy; exact ⟨rfl, fun _ _ => rfl⟩
    | global _ => cases hy
  unfold jmove at hx
  split at hx
  · rename_i hop
    obtain ⟨h1, h2⟩ := key _ hx
    refine ⟨evStep_of ?_ (fun _ _ _ hc => by rw [hop] at hc; cases hc), h2⟩
    rw [hop]; simp [evOp, h1]
  · rename_i hop
    obtain ⟨h1, h2⟩ := key _ hx
    refine ⟨evStep_of ?_ (fun _ _ _ hc => by rw [hop] at hc; cases hc), h2⟩
    rw [hop]; simp [evOp, h1]
  · cases hx

theorem jmove_dep {g : Option (Nat × Bool)} {op : Op} {d : Option Nat} {x : X1} (hx : jmove ks σ g op = some (d, x)) {e : E} {ts : List AV} (hI : SInv n ks ops σ e ts) : dOK d x := by
  have key : ∀ y, jlookO ks σ g y = some (d, x) → dOK d x := by
    intro y hy
    cases y with
    | tmp t =>
      simp only [jlookO, jlook] at hy
      split at hy
      · rename_i r hr
        cases hy
        obtain ⟨f, hf, _, rfl, rfl, _⟩ := jfind_ok hr
        exact (hI.fw f hf).2
      · split at hy <;> try cases hy
        split at hy <;> cases hy
        rename_i hb
        exact ⟨Nat.le_of_ble_eq_true hb, fun _ => rfl⟩
    | const v =>
      simp only [jlookO] at hy
      split at hy <;> cases hy
      exact fun _ _ => rfl
    | func f => cases hy; exact fun _ _ => rfl
    | global _ => cases hy
  unfold jmove at hx
  split at hx
  · exact key _ hx
  · exact key _ hx
  · cases hx

theorem jelim_ok {i : Nat} {o : Oper} {f : FW} (hf : jelim n ks ops σ o = some f) {e : E} {ts : List AV} {b0 : BT} {m : Nat} (hI : SInv n ks ops σ e ts) : Came P Hn n ks fz ops (f :: nxt ks ops σ o.dst) i o ts ⟨den b0, m⟩ e b0 m := by
  unfold jelim at hf
  split at hf <;> try cases hf
  rename_i d hd
  split at hf <;> try cases hf
  rename_i hk hle hgh
  split at hf <;> cases hf
  rename_i dep x hx
  have hdn : d < n := Nat.le_of_ble_eq_true hle
  have hst : jset n ks (some d) = some ⟨fun e _ => e⟩ := by simp only [jset, hle, hk]
  have hlen : d < ts.length := by rw [hI.rel.len]; exact hdn
  rw [hd]
  cases hw : wantedA ops o ts with
  | true =>
    obtain ⟨h1, h2⟩ := jmove_ok (P := P) (fz := fz) (i := i) hx hI (wanted_gOn hw) ⟨den b0, m⟩ (evLim P Hn)
    refine .inl ⟨hw, _, h1, ?_⟩
    have := hI.set hst (x.get e)
    rw [hd]
    refine ⟨this.rel, fun f hf => ?_⟩
    rcases List.mem_cons.1 hf with rfl | hf
    · exact ⟨fun _ => by simp [putA, List.getD, hlen], h2⟩
    · exact this.fw f hf
  | false =>
    refine .inr ⟨hw, rfl, ?_⟩
    have := hI.set hst (.tup [])
    rw [hd]
    refine ⟨this.rel, fun f hf => ?_⟩
    rcases List.mem_cons.1 hf with rfl | hf
    · exact ⟨fun hon => absurd ((gOn_set hgh).1 hon) (wanted_off hw), jmove_dep hx hI⟩
    · exact this.fw f hf

/-- An operation panics, and may. -/
def Pans (P : Program) (Hn : Hints) (pk : Nat → Bool) (ops : Array Oper) (i : Nat) (o : Oper) (ts : List AV) (s : HS) (e : E) (out : Out) : Prop :=
  ∃ v h' m', pk i = true ∧ out = .pan v e h' m' ∧ wantedA ops o ts = true ∧ evPan (evLim P Hn) i o ts s = some (v, ⟨den h', m'⟩)

theorem jfast_ok (hcf : CFok P Hn cf) {pk : Nat → Bool} {i : Nat} {o : Oper} {k : J} {e : E} {ts : List AV} {b0 : BT} {m : Nat} (hI : SInv n ks ops σ e ts) {out : Out} (ho : out ≠ .none) (h : (jfast P n ks fz pk ops σ i o k).run cf e b0 m = out) :
    (∃ e' h' m', k.run cf e' h' m' = out ∧ Came P Hn n ks fz ops (next n ks ops σ o) i o ts ⟨den b0, m⟩ e' h' m') ∨ Pans P Hn pk ops i o ts ⟨den b0, m⟩ e out := by
  unfold jfast at h
  unfold next
  split at h
  · rename_i f hf
    exact .inl ⟨_, _, _, h, jelim_ok hf hI⟩
  · rename_i hf
    split at h
    · rename_i hg
      have hw : wantedA ops o ts = true := by simp [wantedA, hg]
      have h0 := jsr_ok hI (g := none) trivial
      split at h
      · exact absurd h.symm ho
      · rename_i st hst
        split at h
        · rename_i dd x hx
          exact .inl ⟨_, _, _, h, .inl ⟨hw, _, (jmove_ok hx hI trivial ⟨den b0, m⟩ _).1, hI.set hst _⟩⟩
        · split at h
          · rename_i g hgp
            simp only at h
            cases hv : g.get e b0 with
            | none => rw [hv] at h; exact absurd h.symm ho
            | some v =>
              rw [hv] at h
              exact .inl ⟨_, _, _, h, .inl ⟨hw, v, evStep_of (jpure_ok hgp h0 hv) (jpure_nb hgp), hI.set hst _⟩⟩
          · split at h
            · rename_i g hge
              simp only at h
              cases hv : g.go cf e b0 m with
              | none => rw [hv] at h; exact absurd h.symm ho
              | pan v h2 m2 => rw [hv] at h; exact absurd h.symm ho
              | some v h2 m2 =>
                rw [hv] at h
                exact .inl ⟨_, _, _, h, .inl ⟨hw, v, jeff_ok hge h0 hv, hI.set hst _⟩⟩
            · split at h
              · rename_i g hge
                simp only at h
                cases hv : g.go cf e b0 m with
                | none => rw [hv] at h; exact absurd h.symm ho
                | some v h2 m2 =>
                  rw [hv] at h
                  exact .inl ⟨_, _, _, h, .inl ⟨hw, v, jcallop_ok hge hcf h0 hv, hI.set hst _⟩⟩
                | pan v h2 m2 =>
                  rw [hv] at h
                  simp only at h
                  cases hp : pk i with
                  | false => rw [hp] at h; exact absurd h.symm ho
                  | true =>
                    rw [hp] at h
                    exact .inr ⟨v, h2, m2, hp, h.symm, hw, jcallop_pan hge hcf h0 hv⟩
              · exact absurd h.symm ho
    · split at h
      · rename_i b hb
        simp only at h
        cases hv : b.go cf e b0 m with
        | none => rw [hv] at h; exact absurd h.symm ho
        | some e' h' m' =>
          rw [hv] at h
          exact .inl ⟨_, _, _, h, jop_ok hcf hb hI hv⟩
        | pan v e' h' m' =>
          rw [hv] at h
          simp only at h
          obtain ⟨rfl, hw, hpn⟩ := jop_pan hcf hb hI hv
          cases hp : pk i with
          | false => rw [hp] at h; exact absurd h.symm ho
          | true =>
            rw [hp] at h
            exact .inr ⟨v, h', m', hp, h.symm, hw, hpn⟩
      · exact absurd h.symm ho

theorem jops_ok (hcf : CFok P Hn cf) {pk : Nat → Bool} {k : J} {out : Out} (ho : out ≠ .none) {Q : List AV → HS → Prop} {QP : Nat → AV → List AV → HS → Prop} (hk : ∀ e' ts' b' m', Rel n ks e' ts' → k.run cf e' b' m' = out → Q ts' ⟨den b', m'⟩)
    (hp : ∀ i v e' ts' b' m', Rel n ks e' ts' → pk i = true → out = .pan v e' b' m' → QP i v ts' ⟨den b', m'⟩) :
    ∀ {os : List Oper} {σ : List FW} {i : Nat} {e : E} {ts : List AV} {b0 : BT} {m : Nat} {pre : List HS}, SInv n ks ops σ e ts → (jops P n ks fz pk ops k os σ i).run cf e b0 m = out → OpsK P Hn fz ops i os ts ⟨den b0, m⟩ pre (fun T _ s' => Q T s') (fun i v T _ s' => QP i v T s')
  | [], σ, i, e, ts, b0, m, pre, hI, h => o_nil (hk _ _ _ _ hI.rel h)
  | o :: os, σ, i, e, ts, b0, m, pre, hI, h => by
    rcases jfast_ok hcf hI ho h with ⟨e', h', m', h2, hc⟩ | ⟨v, h', m', h1, h2, h3, h4⟩
    · rcases hc with ⟨hw, v, hs, hI'⟩ | ⟨hw, heq, hI'⟩
      · exact o_on hw ⟨v, ⟨den h', m'⟩, hs, jops_ok hcf ho hk hp hI' h2⟩
      · rw [heq]
        exact o_off hw (jops_ok hcf ho hk hp hI' h2)
    · exact o_pan h3 h4 (hp i v e ts h' m' hI.rel h1 h2)

theorem nxt_nil (dst : Option Tmp) : nxt ks ops [] dst = [] := by cases dst <;> rfl

/-- How a region that is looked through ends. -/
def PEnd (n ks : Nat) (out : PO) : List AV → List HS → HS → Prop := fun T q s' => ∃ e' h' m' ph, out = .some e' h' m' ph ∧ q = ph.map BS.hs ∧ s' = ⟨den h', m'⟩ ∧ Rel n ks e' T
def PPan (n ks : Nat) (out : PO) : Nat → AV → List AV → List HS → HS → Prop := fun i v T q s' => ∃ e' h' m' ph, out = .pan i v e' h' m' ph ∧ q = ph.map BS.hs ∧ s' = ⟨den h', m'⟩ ∧ Rel n ks e' T

theorem jopsP_ok (hcf : CFok P Hn cf) : ∀ {os : List Oper} {i : Nat} {r : JP} {e : E} {ts : List AV} {b0 : BT} {m : Nat} {pre : List BS} {out : PO}, jopsP P n ks fz ops os i = some r → Rel n ks e ts → out ≠ .none → r.go cf e b0 m pre = out →
    OpsK P Hn fz ops i os ts ⟨den b0, m⟩ (pre.map BS.hs) (PEnd n ks out) (PPan n ks out)
  | [], i, r, e, ts, b0, m, pre, out, hr0, hr, ho, h => by
    cases hr0
    subst h
    exact o_nil ⟨_, _, _, _, rfl, by rw [List.map_append]; rfl, rfl, hr⟩
  | o :: os, i, r, e, ts, b0, m, pre, out, hr0, hr, ho, h => by
    simp only [jopsP] at hr0
    split at hr0 <;> try cases hr0
    rename_i b hb
    split at hr0 <;> try cases hr0
    rename_i r2 hr2
    have hmap : (pre ++ [(⟨b0, m⟩ : BS)]).map BS.hs = pre.map BS.hs ++ [⟨den b0, m⟩] := by rw [List.map_append]; rfl
    split at hr0 <;> cases hr0
    · rename_i he
      simp only at h
      cases hv : b.go cf e b0 m with
      | none => rw [hv] at h; exact absurd h.symm ho
      | pan v e1 h1 m1 =>
        rw [hv] at h
        obtain ⟨rfl, hw, hp⟩ := jop_pan hcf hb (hr.sinv ops) hv
        exact o_pan hw hp ⟨_, _, _, _, h.symm, hmap.symm, rfl, hr⟩
      | some e1 h1 m1 =>
        rw [hv] at h
        rcases jop_ok hcf hb (hr.sinv ops) hv with ⟨hw, v, hs, hr'⟩ | ⟨hw, heq, hr'⟩
        · exact o_on hw ⟨v, ⟨den h1, m1⟩, hs, by rw [if_pos he, ← hmap]; exact jopsP_ok hcf hr2 hr'.rel ho h⟩
        · refine o_off hw ?_
          rw [if_pos he, ← hmap, heq]
          exact jopsP_ok hcf hr2 hr'.rel ho h
    · rename_i he
      simp only at h
      cases hv : b.go cf e b0 m with
      | none => rw [hv] at h; exact absurd h.symm ho
      | pan v e1 h1 m1 =>
        rw [hv] at h
        obtain ⟨rfl, hw, hp⟩ := jop_pan hcf hb (hr.sinv ops) hv
        exact o_pan hw hp ⟨_, _, _, _, h.symm, hmap.symm, rfl, hr⟩
      | some e1 h1 m1 =>
        rw [hv] at h
        rcases jop_ok hcf hb (hr.sinv ops) hv with ⟨hw, v, hs, hr'⟩ | ⟨hw, heq, hr'⟩
        · exact o_on hw ⟨v, ⟨den h1, m1⟩, hs, by rw [he]; exact jopsP_ok hcf hr2 hr'.rel ho h⟩
        · refine o_off hw ?_
          rw [he, heq]
          exact jopsP_ok hcf hr2 hr'.rel ho h

theorem jopsX_ok (hcf : CFok P Hn cf) {nn : Nat} : ∀ {os : List Oper} {i : Nat} {r : JT} {e e' : E} {ts : List AV} {b0 b1 : BT} {m m1 : Nat}, jopsX P n ks fz ops nn os i = some r → Rel n ks e ts → r.go cf e b0 m = .some e' b1 m1 →
    ∃ T, runR (stepX (evStep P fz (evLim P Hn)) ops nn) (effX (effR fz) ops nn) ops i os ts ⟨den b0, m⟩ = some (T, [⟨den b0, m⟩]) ∧ Rel n ks e' T
  | [], i, r, e, e', ts, b0, b1, m, m1, hr0, hr, h => by
    cases hr0
    cases h
    exact ⟨ts, rfl, hr⟩
  | o :: os, i, r, e, e', ts, b0, b1, m, m1, hr0, hr, h => by
    simp only [jopsX] at hr0
    split at hr0
    · rename_i hw
      split at hr0 <;> cases hr0
      rename_i st r2 hst hr2
      obtain ⟨T, h1, h2⟩ := jopsX_ok hcf hr2 (hr.set hst (.tup [])) h
      refine ⟨T, ?_, h2⟩
      have he : effX (effR fz) ops nn i o = false := by simp only [effX, hw, if_true]
      unfold runR
      split
      · simp only [stepX, hw, if_true, h1, he, Bool.false_eq_true, if_false]
      · simp only [h1, he, Bool.false_eq_true, if_false]
    · rename_i hw
      split at hr0
      · cases hr0
      rename_i hef
      split at hr0 <;> cases hr0
      rename_i b r2 hb hr2
      have he : effX (effR fz) ops nn i o = false := by simp only [effX, hw, Bool.false_eq_true, if_false, hef]
      simp only at h
      cases hv : b.go cf e b0 m with
      | none => rw [hv] at h; cases h
      | pan v e1 h1 m1 => rw [hv] at h; cases h
      | some e1 h1 m1 =>
        rw [hv] at h
        rcases jop_ok hcf hb (hr.sinv ops) hv with ⟨hwt, v, hs, hr'⟩ | ⟨hwt, heq, hr'⟩
        · obtain ⟨T, k1, k2⟩ := jopsX_ok hcf hr2 hr'.rel h
          have hst : (⟨den h1, m1⟩ : HS) = ⟨den b0, m⟩ := (step_laws P fz (evLim P Hn)).still i o ts _ v _ hef hs
          rw [hst] at k1 hs
          refine ⟨T, ?_, k2⟩
          unfold runR
          rw [if_pos hwt]
          simp only [stepX, hw, Bool.false_eq_true, if_false, hs, k1, he]
        · obtain ⟨T, k1, k2⟩ := jopsX_ok hcf hr2 hr'.rel h
          rw [← heq] at k1
          refine ⟨T, ?_, k2⟩
          unfold runR
          rw [if_neg (by rw [hwt]; simp)]
          simp only [k1, he, Bool.false_eq_true, if_false]

end

/-! ### the same value -/
noncomputable def allEq (eq : AV → AV → Bool) (a : List AV) : List AV → Bool := List.rec (fun b => List.rec true (fun _ _ _ => false) b) (fun x _ ih b => List.rec false (fun y b _ => Bool.rec false (ih b) (eq x y)) b) a
theorem allEq_eq {eq : AV → AV → Bool} (he : ∀ x y, eq x y = true → x = y) : ∀ {a b : List AV}, allEq eq a b = true → a = b
  | [], [], h => rfl
  | [], y :: b, h => by cases h
  | x :: a, [], h => by cases h
  | x :: a, y :: b, h => by
    change (Bool.rec false (allEq eq a b) (eq x y) : Bool) = true at h
    cases hx : eq x y with
    | false => rw [hx] at h; cases h
    | true => rw [hx] at h; rw [he _ _ hx, allEq_eq he h]

noncomputable def rowsEq (eq : AV → AV → Bool) (a : List (List AV)) : List (List AV) → Bool := List.rec (fun b => List.rec true (fun _ _ _ => false) b) (fun x _ ih b => List.rec false (fun y b _ => Bool.rec false (ih b) (allEq eq x y)) b) a
theorem rowsEq_eq {eq : AV → AV → Bool} (he : ∀ x y, eq x y = true → x = y) : ∀ {a b : List (List AV)}, rowsEq eq a b = true → a = b
  | [], [], h => rfl
  | [], y :: b, h => by cases h
  | x :: a, [], h => by cases h
  | x :: a, y :: b, h => by
    change (Bool.rec false (rowsEq eq a b) (allEq eq x y) : Bool) = true at h
    cases hx : allEq eq x y with
    | false => rw [hx] at h; cases h
    | true => rw [hx] at h; rw [allEq_eq he hx, rowsEq_eq he h]

noncomputable def avEq : Nat → AV → AV → Bool
  | 0, _, _ => false
  | f + 1, x, y => match x, y with
    | .bool a, .bool b => Bool.rec (not b) b a
    | .int k a, .int k' b => kEq k k' && feq a b
    | .str a, .str b => seq a b
    | .nilp, .nilp => true
    | .ptr a b, .ptr c d => Nat.beq a c && Nat.beq b d
    | .nils, .nils => true
    | .sl a b c d, .sl a' b' c' d' => Nat.beq a a' && Nat.beq b b' && Nat.beq c c' && Nat.beq d d'
    | .nilm, .nilm => true
    | .map a, .map b => Nat.beq a b
    | .nilf, .nilf => true
    | .clo (.func a) xs cs, .clo (.func b) ys ds => Nat.beq a b && allEq (avEq f) xs ys && allEq (avEq f) cs ds
    | .nili, .nili => true
    | .fptr xs, .fptr ys => allEq (avEq f) xs ys
    | .fsl xs, .fsl ys => rowsEq (avEq f) xs ys
    | .iface t x, .iface u y => Nat.beq t u && avEq f x y
    | .agg xs, .agg ys => allEq (avEq f) xs ys
    | .tup xs, .tup ys => allEq (avEq f) xs ys
    | _, _ => false

theorem avEq_eq : ∀ f x y, avEq f x y = true → x = y
  | 0, x, y, h => by simp [avEq] at h
  | f + 1, x, y, h => by
    have ih := avEq_eq f
    unfold avEq at h
    split at h
    · rename_i a b; cases a <;> cases b <;> first | rfl | cases h
    · simp only [Bool.and_eq_true] at h
      rw [feq_eq] at h
      rw [kEq_eq h.1, beq_iff_eq.1 h.2]
    · rw [seq_eq] at h; rw [beq_iff_eq.1 h]
    · rfl
    · simp only [Bool.and_eq_true, Nat.beq_eq] at h; rw [h.1, h.2]
    · rfl
    · simp only [Bool.and_eq_true, Nat.beq_eq] at h; rw [h.1.1.1, h.1.1.2, h.1.2, h.2]
    · rfl
    · simp only [Nat.beq_eq] at h; rw [h]
    · rfl
    · simp only [Bool.and_eq_true, Nat.beq_eq] at h; rw [h.1.1, allEq_eq ih h.1.2, allEq_eq ih h.2]
    · rfl
    · rw [allEq_eq ih h]
    · rw [rowsEq_eq ih h]
    · simp only [Bool.and_eq_true, Nat.beq_eq] at h; rw [h.1, ih _ _ h.2]
    · rw [allEq_eq ih h]
    · rw [allEq_eq ih h]
    · cases h

/-! ### a region's checks -/
section
variable (P : Program) (ks : Nat)

noncomputable def jchk (fz : Nat → Bool) (ops : Array Oper) (c : Nat × Nat) : Option JC :=
  match ops[c.1]? with
  | some o => match jpure P (jsr ks [] none) o.op, o.dst with
    | some g, some d => match jsr ks [] none d with
      | some xd => match o.guard with
        | none => some ⟨fun e ph => Option.rec false (fun s => Option.rec false (fun v => avEq 6 v (xd.get e)) (g.get e (BS.h s))) (lget ph c.2)⟩
        | some (j, true) => match jguard (jsr ks [] none) ops j with
          | some w => some ⟨fun e ph => OB.rec true (Option.rec false (fun s => Option.rec false (fun v => avEq 6 v (xd.get e)) (g.get e (BS.h s))) (lget ph c.2)) true (asB (w.get e))⟩
          | none => none
        | some (j, false) => match jguard (jsr ks [] none) ops j with
          | some w => some ⟨fun e ph => OB.rec true true (Option.rec false (fun s => Option.rec false (fun v => avEq 6 v (xd.get e)) (g.get e (BS.h s))) (lget ph c.2)) (asB (w.get e))⟩
          | none => none
      | none => none
    | _, _ => none
  | none => none

noncomputable def jchks (fz : Nat → Bool) (ops : Array Oper) : List (Nat × Nat) → Option JC
  | [] => some ⟨fun _ _ => true⟩
  | c :: cs => match jchk P ks fz ops c, jchks fz ops cs with
    | some a, some b => some ⟨fun e ph => Bool.rec false (b.ok e ph) (a.ok e ph)⟩
    | _, _ => none
end

section
variable {P : Program} {Hn : Hints} {ks : Nat} {fz : Nat → Bool} {ops : Array Oper}

theorem chk_core {o : Oper} {i q d : Nat} {ρ : SR} {g : VG} {xd : X1} {e : E} {T : List AV} {ph : List BS} {cf : CallF} (hg : jpure P ρ o.op = some g) (hd : o.dst = some d) (hxd : ρ d = some xd) (hr : RhoOK ρ e T)
    (h : (Option.rec false (fun s => Option.rec false (fun v => avEq 6 v (xd.get e)) (g.get e (BS.h s))) (lget ph q) : Bool) = true) :
    (match (ph.map BS.hs)[q]? with
      | some sq => match evStep P fz cf i o T sq with
        | some (v, sq') => sq' = sq ∧ match o.dst with
          | some d => d < T.length → slot T d = v
          | none => True
        | none => False
      | none => False) := by
  rw [lget_eq] at h
  rw [List.getElem?_map]
  cases hq : ph[q]? with
  | none => rw [hq] at h; cases h
  | some sq =>
    rw [hq] at h
    simp only at h
    cases hv : g.get e sq.h with
    | none => rw [hv] at h; cases h
    | some v =>
      rw [hv] at h
      simp only at h
      have hst : evStep P fz cf i o T sq.hs = some (v, sq.hs) := evStep_of (jpure_ok hg hr hv) (jpure_nb hg)
      simp only [Option.map_some, hst, hd]
      refine ⟨trivial, fun _ => ?_⟩
      have := hr d xd hxd
      rw [avEq_eq _ _ _ h]
      simpa [slot] using this

theorem jchk_ok {c : Nat × Nat} {t : JC} (ht : jchk P ks fz ops c = some t) {e : E} {T : List AV} {ph : List BS} (hr : RhoOK (jsr ks [] none) e T) (h : t.ok e ph = true) (cf : CallF) :
    (match ops[c.1]? with
    | some o => wantedA ops o T = true → match (ph.map BS.hs)[c.2]? with
      | some sq => match evStep P fz cf c.1 o T sq with
        | some (v, sq') => sq' = sq ∧ match o.dst with
          | some d => d < T.length → slot T d = v
          | none => True
        | none => False
      | none => False
    | none => False) := by
  unfold jchk at ht
  split at ht <;> try cases ht
  rename_i o ho
  split at ht <;> try cases ht
  rename_i g d hg hd
  split at ht <;> try cases ht
  rename_i xd hxd
  split at ht
  · cases ht
    exact fun _ => chk_core hg hd hxd hr h
  · rename_i j hgd
    split at ht <;> cases ht
    rename_i w hw
    simp only at h
    cases hB : asB (w.get e) with
    | none =>
      intro hwant
      simp [wantedA, hgd, jguard_no hw hr hB] at hwant
    | tt => rw [hB] at h; exact fun _ => chk_core hg hd hxd hr h
    | ff =>
      intro hwant
      simp [wantedA, hgd, jguard_ok hw hr (asB_ff hB)] at hwant
  · rename_i j hgd
    split at ht <;> cases ht
    rename_i w hw
    simp only at h
    cases hB : asB (w.get e) with
    | none =>
      intro hwant
      simp [wantedA, hgd, jguard_no hw hr hB] at hwant
    | ff => rw [hB] at h; exact fun _ => chk_core hg hd hxd hr h
    | tt =>
      intro hwant
      simp [wantedA, hgd, jguard_ok hw hr (asB_tt hB)] at hwant

theorem jchks_ok {e : E} {T : List AV} {ph : List BS} (hr : RhoOK (jsr ks [] none) e T) (cf : CallF) : ∀ {cs : List (Nat × Nat)} {t : JC}, jchks P ks fz ops cs = some t → t.ok e ph = true → StabL P fz cf ops T (ph.map BS.hs) cs
  | [], t, ht, h => trivial
  | (i, q) :: cs, t, ht, h => by
    simp only [jchks] at ht
    split at ht <;> cases ht
    rename_i a b ha hb
    simp only at h
    cases hx : a.ok e ph with
    | false => rw [hx] at h; cases h
    | true =>
      rw [hx] at h
      exact ⟨jchk_ok ha hr hx cf, jchks_ok hr cf hb h⟩
end
end Go.Ev
