/- Calls made ready for the kernel. -/
import Derived.Test.YtinngopfgdfdbaaGreatDoorEv23D
set_option linter.unusedVariables false
set_option linter.unusedSimpArgs false
namespace Go.Ev

noncomputable def lgetD (l : List AV) : Nat → AV := List.rec (fun _ => .tup []) (fun x _ ih n => Nat.rec x (fun m _ => ih m) n) l
theorem lgetD_eq : ∀ (l : List AV) (n : Nat), lgetD l n = l.getD n (.tup [])
  | [], n => rfl
  | x :: l, 0 => rfl
  | x :: l, n + 1 => by
    change lgetD l n = _
    rw [lgetD_eq l n]; rfl

theorem e0_get (i : Nat) (h : i < 16) : (g16 i).get e0 = .tup [] := by
  rcases i with _ | _ | _ | _ | _ | _ | _ | _ | _ | _ | _ | _ | _ | _ | _ | _ | i
  all_goals first | rfl | (exfalso; omega)

theorem initE_get (l : List AV) (hl : l.length ≤ 16) (i : Nat) (hi : i < 256) : (gg i).get (initE l) = l.getD i (.tup []) := by
  rw [(gg_gh i hi).1]
  simp only [gh]
  by_cases h : i < 16
  · have h0 : i / 16 = 0 := by omega
    have h1 : i % 16 = i := by omega
    rw [h0, h1]
    exact initR_get l i h
  · have hd : l.getD i (.tup []) = .tup [] := by
      have : l.length ≤ i := by omega
      simp [List.getD, this]
    rw [hd]
    have he : (g16 (i / 16)).get (initE l) = e0 := by
      have h1 : 1 ≤ i / 16 := by omega
      have h2 : i / 16 < 16 := by omega
      generalize i / 16 = j at h1 h2
      rcases j with _ | _ | _ | _ | _ | _ | _ | _ | _ | _ | _ | _ | _ | _ | _ | _ | j
      all_goals first | rfl | (exfalso; omega)
    rw [he]
    exact e0_get _ (by omega)

theorem initE_rel {n ks : Nat} (l : List AV) (hl : l.length ≤ 16) (hln : l.length ≤ n) : Rel n ks (initE l) (l ++ List.replicate (n - l.length) (.tup [])) := by
  refine ⟨by simp; omega, fun i s hi hs => ?_⟩
  rw [initE_get l hl s hs]
  simp only [List.getD]
  obtain ⟨_, ⟨_, rfl⟩ | ⟨hge, _, h16, _⟩⟩ := kix_cases hi
  rotate_left
  · rw [List.getElem?_append_right (by omega), List.getElem?_replicate, show l[s]? = none from List.getElem?_eq_none (by omega)]
    split <;> rfl
  have hrep : ∀ {j m : Nat}, ((List.replicate m (AV.tup []))[j]?).getD (.tup []) = .tup [] := by
    intro j m
    rw [List.getElem?_replicate]
    split <;> rfl
  rcases Nat.lt_or_ge s l.length with h | h
  · rw [List.getElem?_append_left h]
  · rw [List.getElem?_append_right h, hrep]
    rw [List.getElem?_eq_none h]; rfl

/-! ### results -/
structure JR where
  get : E → BT → Option AV
structure JRs where
  get : E → BT → Option (List AV)

noncomputable def jresult (P : Program) (ρ : SR) : ResultVar → Option JR
  | .tmp t => match ρ t with
    | some x => some ⟨fun e _ => some (x.get e)⟩
    | none => none
  | .cell a t => match ρ a with
    | some x => match jagg P t with
      | true => some ⟨fun e h => load1 P h t (x.get e)⟩
      | false => some ⟨fun e h => evLoad P (den h) t (x.get e)⟩
    | none => none

theorem jresult_ok {P : Program} {ρ : SR} {r : ResultVar} {g : JR} (hg : jresult P ρ r = some g) {e : E} {ts : List AV} (hr : RhoOK ρ e ts) {b : BT} {m : Nat} {v : AV} (h : g.get e b = some v) : evResult P ⟨den b, m⟩ ts r = some v := by
  cases r with
  | tmp t =>
    simp only [jresult] at hg
    split at hg <;> cases hg
    rename_i x hx
    cases h
    simp only [evResult, slot]
    rw [hr t x hx]
  | cell a t =>
    simp only [jresult] at hg
    split at hg <;> try cases hg
    rename_i x hx
    have hs : slot ts a = x.get e := by simp only [slot]; rw [hr a x hx]
    split at hg <;> cases hg
    · rename_i hj
      simp only at h
      simp only [evResult, hs]
      exact load1_ok (jagg_ok hj) h
    · simp only [evResult, hs]
      exact h

noncomputable def jresultL (P : Program) (n : SR) : List ResultVar → Option JRs
  | [] => some ⟨fun _ _ => some []⟩
  | r :: rs => match jresult P n r, jresultL P n rs with
    | some a, some b => some ⟨fun e h => Option.rec none (fun x => Option.rec none (fun xs => some (x :: xs)) (b.get e h)) (a.get e h)⟩
    | _, _ => none

theorem jresultL_ok {P : Program} {n : SR} {e : E} {ts : List AV} (hr : RhoOK n e ts) {b : BT} {m : Nat} : ∀ {rs : List ResultVar} {g : JRs} {v : List AV}, jresultL P n rs = some g → g.get e b = some v → mapO (evResult P ⟨den b, m⟩ ts) rs = some v
  | [], g, v, hg, h => by cases hg; cases h; rfl
  | r :: rs, g, v, hg, h => by
    simp only [jresultL] at hg
    split at hg <;> cases hg
    rename_i a c ha hb
    simp only at h
    cases hx : a.get e b with
    | none => rw [hx] at h; cases h
    | some x =>
      rw [hx] at h
      simp only at h
      cases hxs : c.get e b with
      | none => rw [hxs] at h; cases h
      | some xs =>
        rw [hxs] at h
        cases h
        simp only [mapO, jresult_ok ha hr hx, jresultL_ok hr hb hxs]

noncomputable def jresults (P : Program) (n : SR) (rs : List ResultVar) : Option JR :=
  match rs with
  | [r] => jresult P n r
  | rs => match jresultL P n rs with
    | some g => some ⟨fun e h => Option.rec none (fun xs => some (.tup xs)) (g.get e h)⟩
    | none => none

theorem jresults_ok {P : Program} {fn : Func} {n : SR} {g : JR} (hg : jresults P n fn.results.toList = some g) {e : E} {ts : List AV} (hr : RhoOK n e ts) {b : BT} {m : Nat} {v : AV} (h : g.get e b = some v) : evResults P fn ⟨den b, m⟩ ts = some v := by
  unfold jresults at hg
  unfold evResults
  split at hg
  · rename_i r hrs
    rw [hrs]
    exact jresult_ok hg hr h
  · rename_i rs' hne
    split at hg <;> cases hg
    rename_i g' hg'
    simp only at h
    cases hx : g'.get e b with
    | none => rw [hx] at h; cases h
    | some xs =>
      rw [hx] at h
      cases h
      simp only [jresultL_ok hr hg' hx, Option.map_some]

/-! ### calls -/
structure JF where
  run : CF → List AV → BT → Nat → CO

/-- All stays as it is behind a call. -/
abbrev Tab := List (Nat × List AV × AV)
/-- The same arguments? The last ones are looked at first. -/
noncomputable def argsEq (a : List AV) : List AV → Bool := List.rec (fun b => List.rec true (fun _ _ _ => false) b) (fun x _ ih b => List.rec false (fun y b _ => Bool.rec false (avEq 16 x y) (ih b)) b) a
theorem argsEq_eq : ∀ {a b : List AV}, argsEq a b = true → a = b
  | [], [], h => rfl
  | [], y :: b, h => by cases h
  | x :: a, [], h => by cases h
  | x :: a, y :: b, h => by
    change (Bool.rec false (avEq 16 x y) (argsEq a b) : Bool) = true at h
    cases hx : argsEq a b with
    | false => rw [hx] at h; cases h
    | true => rw [hx] at h; rw [avEq_eq _ _ _ h, argsEq_eq hx]
noncomputable def look (l : Tab) (args : List AV) : Option AV := List.rec none (fun x _ ih => Bool.rec ih (some x.2.2) (argsEq args x.2.1)) l
noncomputable def ofG (l : Tab) (g : Nat) : Tab := List.rec [] (fun x _ ih => Bool.rec ih (x :: ih) (Nat.beq x.1 g)) l

theorem look_mem : ∀ {l : Tab} {args : List AV} {v : AV}, look l args = some v → ∃ x ∈ l, args = x.2.1 ∧ x.2.2 = v
  | [], args, v, h => by cases h
  | x :: l, args, v, h => by
    change (Bool.rec (look l args) (some x.2.2) (argsEq args x.2.1) : Option AV) = some v at h
    cases he : argsEq args x.2.1 with
    | true =>
      rw [he] at h
      cases h
      exact ⟨x, .head _, argsEq_eq he, rfl⟩
    | false =>
      rw [he] at h
      obtain ⟨y, hy, h1⟩ := look_mem (l := l) h
      exact ⟨y, .tail _ hy, h1⟩

theorem ofG_mem : ∀ {l : Tab} {g : Nat} {x : Nat × List AV × AV}, x ∈ ofG l g → x ∈ l ∧ x.1 = g
  | [], g, x, h => by cases h
  | y :: l, g, x, h => by
    change x ∈ (Bool.rec (ofG l g) (y :: ofG l g) (Nat.beq y.1 g) : Tab) at h
    cases he : Nat.beq y.1 g with
    | true =>
      rw [he] at h
      rcases List.mem_cons.1 h with h | h
      · subst h; exact ⟨.head _, Nat.eq_of_beq_eq_true he⟩
      · exact ⟨.tail _ (ofG_mem h).1, (ofG_mem h).2⟩
    | false =>
      rw [he] at h
      exact ⟨.tail _ (ofG_mem h).1, (ofG_mem h).2⟩

/-! ### calls with plain arguments, and are known -/
noncomputable def flatEq (a b : AV) : Bool := Option.rec (OI.rec false (fun k n => OI.rec false (fun k' n' => Bool.rec false (feq n n') (kEq k k')) (asI b)) (asI a)) (fun x => Option.rec false (fun y => seq x y) (asS b)) (asS a)
theorem flatEq_eq {a b : AV} (h : flatEq a b = true) : a = b := by
  unfold flatEq at h
  cases ha : asS a with
  | some x =>
    rw [ha] at h
    simp only at h
    cases hb : asS b with
    | none => rw [hb] at h; cases h
    | some y =>
      rw [hb] at h
      simp only at h
      rw [seq_eq] at h
      rw [asS_eq ha, asS_eq hb, beq_iff_eq.1 h]
  | none =>
    rw [ha] at h
    simp only at h
    cases hi : asI a with
    | none => rw [hi] at h; cases h
    | some k n =>
      rw [hi] at h
      simp only at h
      cases hj : asI b with
      | none => rw [hj] at h; cases h
      | some k' n' =>
        rw [hj] at h
        simp only at h
        cases hk : kEq k k' with
        | false => rw [hk] at h; cases h
        | true =>
          rw [hk] at h
          simp only at h
          rw [feq_eq] at h
          rw [asI_eq hi, asI_eq hj, kEq_eq hk, beq_iff_eq.1 h]

noncomputable def flatsEq (a : List AV) : List AV → Bool := List.rec (fun b => List.rec true (fun _ _ _ => false) b) (fun x _ ih b => List.rec false (fun y b _ => Bool.rec false (ih b) (flatEq x y)) b) a
theorem flatsEq_eq : ∀ {a b : List AV}, flatsEq a b = true → a = b
  | [], [], h => rfl
  | [], y :: b, h => by cases h
  | x :: a, [], h => by cases h
  | x :: a, y :: b, h => by
    change (Bool.rec false (flatsEq a b) (flatEq x y) : Bool) = true at h
    cases hx : flatEq x y with
    | false => rw [hx] at h; cases h
    | true => rw [hx] at h; rw [flatEq_eq hx, flatsEq_eq h]

abbrev Grp := List (AV × List (List AV × AV))
noncomputable def lookR (l : List (List AV × AV)) (r : List AV) : Option AV := List.rec none (fun x _ ih => Bool.rec ih (some x.2) (flatsEq r x.1)) l
noncomputable def lookG (l : Grp) (args : List AV) : Option AV := List.rec none (fun a r _ => List.rec none (fun x _ ih => Bool.rec ih (lookR x.2 r) (flatEq a x.1)) l) args
noncomputable def ofP (l : List (Nat × Grp)) (g : Nat) : Grp := List.rec [] (fun x _ ih => Bool.rec ih x.2 (Nat.beq x.1 g)) l

theorem lookR_mem : ∀ {l : List (List AV × AV)} {r : List AV} {v : AV}, lookR l r = some v → ∃ x ∈ l, r = x.1 ∧ x.2 = v
  | [], r, v, h => by cases h
  | x :: l, r, v, h => by
    change (Bool.rec (lookR l r) (some x.2) (flatsEq r x.1) : Option AV) = some v at h
    cases he : flatsEq r x.1 with
    | true => rw [he] at h; cases h; exact ⟨x, .head _, flatsEq_eq he, rfl⟩
    | false =>
      rw [he] at h
      obtain ⟨y, hy, h1⟩ := lookR_mem (l := l) h
      exact ⟨y, .tail _ hy, h1⟩

theorem lookG_mem {l : Grp} {args : List AV} {v : AV} (h : lookG l args = some v) : ∃ y ∈ l, ∃ x ∈ y.2, args = y.1 :: x.1 ∧ x.2 = v := by
  cases args with
  | nil => cases h
  | cons a r =>
    induction l with
    | nil => cases h
    | cons y l ih =>
      change (Bool.rec (lookG l (a :: r)) (lookR y.2 r) (flatEq a y.1) : Option AV) = some v at h
      cases he : flatEq a y.1 with
      | true =>
        rw [he] at h
        obtain ⟨x, hx, h1, h2⟩ := lookR_mem h
        exact ⟨y, .head _, x, hx, by rw [flatEq_eq he, h1], h2⟩
      | false =>
        rw [he] at h
        obtain ⟨z, hz, h1⟩ := ih h
        exact ⟨z, .tail _ hz, h1⟩

theorem ofP_mem : ∀ {l : List (Nat × Grp)} {g : Nat}, ofP l g = [] ∨ ∃ x ∈ l, x.1 = g ∧ ofP l g = x.2
  | [], g => .inl rfl
  | x :: l, g => by
    change ((Bool.rec (ofP l g) x.2 (Nat.beq x.1 g) : Grp) = []) ∨ _
    cases he : Nat.beq x.1 g with
    | true => exact .inr ⟨x, .head _, Nat.eq_of_beq_eq_true he, by change (Bool.rec (ofP l g) x.2 (Nat.beq x.1 g) : Grp) = _; rw [he]⟩
    | false =>
      have : ofP (x :: l) g = ofP l g := by change (Bool.rec (ofP l g) x.2 (Nat.beq x.1 g) : Grp) = _; rw [he]
      rcases ofP_mem (l := l) (g := g) with h | ⟨y, hy, h1, h2⟩
      · exact .inl h
      · exact .inr ⟨y, .tail _ hy, h1, by rw [this]; exact h2⟩

/-- What is known of a call. -/
noncomputable def known (gr : Grp) (l : Tab) (args : List AV) : Option AV := Option.rec (look l args) (fun v => some v) (lookG gr args)

noncomputable def Hints.plain (fz : FuncId → Nat → Nat → Bool) (pt : List (Nat × Grp)) (tab : Tab) : Hints := ⟨fz, fun _ _ _ _ _ => true, fun _ => false, fun _ _ _ _ _ => false, fun g args => known (ofP pt g) (ofG tab g) args⟩

/-! ### calls of functions that defer one -/
inductive OutU where
  | none
  | some (h : BT) (m : Nat) (u : DM)
structure JU where
  run : CF → List AV → BT → Nat → DM → OutU

/-- A deferred call, made. -/
noncomputable def jdef (P : Program) (fz : FuncId → Nat → Nat → Bool) (g : Nat) : JU :=
  match P.funcs[g]? with
  | some fn => match fn.body, jresults P (jsr ksAll [] none) fn.results.toList with
    | some c, some r => ⟨fun cf args h m u => Bool.rec .none (Bool.rec .none
        (OutD.rec .none (fun e h m u => Option.rec .none (fun _ => .some h m u) (r.get e h)) (fun e h m u => Option.rec .none (fun _ => .some h m u) (r.get e h)) ((jD P fn.ntmps (fz g) c).run cf (initE args) h m u))
        (Nat.ble args.length fn.ntmps)) (Nat.ble args.length 16)⟩
    | _, _ => ⟨fun _ _ _ _ _ => .none⟩
  | none => ⟨fun _ _ _ _ _ => .none⟩

def isDefd (k : Option Blk) : Bool := match k with
  | some (.defd true) => true
  | _ => false
theorem isDefd_eq {k : Option Blk} (h : isDefd k = true) : k = some (.defd true) := by
  unfold isDefd at h
  split at h
  · rfl
  · cases h

/-- The mark of a loop is come to; then this. -/
noncomputable def jclose (id : Nat) (h : BT) (k : BT → CO) : CO := Bool.rec .none (Bool.rec .none (k (hput h id (.raw (some (.defd false))))) (isDefd (den h id))) (Nat.ble (id + 1) 65536)

noncomputable def resF (r : JR) (e : E) (h : BT) (m : Nat) : CO := Option.rec .none (fun v => Bool.rec (.some v h m) .none (isPanF v)) (r.get e h)

/-- The function returns. -/
noncomputable def jdone (P : Program) (fz : FuncId → Nat → Nat → Bool) (r : JR) (cf : CF) (e : E) (h : BT) (m : Nat) (d : DSt) : CO :=
  DSt.rec (resF r e h m) (fun g args => OutU.rec .none (fun h2 m2 u => DM.rec (resF r e h2 m2) (fun _ => .none) .none u) ((jdef P fz g).run cf args h m .ret)) (fun id => jclose id h fun h2 => resF r e h2 m) d

/-- The function panics. -/
noncomputable def jpans (P : Program) (fz : FuncId → Nat → Nat → Bool) (r : JR) (cf : CF) (v : AV) (e : E) (h : BT) (m : Nat) (d : DSt) : CO :=
  DSt.rec (.pan v h m) (fun g args => OutU.rec .none (fun h2 m2 u => DM.rec .none (fun v' => .pan v' h2 m2) (resF r e h2 m2) u) ((jdef P fz g).run cf args h m (.pan v))) (fun id => jclose id h fun h2 => .pan v h2 m) d

noncomputable def jdefer (P : Program) (fz : FuncId → Nat → Nat → Bool) (g : Nat) (fn : Func) (c : Code) (r : JR) : JF :=
  ⟨fun cf args h m => Bool.rec .none (Bool.rec .none
    (OutE.rec .none (fun e h m d => jdone P fz r cf e h m d) (fun _ _ _ _ _ => .none) (fun e h m d => jdone P fz r cf e h m d) (fun v e h m d => jpans P fz r cf v e h m d) ((jE P fn.ntmps g (fz g) (resSlots fn) c).run cf (initE args) h m .none))
    (Nat.ble args.length fn.ntmps)) (Nat.ble args.length 16)⟩

/-! ### rounds of loops over functions -/
/-- Behind a round. -/
noncomputable def jleft (id : Nat) (j : Option Code) (b : Bool) (h : BT) (put : BT → Nat → FB → BT) (m : Nat) : CO := match aLoop (den h id) with
  | none => .none
  | some ⟨st, pend, f, ts, ps, asg, body⟩ => match b with
    | true => .some (.bool true) (put h id (.raw (some (.loop ⟨.ready, j, f, ts, ps, asg, body⟩)))) m
    | false => .some (.bool false) (put h id (.raw (some (.loop ⟨.done, j, f, ts, ps, asg, body⟩)))) m

noncomputable def jround1 (P : Program) (fz : FuncId → Nat → Nat → Bool) (cf : CF) (id : Nat) (vs : List AV) (h : BT) (m : Nat) : CO := match aLoop (den h id) with
  | none => .none
  | some ⟨st, pend, f, ts, ps, asg, body⟩ => match P.funcs[f]? with
    | none => .none
    | some fn => Bool.rec .none (Bool.rec .none (Bool.rec .none (Bool.rec .none (Bool.rec .none
        (Out.rec .none (fun e1 h1 m1 => match aLoop (den h1 id) with
          | none => .none
          | some ⟨st1, pend1, f1, ts1, ps1, asg1, body1⟩ => match stReady st1 with
            | false => .none
            | true => Out.rec .none (fun _ h2 m2 => jleft id none true h2 hput m2) (fun k _ h2 m2 => jleft id (some (.exit k)) false h2 hput m2) (fun _ h2 m2 => jleft id (some .ret) false h2 hput m2) (fun _ _ _ _ => .none)
              ((jcode P fn.ntmps ksAll (fz f) [] body jend).run cf e1 (hput h1 id (.raw (some (.loop ⟨.busy, pend1, f1, ts1, ps1, asg1, body1⟩)))) m1))
          (fun _ _ _ _ => .none) (fun _ _ _ => .none) (fun _ _ _ _ => .none)
          ((jcode P fn.ntmps ksAll (fz f) [] asg jend).run cf (initF (setPs ps.toList vs ts)) h m))
        (Nat.beq ts.length fn.ntmps)) (Nat.beq vs.length ps.size)) (codeOk (fz f) asg)) (codeOk (fz f) body)) (Nat.ble (id + 1) 65536)

noncomputable def jround (P : Program) (fz : FuncId → Nat → Nat → Bool) : JF := ⟨fun cf args h m => match args with
  | .pan (.yld id) :: vs => jround1 P fz cf id vs h m
  | _ => .none⟩

noncomputable def jfunc (P : Program) (fz : FuncId → Nat → Nat → Bool) (kp : Nat → Nat) (g : Nat) : JF :=
  match P.funcs[g]? with
  | some fn => match fn.body, jresults P (jsr (kp g) [] none) fn.results.toList with
    | some c, some r => match defers c with
     | true => match jresults P (jsr ksAll [] none) fn.results.toList with
       | some r2 => jdefer P fz g fn c r2
       | none => ⟨fun _ _ _ _ => .none⟩
     | false => ⟨fun cf args h m => Bool.rec .none (Bool.rec .none
        (Out.rec .none (fun e h m => resF r e h m) (fun _ _ _ _ => .none) (fun e h m => resF r e h m) (fun v _ h m => .pan v h m) ((jcode P fn.ntmps (kp g) (fz g) [] c jend).run cf (initE args) h m))
        (Nat.ble args.length fn.ntmps)) (Nat.ble args.length 16)⟩
    | _, _ => ⟨fun _ _ _ _ => .none⟩
  | none => ⟨fun _ _ _ _ => .none⟩

/-- A function some of whose calls are known. -/
noncomputable def jknown (here : Bool) (rd : JF) (gr : Grp) (l : Tab) (j : JF) : JF :=
 match here with
 | false => rd
 | true => match gr, l with
  | [], [] => j
  | [], x :: l => ⟨fun cf args h m => Option.rec (j.run cf args h m) (fun v => Bool.rec (.some v h m) .none (isPanF v)) (look (x :: l) args)⟩
  | y :: gr, l => ⟨fun cf args h m => Option.rec (j.run cf args h m) (fun v => Bool.rec (.some v h m) .none (isPanF v)) (known (y :: gr) l args)⟩

noncomputable def callF (P : Program) (fz : FuncId → Nat → Nat → Bool) (kp : Nat → Nat) (pt : List (Nat × Grp)) (tab : Tab) (F : Nat) : CF := Nat.rec ⟨fun _ _ _ _ => .none⟩ (fun _ ih => ⟨fun g args h m => (jknown (Bool.not (Nat.beq g P.funcs.size)) (jround P fz) (ofP pt g) (ofG tab g) (jfunc P fz kp g)).run ih args h m⟩) F

theorem evReturn_plain {fz : FuncId → Nat → Nat → Bool} {pt : List (Nat × Grp)} {tab : Tab} (f : FuncId) (args : List AV) (n0 : Nat) (v : AV) (s : HS) : evReturn (Hints.plain fz pt tab) f args n0 v s = some (v, s) := by
  simp [evReturn, Hints.plain, sweptD]

/-- What is told of a call. -/
def COok (P : Program) (Hn : Hints) (g : Nat) (args : List AV) (h : BT) (m : Nat) (r : CO) : Prop :=
  (∀ v h' m', r = .some v h' m' → evLim P Hn g args ⟨den h, m⟩ = some (v, ⟨den h', m'⟩) ∧ v.isPan = false) ∧ (∀ v h' m', r = .pan v h' m' → evLim P Hn g args ⟨den h, m⟩ = some (.pan v, ⟨den h', m'⟩))

theorem COok.no {P : Program} {Hn : Hints} {g : Nat} {args : List AV} {h : BT} {m : Nat} : COok P Hn g args h m .none := ⟨fun _ _ _ e => by (cases e), fun _ _ _ e => by (cases e)⟩

theorem jresults_all {P : Program} {fn : Func} {r : JR} (hres : jresults P (jsr ksAll [] none) fn.results.toList = some r) {n : Nat} {e : E} {ts : List AV} (hr : Rel n ksAll e ts) {h : BT} {m : Nat} {v : AV} (hv : r.get e h = some v) : evResults P fn ⟨den h, m⟩ ts = some v :=
  jresults_ok hres (jsr_ok (hr.sinv #[]) trivial) hv

theorem jdef_ok {P : Program} {fz : FuncId → Nat → Nat → Bool} {pt : List (Nat × Grp)} {tab : Tab} {cf : CF} (hcf : CFok P (Hints.plain fz pt tab) cf) {g : Nat} {args : List AV} {h h2 : BT} {m m2 : Nat} {u u2 : DM} (hj : (jdef P fz g).run cf args h m u = .some h2 m2 u2) :
    ∃ F, evDef P (Hints.plain fz pt tab) (evCall P (Hints.plain fz pt tab) F) F g args ⟨den h, m⟩ u = some (⟨den h2, m2⟩, u2) := by
  unfold jdef at hj
  split at hj
  · rename_i fn hfn
    split at hj
    · rename_i c r hbody hres
      simp only at hj
      cases h16 : Nat.ble args.length 16 with
      | false => rw [h16] at hj; cases hj
      | true =>
        rw [h16] at hj
        simp only at hj
        cases hln : Nat.ble args.length fn.ntmps with
        | false => rw [hln] at hj; cases hj
        | true =>
          rw [hln] at hj
          simp only at hj
          have hr := initE_rel (ks := ksAll) args (Nat.le_of_ble_eq_true h16) (Nat.le_of_ble_eq_true hln)
          cases ho : (jD P fn.ntmps (fz g) c).run cf (initE args) h m u with
          | none => rw [ho] at hj; cases hj
          | norm e1 h1 m1 u1 =>
            rw [ho] at hj
            simp only at hj
            obtain ⟨F, x, ts', s', u', hF, rfl, rfl, rfl, hr'⟩ := jD_ok (Hn := Hints.plain fz pt tab) (f := g) hcf c hr (by simp) ho
            cases hv : r.get e1 h1 with
            | none => rw [hv] at hj; cases hj
            | some v =>
              rw [hv] at hj
              cases hj
              refine ⟨F, ?_⟩
              simp only [evDef, hfn, hbody, hF, jresults_all hres hr' hv]
          | ret e1 h1 m1 u1 =>
            rw [ho] at hj
            simp only at hj
            obtain ⟨F, x, ts', s', u', hF, rfl, rfl, rfl, hr'⟩ := jD_ok (Hn := Hints.plain fz pt tab) (f := g) hcf c hr (by simp) ho
            cases hv : r.get e1 h1 with
            | none => rw [hv] at hj; cases hj
            | some v =>
              rw [hv] at hj
              cases hj
              refine ⟨F, ?_⟩
              simp only [evDef, hfn, hbody, hF, jresults_all hres hr' hv]
    · cases hj
  · cases hj

theorem jclose_ok {id : Nat} {h : BT} {k : BT → CO} {m : Nat} {out : CO} (ho : out ≠ .none) (hj : jclose id h k = out) : ∃ h2, closeM ⟨den h, m⟩ (.mark id) = some ⟨den h2, m⟩ ∧ k h2 = out := by
  unfold jclose at hj
  cases hb : Nat.ble (id + 1) 65536 with
  | false => rw [hb] at hj; exact absurd hj.symm ho
  | true =>
    rw [hb] at hj
    simp only at hj
    cases hd : isDefd (den h id) with
    | false => rw [hd] at hj; exact absurd hj.symm ho
    | true =>
      rw [hd] at hj
      have hi : id < 65536 := Nat.le_of_ble_eq_true hb
      refine ⟨_, ?_, hj⟩
      simp only [closeM, isDefd_eq hd, den_put _ hi]

theorem resF_some {r : JR} {e : E} {h h2 : BT} {m m2 : Nat} {v : AV} (hj : resF r e h m = .some v h2 m2) : r.get e h = some v ∧ h2 = h ∧ m2 = m ∧ v.isPan = false := by
  unfold resF at hj
  cases hv : r.get e h with
  | none => rw [hv] at hj; cases hj
  | some u =>
    rw [hv] at hj
    simp only at hj
    cases hp : isPanF u with
    | true => rw [hp] at hj; cases hj
    | false =>
      rw [hp] at hj
      cases hj
      exact ⟨rfl, rfl, rfl, isPanF_eq hp⟩
theorem resF_pan {r : JR} {e : E} {h h2 : BT} {m m2 : Nat} {v : AV} (hj : resF r e h m = .pan v h2 m2) : False := by
  unfold resF at hj
  cases hv : r.get e h with
  | none => rw [hv] at hj; cases hj
  | some u =>
    rw [hv] at hj
    simp only at hj
    cases hp : isPanF u with
    | true => rw [hp] at hj; cases hj
    | false => rw [hp] at hj; cases hj

section
variable {P : Program} {fz : FuncId → Nat → Nat → Bool} {pt : List (Nat × Grp)} {tab : Tab} {cf : CF}

theorem jdone_ok (hcf : CFok P (Hints.plain fz pt tab) cf) {fn : Func} {r : JR} (hres : jresults P (jsr ksAll [] none) fn.results.toList = some r) {n : Nat} {e : E} {ts : List AV} (hr : Rel n ksAll e ts) {h : BT} {m : Nat} {d : DSt} :
    (∀ v h2 m2, jdone P fz r cf e h m d = .some v h2 m2 → v.isPan = false ∧ ∃ F, ∀ F', F ≤ F' → (match d with
      | .call g dargs => match evDef P (Hints.plain fz pt tab) (evCall P (Hints.plain fz pt tab) F') F' g dargs ⟨den h, m⟩ .ret with
        | some (s2, .ret) => match evResults P fn s2 ts with
          | some r => some (r, s2)
          | none => none
        | _ => none
      | d => match closeM ⟨den h, m⟩ d with
        | some s2 => match evResults P fn s2 ts with
          | some r => some (r, s2)
          | none => none
        | none => none : Option (AV × HS)) = some (v, ⟨den h2, m2⟩)) ∧ (∀ v h2 m2, jdone P fz r cf e h m d ≠ .pan v h2 m2) := by
  cases d with
  | none =>
    refine ⟨fun v h2 m2 hj => ?_, fun v h2 m2 hj => resF_pan hj⟩
    obtain ⟨h1, rfl, rfl, h4⟩ := resF_some hj
    refine ⟨h4, 0, fun F' _ => ?_⟩
    simp only [closeM, jresults_all hres hr h1]
  | call g dargs =>
    unfold jdone
    simp only
    cases hd : (jdef P fz g).run cf dargs h m .ret with
    | none => exact ⟨fun v h2 m2 hj => (by cases hj), fun v h2 m2 hj => by cases hj⟩
    | some h1 m1 u1 =>
      simp only
      cases u1 with
      | pan v => exact ⟨fun v h2 m2 hj => (by cases hj), fun v h2 m2 hj => by cases hj⟩
      | recd => exact ⟨fun v h2 m2 hj => (by cases hj), fun v h2 m2 hj => by cases hj⟩
      | ret =>
        refine ⟨fun v h2 m2 hj => ?_, fun v h2 m2 hj => resF_pan hj⟩
        obtain ⟨h1, rfl, rfl, h4⟩ := resF_some hj
        obtain ⟨F, hF⟩ := jdef_ok hcf hd
        refine ⟨h4, F, fun F' hle => ?_⟩
        rw [evDef_mono (evCall_mono hle) hle hF]
        simp only [jresults_all hres hr h1]
  | mark id =>
    unfold jdone
    simp only
    refine ⟨fun v h2 m2 hj => ?_, fun v h2 m2 hj => ?_⟩
    · obtain ⟨h3, hc, hk⟩ := jclose_ok (m := m) (by simp) hj
      obtain ⟨h1, rfl, rfl, h4⟩ := resF_some hk
      refine ⟨h4, 0, fun F' _ => ?_⟩
      simp only [hc, jresults_all hres hr h1]
    · obtain ⟨h3, hc, hk⟩ := jclose_ok (m := m) (by simp) hj
      exact resF_pan hk

theorem jpans_ok (hcf : CFok P (Hints.plain fz pt tab) cf) {fn : Func} {r : JR} (hres : jresults P (jsr ksAll [] none) fn.results.toList = some r) {n : Nat} {e : E} {ts : List AV} (hr : Rel n ksAll e ts) {v0 : AV} {h : BT} {m : Nat} {d : DSt} :
    (∀ v h2 m2, (jpans P fz r cf v0 e h m d = .some v h2 m2 ∧ v.isPan = false ∨ ∃ w, v = .pan w ∧ jpans P fz r cf v0 e h m d = .pan w h2 m2) → ∃ F, ∀ F', F ≤ F' → (match d with
      | .call g dargs => match evDef P (Hints.plain fz pt tab) (evCall P (Hints.plain fz pt tab) F') F' g dargs ⟨den h, m⟩ (.pan v0) with
        | some (s2, .recd) => match evResults P fn s2 ts with
          | some r => some (r, s2)
          | none => none
        | some (s2, .pan v') => some (.pan v', s2)
        | _ => none
      | d => match closeM ⟨den h, m⟩ d with
        | some s2 => some (.pan v0, s2)
        | none => none : Option (AV × HS)) = some (v, ⟨den h2, m2⟩)) ∧ (∀ v h2 m2, jpans P fz r cf v0 e h m d = .some v h2 m2 → v.isPan = false) := by
  cases d with
  | none =>
    refine ⟨fun v h2 m2 hj => ?_, fun v h2 m2 hj => by cases hj⟩
    rcases hj with ⟨hj, _⟩ | ⟨w, rfl, hj⟩
    · cases hj
    · cases hj
      exact ⟨0, fun F' _ => rfl⟩
  | call g dargs =>
    unfold jpans
    simp only
    cases hd : (jdef P fz g).run cf dargs h m (.pan v0) with
    | none => exact ⟨fun v h2 m2 hj => (by rcases hj with ⟨hj, _⟩ | ⟨w, rfl, hj⟩ <;> cases hj), fun v h2 m2 hj => by cases hj⟩
    | some h1 m1 u1 =>
      simp only
      obtain ⟨F, hF⟩ := jdef_ok hcf hd
      cases u1 with
      | ret => exact ⟨fun v h2 m2 hj => (by rcases hj with ⟨hj, _⟩ | ⟨w, rfl, hj⟩ <;> cases hj), fun v h2 m2 hj => by cases hj⟩
      | pan v' =>
        refine ⟨fun v h2 m2 hj => ?_, fun v h2 m2 hj => by cases hj⟩
        rcases hj with ⟨hj, _⟩ | ⟨w, rfl, hj⟩
        · cases hj
        · cases hj
          refine ⟨F, fun F' hle => ?_⟩
          rw [evDef_mono (evCall_mono hle) hle hF]
      | recd =>
        refine ⟨fun v h2 m2 hj => ?_, fun v h2 m2 hj => (resF_some hj).2.2.2⟩
        rcases hj with ⟨hj, _⟩ | ⟨w, rfl, hj⟩
        · obtain ⟨h1, rfl, rfl, h4⟩ := resF_some hj
          refine ⟨F, fun F' hle => ?_⟩
          rw [evDef_mono (evCall_mono hle) hle hF]
          simp only [jresults_all hres hr h1]
        · exact absurd hj resF_pan
  | mark id =>
    unfold jpans
    simp only
    refine ⟨fun v h2 m2 hj => ?_, fun v h2 m2 hj => ?_⟩
    · rcases hj with ⟨hj, _⟩ | ⟨w, rfl, hj⟩
      · obtain ⟨h3, hc, hk⟩ := jclose_ok (m := m) (by simp) hj
        cases hk
      · obtain ⟨h3, hc, hk⟩ := jclose_ok (m := m) (by simp) hj
        cases hk
        exact ⟨0, fun F' _ => by simp only [hc]⟩
    · obtain ⟨h3, hc, hk⟩ := jclose_ok (m := m) (by simp) hj
      cases hk

theorem jdefer_ok (hcf : CFok P (Hints.plain fz pt tab) cf) {g : Nat} {fn : Func} {c : Code} (hfn : P.funcs[g]? = some fn) (hbody : fn.body = some c) (hdf : defers c = true) {r : JR} (hres : jresults P (jsr ksAll [] none) fn.results.toList = some r) {args : List AV} (hno : known (ofP pt g) (ofG tab g) args = none) {h : BT} {m : Nat} :
    COok P (Hints.plain fz pt tab) g args h m ((jdefer P fz g fn c r).run cf args h m) := by
  unfold jdefer
  simp only
  cases h16 : Nat.ble args.length 16 with
  | false => exact COok.no
  | true =>
    simp only
    cases hln : Nat.ble args.length fn.ntmps with
    | false => exact COok.no
    | true =>
      simp only
      have hr := initE_rel (ks := ksAll) args (Nat.le_of_ble_eq_true h16) (Nat.le_of_ble_eq_true hln)
      cases ho : (jE P fn.ntmps g (fz g) (resSlots fn) c).run cf (initE args) h m .none with
      | none => exact COok.no
      | exit i e1 h1 m1 d1 => exact COok.no
      | norm e1 h1 m1 d1 =>
        simp only
        obtain ⟨F, x, ts', s', d', hF, rfl, rfl, rfl, hr'⟩ := jE_ok (Hn := Hints.plain fz pt tab) (f := g) (rs := resSlots fn) hcf c hr (by simp) ho
        obtain ⟨k1, k2⟩ := jdone_ok (fz := fz) hcf hres hr' (h := h1) (m := m1) (d := d')
        refine ⟨fun v h2 m2 hj => ?_, fun v h2 m2 hj => absurd hj (k2 v h2 m2)⟩
        obtain ⟨hp, F2, hF2⟩ := k1 v h2 m2 hj
        refine ⟨evLim_defer (F := max F F2) hfn hbody hdf hno ?_, hp⟩
        unfold evDefer
        rw [evE_mono (evCall_mono (Nat.le_max_left F F2)) (Nat.le_max_left F F2) _ _ _ _ _ hF]
        simp only
        cases d' <;> exact hF2 _ (Nat.le_max_right F F2)
      | ret e1 h1 m1 d1 =>
        simp only
        obtain ⟨F, x, ts', s', d', hF, rfl, rfl, rfl, hr'⟩ := jE_ok (Hn := Hints.plain fz pt tab) (f := g) (rs := resSlots fn) hcf c hr (by simp) ho
        obtain ⟨k1, k2⟩ := jdone_ok (fz := fz) hcf hres hr' (h := h1) (m := m1) (d := d')
        refine ⟨fun v h2 m2 hj => ?_, fun v h2 m2 hj => absurd hj (k2 v h2 m2)⟩
        obtain ⟨hp, F2, hF2⟩ := k1 v h2 m2 hj
        refine ⟨evLim_defer (F := max F F2) hfn hbody hdf hno ?_, hp⟩
        unfold evDefer
        rw [evE_mono (evCall_mono (Nat.le_max_left F F2)) (Nat.le_max_left F F2) _ _ _ _ _ hF]
        simp only
        cases d' <;> exact hF2 _ (Nat.le_max_right F F2)
      | pan v0 e1 h1 m1 d1 =>
        simp only
        obtain ⟨F, x, ts', s', d', hF, rfl, rfl, rfl, hr'⟩ := jE_ok (Hn := Hints.plain fz pt tab) (f := g) (rs := resSlots fn) hcf c hr (by simp) ho
        obtain ⟨k1, k2⟩ := jpans_ok (fz := fz) hcf hres hr' (v0 := v0) (h := h1) (m := m1) (d := d')
        refine ⟨fun v h2 m2 hj => ?_, fun v h2 m2 hj => ?_⟩
        · obtain ⟨F2, hF2⟩ := k1 v h2 m2 (.inl ⟨hj, k2 v h2 m2 hj⟩)
          refine ⟨evLim_defer (F := max F F2) hfn hbody hdf hno ?_, k2 v h2 m2 hj⟩
          unfold evDefer
          rw [evE_mono (evCall_mono (Nat.le_max_left F F2)) (Nat.le_max_left F F2) _ _ _ _ _ hF]
          simp only
          cases d' <;> exact hF2 _ (Nat.le_max_right F F2)
        · obtain ⟨F2, hF2⟩ := k1 (.pan v) h2 m2 (.inr ⟨v, rfl, hj⟩)
          refine evLim_defer (F := max F F2) hfn hbody hdf hno ?_
          unfold evDefer
          rw [evE_mono (evCall_mono (Nat.le_max_left F F2)) (Nat.le_max_left F F2) _ _ _ _ _ hF]
          simp only
          cases d' <;> exact hF2 _ (Nat.le_max_right F F2)

theorem setPs_len : ∀ (ps : List Tmp) (vs ts : List AV), (setPs ps vs ts).length = ts.length
  | [], vs, ts => by cases vs <;> rfl
  | p :: ps, [], ts => rfl
  | p :: ps, v :: vs, ts => by simp only [setPs]; rw [setPs_len ps vs]; simp

theorem jleft_ok {id : Nat} {j : Option Code} {b : Bool} (hb : b = j.isNone) {h : BT} {m : Nat} (hi : id < 65536) {v : AV} {h' : BT} {m' : Nat} (hj : jleft id j b h hput m = .some v h' m') :
    v.isPan = false ∧ ∃ L2, den h id = some (.loop L2) ∧ v = .bool j.isNone ∧ m' = m ∧ den h' = (den h).put id (.loop { L2 with st := if j.isNone then .ready else .done, pend := j }) := by
  unfold jleft at hj
  split at hj
  · cases hj
  · rename_i st pend f ts ps asg body hL
    split at hj
    · cases hj
      refine ⟨rfl, _, aLoop_eq hL, by rw [← hb], rfl, ?_⟩
      rw [den_put _ hi, ← hb]; rfl
    · cases hj
      refine ⟨rfl, _, aLoop_eq hL, by rw [← hb], rfl, ?_⟩
      rw [den_put _ hi, ← hb]; rfl
theorem jleft_pan {id : Nat} {j : Option Code} {b : Bool} {h : BT} {m : Nat} {v : AV} {h' : BT} {m' : Nat} (hj : jleft id j b h hput m = .pan v h' m') : False := by
  unfold jleft at hj
  split at hj
  · cases hj
  · split at hj <;> cases hj

theorem jround1_ok (hcf : CFok P (Hints.plain fz pt tab) cf) {id : Nat} {vs : List AV} {h : BT} {m : Nat} :
    COok P (Hints.plain fz pt tab) P.funcs.size (.pan (.yld id) :: vs) h m (jround1 P fz cf id vs h m) := by
  unfold jround1
  split
  · exact COok.no
  rename_i st pend f ts ps asg body hL
  split
  · exact COok.no
  rename_i fn hfn
  cases hi : Nat.ble (id + 1) 65536 with
  | false => exact COok.no
  | true =>
  simp only
  cases hc2 : codeOk (fz f) body with
  | false => exact COok.no
  | true =>
  simp only
  cases hc1 : codeOk (fz f) asg with
  | false => exact COok.no
  | true =>
  simp only
  cases hvl : Nat.beq vs.length ps.size with
  | false => exact COok.no
  | true =>
  simp only
  cases htl : Nat.beq ts.length fn.ntmps with
  | false => exact COok.no
  | true =>
  simp only
  have hid : id < 65536 := Nat.le_of_ble_eq_true hi
  have hr := initF_rel (n := fn.ntmps) (l := setPs ps.toList vs ts) (by rw [setPs_len]; exact Nat.eq_of_beq_eq_true htl)
  cases ho : (jcode P fn.ntmps ksAll (fz f) [] asg jend).run cf (initF (setPs ps.toList vs ts)) h m with
  | none => exact COok.no
  | exit i e1 h1 m1 => exact COok.no
  | ret e1 h1 m1 => exact COok.no
  | pan v e1 h1 m1 => exact COok.no
  | norm e1 h1 m1 =>
    simp only
    obtain ⟨F1, x, ts1, s1, hF1, hq1⟩ := plain_ev (Hn := Hints.plain fz pt tab) (f := f) (rs := []) hcf hr (c := asg) (h := h) (m := m) (by show (jcode P fn.ntmps ksAll (fz f) [] asg jend).run cf _ h m ≠ _; rw [ho]; simp)
    have hq1 : KQ fn.ntmps ksAll jend cf ((jcode P fn.ntmps ksAll (fz f) [] asg jend).run cf (initF (setPs ps.toList vs ts)) h m) x ts1 s1 := hq1
    rw [ho] at hq1
    obtain ⟨rfl, rfl, hr1⟩ := KQ_norm hq1
    split
    · exact COok.no
    rename_i st1 pend1 f1 tsL1 ps1 asg1 body1 hL1
    split
    · exact COok.no
    rename_i hst1
    have hrd := stReady_eq hst1
    subst hrd
    have hputE := den_put h1 hid (.loop ⟨.busy, pend1, f1, tsL1, ps1, asg1, body1⟩)
    have fin : ∀ (out : Out), (jcode P fn.ntmps ksAll (fz f) [] body jend).run cf e1 (hput h1 id (.raw (some (.loop ⟨.busy, pend1, f1, tsL1, ps1, asg1, body1⟩)))) m1 = out → out ≠ .none → ∀ (y : AX) (j : Option Code) (e2 : E) (h2 : BT) (m2 : Nat), (∀ ts s, KQ fn.ntmps ksAll jend cf out y ts s → s = ⟨den h2, m2⟩) → (∀ z ts s, KQ fn.ntmps ksAll jend cf out z ts s → z = y) → jumpOf y = some j →
        COok P (Hints.plain fz pt tab) P.funcs.size (.pan (.yld id) :: vs) h m (jleft id j j.isNone h2 hput m2) := by
      intro out hout hne y j e2 h2 m2 hs hy hjump
      refine ⟨fun v h3 m3 hj => ?_, fun v h3 m3 hj => absurd hj jleft_pan⟩
      obtain ⟨hp, L2, hL2, rfl, rfl, hd3⟩ := jleft_ok rfl hid hj
      obtain ⟨F2, x2, ts2, s2, hF2, hq2⟩ := plain_ev (Hn := Hints.plain fz pt tab) (f := f) (rs := []) hcf hr1 (c := body) (h := hput h1 id (.raw (some (.loop ⟨.busy, pend1, f1, tsL1, ps1, asg1, body1⟩)))) (m := m1) (by show (jcode P fn.ntmps ksAll (fz f) [] body jend).run cf e1 _ m1 ≠ _; rw [hout]; exact hne)
      have hq2 : KQ fn.ntmps ksAll jend cf ((jcode P fn.ntmps ksAll (fz f) [] body jend).run cf e1 (hput h1 id (.raw (some (.loop ⟨.busy, pend1, f1, tsL1, ps1, asg1, body1⟩)))) m1) x2 ts2 s2 := hq2
      rw [hout] at hq2
      have h5 := hy _ _ _ hq2
      subst h5
      have h6 := hs _ _ hq2
      subst h6
      refine ⟨evLim_round (F := max F1 F2) ?_, hp⟩
      unfold evRound
      simp only [aLoop_eq hL]
      rw [if_pos ⟨Nat.eq_of_beq_eq_true hvl, hc1, hc2⟩]
      rw [evCode_mono (evCall_mono (Nat.le_max_left F1 F2)) (Nat.le_max_left F1 F2) _ _ _ _ hF1]
      simp only [aLoop_eq hL1, if_true]
      rw [← hputE]
      rw [evCode_mono (evCall_mono (Nat.le_max_right F1 F2)) (Nat.le_max_right F1 F2) _ _ _ _ hF2]
      simp only [hjump, hL2, hd3]
    cases ho2 : (jcode P fn.ntmps ksAll (fz f) [] body jend).run cf e1 (hput h1 id (.raw (some (.loop ⟨.busy, pend1, f1, tsL1, ps1, asg1, body1⟩)))) m1 with
    | none => exact COok.no
    | pan v e2 h2 m2 => exact COok.no
    | norm e2 h2 m2 => exact fin _ ho2 (by simp) .normal none e2 h2 m2 (fun _ _ hq => (KQ_norm hq).2.1) (fun _ _ _ hq => (KQ_norm hq).1) rfl
    | exit i e2 h2 m2 => exact fin _ ho2 (by simp) (.exit i) (some (.exit i)) e2 h2 m2 (fun _ _ hq => (KQ_exit hq).2.1) (fun _ _ _ hq => (KQ_exit hq).1) rfl
    | ret e2 h2 m2 => exact fin _ ho2 (by simp) .ret (some .ret) e2 h2 m2 (fun _ _ hq => (KQ_ret hq).2.1) (fun _ _ _ hq => (KQ_ret hq).1) rfl

theorem jround_ok (hcf : CFok P (Hints.plain fz pt tab) cf) {args : List AV} {h : BT} {m : Nat} : COok P (Hints.plain fz pt tab) P.funcs.size args h m ((jround P fz).run cf args h m) := by
  unfold jround
  simp only
  split
  · exact jround1_ok hcf
  · exact COok.no
end

theorem jfunc_ok {P : Program} {fz : FuncId → Nat → Nat → Bool} {pt : List (Nat × Grp)} {tab : Tab} {kp : Nat → Nat} {cf : CF} (hcf : CFok P (Hints.plain fz pt tab) cf) {g : Nat} {args : List AV} (hno : known (ofP pt g) (ofG tab g) args = none) {h : BT} {m : Nat} :
    COok P (Hints.plain fz pt tab) g args h m ((jfunc P fz kp g).run cf args h m) := by
  unfold jfunc
  split
  · rename_i fn hfn
    split
    · rename_i c r hbody hres
      split
      · rename_i hdf
        split
        · rename_i r2 hr2
          exact jdefer_ok hcf hfn hbody hdf hr2 hno
        · exact COok.no
      rename_i hdf
      simp only
      cases h16 : Nat.ble args.length 16 with
      | false => exact COok.no
      | true =>
        simp only
        cases hln : Nat.ble args.length fn.ntmps with
        | false => exact COok.no
        | true =>
          simp only
          have hr := initE_rel (ks := kp g) args (Nat.le_of_ble_eq_true h16) (Nat.le_of_ble_eq_true hln)
          have fin : ∀ (e' : E) (h2 : BT) (m2 : Nat) (ts' : List AV) (v : AV), Rel fn.ntmps (kp g) e' ts' → r.get e' h2 = some v → evResults P fn ⟨den h2, m2⟩ ts' = some v := fun e' h2 m2 ts' v hr' hv => jresults_ok hres (jsr_ok (hr'.sinv #[]) trivial) (m := m2) hv
          have done : ∀ (x : AX) (e' : E) (h2 : BT) (m2 : Nat) (ts' : List AV), x = .normal ∨ x = .ret → codeL P (Hints.plain fz pt tab) g [] (evLim P (Hints.plain fz pt tab)) c (args ++ List.replicate (fn.ntmps - args.length) (.tup [])) ⟨den h, m⟩ = some (x, ts', ⟨den h2, m2⟩) → Rel fn.ntmps (kp g) e' ts' →
              COok P (Hints.plain fz pt tab) g args h m (resF r e' h2 m2) := by
            intro x e' h2 m2 ts' hx hc hr'
            unfold resF
            cases hg : r.get e' h2 with
            | none => exact COok.no
            | some u =>
              simp only
              cases hp : isPanF u with
              | true => exact COok.no
              | false =>
                refine ⟨fun v h3 m3 e => ?_, fun v h3 m3 e => by cases e⟩
                cases e
                refine ⟨evLim_body hfn hbody hdf hno ?_, isPanF_eq hp⟩
                have hu := fin e' h2 m2 ts' u hr' hg
                rcases hx with rfl | rfl <;> simp only [bodyL, hc, hu, evReturn_plain]
          cases ho : (jcode P fn.ntmps (kp g) (fz g) [] c jend).run cf (initE args) h m with
          | none => exact COok.no
          | exit i e1 h1 m1 => exact COok.no
          | norm e1 h1 m1 =>
            obtain ⟨x, ts', s', hc, hq⟩ := jcode_ok (Hn := Hints.plain fz pt tab) (f := g) (rs := []) hcf c hr (by simp) ho
            cases x with
            | exit i => obtain ⟨e', b', m2, rfl, hr', hk⟩ := hq; cases hk
            | ret => obtain ⟨e', b', m2, rfl, hr', hk⟩ := hq; cases hk
            | panic v => obtain ⟨e', b', m2, rfl, hr', hk⟩ := hq; cases hk
            | normal =>
              obtain ⟨e', b', m2, rfl, hr', hk⟩ := hq
              cases hk
              exact done _ _ _ _ _ (.inl rfl) hc hr'
          | ret e1 h1 m1 =>
            obtain ⟨x, ts', s', hc, hq⟩ := jcode_ok (Hn := Hints.plain fz pt tab) (f := g) (rs := []) hcf c hr (by simp) ho
            cases x with
            | exit i => obtain ⟨e', b', m2, rfl, hr', hk⟩ := hq; cases hk
            | normal => obtain ⟨e', b', m2, rfl, hr', hk⟩ := hq; cases hk
            | panic v => obtain ⟨e', b', m2, rfl, hr', hk⟩ := hq; cases hk
            | ret =>
              obtain ⟨e', b', m2, rfl, hr', hk⟩ := hq
              cases hk
              exact done _ _ _ _ _ (.inr rfl) hc hr'
          | pan v e1 h1 m1 =>
            obtain ⟨x, ts', s', hc, hq⟩ := jcode_ok (Hn := Hints.plain fz pt tab) (f := g) (rs := []) hcf c hr (by simp) ho
            cases x with
            | exit i => obtain ⟨e', b', m2, rfl, hr', hk⟩ := hq; cases hk
            | normal => obtain ⟨e', b', m2, rfl, hr', hk⟩ := hq; cases hk
            | ret => obtain ⟨e', b', m2, rfl, hr', hk⟩ := hq; cases hk
            | panic u =>
              obtain ⟨e', b', m2, rfl, hr', hk⟩ := hq
              cases hk
              refine ⟨fun v h3 m3 e => (by cases e), fun v h3 m3 e => ?_⟩
              cases e
              exact evLim_body hfn hbody hdf hno (by simp only [bodyL, hc])
    · exact COok.no
  · exact COok.no

theorem lookG_nil (args : List AV) : lookG [] args = none := by
  cases args <;> rfl

theorem jknown_ok {P : Program} {fz : FuncId → Nat → Nat → Bool} {kp : Nat → Nat} {pt : List (Nat × Grp)} {tab : Tab} {cf : CF} (hcf : CFok P (Hints.plain fz pt tab) cf) {g : Nat} {args : List AV} {h : BT} {m : Nat} :
    COok P (Hints.plain fz pt tab) g args h m ((jknown (Bool.not (Nat.beq g P.funcs.size)) (jround P fz) (ofP pt g) (ofG tab g) (jfunc P fz kp g)).run cf args h m) := by
  cases hb : Nat.beq g P.funcs.size with
  | true =>
    have := Nat.eq_of_beq_eq_true hb
    subst this
    exact jround_ok hcf
  | false =>
  have hne : g ≠ P.funcs.size := fun hc => by rw [hc, Nat.beq_refl] at hb; cases hb
  have key : ∀ (k : Option AV), known (ofP pt g) (ofG tab g) args = k → COok P (Hints.plain fz pt tab) g args h m (Option.rec ((jfunc P fz kp g).run cf args h m) (fun v => Bool.rec (.some v h m) .none (isPanF v)) k) := by
    intro k hk
    cases k with
    | none => exact jfunc_ok hcf hk
    | some u =>
      simp only
      cases hp : isPanF u with
      | true => exact COok.no
      | false =>
        refine ⟨fun v h3 m3 e => ?_, fun v h3 m3 e => (by cases e)⟩
        cases e
        exact ⟨evLim_orc hne hk _, isPanF_eq hp⟩
  unfold jknown
  simp only [Bool.not]
  split
  · rename_i h1 h2
    exact jfunc_ok hcf (by rw [h1, h2]; simp only [known, lookG_nil]; rfl)
  · rename_i x l h1 h2
    refine key _ ?_
    rw [h1, h2]
    simp only [known, lookG_nil]
  · rename_i y gr l h1
    refine key _ ?_
    rw [h1]

theorem callF_ok {P : Program} {fz : FuncId → Nat → Nat → Bool} {kp : Nat → Nat} {pt : List (Nat × Grp)} {tab : Tab} : ∀ F, CFok P (Hints.plain fz pt tab) (callF P fz kp pt tab F)
  | 0 => ⟨fun g args h n v h' n' e => by (cases e), fun g args h n v h' n' e => by (cases e)⟩
  | F + 1 => ⟨fun g args h n v h' n' e => (jknown_ok (callF_ok F)).1 v h' n' e, fun g args h n v h' n' e => (jknown_ok (callF_ok F)).2 v h' n' e⟩

/-- Does a call come to 'true'? -/
noncomputable def yes (r : CO) : Bool := CO.rec false (fun v _ _ => OB.rec false true false (asB v)) (fun _ _ _ => false) r

theorem yes_ok {P : Program} {fz : FuncId → Nat → Nat → Bool} {kp : Nat → Nat} {pt : List (Nat × Grp)} {tab : Tab} {F : Nat} {f : FuncId} {args : List AV} (h : yes ((callF P fz kp pt tab F).call f args .leaf 0) = true) : ∃ s', evLim P (Hints.plain fz pt tab) f args HS.start = some (.bool true, s') := by
  cases hc : (callF P fz kp pt tab F).call f args .leaf 0 with
  | none => rw [hc] at h; cases h
  | pan v h' n' => rw [hc] at h; cases h
  | some v h' n' =>
    rw [hc] at h
    change (OB.rec false true false (asB v) : Bool) = true at h
    cases hB : asB v with
    | none => rw [hB] at h; cases h
    | ff => rw [hB] at h; cases h
    | tt =>
      have := ((callF_ok F).val _ _ _ _ _ _ _ hc).1
      rw [asB_tt hB] at this
      exact ⟨_, this⟩

theorem yes_calls {P : Program} {fz : FuncId → Nat → Nat → Bool} {kp : Nat → Nat} {pt : List (Nat × Grp)} {tab : Tab} (hP : ProgOK P (Hints.plain fz pt tab)) {F : Nat} {f : FuncId} {args : List AV} (h : yes ((callF P fz kp pt tab F).call f args .leaf 0) = true) {w : World} {vargs : Array Value} (ha : VL (Cx.start w) args vargs.toList) :
    Calls P f vargs w fun e w' => e = .returned (.bool true) ∧ RowKit.Below w.heap.size w w' := by
  obtain ⟨s', hs⟩ := yes_ok h
  exact calls_of_lim hP hs ha

/-! ### what becomes known -/
/-- Does a value name nothing? -/
def noName : Nat → AV → Bool
  | 0, _ => false
  | d + 1, v => match v with
    | .ptr .. | .sl .. | .map _ | .yld _ | .pan _ | .fslx _ => false
    | .fptr cs => cs.all (noName d)
    | .fsl rows => rows.all fun r => r.all (noName d)
    | .clo _ a b => a.all (noName d) && b.all (noName d)
    | .iface _ x => noName d x
    | .agg cs => cs.all (noName d)
    | .tup cs => cs.all (noName d)
    | _ => true

theorem noName_pan {v : AV} (h : noName 16 v = true) : v.isPan = false := by
  cases v <;> first | rfl | cases h

theorem V.unname {X Z : Cx} (hle : ∀ b o, X.phi b = some o → Z.phi b = some o) : ∀ (d : Nat) {v : AV} {y : Value}, noName d v = true → V X v y → V Z v y
  | 0, v, y, h, _ => by simp [noName] at h
  | d + 1, v, y, h, hv => by
    have ih := fun {v : AV} {y : Value} => V.unname hle d (v := v) (y := y)
    unfold noName at h
    cases hv with
    | ptr hm => cases h
    | sl => cases h
    | map hm => cases h
    | yld hm => cases h
    | fslx => cases h
    | bool b => exact .bool b
    | int k n => exact .int k n
    | str s => exact .str s
    | nilp => exact .nilp
    | nils => exact .nils
    | nilm => exact .nilm
    | nilf => exact .nilf
    | nili => exact .nili
    | fsl0 a cap => exact .fsl0 a cap
    | fptr g hb hc hv h1 =>
      simp only [List.all_eq_true] at h
      exact .fptr g (hle _ _ hb) hc (fun i x hx => ih (h x (List.mem_of_getElem? hx)) (hv i x hx)) h1
    | fsl g hb hsz hc hv hcap h1 =>
      simp only [List.all_eq_true] at h
      exact .fsl g (hle _ _ hb) hsz hc (fun i row j x hr hx => ih (h row (List.mem_of_getElem? hr) x (List.mem_of_getElem? hx)) (hv i row j x hr hx)) hcap h1
    | clo hx hc vx vc =>
      simp only [Bool.and_eq_true, List.all_eq_true] at h
      exact .clo hx hc (fun i x y h1 h2 => ih (h.1 x (List.mem_of_getElem? h1)) (vx i x y h1 h2)) (fun i x y h1 h2 => ih (h.2 x (List.mem_of_getElem? h1)) (vc i x y h1 h2))
    | iface t hx => exact .iface t (ih h hx)
    | agg hx vx h1 =>
      simp only [List.all_eq_true] at h
      exact .agg hx (fun i x y e1 e2 => ih (h x (List.mem_of_getElem? e1)) (vx i x y e1 e2)) h1
    | tup hx vx =>
      simp only [List.all_eq_true] at h
      exact .tup hx (fun i x y e1 e2 => ih (h x (List.mem_of_getElem? e1)) (vx i x y e1 e2))

def AV.flat : AV → Bool
  | .bool _ | .int .. | .str _ | .nilp | .nils | .nilm | .nilf | .nili => true
  | _ => false

theorem V.flat {X Z : Cx} {v : AV} {y : Value} (h : v.flat = true) (hv : V X v y) : V Z v y := by
  cases hv with
  | bool b => exact .bool b
  | int k n => exact .int k n
  | str s => exact .str s
  | nilp => exact .nilp
  | nils => exact .nils
  | nilm => exact .nilm
  | nilf => exact .nilf
  | nili => exact .nili
  | _ => cases h

/-- Does a call come to a value that can be known? -/
noncomputable def isOrc (r : CO) (v : AV) : Bool := CO.rec false (fun v0 h _ => Option.rec false (fun x => avEq 16 x v && noName 16 v) (snapV false (fun _ => false) (den h) 16 v0)) (fun _ _ _ => false) r

theorem orc_of {P : Program} {fz : FuncId → Nat → Nat → Bool} {kp : Nat → Nat} {pt : List (Nat × Grp)} {tab : Tab} (hP : ProgOK P (Hints.plain fz pt tab)) {F : Nat} {g : FuncId} {args : List AV} {v : AV} (hf : args.all (noName 16) = true) (h : isOrc ((callF P fz kp pt tab F).call g args .leaf 0) v = true) : OrcFor P g args v := by
  cases hc : (callF P fz kp pt tab F).call g args .leaf 0 with
  | none => rw [hc] at h; cases h
  | pan v0 h0 n' => rw [hc] at h; cases h
  | some v0 h0 n' =>
    rw [hc] at h
    change (Option.rec false (fun x => avEq 16 x v && noName 16 v) (snapV false (fun _ => false) (den h0) 16 v0) : Bool) = true at h
    cases hs : snapV false (fun _ => false) (den h0) 16 v0 with
    | none => rw [hs] at h; cases h
    | some x =>
      rw [hs] at h
      simp only [Bool.and_eq_true] at h
      have hx := avEq_eq _ _ _ h.1
      subst hx
      obtain ⟨hl, hnp⟩ := (callF_ok F).val _ _ _ _ _ _ _ hc
      have hl : evLim P (Hints.plain fz pt tab) g args HS.start = some (v0, ⟨den h0, n'⟩) := hl
      obtain ⟨F', hF⟩ := evLim_ex hl
      refine ⟨(evCall_ok (w0 := ⟨default, fun _ => none, fun _ => none⟩) hP F').body g args _ _ hF (fun a ha => noName_pan (List.all_eq_true.1 hf a ha)), fun X w vargs hphi ha => ?_⟩
      have hfl : ∀ a ∈ args, noName 16 a = true := List.all_eq_true.1 hf
      have ha' : VL ⟨fun _ => none, X.phi⟩ args vargs.toList := ⟨ha.len, fun i a y h1 h2 => V.unname (X := X) (Z := ⟨fun _ => none, X.phi⟩) (fun _ _ h => h) 16 (hfl a (List.mem_of_getElem? h1)) (ha.at_ i a y h1 h2)⟩
      refine Calls.mono ((evCall_ok (w0 := ⟨w, X.phi, fun _ => none⟩) hP F').calls g args HS.start _ _ hF ⟨fun _ => none, X.phi⟩ w vargs (R.begin hphi) ha') ?_
      rintro e w' ⟨Y, hle, hE, hR⟩
      obtain ⟨y, rfl, hv⟩ := hE.val hnp
      have hsn := snapV_sound hR _ _ _ _ _ hv hs
      have hRi := hR.iceAll (fun _ => false)
      have hli := hR.le_iceAll (fun _ => false)
      exact ⟨y, (Y.iceAll (fun _ => false) (den h0) w').phi, rfl, hR.below, fun b o hb => hli.phi b o (hle.phi b o hb), fun b hb => (hRi.old b hb).1, hRi.phi, V.unname (X := Y.iceAll (fun _ => false) (den h0) w') (Z := ⟨fun _ => none, (Y.iceAll (fun _ => false) (den h0) w').phi⟩) (fun _ _ h => h) 16 h.2 hsn⟩

/-- All that is known. -/
def TabOK (P : Program) (tab : Tab) : Prop := ∀ x ∈ tab, OrcFor P x.1 x.2.1 x.2.2
def PtOK (P : Program) (pt : List (Nat × Grp)) : Prop := ∀ z ∈ pt, ∀ y ∈ z.2, ∀ x ∈ y.2, OrcFor P z.1 (y.1 :: x.1) x.2
theorem TabOK.nil (P : Program) : TabOK P [] := fun x h => by cases h
theorem PtOK.nil (P : Program) : PtOK P [] := fun x h => by cases h
theorem TabOK.cons {P : Program} {g : Nat} {args : List AV} {v : AV} {tab : Tab} (h1 : OrcFor P g args v) (h2 : TabOK P tab) : TabOK P ((g, args, v) :: tab) := fun x h => by
  rcases List.mem_cons.1 h with rfl | h
  · exact h1
  · exact h2 x h
theorem TabOK.append {P : Program} {a b : Tab} (h1 : TabOK P a) (h2 : TabOK P b) : TabOK P (a ++ b) := fun x h => by
  rcases List.mem_append.1 h with h | h
  · exact h1 x h
  · exact h2 x h

/-- What is to be shown of a program once. -/
structure ProgBase (P : Program) (fz : FuncId → Nat → Nat → Bool) : Prop where
  mixed : P.follows .mixedOrders = true
  name : ∀ (g : Nat) (fn : Func), P.funcs[g]? = some fn → (fn.name == "runtime.NumGoroutine") = false
  codes : ∀ (g : Nat) (fn : Func) (c : Code), P.funcs[g]? = some fn → fn.body = some c → codeOk (fz g) c = true

theorem ProgBase.ok {P : Program} {fz : FuncId → Nat → Nat → Bool} (h : ProgBase P fz) {pt : List (Nat × Grp)} {tab : Tab} (hp : PtOK P pt) (ht : TabOK P tab) : ProgOK P (Hints.plain fz pt tab) := by
  refine ⟨fun g args v ho => ?_, h.mixed, h.name, h.codes⟩
  have ho : known (ofP pt g) (ofG tab g) args = some v := ho
  unfold known at ho
  cases hg : lookG (ofP pt g) args with
  | some u =>
    rw [hg] at ho
    cases ho
    rcases ofP_mem (l := pt) (g := g) with h0 | ⟨z, hz, h1, h2⟩
    · rw [h0, lookG_nil] at hg; cases hg
    · obtain ⟨y, hy, w, hw, h3, h4⟩ := lookG_mem hg
      rw [h2] at hy
      have := hp z hz y hy w hw
      rw [h1, ← h3, h4] at this
      exact this
  | none =>
    rw [hg] at ho
    obtain ⟨x, hx, h1, h2⟩ := look_mem ho
    obtain ⟨h3, h4⟩ := ofG_mem hx
    have := ht x h3
    rw [h4, ← h1, h2] at this
    exact this

/-- Calls each of which is known once those behind it are. -/
noncomputable def chainOk (P : Program) (fz : FuncId → Nat → Nat → Bool) (kp : Nat → Nat) (pt : List (Nat × Grp)) (base : Tab) (F : Nat) (l : Tab) : Bool :=
  List.rec true (fun x l ih => Bool.rec false (Bool.rec false ih (x.2.1.all (noName 16))) (isOrc ((callF P fz kp pt (l ++ base) F).call x.1 x.2.1 .leaf 0) x.2.2)) l

theorem chain_of {P : Program} {fz : FuncId → Nat → Nat → Bool} {kp : Nat → Nat} {pt : List (Nat × Grp)} {base : Tab} {F : Nat} (hb : ProgBase P fz) (hp : PtOK P pt) (ht : TabOK P base) : ∀ {l : Tab}, chainOk P fz kp pt base F l = true → TabOK P (l ++ base)
  | [], _ => ht
  | x :: l, h => by
    change (Bool.rec false (Bool.rec false (chainOk P fz kp pt base F l) (x.2.1.all (noName 16))) (isOrc ((callF P fz kp pt (l ++ base) F).call x.1 x.2.1 .leaf 0) x.2.2) : Bool) = true at h
    cases h1 : isOrc ((callF P fz kp pt (l ++ base) F).call x.1 x.2.1 .leaf 0) x.2.2 with
    | false => rw [h1] at h; cases h
    | true =>
      rw [h1] at h
      simp only at h
      cases h2 : x.2.1.all (noName 16) with
      | false => rw [h2] at h; cases h
      | true =>
        rw [h2] at h
        have ih := chain_of hb hp ht h
        exact TabOK.cons (orc_of (hb.ok hp ih) h2 h1) ih
end Go.Ev
