/- Calls made ready for the kernel. -/
import Derived.Test.YtghpalokaedpkaaGreatEv23
set_option linter.unusedVariables false
set_option linter.unusedSimpArgs false
namespace Go.Ev

noncomputable def lgetD (l : List AV) : Nat → AV := List.rec (fun _ => .tup []) (fun x _ ih n => Nat.rec x (fun m _ => ih m) n) l
theorem lgetD_eq : ∀ (l : List AV) (n : Nat), lgetD l n = l.getD n (.tup [])
  | [], n => rfl
  | x :: l, 0 => rfl
  | x :: l, n + 1 => by
    change lgetD l n = _
    rw [lgetD_eq l n]; rfl

noncomputable def e0 : R16 AV := ⟨.tup [], .tup [], .tup [], .tup [], .tup [], .tup [], .tup [], .tup [], .tup [], .tup [], .tup [], .tup [], .tup [], .tup [], .tup [], .tup []⟩
noncomputable def initR (l : List AV) : R16 AV := List.rec (motive := fun _ => R16 AV) ⟨.tup [], .tup [], .tup [], .tup [], .tup [], .tup [], .tup [], .tup [], .tup [], .tup [], .tup [], .tup [], .tup [], .tup [], .tup [], .tup []⟩ (fun a0 l _ => List.rec (motive := fun _ => R16 AV) ⟨a0, .tup [], .tup [], .tup [], .tup [], .tup [], .tup [], .tup [], .tup [], .tup [], .tup [], .tup [], .tup [], .tup [], .tup [], .tup []⟩ (fun a1 l _ => List.rec (motive := fun _ => R16 AV) ⟨a0, a1, .tup [], .tup [], .tup [], .tup [], .tup [], .tup [], .tup [], .tup [], .tup [], .tup [], .tup [], .tup [], .tup [], .tup []⟩ (fun a2 l _ => List.rec (motive := fun _ => R16 AV) ⟨a0, a1, a2, .tup [], .tup [], .tup [], .tup [], .tup [], .tup [], .tup [], .tup [], .tup [], .tup [], .tup [], .tup [], .tup []⟩ (fun a3 l _ => List.rec (motive := fun _ => R16 AV) ⟨a0, a1, a2, a3, .tup [], .tup [], .tup [], .tup [], .tup [], .tup [], .tup [], .tup [], .tup [], .tup [], .tup [], .tup []⟩ (fun a4 l _ => List.rec (motive := fun _ => R16 AV) ⟨a0, a1, a2, a3, a4, .tup [], .tup [], .tup [], .tup [], .tup [], .tup [], .tup [], .tup [], .tup [], .tup [], .tup []⟩ (fun a5 l _ => List.rec (motive := fun _ => R16 AV) ⟨a0, a1, a2, a3, a4, a5, .tup [], .tup [], .tup [], .tup [], .tup [], .tup [], .tup [], .tup [], .tup [], .tup []⟩ (fun a6 l _ => List.rec (motive := fun _ => R16 AV) ⟨a0, a1, a2, a3, a4, a5, a6, .tup [], .tup [], .tup [], .tup [], .tup [], .tup [], .tup [], .tup [], .tup []⟩ (fun a7 l _ => List.rec (motive := fun _ => R16 AV) ⟨a0, a1, a2, a3, a4, a5, a6, a7, .tup [], .tup [], .tup [], .tup [], .tup [], .tup [], .tup [], .tup []⟩ (fun a8 l _ => List.rec (motive := fun _ => R16 AV) ⟨a0, a1, a2, a3, a4, a5, a6, a7, a8, .tup [], .tup [], .tup [], .tup [], .tup [], .tup [], .tup []⟩ (fun a9 l _ => List.rec (motive := fun _ => R16 AV) ⟨a0, a1, a2, a3, a4, a5, a6, a7, a8, a9, .tup [], .tup [], .tup [], .tup [], .tup [], .tup []⟩ (fun a10 l _ => List.rec (motive := fun _ => R16 AV) ⟨a0, a1, a2, a3, a4, a5, a6, a7, a8, a9, a10, .tup [], .tup [], .tup [], .tup [], .tup []⟩ (fun a11 l _ => List.rec (motive := fun _ => R16 AV) ⟨a0, a1, a2, a3, a4, a5, a6, a7, a8, a9, a10, a11, .tup [], .tup [], .tup [], .tup []⟩ (fun a12 l _ => List.rec (motive := fun _ => R16 AV) ⟨a0, a1, a2, a3, a4, a5, a6, a7, a8, a9, a10, a11, a12, .tup [], .tup [], .tup []⟩ (fun a13 l _ => List.rec (motive := fun _ => R16 AV) ⟨a0, a1, a2, a3, a4, a5, a6, a7, a8, a9, a10, a11, a12, a13, .tup [], .tup []⟩ (fun a14 l _ => List.rec (motive := fun _ => R16 AV) ⟨a0, a1, a2, a3, a4, a5, a6, a7, a8, a9, a10, a11, a12, a13, a14, .tup []⟩ (fun a15 l _ => ⟨a0, a1, a2, a3, a4, a5, a6, a7, a8, a9, a10, a11, a12, a13, a14, a15⟩) l) l) l) l) l) l) l) l) l) l) l) l) l) l) l) l
noncomputable def initE (l : List AV) : E := ⟨initR l, e0, e0, e0, e0, e0, e0, e0, e0, e0, e0, e0, e0, e0, e0, e0⟩

theorem e0_get (i : Nat) (h : i < 16) : (g16 i).get e0 = .tup [] := by
  rcases i with _ | _ | _ | _ | _ | _ | _ | _ | _ | _ | _ | _ | _ | _ | _ | _ | i
  all_goals first | rfl | (exfalso; omega)

theorem initR_get (l : List AV) (hl : l.length ≤ 16) (i : Nat) (hi : i < 16) : (g16 i).get (initR l) = l.getD i (.tup []) := by
  rcases l with _ | ⟨a0, _ | ⟨a1, _ | ⟨a2, _ | ⟨a3, _ | ⟨a4, _ | ⟨a5, _ | ⟨a6, _ | ⟨a7, _ | ⟨a8, _ | ⟨a9, _ | ⟨a10, _ | ⟨a11, _ | ⟨a12, _ | ⟨a13, _ | ⟨a14, _ | ⟨a15, l⟩⟩⟩⟩⟩⟩⟩⟩⟩⟩⟩⟩⟩⟩⟩⟩
  all_goals
    rcases i with _ | _ | _ | _ | _ | _ | _ | _ | _ | _ | _ | _ | _ | _ | _ | _ | i
    all_goals first | rfl | (exfalso; omega) | skip
  all_goals
    simp only [List.length_cons] at hl
    have : l = [] := List.eq_nil_of_length_eq_zero (by omega)
    subst this
    rfl

theorem initE_get (l : List AV) (hl : l.length ≤ 16) (i : Nat) (hi : i < 256) : (gg i).get (initE l) = l.getD i (.tup []) := by
  rw [(gg_gh i hi).1]
  simp only [gh]
  by_cases h : i < 16
  · have h0 : i / 16 = 0 := by omega
    have h1 : i % 16 = i := by omega
    rw [h0, h1]
    exact initR_get l hl i h
  · have hd : l.getD i (.tup []) = .tup [] := by
      have : l.length ≤ i := by omega
      simp [List.getD, this]
    rw [hd]
    have he : (g16 (i / 16)).get (initE l) = e0 := by
      have h1 : 1 ≤ i / 16 := by omega
      have h2 : i / 16 < 16 := by omega
      generalize i / 16 = j at h1 h2
      rcases j with _ | _ | _ | _ | _ | _ | _ | _ | _ | _ | _ | _ | _ | _ | _ | _ | j
      all_goals first | rfl | (exfalso; omega)
    rw [he]
    exact e0_get _ (by omega)

theorem initE_rel {n ks : Nat} (l : List AV) (hl : l.length ≤ 16) (hln : l.length ≤ n) : Rel n ks (initE l) (l ++ List.replicate (n - l.length) (.tup [])) := by
  refine ⟨by simp; omega, fun i s hi hs => ?_⟩
  have := kix_eq hi
  subst this
  rw [initE_get l hl s hs]
  simp only [List.getD]
  have hrep : ∀ {j m : Nat}, ((List.replicate m (AV.tup []))[j]?).getD (.tup []) = .tup [] := by
    intro j m
    rw [List.getElem?_replicate]
    split <;> rfl
  rcases Nat.lt_or_ge s l.length with h | h
  · rw [List.getElem?_append_left h]
  · rw [List.getElem?_append_right h, hrep]
    rw [List.getElem?_eq_none h]; rfl

/-! ### results -/
structure JR where
  get : E → BT → Option AV
structure JRs where
  get : E → BT → Option (List AV)

noncomputable def jresult (P : Program) (ρ : SR) : ResultVar → Option JR
  | .tmp t => match ρ t with
    | some x => some ⟨fun e _ => some (x.get e)⟩
    | none => none
  | .cell a t => match ρ a with
    | some x => match jagg P t with
      | true => some ⟨fun e h => load1 P h t (x.get e)⟩
      | false => some ⟨fun e h => evLoad P (den h) t (x.get e)⟩
    | none => none

theorem jresult_ok {P : Program} {ρ : SR} {r : ResultVar} {g : JR} (hg : jresult P ρ r = some g) {e : E} {ts : List AV} (hr : RhoOK ρ e ts) {b : BT} {m : Nat} {v : AV} (h : g.get e b = some v) : evResult P ⟨den b, m⟩ ts r = some v := by
  cases r with
  | tmp t =>
    simp only [jresult] at hg
    split at hg <;> cases hg
    rename_i x hx
    cases h
    simp only [evResult, slot]
    rw [hr t x hx]
  | cell a t =>
    simp only [jresult] at hg
    split at hg <;> try cases hg
    rename_i x hx
    have hs : slot ts a = x.get e := by simp only [slot]; rw [hr a x hx]
    split at hg <;> cases hg
    · rename_i hj
      simp only at h
      simp only [evResult, hs]
      exact load1_ok (jagg_ok hj) h
    · simp only [evResult, hs]
      exact h

noncomputable def jresultL (P : Program) (n : SR) : List ResultVar → Option JRs
  | [] => some ⟨fun _ _ => some []⟩
  | r :: rs => match jresult P n r, jresultL P n rs with
    | some a, some b => some ⟨fun e h => Option.rec none (fun x => Option.rec none (fun xs => some (x :: xs)) (b.get e h)) (a.get e h)⟩
    | _, _ => none

theorem jresultL_ok {P : Program} {n : SR} {e : E} {ts : List AV} (hr : RhoOK n e ts) {b : BT} {m : Nat} : ∀ {rs : List ResultVar} {g : JRs} {v : List AV}, jresultL P n rs = some g → g.get e b = some v → mapO (evResult P ⟨den b, m⟩ ts) rs = some v
  | [], g, v, hg, h => by cases hg; cases h; rfl
  | r :: rs, g, v, hg, h => by
    simp only [jresultL] at hg
    split at hg <;> cases hg
    rename_i a c ha hb
    simp only at h
    cases hx : a.get e b with
    | none => rw [hx] at h; cases h
    | some x =>
      rw [hx] at h
      simp only at h
      cases hxs : c.get e b with
      | none => rw [hxs] at h; cases h
      | some xs =>
        rw [hxs] at h
        cases h
        simp only [mapO, jresult_ok ha hr hx, jresultL_ok hr hb hxs]

noncomputable def jresults (P : Program) (n : SR) (rs : List ResultVar) : Option JR :=
  match rs with
  | [r] => jresult P n r
  | rs => match jresultL P n rs with
    | some g => some ⟨fun e h => Option.rec none (fun xs => some (.tup xs)) (g.get e h)⟩
    | none => none

theorem jresults_ok {P : Program} {fn : Func} {n : SR} {g : JR} (hg : jresults P n fn.results.toList = some g) {e : E} {ts : List AV} (hr : RhoOK n e ts) {b : BT} {m : Nat} {v : AV} (h : g.get e b = some v) : evResults P fn ⟨den b, m⟩ ts = some v := by
  unfold jresults at hg
  unfold evResults
  split at hg
  · rename_i r hrs
    rw [hrs]
    exact jresult_ok hg hr h
  · rename_i rs' hne
    split at hg <;> cases hg
    rename_i g' hg'
    simp only at h
    cases hx : g'.get e b with
    | none => rw [hx] at h; cases h
    | some xs =>
      rw [hx] at h
      cases h
      simp only [jresultL_ok hr hg' hx, Option.map_some]

/-! ### calls -/
structure JF where
  run : CF → List AV → BT → Nat → CO

/-- All stays as it is behind a call. -/
abbrev Tab := List (Nat × List AV × AV)
/-- The same arguments? The last ones are looked at first. -/
noncomputable def argsEq (a : List AV) : List AV → Bool := List.rec (fun b => List.rec true (fun _ _ _ => false) b) (fun x _ ih b => List.rec false (fun y b _ => Bool.rec false (avEq 16 x y) (ih b)) b) a
theorem argsEq_eq : ∀ {a b : List AV}, argsEq a b = true → a = b
  | [], [], h => rfl
  | [], y :: b, h => by cases h
  | x :: a, [], h => by cases h
  | x :: a, y :: b, h => by
    change (Bool.rec false (avEq 16 x y) (argsEq a b) : Bool) = true at h
    cases hx : argsEq a b with
    | false => rw [hx] at h; cases h
    | true => rw [hx] at h; rw [avEq_eq _ _ _ h, argsEq_eq hx]
noncomputable def look (l : Tab) (args : List AV) : Option AV := List.rec none (fun x _ ih => Bool.rec ih (some x.2.2) (argsEq args x.2.1)) l
noncomputable def ofG (l : Tab) (g : Nat) : Tab := List.rec [] (fun x _ ih => Bool.rec ih (x :: ih) (Nat.beq x.1 g)) l

theorem look_mem : ∀ {l : Tab} {args : List AV} {v : AV}, look l args = some v → ∃ x ∈ l, args = x.2.1 ∧ x.2.2 = v
  | [], args, v, h => by cases h
  | x :: l, args, v, h => by
    change (Bool.rec (look l args) (some x.2.2) (argsEq args x.2.1) : Option AV) = some v at h
    cases he : argsEq args x.2.1 with
    | true =>
      rw [he] at h
      cases h
      exact ⟨x, .head _, argsEq_eq he, rfl⟩
    | false =>
      rw [he] at h
      obtain ⟨y, hy, h1⟩ := look_mem (l := l) h
      exact ⟨y, .tail _ hy, h1⟩

theorem ofG_mem : ∀ {l : Tab} {g : Nat} {x : Nat × List AV × AV}, x ∈ ofG l g → x ∈ l ∧ x.1 = g
  | [], g, x, h => by cases h
  | y :: l, g, x, h => by
    change x ∈ (Bool.rec (ofG l g) (y :: ofG l g) (Nat.beq y.1 g) : Tab) at h
    cases he : Nat.beq y.1 g with
    | true =>
      rw [he] at h
      rcases List.mem_cons.1 h with h | h
      · subst h; exact ⟨.head _, Nat.eq_of_beq_eq_true he⟩
      · exact ⟨.tail _ (ofG_mem h).1, (ofG_mem h).2⟩
    | false =>
      rw [he] at h
      exact ⟨.tail _ (ofG_mem h).1, (ofG_mem h).2⟩

/-! ### calls with plain arguments, and are known -/
noncomputable def flatEq (a b : AV) : Bool := Option.rec (OI.rec false (fun k n => OI.rec false (fun k' n' => Bool.rec false (feq n n') (kEq k k')) (asI b)) (asI a)) (fun x => Option.rec false (fun y => seq x y) (asS b)) (asS a)
theorem flatEq_eq {a b : AV} (h : flatEq a b = true) : a = b := by
  unfold flatEq at h
  cases ha : asS a with
  | some x =>
    rw [ha] at h
    simp only at h
    cases hb : asS b with
    | none => rw [hb] at h; cases h
    | some y =>
      rw [hb] at h
      simp only at h
      rw [seq_eq] at h
      rw [asS_eq ha, asS_eq hb, beq_iff_eq.1 h]
  | none =>
    rw [ha] at h
    simp only at h
    cases hi : asI a with
    | none => rw [hi] at h; cases h
    | some k n =>
      rw [hi] at h
      simp only at h
      cases hj : asI b with
      | none => rw [hj] at h; cases h
      | some k' n' =>
        rw [hj] at h
        simp only at h
        cases hk : kEq k k' with
        | false => rw [hk] at h; cases h
        | true =>
          rw [hk] at h
          simp only at h
          rw [feq_eq] at h
          rw [asI_eq hi, asI_eq hj, kEq_eq hk, beq_iff_eq.1 h]

noncomputable def flatsEq (a : List AV) : List AV → Bool := List.rec (fun b => List.rec true (fun _ _ _ => false) b) (fun x _ ih b => List.rec false (fun y b _ => Bool.rec false (ih b) (flatEq x y)) b) a
theorem flatsEq_eq : ∀ {a b : List AV}, flatsEq a b = true → a = b
  | [], [], h => rfl
  | [], y :: b, h => by cases h
  | x :: a, [], h => by cases h
  | x :: a, y :: b, h => by
    change (Bool.rec false (flatsEq a b) (flatEq x y) : Bool) = true at h
    cases hx : flatEq x y with
    | false => rw [hx] at h; cases h
    | true => rw [hx] at h; rw [flatEq_eq hx, flatsEq_eq h]

abbrev Grp := List (AV × List (List AV × AV))
noncomputable def lookR (l : List (List AV × AV)) (r : List AV) : Option AV := List.rec none (fun x _ ih => Bool.rec ih (some x.2) (flatsEq r x.1)) l
noncomputable def lookG (l : Grp) (args : List AV) : Option AV := List.rec none (fun a r _ => List.rec none (fun x _ ih => Bool.rec ih (lookR x.2 r) (flatEq a x.1)) l) args
noncomputable def ofP (l : List (Nat × Grp)) (g : Nat) : Grp := List.rec [] (fun x _ ih => Bool.rec ih x.2 (Nat.beq x.1 g)) l

theorem lookR_mem : ∀ {l : List (List AV × AV)} {r : List AV} {v : AV}, lookR l r = some v → ∃ x ∈ l, r = x.1 ∧ x.2 = v
  | [], r, v, h => by cases h
  | x :: l, r, v, h => by
    change (Bool.rec (lookR l r) (some x.2) (flatsEq r x.1) : Option AV) = some v at h
    cases he : flatsEq r x.1 with
    | true => rw [he] at h; cases h; exact ⟨x, .head _, flatsEq_eq he, rfl⟩
    | false =>
      rw [he] at h
      obtain ⟨y, hy, h1⟩ := lookR_mem (l := l) h
      exact ⟨y, .tail _ hy, h1⟩

theorem lookG_mem {l : Grp} {args : List AV} {v : AV} (h : lookG l args = some v) : ∃ y ∈ l, ∃ x ∈ y.2, args = y.1 :: x.1 ∧ x.2 = v := by
  cases args with
  | nil => cases h
  | cons a r =>
    induction l with
    | nil => cases h
    | cons y l ih =>
      change (Bool.rec (lookG l (a :: r)) (lookR y.2 r) (flatEq a y.1) : Option AV) = some v at h
      cases he : flatEq a y.1 with
      | true =>
        rw [he] at h
        obtain ⟨x, hx, h1, h2⟩ := lookR_mem h
        exact ⟨y, .head _, x, hx, by rw [flatEq_eq he, h1], h2⟩
      | false =>
        rw [he] at h
        obtain ⟨z, hz, h1⟩ := ih h
        exact ⟨z, .tail _ hz, h1⟩

theorem ofP_mem : ∀ {l : List (Nat × Grp)} {g : Nat}, ofP l g = [] ∨ ∃ x ∈ l, x.1 = g ∧ ofP l g = x.2
  | [], g => .inl rfl
  | x :: l, g => by
    change ((Bool.rec (ofP l g) x.2 (Nat.beq x.1 g) : Grp) = []) ∨ _
    cases he : Nat.beq x.1 g with
    | true => exact .inr ⟨x, .head _, Nat.eq_of_beq_eq_true he, by change (Bool.rec (ofP l g) x.2 (Nat.beq x.1 g) : Grp) = _; rw [he]⟩
    | false =>
      have : ofP (x :: l) g = ofP l g := by change (Bool.rec (ofP l g) x.2 (Nat.beq x.1 g) : Grp) = _; rw [he]
      rcases ofP_mem (l := l) (g := g) with h | ⟨y, hy, h1, h2⟩
      · exact .inl h
      · exact .inr ⟨y, .tail _ hy, h1, by rw [this]; exact h2⟩

/-- What is known of a call. -/
noncomputable def known (gr : Grp) (l : Tab) (args : List AV) : Option AV := Option.rec (look l args) (fun v => some v) (lookG gr args)

noncomputable def Hints.plain (fz : FuncId → Nat → Nat → Bool) (pt : List (Nat × Grp)) (tab : Tab) : Hints := ⟨fz, fun _ _ _ _ _ => true, fun _ => false, fun _ _ _ _ _ => false, fun g args => known (ofP pt g) (ofG tab g) args⟩

noncomputable def jfunc (P : Program) (fz : FuncId → Nat → Nat → Bool) (kp : Nat → Nat) (g : Nat) : JF :=
  match P.funcs[g]? with
  | some fn => match fn.body, jresults P (jsr (kp g) [] none) fn.results.toList with
    | some c, some r => ⟨fun cf args h m => Bool.rec .none (Bool.rec .none
        (Out.rec .none (fun e h m => Option.rec .none (fun v => .some v h m) (r.get e h)) (fun _ _ _ _ => .none) (fun e h m => Option.rec .none (fun v => .some v h m) (r.get e h)) ((jcode P fn.ntmps (kp g) (fz g) c jend).run cf (initE args) h m))
        (Nat.ble args.length fn.ntmps)) (Nat.ble args.length 16)⟩
    | _, _ => ⟨fun _ _ _ _ => .none⟩
  | none => ⟨fun _ _ _ _ => .none⟩

/-- A function some of whose calls are known. -/
noncomputable def jknown (gr : Grp) (l : Tab) (j : JF) : JF :=
  match gr, l with
  | [], [] => j
  | [], x :: l => ⟨fun cf args h m => Option.rec (j.run cf args h m) (fun v => .some v h m) (look (x :: l) args)⟩
  | y :: gr, l => ⟨fun cf args h m => Option.rec (j.run cf args h m) (fun v => .some v h m) (known (y :: gr) l args)⟩

noncomputable def callF (P : Program) (fz : FuncId → Nat → Nat → Bool) (kp : Nat → Nat) (pt : List (Nat × Grp)) (tab : Tab) (F : Nat) : CF := Nat.rec ⟨fun _ _ _ _ => .none⟩ (fun _ ih => ⟨fun g args h m => (jknown (ofP pt g) (ofG tab g) (jfunc P fz kp g)).run ih args h m⟩) F

theorem evReturn_plain {fz : FuncId → Nat → Nat → Bool} {pt : List (Nat × Grp)} {tab : Tab} (f : FuncId) (args : List AV) (n0 : Nat) (v : AV) (s : HS) : evReturn (Hints.plain fz pt tab) f args n0 v s = some (v, s) := by
  simp [evReturn, Hints.plain, sweptD]

theorem jfunc_ok {P : Program} {fz : FuncId → Nat → Nat → Bool} {pt : List (Nat × Grp)} {tab : Tab} {kp : Nat → Nat} {cf : CF} (hcf : CFok P (Hints.plain fz pt tab) cf) {g : Nat} {args : List AV} (hno : known (ofP pt g) (ofG tab g) args = none) {h h' : BT} {m m' : Nat} {v : AV} (e : (jfunc P fz kp g).run cf args h m = .some v h' m') :
    evLim P (Hints.plain fz pt tab) g args ⟨den h, m⟩ = some (v, ⟨den h', m'⟩) := by
  unfold jfunc at e
  split at e
  · rename_i fn hfn
    split at e
    · rename_i c r hbody hres
      simp only at e
      cases h16 : Nat.ble args.length 16 with
      | false => rw [h16] at e; cases e
      | true =>
        rw [h16] at e
        simp only at e
        cases hln : Nat.ble args.length fn.ntmps with
        | false => rw [hln] at e; cases e
        | true =>
          rw [hln] at e
          simp only at e
          have hr := initE_rel (ks := kp g) args (Nat.le_of_ble_eq_true h16) (Nat.le_of_ble_eq_true hln)
          have fin : ∀ (e' : E) (h2 : BT) (m2 : Nat) (ts' : List AV), Rel fn.ntmps (kp g) e' ts' → (Option.rec .none (fun v => .some v h2 m2) (r.get e' h2) : CO) = .some v h' m' → evResults P fn ⟨den h2, m2⟩ ts' = some v ∧ h2 = h' ∧ m2 = m' := by
            intro e' h2 m2 ts' hr' hv
            cases hg : r.get e' h2 with
            | none => rw [hg] at hv; cases hv
            | some u =>
              rw [hg] at hv
              cases hv
              exact ⟨jresults_ok hres (jsr_ok (hr'.sinv #[]) trivial) (m := m') hg, rfl, rfl⟩
          cases ho : (jcode P fn.ntmps (kp g) (fz g) c jend).run cf (initE args) h m with
          | none => rw [ho] at e; cases e
          | exit i e1 h1 m1 => rw [ho] at e; cases e
          | norm e1 h1 m1 =>
            rw [ho] at e
            obtain ⟨x, ts', s', hc, hq⟩ := jcode_ok (Hn := Hints.plain fz pt tab) (f := g) hcf c hr (by simp) ho
            cases x with
            | exit i => obtain ⟨e', b', m2, rfl, hr', hk⟩ := hq; cases hk
            | ret => obtain ⟨e', b', m2, rfl, hr', hk⟩ := hq; cases hk
            | normal =>
              obtain ⟨e', b', m2, rfl, hr', hk⟩ := hq
              cases hk
              obtain ⟨hu, h1, h2⟩ := fin _ _ _ _ hr' e
              refine evLim_body hfn hbody hno ?_
              simp only [bodyL, hc]
              subst h1 h2
              simp only [hu, evReturn_plain]
          | ret e1 h1 m1 =>
            rw [ho] at e
            obtain ⟨x, ts', s', hc, hq⟩ := jcode_ok (Hn := Hints.plain fz pt tab) (f := g) hcf c hr (by simp) ho
            cases x with
            | exit i => obtain ⟨e', b', m2, rfl, hr', hk⟩ := hq; cases hk
            | normal => obtain ⟨e', b', m2, rfl, hr', hk⟩ := hq; cases hk
            | ret =>
              obtain ⟨e', b', m2, rfl, hr', hk⟩ := hq
              cases hk
              obtain ⟨hu, h1, h2⟩ := fin _ _ _ _ hr' e
              refine evLim_body hfn hbody hno ?_
              simp only [bodyL, hc]
              subst h1 h2
              simp only [hu, evReturn_plain]
    · cases e
  · cases e

theorem lookG_nil (args : List AV) : lookG [] args = none := by
  cases args <;> rfl

theorem jknown_ok {P : Program} {fz : FuncId → Nat → Nat → Bool} {kp : Nat → Nat} {pt : List (Nat × Grp)} {tab : Tab} {cf : CF} (hcf : CFok P (Hints.plain fz pt tab) cf) {g : Nat} {args : List AV} {h h' : BT} {m m' : Nat} {v : AV} (e : (jknown (ofP pt g) (ofG tab g) (jfunc P fz kp g)).run cf args h m = .some v h' m') :
    evLim P (Hints.plain fz pt tab) g args ⟨den h, m⟩ = some (v, ⟨den h', m'⟩) := by
  have key : ∀ (k : Option AV), known (ofP pt g) (ofG tab g) args = k → (Option.rec ((jfunc P fz kp g).run cf args h m) (fun v => .some v h m) k : CO) = .some v h' m' → evLim P (Hints.plain fz pt tab) g args ⟨den h, m⟩ = some (v, ⟨den h', m'⟩) := by
    intro k hk e
    cases k with
    | none => exact jfunc_ok hcf hk e
    | some u =>
      cases e
      exact evLim_orc hk _
  unfold jknown at e
  split at e
  · rename_i h1 h2
    exact jfunc_ok hcf (by rw [h1, h2]; simp only [known, lookG_nil]; rfl) e
  · rename_i x l h1 h2
    refine key _ ?_ e
    rw [h1, h2]
    simp only [known, lookG_nil]
  · rename_i y gr l h1
    refine key _ ?_ e
    rw [h1]

theorem callF_ok {P : Program} {fz : FuncId → Nat → Nat → Bool} {kp : Nat → Nat} {pt : List (Nat × Grp)} {tab : Tab} : ∀ F, CFok P (Hints.plain fz pt tab) (callF P fz kp pt tab F)
  | 0 => fun g args h n v h' n' e => by cases e
  | F + 1 => fun g args h n v h' n' e => jknown_ok (callF_ok F) e

/-- Does a call come to 'true'? -/
noncomputable def yes (r : CO) : Bool := CO.rec false (fun v _ _ => OB.rec false true false (asB v)) r

theorem yes_ok {P : Program} {fz : FuncId → Nat → Nat → Bool} {kp : Nat → Nat} {pt : List (Nat × Grp)} {tab : Tab} {F : Nat} {f : FuncId} {args : List AV} (h : yes ((callF P fz kp pt tab F).call f args .leaf 0) = true) : ∃ s', evLim P (Hints.plain fz pt tab) f args HS.start = some (.bool true, s') := by
  cases hc : (callF P fz kp pt tab F).call f args .leaf 0 with
  | none => rw [hc] at h; cases h
  | some v h' n' =>
    rw [hc] at h
    change (OB.rec false true false (asB v) : Bool) = true at h
    cases hB : asB v with
    | none => rw [hB] at h; cases h
    | ff => rw [hB] at h; cases h
    | tt =>
      have := callF_ok F _ _ _ _ _ _ _ hc
      rw [asB_tt hB] at this
      exact ⟨_, this⟩

theorem yes_calls {P : Program} {fz : FuncId → Nat → Nat → Bool} {kp : Nat → Nat} {pt : List (Nat × Grp)} {tab : Tab} (hP : ProgOK P (Hints.plain fz pt tab)) {F : Nat} {f : FuncId} {args : List AV} (h : yes ((callF P fz kp pt tab F).call f args .leaf 0) = true) {w : World} {vargs : Array Value} (ha : VL (Cx.start w) args vargs.toList) :
    Calls P f vargs w fun e w' => e = .returned (.bool true) ∧ RowKit.Below w.heap.size w w' := by
  obtain ⟨s', hs⟩ := yes_ok h
  exact calls_of_lim hP hs ha

/-! ### what becomes known -/
/-- Does a value name nothing? -/
def noName : Nat → AV → Bool
  | 0, _ => false
  | d + 1, v => match v with
    | .ptr .. | .sl .. | .map _ => false
    | .fptr cs => cs.all (noName d)
    | .fsl rows => rows.all fun r => r.all (noName d)
    | .clo _ a b => a.all (noName d) && b.all (noName d)
    | .iface _ x => noName d x
    | .agg cs => cs.all (noName d)
    | .tup cs => cs.all (noName d)
    | _ => true

theorem V.unname {X Z : Cx} (hle : ∀ b o, X.phi b = some o → Z.phi b = some o) : ∀ (d : Nat) {v : AV} {y : Value}, noName d v = true → V X v y → V Z v y
  | 0, v, y, h, _ => by simp [noName] at h
  | d + 1, v, y, h, hv => by
    have ih := fun {v : AV} {y : Value} => V.unname hle d (v := v) (y := y)
    unfold noName at h
    cases hv with
    | ptr hm => cases h
    | sl => cases h
    | map hm => cases h
    | bool b => exact .bool b
    | int k n => exact .int k n
    | str s => exact .str s
    | nilp => exact .nilp
    | nils => exact .nils
    | nilm => exact .nilm
    | nilf => exact .nilf
    | nili => exact .nili
    | fsl0 a cap => exact .fsl0 a cap
    | fptr g hb hc hv h1 =>
      simp only [List.all_eq_true] at h
      exact .fptr g (hle _ _ hb) hc (fun i x hx => ih (h x (List.mem_of_getElem? hx)) (hv i x hx)) h1
    | fsl g hb hsz hc hv hcap h1 =>
      simp only [List.all_eq_true] at h
      exact .fsl g (hle _ _ hb) hsz hc (fun i row j x hr hx => ih (h row (List.mem_of_getElem? hr) x (List.mem_of_getElem? hx)) (hv i row j x hr hx)) hcap h1
    | clo hx hc vx vc =>
      simp only [Bool.and_eq_true, List.all_eq_true] at h
      exact .clo hx hc (fun i x y h1 h2 => ih (h.1 x (List.mem_of_getElem? h1)) (vx i x y h1 h2)) (fun i x y h1 h2 => ih (h.2 x (List.mem_of_getElem? h1)) (vc i x y h1 h2))
    | iface t hx => exact .iface t (ih h hx)
    | agg hx vx h1 =>
      simp only [List.all_eq_true] at h
      exact .agg hx (fun i x y e1 e2 => ih (h x (List.mem_of_getElem? e1)) (vx i x y e1 e2)) h1
    | tup hx vx =>
      simp only [List.all_eq_true] at h
      exact .tup hx (fun i x y e1 e2 => ih (h x (List.mem_of_getElem? e1)) (vx i x y e1 e2))

def AV.flat : AV → Bool
  | .bool _ | .int .. | .str _ | .nilp | .nils | .nilm | .nilf | .nili => true
  | _ => false

theorem V.flat {X Z : Cx} {v : AV} {y : Value} (h : v.flat = true) (hv : V X v y) : V Z v y := by
  cases hv with
  | bool b => exact .bool b
  | int k n => exact .int k n
  | str s => exact .str s
  | nilp => exact .nilp
  | nils => exact .nils
  | nilm => exact .nilm
  | nilf => exact .nilf
  | nili => exact .nili
  | _ => cases h

/-- Does a call come to a value that can be known? -/
noncomputable def isOrc (r : CO) (v : AV) : Bool := CO.rec false (fun v0 h _ => Option.rec false (fun x => avEq 16 x v && noName 16 v) (snapV false (fun _ => false) (den h) 16 v0)) r

theorem orc_of {P : Program} {fz : FuncId → Nat → Nat → Bool} {kp : Nat → Nat} {pt : List (Nat × Grp)} {tab : Tab} (hP : ProgOK P (Hints.plain fz pt tab)) {F : Nat} {g : FuncId} {args : List AV} {v : AV} (hf : args.all (noName 16) = true) (h : isOrc ((callF P fz kp pt tab F).call g args .leaf 0) v = true) : OrcFor P g args v := by
  cases hc : (callF P fz kp pt tab F).call g args .leaf 0 with
  | none => rw [hc] at h; cases h
  | some v0 h0 n' =>
    rw [hc] at h
    change (Option.rec false (fun x => avEq 16 x v && noName 16 v) (snapV false (fun _ => false) (den h0) 16 v0) : Bool) = true at h
    cases hs : snapV false (fun _ => false) (den h0) 16 v0 with
    | none => rw [hs] at h; cases h
    | some x =>
      rw [hs] at h
      simp only [Bool.and_eq_true] at h
      have hx := avEq_eq _ _ _ h.1
      subst hx
      have hl := callF_ok F _ _ _ _ _ _ _ hc
      have hl : evLim P (Hints.plain fz pt tab) g args HS.start = some (v0, ⟨den h0, n'⟩) := hl
      obtain ⟨F', hF⟩ := evLim_ex hl
      refine ⟨(evCall_ok (w0 := ⟨default, fun _ => none⟩) hP F').body g args _ _ hF, fun X w vargs hphi ha => ?_⟩
      have hfl : ∀ a ∈ args, noName 16 a = true := List.all_eq_true.1 hf
      have ha' : VL ⟨fun _ => none, X.phi⟩ args vargs.toList := ⟨ha.len, fun i a y h1 h2 => V.unname (X := X) (Z := ⟨fun _ => none, X.phi⟩) (fun _ _ h => h) 16 (hfl a (List.mem_of_getElem? h1)) (ha.at_ i a y h1 h2)⟩
      refine Calls.mono ((evCall_ok (w0 := ⟨w, X.phi⟩) hP F').calls g args HS.start _ _ hF ⟨fun _ => none, X.phi⟩ w vargs (R.begin hphi) ha') ?_
      rintro e w' ⟨Y, y, hle, rfl, hv, hR⟩
      have hsn := snapV_sound hR _ _ _ _ _ hv hs
      have hRi := hR.iceAll (fun _ => false)
      have hli := hR.le_iceAll (fun _ => false)
      exact ⟨y, (Y.iceAll (fun _ => false) (den h0) w').phi, rfl, hR.below, fun b o hb => hli.phi b o (hle.phi b o hb), fun b hb => (hRi.old b hb).1, hRi.phi, V.unname (X := Y.iceAll (fun _ => false) (den h0) w') (Z := ⟨fun _ => none, (Y.iceAll (fun _ => false) (den h0) w').phi⟩) (fun _ _ h => h) 16 h.2 hsn⟩

/-- All that is known. -/
def TabOK (P : Program) (tab : Tab) : Prop := ∀ x ∈ tab, OrcFor P x.1 x.2.1 x.2.2
def PtOK (P : Program) (pt : List (Nat × Grp)) : Prop := ∀ z ∈ pt, ∀ y ∈ z.2, ∀ x ∈ y.2, OrcFor P z.1 (y.1 :: x.1) x.2
theorem TabOK.nil (P : Program) : TabOK P [] := fun x h => by cases h
theorem PtOK.nil (P : Program) : PtOK P [] := fun x h => by cases h
theorem TabOK.cons {P : Program} {g : Nat} {args : List AV} {v : AV} {tab : Tab} (h1 : OrcFor P g args v) (h2 : TabOK P tab) : TabOK P ((g, args, v) :: tab) := fun x h => by
  rcases List.mem_cons.1 h with rfl | h
  · exact h1
  · exact h2 x h
theorem TabOK.append {P : Program} {a b : Tab} (h1 : TabOK P a) (h2 : TabOK P b) : TabOK P (a ++ b) := fun x h => by
  rcases List.mem_append.1 h with h | h
  · exact h1 x h
  · exact h2 x h

/-- What is to be shown of a program once. -/
structure ProgBase (P : Program) (fz : FuncId → Nat → Nat → Bool) : Prop where
  mixed : P.follows .mixedOrders = true
  name : ∀ (g : Nat) (fn : Func), P.funcs[g]? = some fn → (fn.name == "runtime.NumGoroutine") = false
  codes : ∀ (g : Nat) (fn : Func) (c : Code), P.funcs[g]? = some fn → fn.body = some c → codeOk (fz g) c = true

theorem ProgBase.ok {P : Program} {fz : FuncId → Nat → Nat → Bool} (h : ProgBase P fz) {pt : List (Nat × Grp)} {tab : Tab} (hp : PtOK P pt) (ht : TabOK P tab) : ProgOK P (Hints.plain fz pt tab) := by
  refine ⟨fun g args v ho => ?_, h.mixed, h.name, h.codes⟩
  have ho : known (ofP pt g) (ofG tab g) args = some v := ho
  unfold known at ho
  cases hg : lookG (ofP pt g) args with
  | some u =>
    rw [hg] at ho
    cases ho
    rcases ofP_mem (l := pt) (g := g) with h0 | ⟨z, hz, h1, h2⟩
    · rw [h0, lookG_nil] at hg; cases hg
    · obtain ⟨y, hy, w, hw, h3, h4⟩ := lookG_mem hg
      rw [h2] at hy
      have := hp z hz y hy w hw
      rw [h1, ← h3, h4] at this
      exact this
  | none =>
    rw [hg] at ho
    obtain ⟨x, hx, h1, h2⟩ := look_mem ho
    obtain ⟨h3, h4⟩ := ofG_mem hx
    have := ht x h3
    rw [h4, ← h1, h2] at this
    exact this

/-- Calls each of which is known once those behind it are. -/
noncomputable def chainOk (P : Program) (fz : FuncId → Nat → Nat → Bool) (kp : Nat → Nat) (pt : List (Nat × Grp)) (base : Tab) (F : Nat) (l : Tab) : Bool :=
  List.rec true (fun x l ih => Bool.rec false (Bool.rec false ih (x.2.1.all (noName 16))) (isOrc ((callF P fz kp pt (l ++ base) F).call x.1 x.2.1 .leaf 0) x.2.2)) l

theorem chain_of {P : Program} {fz : FuncId → Nat → Nat → Bool} {kp : Nat → Nat} {pt : List (Nat × Grp)} {base : Tab} {F : Nat} (hb : ProgBase P fz) (hp : PtOK P pt) (ht : TabOK P base) : ∀ {l : Tab}, chainOk P fz kp pt base F l = true → TabOK P (l ++ base)
  | [], _ => ht
  | x :: l, h => by
    change (Bool.rec false (Bool.rec false (chainOk P fz kp pt base F l) (x.2.1.all (noName 16))) (isOrc ((callF P fz kp pt (l ++ base) F).call x.1 x.2.1 .leaf 0) x.2.2) : Bool) = true at h
    cases h1 : isOrc ((callF P fz kp pt (l ++ base) F).call x.1 x.2.1 .leaf 0) x.2.2 with
    | false => rw [h1] at h; cases h
    | true =>
      rw [h1] at h
      simp only at h
      cases h2 : x.2.1.all (noName 16) with
      | false => rw [h2] at h; cases h
      | true =>
        rw [h2] at h
        have ih := chain_of hb hp ht h
        exact TabOK.cons (orc_of (hb.ok hp ih) h2 h1) ih
end Go.Ev
