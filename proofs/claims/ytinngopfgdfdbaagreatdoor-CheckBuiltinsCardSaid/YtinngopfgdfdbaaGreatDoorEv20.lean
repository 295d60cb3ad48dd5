/- Operations made ready for the kernel: what hangs on the program alone is reckoned once. -/
import Derived.Test.YtinngopfgdfdbaaGreatDoorEv19
set_option linter.unusedVariables false
set_option linter.unusedSimpArgs false
namespace Go.Ev

/-! ### operands -/
structure X1 where
  get : E → AV
structure XL where
  get : E → List AV
structure XP where
  get : E → List (Nat × AV)
structure XO where
  get : E → Option AV

/-- What is known of the slots where an operation stands. -/
abbrev SR := Nat → Option X1
def RhoOK (n : SR) (e : E) (ts : List AV) : Prop := ∀ t x, n t = some x → ts.getD t (.tup []) = x.get e

noncomputable def jrho (n : SR) : Operand → Option X1
  | .tmp t => n t
  | .const v => match ofV v with
    | some x => some ⟨fun _ => x⟩
    | none => none
  | .func f => some ⟨fun _ => .clo (.func f) [] []⟩
  | .global _ => none

theorem jrho_ok {n : SR} {o : Operand} {x : X1} (h : jrho n o = some x) {e : E} {ts : List AV} (hr : RhoOK n e ts) : rho ts o = some (x.get e) := by
  cases o with
  | tmp t =>
    simp only [rho]
    rw [hr t x h]
  | const v =>
    simp only [jrho] at h
    split at h <;> cases h
    rename_i x hx
    exact hx
  | func f => cases h; rfl
  | global _ => cases h

noncomputable def jrhos (n : SR) : List Operand → Option XL
  | [] => some ⟨fun _ => []⟩
  | o :: os => match jrho n o with
    | some x => match jrhos n os with
      | some xs => some ⟨fun e => x.get e :: xs.get e⟩
      | none => none
    | none => none

theorem jrhos_ok {n : SR} : ∀ {os : List Operand} {x : XL}, jrhos n os = some x → ∀ {e : E} {ts : List AV}, RhoOK n e ts → rhos ts os = some (x.get e)
  | [], x, h, e, ts, hr => by cases h; rfl
  | o :: os, x, h, e, ts, hr => by
    simp only [jrhos] at h
    split at h <;> try cases h
    rename_i x1 h1
    split at h <;> cases h
    rename_i xs h2
    simp only [rhos, jrho_ok h1 hr, jrhos_ok h2 hr]

noncomputable def jrhoP (n : SR) : List (Nat × Operand) → Option XP
  | [] => some ⟨fun _ => []⟩
  | (i, o) :: os => match jrho n o with
    | some x => match jrhoP n os with
      | some xs => some ⟨fun e => (i, x.get e) :: xs.get e⟩
      | none => none
    | none => none

theorem jrhoP_ok {n : SR} : ∀ {os : List (Nat × Operand)} {x : XP}, jrhoP n os = some x → ∀ {e : E} {ts : List AV}, RhoOK n e ts → rhoP ts os = some (x.get e)
  | [], x, h, e, ts, hr => by cases h; rfl
  | (i, o) :: os, x, h, e, ts, hr => by
    simp only [jrhoP] at h
    split at h <;> try cases h
    rename_i x1 h1
    split at h <;> cases h
    rename_i xs h2
    simp only [rhoP, jrho_ok h1 hr, jrhoP_ok h2 hr]

noncomputable def jrhoO (n : SR) : Option Operand → Option XO
  | none => some ⟨fun _ => none⟩
  | some o => match jrho n o with
    | some x => some ⟨fun e => some (x.get e)⟩
    | none => none

theorem jrhoO_ok {n : SR} {o : Option Operand} {x : XO} (h : jrhoO n o = some x) {e : E} {ts : List AV} (hr : RhoOK n e ts) : rhoO ts o = some (x.get e) := by
  cases o with
  | none => cases h; rfl
  | some o =>
    simp only [jrhoO] at h
    split at h <;> cases h
    rename_i x1 h1
    simp only [rhoO, jrho_ok h1 hr]
    rfl

/-! ### two numbers, two texts -/
/-- A fast road for two numbers or two texts; where there is none: none. -/
structure B2 where
  int : IntKind → Int → Int → Option AV
  str : List UInt8 → List UInt8 → Option AV

noncomputable def fbin : BinOp → B2
  | .add => ⟨fun k a b => some (.int k (fadd k a b)), fun _ _ => none⟩
  | .sub => ⟨fun k a b => some (.int k (fsub k a b)), fun _ _ => none⟩
  | .eql => ⟨fun _ a b => some (.bool (feq a b)), fun a b => some (.bool (seq a b))⟩
  | .neq => ⟨fun _ a b => some (.bool (not (feq a b))), fun a b => some (.bool (not (seq a b)))⟩
  | .lss => ⟨fun _ a b => some (.bool (flt a b)), fun _ _ => none⟩
  | .leq => ⟨fun _ a b => some (.bool (not (flt b a))), fun _ _ => none⟩
  | .gtr => ⟨fun _ a b => some (.bool (flt b a)), fun _ _ => none⟩
  | .geq => ⟨fun _ a b => some (.bool (not (flt a b))), fun _ _ => none⟩
  | _ => ⟨fun _ _ _ => none, fun _ _ => none⟩

theorem fbin_int {P : Program} {op : BinOp} {t : TypeId} {c : Bool} {k : IntKind} {a b : Int} {v : AV} (h : (fbin op).int k a b = some v) : evBin P op t c (.int k a) (.int k b) = some v := by
  cases op <;> simp only [fbin] at h <;> cases h <;> simp only [evBin, if_true, evInt]
  · rw [fadd_eq]
  · rw [fsub_eq]
  · rw [feq_eq]
  · rw [feq_eq]; rfl
  · rw [flt_eq]
  · rw [flt_eq]
    congr 2
    rw [Bool.eq_iff_iff, Bool.not_eq_true', decide_eq_true_iff, decide_eq_false_iff_not]
    omega
  · rw [flt_eq]
  · rw [flt_eq]
    congr 2
    rw [Bool.eq_iff_iff, Bool.not_eq_true', decide_eq_true_iff, decide_eq_false_iff_not]
    omega

theorem fbin_str {P : Program} {op : BinOp} {t : TypeId} {c : Bool} {a b : List UInt8} {v : AV} (h : (fbin op).str a b = some v) : evBin P op t c (.str a) (.str b) = some v := by
  cases op <;> simp only [fbin] at h <;> cases h <;> simp only [evBin, evStr, seq_eq]

/-- Two operands. -/
noncomputable def fast2 (f : B2) (u v : AV) : Option AV :=
  OI.rec (Option.rec none (fun a => Option.rec none (fun b => f.str a b) (asS v)) (asS u)) (fun k a => OI.rec none (fun k' b => Bool.rec none (f.int k a b) (kEq k k')) (asI v)) (asI u)
noncomputable def bin2 (P : Program) (op : BinOp) (t : TypeId) (c : Bool) (f : B2) (u v : AV) : Option AV := Option.rec (evBin P op t c u v) (fun r => some r) (fast2 f u v)

theorem fast2_ok {P : Program} {op : BinOp} {t : TypeId} {c : Bool} {u v r : AV} (h : fast2 (fbin op) u v = some r) : evBin P op t c u v = some r := by
  unfold fast2 at h
  cases hu : asI u with
  | none =>
    rw [hu] at h
    simp only at h
    cases hu : asS u with
    | none => rw [hu] at h; cases h
    | some a =>
      rw [hu] at h
      simp only at h
      cases hv : asS v with
      | none => rw [hv] at h; cases h
      | some b => rw [hv] at h; rw [asS_eq hu, asS_eq hv]; exact fbin_str h
  | some k a =>
    rw [hu] at h
    simp only at h
    cases hv : asI v with
    | none => rw [hv] at h; cases h
    | some k' b =>
      rw [hv] at h
      simp only at h
      cases hk : kEq k k' with
      | false => rw [hk] at h; cases h
      | true =>
        rw [hk] at h
        have := kEq_eq hk
        subst this
        rw [asI_eq hu, asI_eq hv]
        exact fbin_int h

theorem bin2_eq (P : Program) (op : BinOp) (t : TypeId) (c : Bool) (u v : AV) : bin2 P op t c (fbin op) u v = evBin P op t c u v := by
  unfold bin2
  cases h : fast2 (fbin op) u v with
  | none => rfl
  | some r => exact (fast2_ok h).symm

/-! ### places -/
/-- Where a field lies. -/
def joff (P : Program) (t : TypeId) (f : Nat) : Option Nat :=
  match P.underlying t with
  | some (.struct fields) => match fields[f]? with
    | some fd => match size? P fd.type with
      | some (_ + 1) => some fd.offset
      | _ => none
    | none => none
  | _ => none

theorem joff_ok {P : Program} {t : TypeId} {f off : Nat} (h : joff P t f = some off) (i o : Nat) : evFieldAddr P t (.ptr i o) f = some (.ptr i (o + off)) := by
  unfold joff at h
  unfold evFieldAddr
  split at h <;> try cases h
  split at h <;> try cases h
  split at h <;> cases h
  simp_all

noncomputable def fad (P : Program) (t : TypeId) (f off : Nat) (v : AV) : Option AV := Option.rec (evFieldAddr P t v f) (fun p => some (.ptr p.1 (Nat.add p.2 off))) (asP v)
theorem fad_eq {P : Program} {t : TypeId} {f off : Nat} (h : joff P t f = some off) (v : AV) : fad P t f off v = evFieldAddr P t v f := by
  unfold fad
  cases hp : asP v with
  | none => rfl
  | some p =>
    rw [asP_eq hp]
    exact (joff_ok h _ _).symm

/-- How great an element of a slice is. -/
def jelem (P : Program) (t : TypeId) : Option Nat :=
  match P.underlying t with
  | some (.slice e) => size? P e
  | _ => none

noncomputable def idx2 (P : Program) (t : TypeId) (size : Nat) (x i : AV) : Option AV :=
  OS.rec (evIndexAddr P t x i) (evIndexAddr P t x i) (fun id off len sz => OI.rec (evIndexAddr P t x i) (fun k j => Int.rec (fun j => Bool.rec (evIndexAddr P t x i) (some (.ptr id (Nat.add off (Nat.mul j size)))) (Nat.ble (Nat.succ j) len)) (fun _ => evIndexAddr P t x i) j) (asI i)) (asL x)

theorem idx2_eq {P : Program} {t : TypeId} {size : Nat} (h : jelem P t = some size) (x i : AV) : idx2 P t size x i = evIndexAddr P t x i := by
  unfold idx2
  cases hx : asL x with
  | none => rfl
  | nils => rfl
  | sl id off len sz =>
    simp only
    cases hi : asI i with
    | none => rfl
    | some k j =>
      cases j with
      | negSucc j => rfl
      | ofNat j =>
        simp only
        cases hb : Nat.ble (Nat.succ j) len with
        | false => rfl
        | true =>
          have hb := Nat.le_of_ble_eq_true hb
          simp only
          rw [asI_eq hi, asL_sl hx]
          unfold jelem at h
          unfold evIndexAddr
          split at h <;> try cases h
          simp only [*]
          rw [if_pos ⟨by simp, by simp only [Int.ofNat_eq_natCast]; omega⟩]
          rfl

def isStrT (P : Program) (t : TypeId) : Bool :=
  match P.underlying t with
  | some .string => true
  | _ => false
def isSlT (P : Program) (t : TypeId) : Bool :=
  match P.underlying t with
  | some (.slice _) => true
  | _ => false

noncomputable def idxS (P : Program) (t : TypeId) (x i : AV) : Option AV :=
  Option.rec (evIndex P t x i) (fun s => OI.rec (evIndex P t x i) (fun k j => Int.rec (fun j => Option.rec none (fun b => some (.int .u8 (Int.ofNat (UInt8.toNat b)))) (lhead (lfrom s j))) (fun _ => evIndex P t x i) j) (asI i)) (asS x)

theorem idxS_eq {P : Program} {t : TypeId} (h : isStrT P t = true) (x i : AV) : idxS P t x i = evIndex P t x i := by
  unfold idxS
  cases hx : asS x with
  | none => rfl
  | some s =>
    simp only
    cases hi : asI i with
    | none => rfl
    | some k j =>
      cases j with
      | negSucc j => rfl
      | ofNat j =>
        simp only
        rw [asI_eq hi, asS_eq hx, lhead_from]
        unfold isStrT at h
        unfold evIndex
        split at h <;> try cases h
        simp only [*]
        rw [if_pos (by simp)]
        show _ = (match s[j]? with | some b => some (AV.int .u8 b.toNat) | none => none)
        cases s[j]? <;> rfl

noncomputable def lenS (P : Program) (h : Heap) (t : TypeId) (x : AV) : Option AV := Option.rec (evLen P h t x) (fun s => some (.int .i64 (Int.ofNat s.length))) (asS x)
theorem lenS_eq {P : Program} {t : TypeId} (ht : isStrT P t = true) (h : Heap) (x : AV) : lenS P h t x = evLen P h t x := by
  unfold lenS
  cases hx : asS x with
  | none => rfl
  | some s =>
    rw [asS_eq hx]
    unfold isStrT at ht
    unfold evLen
    split at ht <;> try cases ht
    simp only [*]
    rfl
noncomputable def lenL (P : Program) (h : Heap) (t : TypeId) (x : AV) : Option AV := OS.rec (evLen P h t x) (some (.int .i64 (Int.ofNat 0))) (fun id off len sz => some (.int .i64 (Int.ofNat len))) (asL x)
theorem lenL_eq {P : Program} {t : TypeId} (ht : isSlT P t = true) (h : Heap) (x : AV) : lenL P h t x = evLen P h t x := by
  unfold lenL
  cases hx : asL x with
  | none => rfl
  | nils =>
    rw [asL_nils hx]
    unfold isSlT at ht
    unfold evLen
    split at ht <;> try cases ht
    simp only [*]
    rfl
  | sl id off len sz =>
    rw [asL_sl hx]
    unfold isSlT at ht
    unfold evLen
    split at ht <;> try cases ht
    simp only [*]
    rfl

/-! ### reading -/
noncomputable def load1 (P : Program) (h : BT) (t : TypeId) (p : AV) : Option AV :=
  Option.rec (evLoad P (den h) t p) (fun q => fcell (bget 16 h q.1) q.2) (asP p)
theorem load1_ok {P : Program} {t : TypeId} (ha : agg? P t = some false) {h : BT} {p v : AV} (e : load1 P h t p = some v) : evLoad P (den h) t p = some v := by
  unfold load1 at e
  cases hp : asP p with
  | none => rw [hp] at e; exact e
  | some q =>
    rw [hp] at e
    simp only at e
    obtain ⟨cs, hd, e⟩ := fcell_ok e
    have hd : den h q.1 = some (.cells cs) := hd
    rw [asP_eq hp]
    simp only [evLoad, hd, loadC, ha, e]

/-- The first n, if there are so many. -/
noncomputable def ltakeE {α : Type} (n : Nat) (l : List α) : Option (List α) := Nat.rec (fun _ => some []) (fun _ ih l => List.rec none (fun x l _ => Option.rec none (fun r => some (x :: r)) (ih l)) l) n l
theorem ltakeE_ok {α : Type} : ∀ (n : Nat) (l r : List α), ltakeE n l = some r → r = l.take n ∧ n ≤ l.length
  | 0, l, r, h => by cases h; exact ⟨rfl, Nat.zero_le _⟩
  | n + 1, [], r, h => by cases h
  | n + 1, x :: l, r, h => by
    change (Option.rec none (fun r => some (x :: r)) (ltakeE n l) : Option (List α)) = some r at h
    cases e : ltakeE n l with
    | none => rw [e] at h; cases h
    | some r' =>
      rw [e] at h
      cases h
      obtain ⟨rfl, h2⟩ := ltakeE_ok n l r' e
      exact ⟨rfl, Nat.succ_le_succ h2⟩

noncomputable def aggAt (cs : List AV) (off n : Nat) : Option AV := Option.rec none (fun r => some (.agg r)) (ltakeE n (lfrom cs off))
theorem aggAt_ok {cs : List AV} {off n : Nat} {v : AV} (h : aggAt cs off n = some v) (hn : 0 < n) : off + n ≤ cs.length ∧ v = .agg ((cs.drop off).take n) := by
  unfold aggAt at h
  cases e : ltakeE n (lfrom cs off) with
  | none => rw [e] at h; cases h
  | some r =>
    rw [e] at h
    cases h
    obtain ⟨rfl, h2⟩ := ltakeE_ok _ _ _ e
    rw [lfrom_eq] at h2 ⊢
    have := List.length_drop (l := cs) (i := off)
    exact ⟨by omega, rfl⟩

noncomputable def fagg (b : FB) (i k : Nat) : Option AV := FB.rec (fun b => Option.rec none (fun cs => aggAt cs i k) (bcells b)) (fun l n _ => Bool.rec none (Option.rec none (fun r => some (.agg (frev r []))) (ltakeE k (lfrom l (Nat.sub n (Nat.add i k))))) (Nat.ble (Nat.add i k) n)) b
theorem fagg_ok {b : FB} {i k : Nat} {v : AV} (h : fagg b i k = some v) (hk : 0 < k) : ∃ cs, b.blk = some (.cells cs) ∧ i + k ≤ cs.length ∧ v = .agg ((cs.drop i).take k) := by
  cases b with
  | raw b =>
    change (Option.rec none (fun cs => aggAt cs i k) (bcells b) : Option AV) = _ at h
    cases hb : bcells b with
    | none => rw [hb] at h; cases h
    | some cs =>
      rw [hb] at h
      obtain ⟨h1, h2⟩ := aggAt_ok h hk
      exact ⟨cs, bcells_eq hb, h1, h2⟩
  | rev l n hn =>
    change (Bool.rec none (Option.rec none (fun r => some (.agg (frev r []))) (ltakeE k (lfrom l (Nat.sub n (Nat.add i k))))) (Nat.ble (Nat.add i k) n) : Option AV) = _ at h
    cases hb : Nat.ble (Nat.add i k) n with
    | false => rw [hb] at h; cases h
    | true =>
      rw [hb] at h
      simp only at h
      have hik : i + k ≤ n := Nat.le_of_ble_eq_true hb
      cases e : ltakeE k (lfrom l (Nat.sub n (Nat.add i k))) with
      | none => rw [e] at h; cases h
      | some r =>
        rw [e] at h
        cases h
        obtain ⟨rfl, h2⟩ := ltakeE_ok _ _ _ e
        rw [lfrom_eq, frev_eq, List.append_nil]
        refine ⟨frev l [], rfl, by rw [frev_eq]; simp; omega, ?_⟩
        rw [frev_eq, List.append_nil]
        congr 1
        rw [List.drop_reverse, List.take_reverse, List.drop_take, List.length_take]
        congr 1
        rw [hn]
        have e1 : min (n - i) n - k = n.sub (i.add k) := by
          show min (n - i) n - k = n - (i + k)
          omega
        rw [e1]
        congr 1
        show k = n - i - (n - (i + k))
        omega

/-- How many cells a struct or an array has. -/
noncomputable def jaggN (P : Program) (t : TypeId) : Option Nat :=
  match agg? P t, size? P t with
  | some true, some (n + 1) => some (n + 1)
  | _, _ => none
theorem jaggN_ok {P : Program} {t : TypeId} {n : Nat} (h : jaggN P t = some n) : agg? P t = some true ∧ size? P t = some n ∧ 0 < n := by
  unfold jaggN at h
  split at h <;> cases h
  exact ⟨by assumption, by assumption, Nat.succ_pos _⟩

noncomputable def loadA (P : Program) (h : BT) (t : TypeId) (n : Nat) (p : AV) : Option AV :=
  Option.rec (evLoad P (den h) t p) (fun q => fagg (bget 16 h q.1) q.2 n) (asP p)
theorem loadA_ok {P : Program} {t : TypeId} {n : Nat} (ha : jaggN P t = some n) {h : BT} {p v : AV} (e : loadA P h t n p = some v) : evLoad P (den h) t p = some v := by
  unfold loadA at e
  cases hp : asP p with
  | none => rw [hp] at e; exact e
  | some q =>
    rw [hp] at e
    simp only at e
    obtain ⟨h1, h2, h3⟩ := jaggN_ok ha
    obtain ⟨cs, hd, h4, rfl⟩ := fagg_ok e h3
    have hd : den h q.1 = some (.cells cs) := hd
    rw [asP_eq hp]
    simp only [evLoad, hd, loadC, h1, h2, if_pos h4]

/-- What a struct is made of. -/
noncomputable def asA (v : AV) : Option (List AV) := AV.rec (motive_1 := fun _ => Option (List AV)) (motive_2 := fun _ => Unit) (motive_3 := fun _ => Unit) (fun _ => .none) (fun k n => .none) (fun s => none) .none (fun i o => .none) (fun _ _ => .none) .none (fun _ _ _ _ => .none) (fun _ _ => .none)
  .none (fun _ => .none) .none (fun _ _ _ _ _ => .none) .none (fun _ _ _ => .none) (fun cs _ => some cs) (fun _ _ => .none) (fun _ _ => .none) (fun _ => .none) (fun _ _ => .none) () (fun _ _ _ _ => ()) () (fun _ _ _ _ => ()) v
theorem asA_eq {v : AV} {p : List AV} (h : asA v = some p) : v = .agg p := by cases v <;> cases h; rfl

/-- A field of one cell: where. -/
noncomputable def jf1 (P : Program) (t : TypeId) (f : Nat) : Option Nat :=
  match P.underlying t with
  | some (.struct fields) => match fields[f]? with
    | some fd => match agg? P fd.type with
      | some false => some fd.offset
      | _ => none
    | none => none
  | _ => none
noncomputable def fld1 (P : Program) (t : TypeId) (f off : Nat) (v : AV) : Option AV := Option.rec (evField P t v f) (fun cs => lget cs off) (asA v)
theorem fld1_eq {P : Program} {t : TypeId} {f off : Nat} (h : jf1 P t f = some off) (v : AV) : fld1 P t f off v = evField P t v f := by
  unfold fld1
  cases ha : asA v with
  | none => rfl
  | some cs =>
    rw [asA_eq ha]
    unfold jf1 at h
    unfold evField
    split at h <;> try cases h
    rename_i fields hu
    split at h <;> try cases h
    rename_i fd hf
    split at h <;> cases h
    rename_i hag
    simp only [hu, hf, evPart, hag, lget_eq]

def jagg (P : Program) (t : TypeId) : Bool :=
  match agg? P t with
  | some false => true
  | _ => false
theorem jagg_ok {P : Program} {t : TypeId} (h : jagg P t = true) : agg? P t = some false := by
  unfold jagg at h
  split at h
  · assumption
  · cases h

/-! ### slices of texts -/
noncomputable def ltake {α : Type} (l : List α) (n : Nat) : List α := Nat.rec (fun _ => []) (fun _ ih l => List.rec [] (fun x l _ => x :: ih l) l) n l
theorem ltake_eq {α : Type} : ∀ (n : Nat) (l : List α), ltake l n = l.take n
  | 0, l => rfl
  | n + 1, [] => rfl
  | n + 1, x :: l => by
    change x :: ltake l n = _
    rw [ltake_eq n l]; rfl

/-- A bound. -/
noncomputable def bnd (d : Nat) (o : Option AV) : Option Nat := Option.rec (some d) (fun v => OI.rec (evBound d (some v)) (fun _ i => Int.rec (fun i => some i) (fun _ => evBound d (some v)) i) (asI v)) o
theorem bnd_eq (d : Nat) (o : Option AV) : bnd d o = evBound d o := by
  cases o with
  | none => rfl
  | some v =>
    simp only [bnd]
    cases h : asI v with
    | none => rfl
    | some k i =>
      cases i with
      | ofNat i => rw [asI_eq h]; simp [evBound]
      | negSucc i => rfl

noncomputable def sliceS (P : Program) (t : TypeId) (x : AV) (lo hi : Option AV) : Option AV :=
  Option.rec (evSlice P t x lo hi) (fun s => Option.rec none (fun l => Option.rec none (fun h => Bool.rec none (Bool.rec none (Bool.rec (some (.str (ltake (lfrom s l) (Nat.sub h l)))) (some (.str (lfrom s l))) (Nat.beq h s.length)) (Nat.ble h s.length)) (Nat.ble l h)) (bnd s.length hi)) (bnd 0 lo)) (asS x)
theorem sliceS_ok {P : Program} {t : TypeId} (ht : isStrT P t = true) {x v : AV} {lo hi : Option AV} (h : sliceS P t x lo hi = some v) : evSlice P t x lo hi = some v := by
  unfold sliceS at h
  cases hx : asS x with
  | none => rw [hx] at h; exact h
  | some s =>
    rw [hx] at h
    simp only [bnd_eq] at h
    cases hl : evBound 0 lo with
    | none => rw [hl] at h; cases h
    | some l =>
      rw [hl] at h
      simp only at h
      cases hh : evBound s.length hi with
      | none => rw [hh] at h; cases h
      | some u =>
        rw [hh] at h
        simp only at h
        cases h1 : Nat.ble l u with
        | false => rw [h1] at h; cases h
        | true =>
          rw [h1] at h
          simp only at h
          cases h2 : Nat.ble u s.length with
          | false => rw [h2] at h; cases h
          | true =>
            rw [h2] at h
            simp only at h
            have g1 := Nat.le_of_ble_eq_true h1
            have g2 := Nat.le_of_ble_eq_true h2
            rw [asS_eq hx]
            unfold isStrT at ht
            unfold evSlice
            split at ht <;> try cases ht
            rename_i hu
            simp only [hu, hl, hh]
            rw [if_pos ⟨g1, g2⟩]
            cases h3 : Nat.beq u s.length with
            | false =>
              rw [h3] at h
              cases h
              rw [ltake_eq, lfrom_eq]
              rfl
            | true =>
              rw [h3] at h
              cases h
              have g3 := Nat.eq_of_beq_eq_true h3
              rw [lfrom_eq, List.take_of_length_le (by simp; omega)]

/-! ### what turns no memory -/
structure VG where
  get : E → BT → Option AV

noncomputable def fmax (x y : AV) : Option AV := OI.rec none (fun k n => OI.rec none (fun _ n2 => some (.int k (Bool.rec n n2 (flt n n2)))) (asI y)) (asI x)
theorem fmax_ok {x y v : AV} (h : fmax x y = some v) : evMax x y = some v := by
  unfold fmax at h
  cases hx : asI x with
  | none => rw [hx] at h; cases h
  | some k n =>
    rw [hx] at h
    simp only at h
    cases hy : asI y with
    | none => rw [hy] at h; cases h
    | some k2 n2 =>
      rw [hy] at h
      simp only at h
      rw [asI_eq hx, asI_eq hy, ← h]
      simp only [evMax, flt_eq]
      by_cases hc : n < n2
      · simp [hc]
      · simp [hc]

noncomputable def jpure (P : Program) (n : SR) : Op → Option VG
  | .move x => match jrho n x with
    | some x => some ⟨fun e _ => some (x.get e)⟩
    | none => none
  | .assign x => match jrho n x with
    | some x => some ⟨fun e _ => some (x.get e)⟩
    | none => none
  | .pick c a b => match jrho n c, jrho n a, jrho n b with
    | some c, some a, some b => some ⟨fun e _ => OB.rec none (some (a.get e)) (some (b.get e)) (asB (c.get e))⟩
    | _, _, _ => none
  | .build t parts => match jrhoP n parts.toList with
    | some ps => some ⟨fun e _ => evBuild P t (ps.get e)⟩
    | none => none
  | .load t a => match jrho n a with
    | some a => match jagg P t with
      | true => some ⟨fun e h => load1 P h t (a.get e)⟩
      | false => match jaggN P t with
        | some n => some ⟨fun e h => loadA P h t n (a.get e)⟩
        | none => some ⟨fun e h => evLoad P (den h) t (a.get e)⟩
    | none => none
  | .nilCheck x => match jrho n x with
    | some x => some ⟨fun e _ => evNilCheck (x.get e)⟩
    | none => none
  | .binOp op t x y _ => match jrho n x, jrho n y with
    | some u, some v => some ⟨fun e _ => bin2 P op t (isConst x || isConst y) (fbin op) (u.get e) (v.get e)⟩
    | _, _ => none
  | .unOp op _ x => match jrho n x with
    | some x => some ⟨fun e _ => evUn op (x.get e)⟩
    | none => none
  | .convert src dst x => match jrho n x with
    | some x => some ⟨fun e h => evConv2 P (den h) src dst (x.get e)⟩
    | none => none
  | .makeInterface t x => match jrho n x with
    | some x => match P.concrete t with
      | true => some ⟨fun e _ => some (.iface t (x.get e))⟩
      | false => none
    | none => none
  | .makeFunc fn a b => match jrhos n a.toList, jrhos n b.toList with
    | some a, some b => some ⟨fun e _ => some (.clo fn (a.get e) (b.get e))⟩
    | _, _ => none
  | .slice t x lo hi none => match jrho n x, jrhoO n lo, jrhoO n hi with
    | some x, some l, some h => match isStrT P t with
      | true => some ⟨fun e _ => sliceS P t (x.get e) (l.get e) (h.get e)⟩
      | false => some ⟨fun e _ => evSlice P t (x.get e) (l.get e) (h.get e)⟩
    | _, _, _ => none
  | .fieldAddr t x f => match jrho n x with
    | some x => match joff P t f with
      | some off => some ⟨fun e _ => fad P t f off (x.get e)⟩
      | none => none
    | none => none
  | .field t x f => match jrho n x with
    | some x => match jf1 P t f with
      | some off => some ⟨fun e _ => fld1 P t f off (x.get e)⟩
      | none => some ⟨fun e _ => evField P t (x.get e) f⟩
    | none => none
  | .indexAddr t x i => match jrho n x, jrho n i with
    | some x, some i => match jelem P t with
      | some size => some ⟨fun e _ => idx2 P t size (x.get e) (i.get e)⟩
      | none => some ⟨fun e _ => evIndexAddr P t (x.get e) (i.get e)⟩
    | _, _ => none
  | .index t x i => match jrho n x, jrho n i with
    | some x, some i => match isStrT P t with
      | true => some ⟨fun e _ => idxS P t (x.get e) (i.get e)⟩
      | false => some ⟨fun e _ => evIndex P t (x.get e) (i.get e)⟩
    | _, _ => none
  | .lookup t x i ok => match jrho n x, jrho n i with
    | some x, some i => some ⟨fun e h => evLookup P (den h) t (x.get e) (i.get e) ok⟩
    | _, _ => none
  | .extract x i => match jrho n x with
    | some x => some ⟨fun e _ => match x.get e with | .tup xs => lget xs i | _ => none⟩
    | none => none
  | .typeAssert x _ as ok => match jrho n x with
    | some x => some ⟨fun e _ => evTA P as ok (x.get e)⟩
    | none => none
  | .call ⟨.builtin .max, args, _⟩ => match args.toList with
    | [a, b] => match jrho n a, jrho n b with
      | some a, some b => some ⟨fun e _ => fmax (a.get e) (b.get e)⟩
      | _, _ => none
    | _ => none
  | .call ⟨.builtin .len, args, tys⟩ => match args.toList, tys.toList with
    | [a], [t] => match jrho n a with
      | some a => match isStrT P t, isSlT P t with
        | true, _ => some ⟨fun e h => lenS P (den h) t (a.get e)⟩
        | _, true => some ⟨fun e h => lenL P (den h) t (a.get e)⟩
        | _, _ => some ⟨fun e h => evLen P (den h) t (a.get e)⟩
      | none => none
    | _, _ => none
  | _ => none

theorem jpure_ok {P : Program} {n : SR} {op : Op} {g : VG} (hg : jpure P n op = some g) {fz : Bool} {e : E} {ts : List AV} (hr : RhoOK n e ts) {b : BT} {m : Nat} {v : AV} (h : g.get e b = some v) : evOp P fz op ts ⟨den b, m⟩ = some (v, ⟨den b, m⟩) := by
  unfold jpure at hg
  split at hg
  · split at hg <;> cases hg
    rename_i x hx
    cases h
    simp [evOp, jrho_ok hx hr]
  · split at hg <;> cases hg
    rename_i x hx
    cases h
    simp [evOp, jrho_ok hx hr]
  · split at hg <;> cases hg
    rename_i c a b hc ha hb
    simp only at h
    cases hB : asB (c.get e) with
    | none => rw [hB] at h; cases h
    | tt => rw [hB] at h; cases h; simp [evOp, jrho_ok hc hr, jrho_ok ha hr, jrho_ok hb hr, asB_tt hB]
    | ff => rw [hB] at h; cases h; simp [evOp, jrho_ok hc hr, jrho_ok ha hr, jrho_ok hb hr, asB_ff hB]
  · split at hg <;> cases hg
    rename_i ps hps
    simp only at h
    simp only [evOp, jrhoP_ok hps hr, h, Option.map_some]
  · split at hg <;> try cases hg
    rename_i a ha
    split at hg
    · rename_i hj
      cases hg
      simp only at h
      simp only [evOp, jrho_ok ha hr, load1_ok (jagg_ok hj) h, Option.map_some]
    · split at hg <;> cases hg
      · rename_i hn
        simp only at h
        simp only [evOp, jrho_ok ha hr, loadA_ok hn h, Option.map_some]
      · simp only at h
        simp only [evOp, jrho_ok ha hr, h, Option.map_some]
  · split at hg <;> cases hg
    rename_i x hx
    simp only at h
    simp only [evOp, jrho_ok hx hr, h, Option.map_some]
  · split at hg <;> cases hg
    rename_i u v hx hy
    simp only [bin2_eq] at h
    simp only [evOp, jrho_ok hx hr, jrho_ok hy hr, h, Option.map_some]
  · split at hg <;> cases hg
    rename_i x hx
    simp only at h
    simp only [evOp, jrho_ok hx hr, h, Option.map_some]
  · split at hg <;> cases hg
    rename_i x hx
    simp only at h
    simp only [evOp, jrho_ok hx hr, h, Option.map_some]
  · split at hg <;> try cases hg
    rename_i x hx
    split at hg <;> cases hg
    rename_i hc
    cases h
    simp [evOp, jrho_ok hx hr, hc]
  · split at hg <;> cases hg
    rename_i a b ha hb
    cases h
    simp only [evOp, jrhos_ok ha hr, jrhos_ok hb hr]
  · split at hg <;> try cases hg
    rename_i x l h1 hx hl hh
    split at hg <;> cases hg
    · rename_i hs
      simp only [evOp, jrho_ok hx hr, jrhoO_ok hl hr, jrhoO_ok hh hr, sliceS_ok hs h, Option.map_some]
    · simp only at h
      simp only [evOp, jrho_ok hx hr, jrhoO_ok hl hr, jrhoO_ok hh hr, h, Option.map_some]
  · split at hg <;> try cases hg
    rename_i x hx
    split at hg <;> cases hg
    rename_i off ho
    simp only [fad_eq ho] at h
    simp only [evOp, jrho_ok hx hr, h, Option.map_some]
  · split at hg <;> try cases hg
    rename_i x hx
    split at hg <;> cases hg
    · rename_i ho
      simp only [fld1_eq ho] at h
      simp only [evOp, jrho_ok hx hr, h, Option.map_some]
    · simp only at h
      simp only [evOp, jrho_ok hx hr, h, Option.map_some]
  · split at hg <;> try cases hg
    rename_i x i hx hi
    split at hg <;> cases hg
    · rename_i sz hs
      simp only [idx2_eq hs] at h
      simp only [evOp, jrho_ok hx hr, jrho_ok hi hr, h, Option.map_some]
    · simp only at h
      simp only [evOp, jrho_ok hx hr, jrho_ok hi hr, h, Option.map_some]
  · split at hg <;> try cases hg
    rename_i x i hx hi
    split at hg <;> cases hg
    · rename_i hs
      simp only [idxS_eq hs] at h
      simp only [evOp, jrho_ok hx hr, jrho_ok hi hr, h, Option.map_some]
    · simp only at h
      simp only [evOp, jrho_ok hx hr, jrho_ok hi hr, h, Option.map_some]
  · split at hg <;> cases hg
    rename_i x i hx hi
    simp only at h
    simp only [evOp, jrho_ok hx hr, jrho_ok hi hr, h, Option.map_some]
  · split at hg <;> cases hg
    rename_i x hx
    simp only at h
    split at h
    · rename_i xs hxs
      rw [lget_eq] at h
      simp only [evOp, jrho_ok hx hr, hxs, h, Option.map_some]
    · cases h
  · split at hg <;> cases hg
    rename_i x hx
    simp only at h
    simp only [evOp, jrho_ok hx hr, h, Option.map_some]
  · split at hg <;> try cases hg
    rename_i a b hab
    split at hg <;> cases hg
    rename_i xa xb ha hb
    have hrs : rhos ts [a, b] = some [xa.get e, xb.get e] := by simp only [rhos, jrho_ok ha hr, jrho_ok hb hr]
    simp only [evOp, hab, hrs, fmax_ok h, Option.map_some]
  · split at hg <;> try cases hg
    rename_i a t ha ht
    split at hg <;> try cases hg
    rename_i x hx
    have hrs : rhos ts [a] = some [x.get e] := by simp only [rhos, jrho_ok hx hr]
    split at hg <;> cases hg
    · rename_i hs
      simp only [lenS_eq hs] at h
      simp only [evOp, ha, ht, hrs, h, Option.map_some]
    · simp only [lenL_eq (t := t) (P := P) (by assumption)] at h
      simp only [evOp, ha, ht, hrs, h, Option.map_some]
    · simp only at h
      simp only [evOp, ha, ht, hrs, h, Option.map_some]
  · cases hg
end Go.Ev
