/- Steps of regions, with calls; snapshots. -/
import Derived.Test.YtinngopfgdfdbaaGreatDoorEv13P
set_option linter.unusedVariables false
set_option linter.unusedSimpArgs false
namespace Go.Ev

/-- What the evaluator is told, none of it trusted: which operations' new blocks are frozen at once; which names stay behind a call; whether its result is a snapshot; whose cells are; which calls are known beforehand. -/
structure Hints where
  fz : FuncId → Nat → Nat → Bool
  keep : FuncId → List AV → HS → Nat → Nat → Bool
  snap : FuncId → Bool
  deep : FuncId → List AV → HS → Nat → Nat → Bool
  orc : FuncId → List AV → Option AV := fun _ _ => none

abbrev CallF := FuncId → List AV → HS → Option (AV × HS)

/-- What a call comes to, unless it panics. -/
def noPan (r : Option (AV × HS)) : Option (AV × HS) := match r with
  | some (.pan _, _) => none
  | r => r
/-- With what a call panics. -/
def panOf (r : Option (AV × HS)) : Option (AV × HS) := match r with
  | some (.pan v, s') => some (v, s')
  | _ => none

theorem noPan_some {r : Option (AV × HS)} {p : AV × HS} (h : noPan r = some p) : r = some p ∧ p.1.isPan = false := by
  unfold noPan at h
  split at h
  · cases h
  · rename_i hne
    refine ⟨h, ?_⟩
    obtain ⟨v, s'⟩ := p
    cases v <;> first | rfl | exact absurd h (hne _ _)
theorem panOf_some {r : Option (AV × HS)} {p : AV × HS} (h : panOf r = some p) : r = some (.pan p.1, p.2) := by
  unfold panOf at h
  split at h <;> cases h
  rfl

/-- A slice that is frozen as it is made has no room behind. -/
def exact (b : Bool) (r : Option (AV × HS)) : Option (AV × HS) := match b with
  | false => r
  | true => match r with
    | some (.fsl (x :: xs), s) => some (.fslx (x :: xs), s)
    | _ => none

theorem exact_some {b : Bool} {r : Option (AV × HS)} {v : AV} {s : HS} (h : exact b r = some (v, s)) : ∃ v0, r = some (v0, s) := by
  unfold exact at h
  split at h
  · exact ⟨v, h⟩
  · split at h <;> cases h
    exact ⟨_, rfl⟩

theorem exact_congr {b : Bool} {r r' : Option (AV × HS)} {v : AV} {s s2 : HS} (h : exact b r = some (v, s)) (hr : ∀ v0, r = some (v0, s) → r' = some (v0, s2)) : exact b r' = some (v, s2) := by
  unfold exact at h ⊢
  split at h
  · exact hr v h
  · split at h <;> cases h
    rw [hr _ rfl]

def evStep (P : Program) (fz : Nat → Bool) (cf : CallF) (i : Nat) (o : Oper) (ts : List AV) (s : HS) : Option (AV × HS) :=
  match o.op with
  | .call ⟨.value fo, args, _⟩ => match rho ts fo with
    | some (.clo (.func g) first cap) => match rhos ts args.toList with
      | some vs => noPan (cf g (first ++ vs ++ cap) s)
      | none => none
    | some (.yld id) => match rhos ts args.toList with
      | some vs => noPan (cf P.funcs.size (.pan (.yld id) :: vs) s)
      | none => none
    | _ => none
  | .buildSlice t len parts => exact (fz (i + 1024)) (evOp P (fz i) (.buildSlice t len parts) ts s)
  | op => evOp P (fz i) op ts s

/-- With what an operation panics. -/
def evPan (cf : CallF) (i : Nat) (o : Oper) (ts : List AV) (s : HS) : Option (AV × HS) :=
  match o.op with
  | .call ⟨.value fo, args, _⟩ => match rho ts fo with
    | some (.clo (.func g) first cap) => match rhos ts args.toList with
      | some vs => panOf (cf g (first ++ vs ++ cap) s)
      | none => none
    | _ => none
  | .panic x => match rho ts x with
    | some (.iface t v) => some (.iface t v, s)
    | _ => none
  | _ => none

/-- May an operation turn the memory? -/
def effOp (fz : Bool) : Op → Bool
  | .move _ | .assign _ | .pick .. | .build .. | .load .. | .nilCheck _ | .binOp .. | .unOp .. | .convert .. | .makeInterface .. | .makeFunc .. | .slice .. | .fieldAddr .. | .field .. | .indexAddr .. | .index .. | .lookup .. | .extract .. | .typeAssert .. => false
  | .alloc _ | .box .. | .buildSlice .. => !fz
  | .call ⟨.builtin .len, _, _⟩ => false
  | .call ⟨.builtin .max, _, _⟩ => false
  | _ => true

def effR (fz : Nat → Bool) (i : Nat) (o : Oper) : Bool := effOp (fz i) o.op

theorem evNew_true (s : HS) (x : AV) : (evNew true s x).2 = s := rfl

theorem evBuildSlice_true {P : Program} {s s' : HS} {t : TypeId} {len : Nat} {ps : List (Nat × AV)} {v : AV} (h : evBuildSlice P true s t len ps = some (v, s')) : s' = s := by
  unfold evBuildSlice at h
  split at h <;> try cases h
  split at h <;> try cases h
  split at h <;> try cases h
  rfl

theorem evBuildSlice_pure {P : Program} {s s' : HS} {t : TypeId} {len : Nat} {ps : List (Nat × AV)} {v : AV} (h : evBuildSlice P true s t len ps = some (v, s')) (s2 : HS) : evBuildSlice P true s2 t len ps = some (v, s2) := by
  unfold evBuildSlice at h ⊢
  split at h <;> try cases h
  split at h <;> try cases h
  split at h <;> try cases h
  rename_i hc
  rw [if_pos hc]
  rfl

theorem evOp_still {P : Program} {fz : Bool} {o : Op} {ts : List AV} {s s' : HS} {v : AV} (he : effOp fz o = false) (h : evOp P fz o ts s = some (v, s')) : s' = s := by
  cases o <;> simp only [effOp, Bool.not_eq_false'] at he <;> try (cases he; done)
  case alloc e =>
    subst he
    simp only [evOp] at h
    split at h <;> try cases h
    split at h <;> cases h
    rfl
  case box e x =>
    subst he
    simp only [evOp] at h
    split at h <;> try cases h
    split at h <;> cases h
    rfl
  case buildSlice t len ps =>
    subst he
    simp only [evOp] at h
    split at h <;> try cases h
    exact evBuildSlice_true h
  case pick c a b =>
    simp only [evOp] at h
    split at h <;> try cases h
    split at h <;> try cases h
    split at h <;> cases h
    rfl
  case makeInterface t x =>
    simp only [evOp] at h
    split at h <;> try cases h
    split at h <;> cases h
    rfl
  case makeFunc fn a b =>
    simp only [evOp] at h
    split at h <;> try cases h
    split at h <;> cases h
    rfl
  case slice t x lo hi mx =>
    cases mx with
    | some m => simp [evOp] at h
    | none =>
      simp only [evOp] at h
      split at h <;> try cases h
      split at h <;> try cases h
      split at h <;> try cases h
      rw [Option.map_eq_some_iff] at h
      obtain ⟨_, _, h⟩ := h
      cases h; rfl
  case extract t i =>
    simp only [evOp] at h
    split at h <;> try cases h
    rw [Option.map_eq_some_iff] at h
    obtain ⟨_, _, h⟩ := h
    cases h; rfl
  case call c =>
    obtain ⟨callee, args, tys⟩ := c
    cases callee with
    | value f => simp [effOp] at he
    | invoke r m => simp [effOp] at he
    | builtin b =>
      cases b <;> simp [effOp] at he
      · simp only [evOp] at h
        split at h <;> try cases h
        split at h <;> try cases h
        rw [Option.map_eq_some_iff] at h
        obtain ⟨_, _, h⟩ := h
        cases h; rfl
      · simp only [evOp] at h
        split at h <;> try cases h
        rw [Option.map_eq_some_iff] at h
        obtain ⟨_, _, h⟩ := h
        cases h; rfl
  all_goals
    simp only [evOp] at h
    first
      | (rw [Option.map_eq_some_iff] at h
         obtain ⟨_, _, h⟩ := h
         cases h; rfl)
      | (split at h <;> try cases h
         first
           | (rw [Option.map_eq_some_iff] at h
              obtain ⟨_, _, h⟩ := h
              cases h; rfl)
           | (split at h <;> try cases h
              rw [Option.map_eq_some_iff] at h
              obtain ⟨_, _, h⟩ := h
              cases h; rfl))

/-- What looks at no memory tells the same in every memory. -/
theorem evOp_pure {P : Program} {fz : Bool} {o : Op} {ts : List AV} {s s' : HS} {v : AV} (he : effOp fz o = false) (hr : readOp o = false) (h : evOp P fz o ts s = some (v, s')) (s2 : HS) : evOp P fz o ts s2 = some (v, s2) := by
  cases o <;> simp only [effOp, readOp, Bool.not_eq_false'] at he hr <;> try (cases he; done)
  all_goals try (cases hr; done)
  case alloc e =>
    subst he
    simp only [evOp] at h ⊢
    split at h <;> try cases h
    split at h <;> cases h
    rename_i hz hst
    rw [if_pos hst]; rfl
  case box e x =>
    subst he
    simp only [evOp] at h ⊢
    split at h <;> try cases h
    split at h <;> cases h
    rename_i hz hst
    rw [if_pos hst]; rfl
  case buildSlice t len ps =>
    subst he
    simp only [evOp] at h ⊢
    split at h <;> try cases h
    exact evBuildSlice_pure h s2
  case pick c a b =>
    simp only [evOp] at h ⊢
    split at h <;> try cases h
    split at h <;> try cases h
    split at h <;> cases h
    rfl
  case makeInterface t x =>
    simp only [evOp] at h ⊢
    split at h <;> try cases h
    split at h <;> cases h
    rename_i h2
    rw [if_pos h2]
  case makeFunc fn a b =>
    simp only [evOp] at h ⊢
    split at h <;> try cases h
    split at h <;> cases h
    rfl
  case slice t x lo hi mx =>
    cases mx with
    | some m => simp [evOp] at h
    | none =>
      simp only [evOp] at h ⊢
      split at h <;> try cases h
      split at h <;> try cases h
      split at h <;> try cases h
      rw [Option.map_eq_some_iff] at h
      obtain ⟨_, h4, h⟩ := h
      cases h
      rw [h4]; rfl
  case extract t i =>
    simp only [evOp] at h ⊢
    split at h <;> try cases h
    rw [Option.map_eq_some_iff] at h
    obtain ⟨_, h4, h⟩ := h
    cases h
    rw [h4]; rfl
  all_goals
    simp only [evOp] at h ⊢
    first
      | (rw [Option.map_eq_some_iff] at h
         obtain ⟨_, h4, h⟩ := h
         cases h; rw [h4]; rfl)
      | (split at h <;> try cases h
         first
           | (rw [Option.map_eq_some_iff] at h
              obtain ⟨_, h4, h⟩ := h
              cases h; rw [h4]; rfl)
           | (split at h <;> try cases h
              rw [Option.map_eq_some_iff] at h
              obtain ⟨_, h4, h⟩ := h
              cases h; rw [h4]; rfl))

/-! ### the slots that a step looks at -/
theorem rho_congr {ts ts' : List AV} {x : Operand} (h : ∀ t, x = .tmp t → slot ts t = slot ts' t) : rho ts x = rho ts' x := by
  cases x with
  | tmp t => exact congrArg some (h t rfl)
  | _ => rfl

theorem rhos_congr {ts ts' : List AV} : ∀ {xs : List Operand}, (∀ t, .tmp t ∈ xs → slot ts t = slot ts' t) → rhos ts xs = rhos ts' xs
  | [], _ => rfl
  | x :: xs, h => by
    simp only [rhos]
    rw [rho_congr (x := x) (fun t ht => h t (by rw [← ht]; exact .head _)), rhos_congr (xs := xs) (fun t ht => h t (.tail _ ht))]

theorem rhoP_congr {ts ts' : List AV} : ∀ {xs : List (Nat × Operand)}, (∀ t, .tmp t ∈ xs.map (·.2) → slot ts t = slot ts' t) → rhoP ts xs = rhoP ts' xs
  | [], _ => rfl
  | (i, x) :: xs, h => by
    simp only [rhoP]
    rw [rho_congr (x := x) (fun t ht => h t (by simp [ht])), rhoP_congr (xs := xs) (fun t ht => h t (by simp only [List.map_cons]; exact .tail _ ht))]

theorem rhoO_congr {ts ts' : List AV} {x : Option Operand} (h : ∀ t, .tmp t ∈ x.toList → slot ts t = slot ts' t) : rhoO ts x = rhoO ts' x := by
  cases x with
  | none => rfl
  | some x => simp only [rhoO]; rw [rho_congr (x := x) (fun t ht => h t (by simp [ht]))]

theorem evOp_looks {P : Program} {fz : Bool} {o : Op} {ts ts' : List AV} {s : HS} (h : ∀ t, .tmp t ∈ o.operands.toList → slot ts t = slot ts' t) : evOp P fz o ts s = evOp P fz o ts' s := by
  cases o with
  | call c =>
    obtain ⟨callee, args, tys⟩ := c
    cases callee with
    | builtin b =>
      have ha : rhos ts args.toList = rhos ts' args.toList := rhos_congr (fun t ht => h t (by simp [Op.operands, Call.operands]; simpa using ht))
      cases b <;> simp only [evOp, ha]
    | value f => rfl
    | invoke r m => rfl
  | build t parts =>
    simp only [evOp]
    rw [rhoP_congr (xs := parts.toList) (fun t ht => h t (by simpa [Op.operands] using ht))]
  | buildSlice t len parts =>
    simp only [evOp]
    rw [rhoP_congr (xs := parts.toList) (fun t ht => h t (by simpa [Op.operands] using ht))]
  | makeFunc fn a b =>
    simp only [evOp]
    rw [rhos_congr (xs := a.toList) (fun t ht => h t (by simp [Op.operands]; exact .inl (by simpa using ht))), rhos_congr (xs := b.toList) (fun t ht => h t (by simp [Op.operands]; exact .inr (by simpa using ht)))]
  | slice t x lo hi mx =>
    cases mx with
    | some m => rfl
    | none =>
      simp only [evOp]
      rw [rho_congr (x := x) (fun t ht => h t (by simp [Op.operands, ht])), rhoO_congr (x := lo) (fun t ht => h t (by simp [Op.operands]; right; left; simpa using ht)), rhoO_congr (x := hi) (fun t ht => h t (by simp [Op.operands]; right; right; simpa using ht))]
  | makeMap t r => cases r <;> rfl
  | next it b => cases b <;> simp only [evOp]; rw [rho_congr (x := it) (fun t ht => h t (by simp [Op.operands, ht]))]
  | range t x => simp only [evOp]; rw [rho_congr (x := x) (fun t ht => h t (by simp [Op.operands, ht]))]
  | pick c a b =>
    simp only [evOp]
    rw [rho_congr (x := c) (fun t ht => h t (by simp [Op.operands, ht])), rho_congr (x := a) (fun t ht => h t (by simp [Op.operands, ht])), rho_congr (x := b) (fun t ht => h t (by simp [Op.operands, ht]))]
  | mapUpdate t m k x =>
    simp only [evOp]
    rw [rho_congr (x := m) (fun t ht => h t (by simp [Op.operands, ht])), rho_congr (x := k) (fun t ht => h t (by simp [Op.operands, ht])), rho_congr (x := x) (fun t ht => h t (by simp [Op.operands, ht]))]
  | insert t m k x =>
    simp only [evOp]
    rw [rho_congr (x := m) (fun t ht => h t (by simp [Op.operands, ht])), rho_congr (x := k) (fun t ht => h t (by simp [Op.operands, ht])), rho_congr (x := x) (fun t ht => h t (by simp [Op.operands, ht]))]
  | store t a x => simp only [evOp]; rw [rho_congr (x := a) (fun t ht => h t (by simp [Op.operands, ht])), rho_congr (x := x) (fun t ht => h t (by simp [Op.operands, ht]))]
  | binOp op t x y u => simp only [evOp]; rw [rho_congr (x := x) (fun t ht => h t (by simp [Op.operands, ht])), rho_congr (x := y) (fun t ht => h t (by simp [Op.operands, ht]))]
  | indexAddr t x i => simp only [evOp]; rw [rho_congr (x := x) (fun t ht => h t (by simp [Op.operands, ht])), rho_congr (x := i) (fun t ht => h t (by simp [Op.operands, ht]))]
  | index t x i => simp only [evOp]; rw [rho_congr (x := x) (fun t ht => h t (by simp [Op.operands, ht])), rho_congr (x := i) (fun t ht => h t (by simp [Op.operands, ht]))]
  | lookup t x i ok => simp only [evOp]; rw [rho_congr (x := x) (fun t ht => h t (by simp [Op.operands, ht])), rho_congr (x := i) (fun t ht => h t (by simp [Op.operands, ht]))]
  | move x => simp only [evOp]; rw [rho_congr (x := x) (fun t ht => h t (by simp [Op.operands, ht]))]
  | assign x => simp only [evOp]; rw [rho_congr (x := x) (fun t ht => h t (by simp [Op.operands, ht]))]
  | box e x => simp only [evOp]; rw [rho_congr (x := x) (fun t ht => h t (by simp [Op.operands, ht]))]
  | load e x => simp only [evOp]; rw [rho_congr (x := x) (fun t ht => h t (by simp [Op.operands, ht]))]
  | nilCheck x => simp only [evOp]; rw [rho_congr (x := x) (fun t ht => h t (by simp [Op.operands, ht]))]
  | unOp op t x => simp only [evOp]; rw [rho_congr (x := x) (fun t ht => h t (by simp [Op.operands, ht]))]
  | convert a b x => simp only [evOp]; rw [rho_congr (x := x) (fun t ht => h t (by simp [Op.operands, ht]))]
  | makeInterface t x => simp only [evOp]; rw [rho_congr (x := x) (fun t ht => h t (by simp [Op.operands, ht]))]
  | fieldAddr t x f => simp only [evOp]; rw [rho_congr (x := x) (fun t ht => h t (by simp [Op.operands, ht]))]
  | field t x f => simp only [evOp]; rw [rho_congr (x := x) (fun t ht => h t (by simp [Op.operands, ht]))]
  | typeAssert x xT as ok => simp only [evOp]; rw [rho_congr (x := x) (fun t ht => h t (by simp [Op.operands, ht]))]
  | extract x i => simp only [evOp]; rw [rho_congr (x := x) (fun t ht => h t (by simp [Op.operands, ht]))]
  | _ => rfl

theorem step_laws (P : Program) (fz : Nat → Bool) (cf : CallF) : StepLaws (effR fz) (evStep P fz cf) := by
  constructor
  · intro i o ts s v s' he h
    obtain ⟨dst, op, type, pos, after, guard⟩ := o
    cases op with
    | call c =>
      obtain ⟨callee, args, tys⟩ := c
      cases callee with
      | value f => simp [effR, effOp] at he
      | invoke r m => exact evOp_still (P := P) (ts := ts) (fz := fz i) he h
      | builtin b => exact evOp_still (P := P) (ts := ts) (fz := fz i) he h
    | buildSlice t len parts =>
      obtain ⟨v0, h0⟩ := exact_some (b := fz (i + 1024)) h
      exact evOp_still (P := P) (ts := ts) (fz := fz i) he h0
    | _ => exact evOp_still (P := P) (ts := ts) (fz := fz i) he h
  · intro i o ts ts' s h
    obtain ⟨dst, op, type, pos, after, guard⟩ := o
    cases op with
    | call c =>
      obtain ⟨callee, args, tys⟩ := c
      cases callee with
      | value f =>
        simp only [evStep]
        rw [rho_congr (x := f) (fun t ht => h t (by simp [Op.operands, Call.operands, ht])), rhos_congr (xs := args.toList) (fun t ht => h t (by simp [Op.operands, Call.operands]; right; simpa using ht))]
      | invoke r m => exact evOp_looks (P := P) (fz := fz i) (s := s) h
      | builtin b => exact evOp_looks (P := P) (fz := fz i) (s := s) h
    | buildSlice t len parts =>
      simp only [evStep]
      rw [evOp_looks (P := P) (fz := fz i) (s := s) h]
    | _ => exact evOp_looks (P := P) (fz := fz i) (s := s) h

theorem pan_looks (cf : CallF) (i : Nat) (o : Oper) (ts ts' : List AV) (s : HS) (h : ∀ t, .tmp t ∈ o.op.operands.toList → slot ts t = slot ts' t) : evPan cf i o ts s = evPan cf i o ts' s := by
  obtain ⟨dst, op, type, pos, after, guard⟩ := o
  cases op with
  | call c =>
    obtain ⟨callee, args, tys⟩ := c
    cases callee with
    | value f =>
      simp only [evPan]
      rw [rho_congr (x := f) (fun t ht => h t (by simp [Op.operands, Call.operands, ht])), rhos_congr (xs := args.toList) (fun t ht => h t (by simp [Op.operands, Call.operands]; right; simpa using ht))]
    | invoke r m => rfl
    | builtin b => rfl
  | panic x =>
    simp only [evPan]
    rw [rho_congr (x := x) (fun t ht => h t (by simp [Op.operands, ht]))]
  | _ => rfl

/-- What a call comes to, in the model. -/
def EndsV (Y : Cx) (r : AV) (e : Ending) : Prop := match r with
  | .pan v => ∃ y, e = .panicked [{ v := y, recovered := false }] ∧ V Y v y
  | r => ∃ y, e = .returned y ∧ V Y r y
theorem EndsV.val {Y : Cx} {r : AV} {e : Ending} (h : EndsV Y r e) (hr : r.isPan = false) : ∃ y, e = .returned y ∧ V Y r y := by
  cases r <;> first | exact h | cases hr
theorem EndsV.of {Y : Cx} {r : AV} {y : Value} (h : V Y r y) : EndsV Y r (.returned y) := by
  have := h.isPan
  cases r <;> first | exact ⟨y, rfl, h⟩ | cases this
theorem EndsV.mono {Y Z : Cx} (hle : Y.Le Z) {r : AV} {e : Ending} (h : EndsV Y r e) : EndsV Z r e := by
  cases r <;> exact let ⟨y, h1, h2⟩ := h; ⟨y, h1, h2.mono hle⟩

/-- What is asked of the calls; and of a round of a loop, that is called with the loop's name behind a mark. -/
structure CallOK (P : Program) (w0 : W0) (cf : CallF) : Prop where
  body : ∀ g args s r, cf g args s = some r → (∀ a ∈ args, a.isPan = false) → ∃ fn, P.funcs[g]? = some fn ∧ fn.body.isNone = false
  calls : ∀ g args s r s', cf g args s = some (r, s') → ∀ X w vargs, R X s w0 w → VL X args vargs.toList →
    Calls P g vargs w fun e w' => ∃ Y, X.Le Y ∧ EndsV Y r e ∧ R Y s' w0 w'
  round : ∀ id vs s r s', cf P.funcs.size (.pan (.yld id) :: vs) s = some (r, s') → ∀ X w b base size (vargs : Array Value), R X s w0 w → X.mu id = some (b, base, size) → VL X vs vargs.toList →
    ∃ f tmps assign body, (Instr.yield b vargs).run P w = .ok (.round b f tmps assign body) w ∧
      RoundIn Fence.wide 0 P b f tmps assign body w fun e w' => ∃ Y, X.Le Y ∧ EndsV Y r e ∧ R Y s' w0 w'

theorem VL.noPan {X : Cx} {xs : List AV} {ys : List Value} (h : VL X xs ys) : ∀ a ∈ xs, a.isPan = false := by
  intro a ha
  obtain ⟨i, hi⟩ := List.mem_iff_getElem?.1 ha
  obtain ⟨y, _, hv⟩ := h.get hi
  exact hv.isPan

theorem step_ok {P : Program} {ro : Option Nat} {w0 : W0} {cf : CallF} (hcf : CallOK P w0 cf) (hname : ∀ (g : Nat) (fn : Func), P.funcs[g]? = some fn → (fn.name == "runtime.NumGoroutine") = false) (fz : Nat → Bool) (Q : Exit → Act → World → Prop) : StepOK P ro w0 Q (evStep P fz cf) := by
  intro i o ts s v s' h X a w hR ha K hK
  have plain : evOp P (fz i) o.op ts s = some (v, s') → o.wpIn (WF ro) 0 P a w K Q := by
    intro h
    obtain ⟨Y, n, w', y, hle, hr, hn, hv, hR'⟩ := evOp_sound hR ha h
    have hnd : ∀ c, o.op ≠ .defer c := fun c hc => by rw [hc] at h; simp [evOp] at h
    refine ⟨fun _ _ => trivial, ?_⟩
    rw [Oper.semAt_eq _ _ _ hnd, hr]
    rcases hn with rfl | ⟨rfl, rfl⟩
    · exact hK Y y w' hle hv hR'
    · exact hK Y undef w' hle hv hR'
  obtain ⟨dst, op, type, pos, after, guard⟩ := o
  cases op with
  | call c =>
    obtain ⟨callee, args, tys⟩ := c
    cases callee with
    | value f =>
      simp only [evStep] at h
      split at h <;> try cases h
      rotate_left
      · rename_i id hf
        split at h <;> try cases h
        rename_i vs hvs
        have hfv := rho_sound ha hf
        have hvl := rhos_sound ha hvs
        obtain ⟨h, hnp⟩ := noPan_some h
        have key : ∀ fv, V X (.yld id) fv → a.eval f = fv → Oper.wpIn (WF ro) 0 P { dst := dst, op := Op.call { callee := Callee.value f, args := args, argTypes := tys }, type := type, pos := pos, after := after, guard := guard } a w K Q := by
          intro fv hfv he
          cases hfv with
          | @yld _ b base size hm =>
            obtain ⟨fn, tmps, asg, body, hy, hround⟩ := hcf.round id vs s v s' h X w _ _ _ (args.map a.eval) hR hm (by simpa using hvl)
            refine ⟨fun _ _ => trivial, ?_⟩
            have hrun : (execOp a.eval { dst := dst, op := Op.call { callee := Callee.value f, args := args, argTypes := tys }, type := type, pos := pos, after := after, guard := guard }).run P w = .ok (.round b fn tmps asg body) w := by
              simp [execOp, resolve, he, Deferred.ofValue, invoke, hy]
            rw [Oper.semAt_eq _ _ _ (fun c hc => by cases hc), hrun]
            refine ⟨fun h => by simp [WF, Fence.wide] at h, ?_⟩
            refine RoundIn.mono (F := WF ro) hround ?_
            rintro e w' ⟨Y, hY, hE, hR'⟩
            obtain ⟨y, rfl, hv⟩ := hE.val hnp
            exact hK Y y w' hY hv hR'
        exact key _ hfv rfl
      rename_i g first cap hf
      split at h <;> try cases h
      rename_i vs hvs
      have hfv := rho_sound ha hf
      have hvl := rhos_sound ha hvs
      obtain ⟨h, hnp⟩ := noPan_some h
      have key : ∀ fv, V X (.clo (.func g) first cap) fv → a.eval f = fv → Oper.wpIn (WF ro) 0 P { dst := dst, op := Op.call { callee := Callee.value f, args := args, argTypes := tys }, type := type, pos := pos, after := after, guard := guard } a w K Q := by
        intro fv hfv he
        cases hfv with
        | @clo _ _ _ fs cs h1 h2 v1 v2 =>
          have hV : VL X (first ++ vs ++ cap) (fs ++ args.map a.eval ++ cs).toList := by
            have e1 := VL.ofArr h1 v1
            have e2 := VL.ofArr h2 v2
            simpa using (e1.append hvl).append e2
          obtain ⟨fn, hfn, hbody⟩ := hcf.body g _ _ _ h hV.noPan
          have hrun : (execOp a.eval { dst := dst, op := Op.call { callee := Callee.value f, args := args, argTypes := tys }, type := type, pos := pos, after := after, guard := guard }).run P w = .ok (.enter g (fs ++ args.map a.eval ++ cs)) w := by
            have hn : fn.name ≠ "runtime.NumGoroutine" := by simpa using hname g fn hfn
            have hb : fn.body ≠ none := fun e => by rw [e] at hbody; simp at hbody
            simp [execOp, resolve, he, Deferred.ofValue, invoke, callFunc, hfn, hn, hb]
          refine ⟨fun _ _ => trivial, ?_⟩
          rw [Oper.semAt_eq _ _ _ (fun c hc => by cases hc), hrun]
          refine ⟨fun h => by simp [WF, Fence.wide] at h, ?_⟩
          have hV : VL X (first ++ vs ++ cap) (fs ++ args.map a.eval ++ cs).toList := by
            have e1 := VL.ofArr h1 v1
            have e2 := VL.ofArr h2 v2
            simpa using (e1.append hvl).append e2
          refine callsWF (Calls.mono (hcf.calls g _ s v s' h X w _ hR hV) ?_)
          rintro e w' ⟨Y, hY, hE, hR'⟩
          obtain ⟨y, rfl, hv⟩ := hE.val hnp
          exact hK Y y w' hY hv hR'
      exact key _ hfv rfl
    | invoke r m => exact plain h
    | builtin b => exact plain h
  | buildSlice t len parts =>
    have h : exact (fz (i + 1024)) (evOp P (fz i) (.buildSlice t len parts) ts s) = some (v, s') := h
    cases hx : fz (i + 1024) with
    | false => rw [hx] at h; exact plain h
    | true =>
      rw [hx] at h
      simp only [exact] at h
      split at h <;> cases h
      rename_i x xs hb
      simp only [evOp] at hb
      split at hb <;> try cases hb
      rename_i ps hps
      obtain ⟨Y, y, w', hle, hr, hv, hR', hy⟩ := evBuildSlice_sound (P := P) hR (qs := parts.map fun (i, x) => (i, a.eval x)) (by simpa using rhoP_sound ha hps) hb
      refine ⟨fun _ _ => trivial, ?_⟩
      rw [Oper.semAt_eq _ _ _ (fun c hc => by cases hc)]
      have hrun : (execOp a.eval { dst := dst, op := Op.buildSlice t len parts, type := type, pos := pos, after := after, guard := guard }).run P w = .ok (.value y) w' := by simp [execOp, hr]
      rw [hrun]
      refine hK Y y w' hle ?_ hR'
      subst hy
      generalize hl : (x :: xs) = rows at hv
      cases hv with
      | fsl g hb2 hsz hc hv hcap h1 => exact .fslx g hb2 hsz hc hv h1
      | fsl0 a cap => cases hl
  | _ => exact plain h

theorem pan_ok {P : Program} {ro : Option Nat} {w0 : W0} {cf : CallF} (hcf : CallOK P w0 cf) (hname : ∀ (g : Nat) (fn : Func), P.funcs[g]? = some fn → (fn.name == "runtime.NumGoroutine") = false) (Q : Exit → Act → World → Prop) : PanOK P ro w0 Q (evPan cf) := by
  intro i o ts s v s' h X a w hR ha hQ K
  obtain ⟨dst, op, type, pos, after, guard⟩ := o
  cases op with
  | call c =>
    obtain ⟨callee, args, tys⟩ := c
    cases callee with
    | value f =>
      simp only [evPan] at h
      split at h <;> try cases h
      rename_i g first cap hf
      split at h <;> try cases h
      rename_i vs hvs
      have hfv := rho_sound ha hf
      have hvl := rhos_sound ha hvs
      have h := panOf_some h
      have key : ∀ fv, V X (.clo (.func g) first cap) fv → a.eval f = fv → Oper.wpIn (WF ro) 0 P { dst := dst, op := Op.call { callee := Callee.value f, args := args, argTypes := tys }, type := type, pos := pos, after := after, guard := guard } a w K Q := by
        intro fv hfv he
        cases hfv with
        | @clo _ _ _ fs cs h1 h2 v1 v2 =>
          have hV : VL X (first ++ vs ++ cap) (fs ++ args.map a.eval ++ cs).toList := by
            have e1 := VL.ofArr h1 v1
            have e2 := VL.ofArr h2 v2
            simpa using (e1.append hvl).append e2
          obtain ⟨fn, hfn, hbody⟩ := hcf.body g _ _ _ h hV.noPan
          have hrun : (execOp a.eval { dst := dst, op := Op.call { callee := Callee.value f, args := args, argTypes := tys }, type := type, pos := pos, after := after, guard := guard }).run P w = .ok (.enter g (fs ++ args.map a.eval ++ cs)) w := by
            have hn : fn.name ≠ "runtime.NumGoroutine" := by simpa using hname g fn hfn
            have hb : fn.body ≠ none := fun e => by rw [e] at hbody; simp at hbody
            simp [execOp, resolve, he, Deferred.ofValue, invoke, callFunc, hfn, hn, hb]
          refine ⟨fun _ _ => trivial, ?_⟩
          rw [Oper.semAt_eq _ _ _ (fun c hc => by cases hc), hrun]
          refine ⟨fun h => by simp [WF, Fence.wide] at h, ?_⟩
          have hV : VL X (first ++ vs ++ cap) (fs ++ args.map a.eval ++ cs).toList := by
            have e1 := VL.ofArr h1 v1
            have e2 := VL.ofArr h2 v2
            simpa using (e1.append hvl).append e2
          refine callsWF (Calls.mono (hcf.calls g _ s _ s' h X w _ hR hV) ?_)
          rintro e w' ⟨Y, hY, ⟨y, rfl, hv⟩, hR'⟩
          exact hQ Y y w' hY hv hR'
      exact key _ hfv rfl
    | invoke r m => simp [evPan] at h
    | builtin b => simp [evPan] at h
  | panic x =>
    simp only [evPan] at h
    split at h <;> cases h
    rename_i t u hx
    have hxv := rho_sound ha hx
    have key : ∀ xv, V X (.iface t u) xv → a.eval x = xv → Oper.wpIn (WF ro) 0 P { dst := dst, op := Op.panic x, type := type, pos := pos, after := after, guard := guard } a w K Q := by
      intro xv hxv he
      cases hxv with
      | iface _ hu =>
        rename_i y
        have hrun : (execOp a.eval { dst := dst, op := Op.panic x, type := type, pos := pos, after := after, guard := guard }).run P w = .halt (.panic (.iface t y)) w := by
          simp [execOp, he, Instr.panic, goPanic]
        refine ⟨fun _ _ => trivial, ?_⟩
        rw [Oper.semAt_eq _ _ _ (fun c hc => by cases hc), hrun]
        exact hQ X _ w (Cx.Le.refl X) (.iface _ hu) hR
    exact key _ hxv rfl
  | _ => simp [evPan] at h

end Go.Ev
