/- Abstract operations: numbers, texts, comparisons, conversions, maps, the rest. -/
import Derived.Test.YtinngopfgdfdbaaGreatDoorEv6
import Derived.Laws.StructEq
set_option linter.unusedVariables false
set_option linter.unusedSimpArgs false
namespace Go.Ev

def evInt (op : BinOp) (k : IntKind) (a b : Int) : Option AV :=
  match op with
  | .add => some (.int k (k.wrap (a + b)))
  | .sub => some (.int k (k.wrap (a - b)))
  | .mul => some (.int k (k.wrap (a * b)))
  | .quo => if b = 0 then none else some (.int k (k.wrap (a.tdiv b)))
  | .rem => if b = 0 then none else some (.int k (a.tmod b))
  | .and => some (.int k (bits .and k a b))
  | .or => some (.int k (bits .or k a b))
  | .xor => some (.int k (bits .xor k a b))
  | .andNot => some (.int k (bits .andNot k a b))
  | .eql => some (.bool (a == b))
  | .neq => some (.bool (a != b))
  | .lss => some (.bool (decide (a < b)))
  | .leq => some (.bool (decide (a ≤ b)))
  | .gtr => some (.bool (decide (b < a)))
  | .geq => some (.bool (decide (b ≤ a)))
  | _ => none

def evStr (op : BinOp) (a b : List UInt8) : Option AV :=
  match op with
  | .add => if a.length + b.length ≤ 1099511627776 then some (.str (a ++ b)) else none
  | .eql => some (.bool (a == b))
  | .neq => some (.bool (!(a == b)))
  | .lss => some (.bool (Op.bytesLess a b))
  | .leq => some (.bool (Op.bytesLess a b || a == b))
  | .gtr => some (.bool (!(Op.bytesLess a b || a == b)))
  | .geq => some (.bool (!Op.bytesLess a b))
  | _ => none

/-- Is a value of a sort that has a nil the nil? -/
def nilOf : TypeDesc → AV → Option Bool
  | .pointer _, .nilp => some true
  | .pointer _, .ptr _ _ => some false
  | .pointer _, .fptr _ => some false
  | .slice _, .nils => some true
  | .slice _, .sl _ _ _ _ => some false
  | .slice _, .fsl rows => if rows.isEmpty then none else some false
  | .map _ _, .nilm => some true
  | .map _ _, .map _ => some false
  | .func _ _ _, .nilf => some true
  | .func _ _ _, .clo _ _ _ => some false
  | .interface _, .nili => some true
  | .interface _, .iface _ _ => some false
  | _, _ => none

inductive NilV : TypeDesc → Bool → Value → Prop
  | p (e : TypeId) (a : Option Addr) : NilV (.pointer e) a.isNone (.pointer a)
  | s (e : TypeId) (a : Option Addr) (l c : Nat) : NilV (.slice e) a.isNone (.slice a l c)
  | m (k e : TypeId) (r : Option Nat) : NilV (.map k e) r.isNone (.map r)
  | f0 (p r : Array TypeId) (v : Bool) : NilV (.func p r v) true .nilFunc
  | f1 (p r : Array TypeId) (v : Bool) (f : Fn) (a c : Array Value) : NilV (.func p r v) false (.func f a c)
  | i0 (ms : Array (String × TypeId)) : NilV (.interface ms) true .nilIface
  | i1 (ms : Array (String × TypeId)) (t : TypeId) (v : Value) : NilV (.interface ms) false (.iface t v)

theorem nilOf_sound {X : Cx} {d : TypeDesc} {x : AV} {y : Value} {b : Bool} (hv : V X x y) (h : nilOf d x = some b) : NilV d b y := by
  unfold nilOf at h
  split at h <;> (try cases h) <;> (try cases hv)
  · exact .p _ none
  · exact .p _ (some _)
  · exact .p _ (some _)
  · exact .s _ none 0 0
  · exact .s _ (some _) _ _
  · split at h <;> cases h
    exact .s _ (some _) _ _
  · simp at h
  · exact .m _ _ none
  · exact .m _ _ (some _)
  · exact .f0 _ _ _
  · exact .f1 _ _ _ _ _ _
  · exact .i0 _
  · exact .i1 _ _ _

def isIface : TypeDesc → Bool
  | .interface _ => true
  | _ => false

def evNilEq (P : Program) (t : TypeId) (const : Bool) (x y : AV) : Option Bool :=
  match P.underlying t with
  | some d => match nilOf d x, nilOf d y with
    | some a, some b => if (a || b) = true then if (isIface d && a && b && !const) = true then none else some (a && b) else none
    | _, _ => none
  | none => none

def evShift (op : BinOp) (k : IntKind) (a b : Int) : Option AV :=
  if b < 0 then none else match op with
    | .shl => some (.int k (k.wrap (a * 2 ^ (min b.toNat k.bits))))
    | .shr => some (.int k (a.fdiv (2 ^ (min b.toNat k.bits))))
    | _ => none

/-- Two numbers, texts, truths alike? -/
def evEq1 (P : Program) (t : TypeId) (x y : AV) : Option Bool := match P.underlying t with
  | some .bool => match x, y with
    | .bool a, .bool b => some (a == b)
    | _, _ => none
  | some (.int _) => match x, y with
    | .int k a, .int k' b => if k = k' then some (a == b) else none
    | _, _ => none
  | some .string => match x, y with
    | .str a, .str b => some (a == b)
    | _, _ => none
  | _ => none

def evEqF (P : Program) (xs ys : List AV) : List Field → Option Bool
  | [] => some true
  | f :: fs => if f.name ≠ "_" then if agg? P f.type = some false then match xs[f.offset]?, ys[f.offset]? with
      | some a, some b => match evEq1 P f.type a b with
        | some true => evEqF P xs ys fs
        | some false => some false
        | none => none
      | _, _ => none
    else none
    else evEqF P xs ys fs

def evEqS (P : Program) (t : TypeId) (xs ys : List AV) : Option Bool := match P.underlying t with
  | some (.struct fs) => if P.stoodInHeld t = false ∧ P.eqGuardType P.depth t = false then evEqF P xs ys fs.toList else none
  | _ => none

def evBin (P : Program) (op : BinOp) (t : TypeId) (const : Bool) (x y : AV) : Option AV :=
  match x, y with
  | .int k a, .int k' b => match op with
    | .shl => evShift .shl k a b
    | .shr => evShift .shr k a b
    | op => if k = k' then evInt op k a b else none
  | .str a, .str b => evStr op a b
  | .bool a, .bool b => match P.underlying t with
    | some .bool => match op with
      | .eql => some (.bool (a == b))
      | .neq => some (.bool (!(a == b)))
      | _ => none
    | _ => none
  | .agg xs, .agg ys => match op with
    | .eql => (evEqS P t xs ys).map .bool
    | .neq => (evEqS P t xs ys).map fun b => .bool (!b)
    | _ => none
  | x, y => match op with
    | .eql => (evNilEq P t const x y).map .bool
    | .neq => (evNilEq P t const x y).map fun b => .bool (!b)
    | _ => none

section
variable {P : Program} {X : Cx} (w : World)

theorem evInt_sound {op : BinOp} {t : TypeId} {k : IntKind} {a b : Int} {r : AV} (hop : op ≠ .shl ∧ op ≠ .shr) (h : evInt op k a b = some r) : ∃ y, (binOp op t (.int k a) (.int k b)).run P w = .ok y w ∧ V X r y := by
  unfold evInt at h
  cases op <;> simp at h hop
  case quo => obtain ⟨hb, rfl⟩ := h; exact ⟨_, by simp [binOp_quo, Op.intDiv, hb], .int _ _⟩
  case rem => obtain ⟨hb, rfl⟩ := h; exact ⟨_, by simp [binOp_rem, Op.intDiv, hb], .int _ _⟩
  all_goals subst h
  case add => exact ⟨_, by simp [binOp_add, Op.intArith], .int _ _⟩
  case sub => exact ⟨_, by simp [binOp_sub, Op.intArith], .int _ _⟩
  case mul => exact ⟨_, by simp [binOp_mul, Op.intArith], .int _ _⟩
  case and => exact ⟨_, by simp [binOp_and, intBits_and], .int _ _⟩
  case or => exact ⟨_, by simp [binOp_or, intBits_or], .int _ _⟩
  case xor => exact ⟨_, by simp [binOp_xor, intBits_xor], .int _ _⟩
  case andNot => exact ⟨_, by simp [binOp_andNot, intBits_andNot], .int _ _⟩
  case eql => exact ⟨_, by simp [binOp_eql], .bool _⟩
  case neq => exact ⟨_, by simp [binOp_neq], .bool _⟩
  case lss => exact ⟨_, by simp [binOp_lss], .bool _⟩
  case leq => exact ⟨_, by simp [binOp_leq], .bool _⟩
  case gtr => exact ⟨_, by simp [binOp_gtr], .bool _⟩
  case geq => exact ⟨_, by simp [binOp_geq], .bool _⟩

theorem evStr_sound {op : BinOp} {t : TypeId} {a b : List UInt8} {r : AV} (h : evStr op a b = some r) : ∃ y, (binOp op t (.string ⟨⟨a⟩⟩) (.string ⟨⟨b⟩⟩)).run P w = .ok y w ∧ V X r y := by
  have hl : ∀ s : List UInt8, (⟨⟨s⟩⟩ : ByteArray).toList = s := fun s => ByteArray.toList_eq _
  have hb : binOp op t (.string ⟨⟨a⟩⟩) (.string ⟨⟨b⟩⟩) = Op.stringOp op ⟨⟨a⟩⟩ ⟨⟨b⟩⟩ := by cases op <;> rfl
  rw [hb]
  unfold evStr at h
  cases op <;> simp at h
  case add =>
    obtain ⟨hle, rfl⟩ := h
    refine ⟨.string (⟨⟨a⟩⟩ ++ ⟨⟨b⟩⟩), ?_, ?_⟩
    · have h1 : (⟨⟨a⟩⟩ : ByteArray).size = a.length := rfl
      have h2 : (⟨⟨b⟩⟩ : ByteArray).size = b.length := rfl
      simp only [Op.stringOp, h1, h2, IntKind.max_i64]
      rw [if_neg (by omega)]
      rfl
    · have he : ((⟨⟨a⟩⟩ : ByteArray) ++ ⟨⟨b⟩⟩) = ⟨⟨a ++ b⟩⟩ := by
        have : ((⟨⟨a⟩⟩ : ByteArray) ++ ⟨⟨b⟩⟩).data = ⟨a ++ b⟩ := by
          rw [ByteArray.data_append]
          simp
        cases hq : ((⟨⟨a⟩⟩ : ByteArray) ++ ⟨⟨b⟩⟩) with
        | mk d => rw [hq] at this; simp at this; rw [this]
      rw [he]
      exact .str _
  all_goals subst h
  all_goals exact ⟨_, by simp [Op.stringOp, hl], .bool _⟩

theorem equal_of {t : TypeId} {A B : Value} {b : Bool} (h : ∀ d, (Op.equalIn (d + 1) t A B).run P w = .ok b w) : (Op.equal t A B).run P w = .ok b w := h 9999

theorem evNilEq_sound {t : TypeId} {xo yo : Operand} {op : BinOp} {x y : AV} {xv yv : Value} {b : Bool} (hop : op = .eql ∨ op = .neq) (hx : V X x xv) (hy : V X y yv)
    {cst : Bool} (hcst : cst = ((xo matches .const _) || (yo matches .const _))) (h : evNilEq P t cst x y = some b) :
    (eqGuard op t xo yo xv yv).run P w = .ok () w ∧ (binOp op t xv yv).run P w = .ok (.bool (if op = .eql then b else !b)) w := by
  unfold evNilEq at h
  split at h <;> try cases h
  rename_i d hu
  split at h <;> try cases h
  rename_i a c ha hc
  split at h <;> try cases h
  rename_i hac
  split at h <;> cases h
  rename_i hif
  have na := nilOf_sound hx ha
  have nc := nilOf_sound hy hc
  have heq : ∀ (A B : Value), (binOp .eql t A B = (do pure (.bool (← Op.equal t A B)))) → (binOp .neq t A B = (do pure (.bool (!(← Op.equal t A B))))) → (∀ d, (Op.equalIn (d + 1) t A B).run P w = .ok (a && c) w) →
      (binOp op t A B).run P w = .ok (.bool (if op = .eql then (a && c) else !(a && c))) w := by
    intro A B h1 h2 h3
    have h4 := equal_of (P := P) w h3
    rcases hop with rfl | rfl
    · rw [h1]; simp [h4]
    · rw [h2]; simp [h4]
  clear ha hc hx hy
  cases na <;> cases nc
  · rename_i e a c
    refine ⟨by rcases hop with rfl | rfl <;> rfl, heq _ _ rfl rfl (fun d => ?_)⟩
    cases a <;> cases c <;> simp at hac <;> simp [Op.equalIn, run_underlying hu]
  · rename_i e a l c a' l' c'
    refine ⟨by rcases hop with rfl | rfl <;> rfl, heq _ _ rfl rfl (fun d => ?_)⟩
    cases a <;> cases a' <;> simp at hac <;> simp [Op.equalIn, run_underlying hu]
  · rename_i k e a c
    refine ⟨by rcases hop with rfl | rfl <;> rfl, heq _ _ rfl rfl (fun d => ?_)⟩
    cases a <;> cases c <;> simp at hac <;> simp [Op.equalIn, run_underlying hu]
  · exact ⟨by rcases hop with rfl | rfl <;> rfl, heq _ _ rfl rfl (fun d => by simp [Op.equalIn, run_underlying hu])⟩
  · exact ⟨by rcases hop with rfl | rfl <;> rfl, heq _ _ rfl rfl (fun d => by simp [Op.equalIn, run_underlying hu])⟩
  · exact ⟨by rcases hop with rfl | rfl <;> rfl, heq _ _ rfl rfl (fun d => by simp [Op.equalIn, run_underlying hu])⟩
  · simp at hac
  · refine ⟨?_, heq _ _ rfl rfl (fun d => by simp [Op.equalIn, run_underlying hu])⟩
    simp [isIface] at hif
    subst hif
    rcases hop with rfl | rfl <;> cases xo <;> cases yo <;> first | rfl | (simp at hcst)
  · exact ⟨by rcases hop with rfl | rfl <;> rfl, heq _ _ rfl rfl (fun d => by simp [Op.equalIn, run_underlying hu])⟩
  · exact ⟨by rcases hop with rfl | rfl <;> rfl, heq _ _ rfl rfl (fun d => by simp [Op.equalIn, run_underlying hu])⟩
  · simp at hac

theorem evShift_sound {op : BinOp} {k k' : IntKind} {a b : Int} {r : AV} (h : evShift op k a b = some r) : ∃ y, (Op.shift op k a k' b).run P w = .ok y w ∧ V X r y := by
  unfold evShift at h
  split at h <;> try cases h
  rename_i hb
  split at h <;> cases h
  · exact ⟨_, by simp [Op.shift, hb], .int _ _⟩
  · exact ⟨_, by simp [Op.shift, hb], .int _ _⟩

theorem evEq1_sound {t : TypeId} {x y : AV} {xv yv : Value} {b : Bool} (hx : V X x xv) (hy : V X y yv) (h : evEq1 P t x y = some b) (d : Nat) : (Op.equalIn (d + 1) t xv yv).run P w = .ok b w := by
  unfold evEq1 at h
  split at h <;> try cases h
  · rename_i hu
    split at h <;> cases h
    cases hx; cases hy
    simp [Op.equalIn, run_underlying hu]
  · rename_i k0 hu
    split at h <;> try cases h
    split at h <;> cases h
    cases hx; cases hy
    rename_i hk
    simp [Op.equalIn, run_underlying hu, hk]
  · rename_i hu
    split at h <;> cases h
    cases hx; cases hy
    rw [run_equalIn_string w d t _ _ hu]
    simp only [ByteArray.toList_eq]

theorem part1 {t : TypeId} {cs : Array Value} {off : Nat} {v : Value} (ht : agg? P t = some false) (h : cs[off]? = some v) : (part t cs off).run P w = .ok v w := by
  unfold part
  rw [Sem.run_bind, run_agg (P := P) w ht]
  simp [h]

theorem evEqF_sound {xs ys : List AV} {xa ya : Array Value} (hx : VL X xs xa.toList) (hy : VL X ys ya.toList) (d : Nat) : ∀ {fs : List Field} {b : Bool}, evEqF P xs ys fs = some b → (Op.eqFields (d + 1) xa ya fs).run P w = .ok b w
  | [], b, h => by cases h; rfl
  | f :: fs, b, h => by
    simp only [evEqF] at h
    simp only [Op.eqFields]
    split at h
    · rename_i hn
      rw [if_pos hn]
      split at h <;> try cases h
      rename_i hag
      split at h <;> try cases h
      rename_i u v hu hv
      obtain ⟨u', hu', hvu⟩ := hx.get hu
      obtain ⟨v', hv', hvv⟩ := hy.get hv
      have p1 := part1 (P := P) w hag (cs := xa) (off := f.offset) (by simpa using hu')
      have p2 := part1 (P := P) w hag (cs := ya) (off := f.offset) (by simpa using hv')
      simp only [Sem.run_bind, p1, p2, Result.andThen_ok]
      split at h <;> try cases h
      · rename_i he
        rw [evEq1_sound w hvu hvv he d]
        simp only [Result.andThen_ok, Bool.not_true, Bool.false_eq_true, if_false]
        exact evEqF_sound hx hy d h
      · rename_i he
        rw [evEq1_sound w hvu hvv he d]
        simp
    · rename_i hn
      rw [if_neg hn]
      exact evEqF_sound hx hy d h

theorem evEqS_sound {t : TypeId} {xs ys : List AV} {xv yv : Value} {b : Bool} {op : BinOp} {xo yo : Operand} (hop : op = .eql ∨ op = .neq) (hx : V X (.agg xs) xv) (hy : V X (.agg ys) yv) (h : evEqS P t xs ys = some b) :
    (eqGuard op t xo yo xv yv).run P w = .ok () w ∧ (binOp op t xv yv).run P w = .ok (.bool (if op = .eql then b else !b)) w := by
  unfold evEqS at h
  split at h <;> try cases h
  rename_i fs hu
  split at h <;> try cases h
  rename_i hc
  cases hx with
  | @agg _ xa hx1 vx h1 =>
  cases hy with
  | @agg _ ya hy1 vy h2 =>
  have hf : P.fieldsOf t = fs := by simp [Program.fieldsOf, hu]
  have he : (Op.equalIn 10000 t (.agg xa) (.agg ya)).run P w = .ok b w := by
    rw [run_equalIn_struct w 9999 t xa ya (by rw [hf]; exact hu) hc.1, hf]
    exact evEqF_sound w (VL.ofArr hx1 vx) (VL.ofArr hy1 vy) 9998 h
  refine ⟨run_eqGuard_agg w op t xo yo xa ya hc.2, ?_⟩
  rcases hop with rfl | rfl
  · rw [run_eql_struct w t xa ya, he]; rfl
  · rw [run_neq_struct w t xa ya, he]; rfl

theorem evBin_sound {t : TypeId} {xo yo : Operand} {op : BinOp} {x y r : AV} {xv yv : Value} (hx : V X x xv) (hy : V X y yv) (h : evBin P op t ((xo matches .const _) || (yo matches .const _)) x y = some r) :
    ∃ v, (do eqGuard op t xo yo xv yv; binOp op t xv yv : Sem Value).run P w = .ok v w ∧ V X r v := by
  unfold evBin at h
  split at h
  · rename_i k a k' b
    cases hx; cases hy
    have hg : eqGuard op t xo yo (.int k a) (.int k' b) = pure () := eqGuard_at_int _ _ _ _ _ _ _
    simp only [hg, Sem.run_bind, Sem.run_pure, Result.andThen_ok]
    split at h
    · obtain ⟨v, hv, hr⟩ := evShift_sound (P := P) (X := X) (k' := k') w h
      exact ⟨v, hv, hr⟩
    · obtain ⟨v, hv, hr⟩ := evShift_sound (P := P) (X := X) (k' := k') w h
      exact ⟨v, hv, hr⟩
    · rename_i h1 h2
      split at h <;> try cases h
      rename_i hk
      subst hk
      exact evInt_sound w ⟨h1, h2⟩ h
  · rename_i a b
    cases hx; cases hy
    have hg : eqGuard op t xo yo (.string ⟨⟨a⟩⟩) (.string ⟨⟨b⟩⟩) = pure () := eqGuard_at_string _ _ _ _ _ _
    simp only [hg, Sem.run_bind, Sem.run_pure, Result.andThen_ok]
    exact evStr_sound w h
  · rename_i a b
    cases hx; cases hy
    have hg : eqGuard op t xo yo (.bool a) (.bool b) = pure () := eqGuard_at_bool _ _ _ _ _ _
    simp only [hg, Sem.run_bind, Sem.run_pure, Result.andThen_ok]
    split at h <;> try cases h
    rename_i hu
    have he : (Op.equal t (.bool a) (.bool b)).run P w = .ok (a == b) w := equal_of (P := P) w (fun d => by simp [Op.equalIn, run_underlying hu])
    split at h <;> cases h
    · exact ⟨.bool (a == b), by simp [binOp, he], .bool _⟩
    · exact ⟨.bool (!(a == b)), by simp [binOp, he], .bool _⟩
  · split at h <;> try cases h
    · rw [Option.map_eq_some_iff] at h
      obtain ⟨b, hb, rfl⟩ := h
      obtain ⟨h1, h2⟩ := evEqS_sound (P := P) (xo := xo) (yo := yo) w (op := .eql) (.inl rfl) hx hy hb
      exact ⟨.bool b, by simp [h1, h2], .bool _⟩
    · rw [Option.map_eq_some_iff] at h
      obtain ⟨b, hb, rfl⟩ := h
      obtain ⟨h1, h2⟩ := evEqS_sound (P := P) (xo := xo) (yo := yo) w (op := .neq) (.inr rfl) hx hy hb
      exact ⟨.bool (!b), by simp [h1, h2], .bool _⟩
  · split at h
    · rw [Option.map_eq_some_iff] at h
      obtain ⟨b, hb, rfl⟩ := h
      obtain ⟨h1, h2⟩ := evNilEq_sound (P := P) w (op := .eql) (.inl rfl) hx hy rfl hb
      exact ⟨.bool b, by simp [h1, h2], .bool _⟩
    · rw [Option.map_eq_some_iff] at h
      obtain ⟨b, hb, rfl⟩ := h
      obtain ⟨h1, h2⟩ := evNilEq_sound (P := P) w (op := .neq) (.inr rfl) hx hy rfl hb
      exact ⟨.bool (!b), by simp [h1, h2], .bool _⟩
    · cases h

/-! ### one operand -/
def evUn (op : UnOp) (x : AV) : Option AV :=
  match op, x with
  | .neg, .int k n => some (.int k (k.wrap (0 - n)))
  | .xor, .int k n => some (.int k (bits .xor k (if k.signed then -1 else k.max) n))
  | .not, .bool b => some (.bool (!b))
  | _, _ => none

theorem evUn_sound {op : UnOp} {x r : AV} {xv : Value} (hx : V X x xv) (h : evUn op x = some r) : ∃ y, (Op.unary op xv).run P w = .ok y w ∧ V X r y := by
  unfold evUn at h
  split at h <;> cases h <;> cases hx
  · exact ⟨_, by simp [Op.unary, Op.intArith], .int _ _⟩
  · exact ⟨_, by simp [Op.unary, intBits_xor], .int _ _⟩
  · exact ⟨_, by simp [Op.unary], .bool _⟩

end
end Go.Ev
