/- Rules: the evaluator step by step. -/
import Derived.Test.YtghpalokaedpkaaGreatEv17
set_option linter.unusedVariables false
set_option linter.unusedSimpArgs false
namespace Go.Ev

def below (n : Nat) (h : Heap) : Heap := fun i => if i < n then h i else none

theorem below_lt {n i : Nat} (h : Heap) (hi : i < n) : below n h i = h i := by simp [below, hi]
theorem below_put_lt {n j : Nat} (h : Heap) (b : Blk) (hj : j < n) : below n (h.put j b) = (below n h).put j b := by
  funext i
  simp only [below, Heap.put]
  by_cases hi : i = j
  · subst hi; simp [hj]
  · simp [hi]
theorem below_put_ge {n j : Nat} (h : Heap) (b : Blk) (hj : n ≤ j) : below n (h.put j b) = below n h := by
  funext i
  simp only [below, Heap.put]
  by_cases hi : i = j
  · subst hi; simp [Nat.not_lt.2 hj]
  · simp [hi]
theorem below_del_ge {n j : Nat} (h : Heap) (hj : n ≤ j) : below n (h.del j) = below n h := by
  funext i
  simp only [below, Heap.del]
  by_cases hi : i = j
  · subst hi; simp [Nat.not_lt.2 hj]
  · simp [hi]
theorem below_del_lt {n j : Nat} (h : Heap) : below n (h.del j) = (below n h).del j := by
  funext i
  simp only [below, Heap.del]
  by_cases hi : i = j
  · subst hi; simp
  · simp [hi]
theorem below_below {n m : Nat} (h : Heap) (hnm : n ≤ m) : below n (below m h) = below n h := by
  funext i
  simp only [below]
  by_cases hi : i < n
  · have : i < m := by omega
    simp [hi, this]
  · simp [hi]
theorem put_put (h : Heap) (i : Nat) (a b : Blk) : (h.put i a).put i b = h.put i b := by
  funext j; simp only [Heap.put]; split <;> rfl
theorem put_self {h : Heap} {i : Nat} {a : Blk} (e : h i = some a) : h.put i a = h := by
  funext j; simp only [Heap.put]; split
  · subst_vars; exact e.symm
  · rfl

section
variable (P : Program) (Hn : Hints)

/-- A call comes to a value and a memory. -/
def RunsTo (f : FuncId) (args : List AV) (s : HS) (r : AV) (h' : Heap) : Prop := ∃ n', s.n ≤ n' ∧ evLim P Hn f args s = some (r, ⟨h', n'⟩)

def CodeK (f : FuncId) (c : Code) (ts : List AV) (s : HS) (Q : AX → List AV → HS → Prop) : Prop := ∃ e ts' s', codeL P Hn f (evLim P Hn) c ts s = some (e, ts', s') ∧ Q e ts' s'

def StepK (fz : Nat → Bool) (i : Nat) (o : Oper) (ts : List AV) (s : HS) (K : AV → HS → Prop) : Prop := ∃ v s', evStep P fz (evLim P Hn) i o ts s = some (v, s') ∧ K v s'

def OpsK (fz : Nat → Bool) (ops : Array Oper) (i : Nat) (os : List Oper) (ts : List AV) (s : HS) (pre : List HS) (Q : List AV → List HS → HS → Prop) : Prop :=
  ∃ T ph s', runR (evStep P fz (evLim P Hn)) (effR fz) ops i os ts s = some (T, ph) ∧ ph.getLast? = some s' ∧ Q T (pre ++ ph) s'
end

section
variable {P : Program} {Hn : Hints} {f : FuncId} {fz : Nat → Bool} {ops : Array Oper}

theorem runR_last {cf : CallF} : ∀ {os : List Oper} {i : Nat} {ts T : List AV} {s : HS} {ph : List HS}, runR (evStep P fz cf) (effR fz) ops i os ts s = some (T, ph) → ∃ s', ph.getLast? = some s'
  | [], i, ts, T, s, ph, h => by simp [runR] at h; exact ⟨s, by simp [← h.2]⟩
  | o :: os, i, ts, T, s, ph, h => by
    unfold runR at h
    split at h
    · split at h <;> try cases h
      split at h <;> cases h
      rename_i ph' hr
      obtain ⟨s', hs'⟩ := runR_last hr
      refine ⟨s', ?_⟩
      cases effR fz i o
      · exact hs'
      · cases ph' with
        | nil => simp at hs'
        | cons x xs => simpa [List.getLast?_cons] using hs'
    · split at h <;> cases h
      rename_i ph' hr
      obtain ⟨s', hs'⟩ := runR_last hr
      refine ⟨s', ?_⟩
      cases effR fz i o
      · exact hs'
      · cases ph' with
        | nil => simp at hs'
        | cons x xs => simpa [List.getLast?_cons] using hs'

theorem o_nil {i : Nat} {ts : List AV} {s : HS} {pre : List HS} {Q : List AV → List HS → HS → Prop} (h : Q ts (pre ++ [s]) s) : OpsK P Hn fz ops i [] ts s pre Q := ⟨ts, [s], s, rfl, rfl, h⟩

theorem o_on {i : Nat} {o : Oper} {os : List Oper} {ts : List AV} {s : HS} {pre : List HS} {Q : List AV → List HS → HS → Prop} (hw : wantedA ops o ts = true)
    (h : StepK P Hn fz i o ts s fun v s' => OpsK P Hn fz ops (i + 1) os (putA ts o.dst v) s' (if effR fz i o then pre ++ [s] else pre) Q) : OpsK P Hn fz ops i (o :: os) ts s pre Q := by
  obtain ⟨v, s', hs, T, ph, sl, hr, hl, hq⟩ := h
  have hrun : runR (evStep P fz (evLim P Hn)) (effR fz) ops i (o :: os) ts s = some (T, if effR fz i o then s :: ph else ph) := by
    unfold runR
    rw [if_pos hw, hs]
    simp only [hr]
  refine ⟨T, _, sl, hrun, ?_, ?_⟩
  · cases effR fz i o
    · exact hl
    · cases ph with
      | nil => simp at hl
      | cons x xs => simpa [List.getLast?_cons] using hl
  · cases he : effR fz i o
    · simpa [he] using hq
    · simpa [he] using hq

theorem o_off {i : Nat} {o : Oper} {os : List Oper} {ts : List AV} {s : HS} {pre : List HS} {Q : List AV → List HS → HS → Prop} (hw : wantedA ops o ts = false)
    (h : OpsK P Hn fz ops (i + 1) os (putA ts o.dst (.tup [])) s (if effR fz i o then pre ++ [s] else pre) Q) : OpsK P Hn fz ops i (o :: os) ts s pre Q := by
  obtain ⟨T, ph, sl, hr, hl, hq⟩ := h
  have hrun : runR (evStep P fz (evLim P Hn)) (effR fz) ops i (o :: os) ts s = some (T, if effR fz i o then s :: ph else ph) := by
    unfold runR
    rw [if_neg (by rw [hw]; simp)]
    simp only [hr]
  refine ⟨T, _, sl, hrun, ?_, ?_⟩
  · cases effR fz i o
    · exact hl
    · cases ph with
      | nil => simp at hl
      | cons x xs => simpa [List.getLast?_cons] using hl
  · cases he : effR fz i o
    · simpa [he] using hq
    · simpa [he] using hq

/-- An operation under a guard that is known. -/
theorem o_guard {i j : Nat} {want b : Bool} {dst : Option Tmp} {op : Op} {ty : TypeId} {pos : String} {aft : Array Edge} {os : List Oper} {ts : List AV} {s : HS} {pre : List HS} {Q : List AV → List HS → HS → Prop} (hy : yieldedA ops ts j = some b)
    (h1 : b = want → StepK P Hn fz i ⟨dst, op, ty, pos, aft, some (j, want)⟩ ts s fun v s' => OpsK P Hn fz ops (i + 1) os (putA ts dst v) s' (if effOp (fz i) op then pre ++ [s] else pre) Q)
    (h2 : b = !want → OpsK P Hn fz ops (i + 1) os (putA ts dst (.tup [])) s (if effOp (fz i) op then pre ++ [s] else pre) Q) : OpsK P Hn fz ops i (⟨dst, op, ty, pos, aft, some (j, want)⟩ :: os) ts s pre Q := by
  by_cases hb : b = want
  · exact o_on (by simp [wantedA, hy, hb]) (h1 hb)
  · exact o_off (by simp [wantedA, hy, hb]) (h2 (by cases b <;> cases want <;> simp_all))

/-! ### code -/
def thenK (next : List AV → HS → Prop) (Q : AX → List AV → HS → Prop) : AX → List AV → HS → Prop
  | .normal, ts, s => next ts s
  | e, ts, s => Q e ts s

def blockK (id : Nat) (Q : AX → List AV → HS → Prop) : AX → List AV → HS → Prop
  | .exit id', ts, s => if id' = id then Q .normal ts s else Q (.exit id') ts s
  | e, ts, s => Q e ts s

theorem c_skip {ts : List AV} {s : HS} {Q : AX → List AV → HS → Prop} (h : Q .normal ts s) : CodeK P Hn f .skip ts s Q := ⟨.normal, ts, s, rfl, h⟩
theorem c_ret {ts : List AV} {s : HS} {Q : AX → List AV → HS → Prop} (h : Q .ret ts s) : CodeK P Hn f .ret ts s Q := ⟨.ret, ts, s, rfl, h⟩
theorem c_exit {id : Nat} {ts : List AV} {s : HS} {Q : AX → List AV → HS → Prop} (h : Q (.exit id) ts s) : CodeK P Hn f (.exit id) ts s Q := ⟨.exit id, ts, s, rfl, h⟩

theorem c_seq {a b : Code} {ts : List AV} {s : HS} {Q : AX → List AV → HS → Prop} (h : CodeK P Hn f a ts s (thenK (fun ts' s' => CodeK P Hn f b ts' s' Q) Q)) : CodeK P Hn f (.seq a b) ts s Q := by
  obtain ⟨e, ts', s', hc, hq⟩ := h
  cases e with
  | normal =>
    obtain ⟨e2, ts2, s2, hc2, hq2⟩ := hq
    exact ⟨e2, ts2, s2, by simp only [codeL, hc, hc2], hq2⟩
  | exit id => exact ⟨_, _, _, by simp only [codeL, hc], hq⟩
  | ret => exact ⟨_, _, _, by simp only [codeL, hc], hq⟩

theorem c_cond {c : Operand} {x y : Code} {b : Bool} {ts : List AV} {s : HS} {Q : AX → List AV → HS → Prop} (hc : rho ts c = some (.bool b)) (h1 : b = true → CodeK P Hn f x ts s Q) (h2 : b = false → CodeK P Hn f y ts s Q) : CodeK P Hn f (.cond c x y) ts s Q := by
  cases b with
  | true =>
    obtain ⟨e, ts', s', hx, hq⟩ := h1 rfl
    exact ⟨e, ts', s', by simp only [codeL, hc]; simpa using hx, hq⟩
  | false =>
    obtain ⟨e, ts', s', hx, hq⟩ := h2 rfl
    exact ⟨e, ts', s', by simp only [codeL, hc]; simpa using hx, hq⟩

theorem c_block {id : Nat} {b : Code} {ts : List AV} {s : HS} {Q : AX → List AV → HS → Prop} (h : CodeK P Hn f b ts s (blockK id Q)) : CodeK P Hn f (.block id b) ts s Q := by
  obtain ⟨e, ts', s', hc, hq⟩ := h
  cases e with
  | normal => exact ⟨_, _, _, by simp only [codeL, hc], hq⟩
  | ret => exact ⟨_, _, _, by simp only [codeL, hc], hq⟩
  | exit id' =>
    simp only [blockK] at hq
    by_cases hid : id' = id
    · rw [if_pos hid] at hq
      exact ⟨.normal, ts', s', by simp only [codeL, hc, if_pos hid], hq⟩
    · rw [if_neg hid] at hq
      exact ⟨.exit id', ts', s', by simp only [codeL, hc, if_neg hid], hq⟩

theorem c_loop {b : Code} {ts : List AV} {s : HS} {Q : AX → List AV → HS → Prop} (h : CodeK P Hn f b ts s (thenK (fun ts' s' => CodeK P Hn f (.loop b) ts' s' Q) Q)) : CodeK P Hn f (.loop b) ts s Q := by
  obtain ⟨e, ts', s', hc, hq⟩ := h
  cases e with
  | normal =>
    obtain ⟨e2, ts2, s2, hc2, hq2⟩ := hq
    refine ⟨e2, ts2, s2, ?_, hq2⟩
    simp only [codeL] at hc2 ⊢
    rw [loopL_step, hc]
    exact hc2
  | exit id => exact ⟨_, _, _, by simp only [codeL]; rw [loopL_step, hc], hq⟩
  | ret => exact ⟨_, _, _, by simp only [codeL]; rw [loopL_step, hc], hq⟩

theorem c_mono {c : Code} {ts : List AV} {s : HS} {Q Q' : AX → List AV → HS → Prop} (h : CodeK P Hn f c ts s Q) (hq : ∀ e ts s, Q e ts s → Q' e ts s) : CodeK P Hn f c ts s Q' :=
  let ⟨e, ts', s', h1, h2⟩ := h
  ⟨e, ts', s', h1, hq _ _ _ h2⟩

/-- A region none of whose operations is to be looked at twice. -/
theorem c_region {id : Nat} {draw : Bool} {ts : List AV} {s : HS} {Q : AX → List AV → HS → Prop} (hch : draw = false ∨ checks (Hn.fz f id) ops = []) (h : OpsK P Hn (Hn.fz f id) ops 0 ops.toList ts s [] fun T _ s' => Q .normal T s') :
    CodeK P Hn f (.region id ops draw) ts s Q := by
  obtain ⟨T, ph, s', hr, hl, hq⟩ := h
  refine ⟨.normal, T, s', ?_, hq⟩
  simp only [codeL, evRegion, hr, hl]
  rcases hch with rfl | hch
  · rfl
  · rw [hch]; cases draw <;> simp [StabL]

theorem c_regionS {id : Nat} {draw : Bool} {ts : List AV} {s : HS} {Q : AX → List AV → HS → Prop} (h : OpsK P Hn (Hn.fz f id) ops 0 ops.toList ts s [] fun T ph s' => StabL P (Hn.fz f id) (evLim P Hn) ops T ph (checks (Hn.fz f id) ops) ∧ Q .normal T s') :
    CodeK P Hn f (.region id ops draw) ts s Q := by
  obtain ⟨T, ph, s', hr, hl, hst, hq⟩ := h
  refine ⟨.normal, T, s', ?_, hq⟩
  simp only [List.nil_append] at hst
  simp only [codeL, evRegion, hr, hl, if_pos hst]
  cases draw <;> rfl

/-- What a body must come to. -/
def RetK (P : Program) (Hn : Hints) (f : FuncId) (fn : Func) (args : List AV) (n0 : Nat) (r : AV) (h' : Heap) : AX → List AV → HS → Prop
  | .exit _, _, _ => False
  | _, ts, s' => ∃ v, evResults P fn s' ts = some v ∧ ∃ n', n0 ≤ n' ∧ evReturn Hn f args n0 v s' = some (r, ⟨h', n'⟩)

theorem c_body {fn : Func} {c : Code} (hf : P.funcs[f]? = some fn) (hc : fn.body = some c) {args : List AV} (ho : Hn.orc f args = none) {s : HS} {r : AV} {h' : Heap} (h : CodeK P Hn f c (args ++ List.replicate (fn.ntmps - args.length) (.tup [])) s (RetK P Hn f fn args s.n r h')) : RunsTo P Hn f args s r h' := by
  obtain ⟨e, ts, s', hcode, hq⟩ := h
  cases e with
  | exit id => exact hq.elim
  | normal =>
    obtain ⟨v, hv, n', hn, hr⟩ := hq
    exact ⟨n', hn, evLim_body hf hc ho (by simp only [bodyL, hcode, hv, hr])⟩
  | ret =>
    obtain ⟨v, hv, n', hn, hr⟩ := hq
    exact ⟨n', hn, evLim_body hf hc ho (by simp only [bodyL, hcode, hv, hr])⟩

/-- A snapshot is handed back, and nothing new stays. -/
theorem ret_snap {args : List AV} {n0 : Nat} {v r : AV} {s' : HS} {h' : Heap} (hs : Hn.snap f = true) (hk : Hn.keep f args s' n0 = fun i => decide (i < n0)) (hd : Hn.deep f args s' n0 = fun _ => false)
    (hv : snapV true (fun i => decide (i < n0)) s'.h 8 v = some r) (hn : n0 ≤ s'.n) (hh : below n0 s'.h = h') : ∃ n', n0 ≤ n' ∧ evReturn Hn f args n0 v s' = some (r, ⟨h', n'⟩) := by
  refine ⟨s'.n, hn, ?_⟩
  simp only [evReturn, hs, if_true, hk, hv, hd, sweptD]
  rw [← hh]
  simp
  rfl

/-! ### steps -/
section
variable {i : Nat} {dst : Option Tmp} {ty : TypeId} {pos : String} {aft : Array Edge} {g : Option (Nat × Bool)} {ts : List AV} {s : HS} {K : AV → HS → Prop}

theorem s_move {x : Operand} {v : AV} (h1 : rho ts x = some v) (h : K v s) : StepK P Hn fz i ⟨dst, .move x, ty, pos, aft, g⟩ ts s K := ⟨v, s, by simp [evStep, evOp, h1], h⟩
theorem s_assign {x : Operand} {v : AV} (h1 : rho ts x = some v) (h : K v s) : StepK P Hn fz i ⟨dst, .assign x, ty, pos, aft, g⟩ ts s K := ⟨v, s, by simp [evStep, evOp, h1], h⟩
theorem s_pick {c a b : Operand} {t : Bool} {u v : AV} (h1 : rho ts c = some (.bool t)) (h2 : rho ts a = some u) (h3 : rho ts b = some v) (h : K (if t then u else v) s) : StepK P Hn fz i ⟨dst, .pick c a b, ty, pos, aft, g⟩ ts s K := ⟨_, s, by simp [evStep, evOp, h1, h2, h3], h⟩
theorem s_alloc {e : TypeId} {z : AV} (h1 : zero? P e = some z) (h2 : z.st = true) (hf : fz i = false) (h : K (.ptr s.n 0) ⟨s.h.put s.n (.cells z.cells), s.n + 1⟩) : StepK P Hn fz i ⟨dst, .alloc e, ty, pos, aft, g⟩ ts s K := ⟨_, _, by simp [evStep, evOp, h1, h2, hf, evNew], h⟩
theorem s_box {e : TypeId} {x : Operand} {v : AV} (h1 : rho ts x = some v) (h2 : v.st = true) (hf : fz i = false) (h : K (.ptr s.n 0) ⟨s.h.put s.n (.cells v.cells), s.n + 1⟩) : StepK P Hn fz i ⟨dst, .box e x, ty, pos, aft, g⟩ ts s K := ⟨_, _, by simp [evStep, evOp, h1, h2, hf, evNew], h⟩
theorem s_boxF {e : TypeId} {x : Operand} {v : AV} (h1 : rho ts x = some v) (h2 : v.st = true) (hf : fz i = true) (h : K (.fptr v.cells) s) : StepK P Hn fz i ⟨dst, .box e x, ty, pos, aft, g⟩ ts s K := ⟨_, _, by simp [evStep, evOp, h1, h2, hf, evNew], h⟩
theorem s_load {t : TypeId} {x : Operand} {p v : AV} (h1 : rho ts x = some p) (h2 : evLoad P s.h t p = some v) (h : K v s) : StepK P Hn fz i ⟨dst, .load t x, ty, pos, aft, g⟩ ts s K := ⟨v, s, by simp [evStep, evOp, h1, h2], h⟩
theorem s_store {t : TypeId} {x y : Operand} {p v : AV} {s' : HS} (h1 : rho ts x = some p) (h2 : rho ts y = some v) (h3 : evStore P s t p v = some s') (h : K (.tup []) s') : StepK P Hn fz i ⟨dst, .store t x y, ty, pos, aft, g⟩ ts s K := ⟨_, s', by simp [evStep, evOp, h1, h2, h3], h⟩
theorem s_nilCheck {x : Operand} {p v : AV} (h1 : rho ts x = some p) (h2 : evNilCheck p = some v) (h : K v s) : StepK P Hn fz i ⟨dst, .nilCheck x, ty, pos, aft, g⟩ ts s K := ⟨v, s, by simp [evStep, evOp, h1, h2], h⟩
theorem s_bin {op : BinOp} {t u : TypeId} {x y : Operand} {a b v : AV} (h1 : rho ts x = some a) (h2 : rho ts y = some b) (h3 : evBin P op t (isConst x || isConst y) a b = some v) (h : K v s) : StepK P Hn fz i ⟨dst, .binOp op t x y u, ty, pos, aft, g⟩ ts s K := ⟨v, s, by simp [evStep, evOp, h1, h2, h3], h⟩
theorem s_un {op : UnOp} {t : TypeId} {x : Operand} {a v : AV} (h1 : rho ts x = some a) (h3 : evUn op a = some v) (h : K v s) : StepK P Hn fz i ⟨dst, .unOp op t x, ty, pos, aft, g⟩ ts s K := ⟨v, s, by simp [evStep, evOp, h1, h3], h⟩
theorem s_conv {t u : TypeId} {x : Operand} {a v : AV} (h1 : rho ts x = some a) (h3 : evConv P s.h t u a = some v) (h : K v s) : StepK P Hn fz i ⟨dst, .convert t u x, ty, pos, aft, g⟩ ts s K := ⟨v, s, by simp [evStep, evOp, h1, h3], h⟩
theorem s_fieldAddr {t : TypeId} {x : Operand} {n : Nat} {a v : AV} (h1 : rho ts x = some a) (h3 : evFieldAddr P t a n = some v) (h : K v s) : StepK P Hn fz i ⟨dst, .fieldAddr t x n, ty, pos, aft, g⟩ ts s K := ⟨v, s, by simp [evStep, evOp, h1, h3], h⟩
theorem s_field {t : TypeId} {x : Operand} {n : Nat} {a v : AV} (h1 : rho ts x = some a) (h3 : evField P t a n = some v) (h : K v s) : StepK P Hn fz i ⟨dst, .field t x n, ty, pos, aft, g⟩ ts s K := ⟨v, s, by simp [evStep, evOp, h1, h3], h⟩
theorem s_indexAddr {t : TypeId} {x y : Operand} {a b v : AV} (h1 : rho ts x = some a) (h2 : rho ts y = some b) (h3 : evIndexAddr P t a b = some v) (h : K v s) : StepK P Hn fz i ⟨dst, .indexAddr t x y, ty, pos, aft, g⟩ ts s K := ⟨v, s, by simp [evStep, evOp, h1, h2, h3], h⟩
theorem s_index {t : TypeId} {x y : Operand} {a b v : AV} (h1 : rho ts x = some a) (h2 : rho ts y = some b) (h3 : evIndex P t a b = some v) (h : K v s) : StepK P Hn fz i ⟨dst, .index t x y, ty, pos, aft, g⟩ ts s K := ⟨v, s, by simp [evStep, evOp, h1, h2, h3], h⟩
theorem s_slice {t : TypeId} {x : Operand} {lo hi : Option Operand} {a v : AV} {l u : Option AV} (h1 : rho ts x = some a) (h2 : rhoO ts lo = some l) (h3 : rhoO ts hi = some u) (h4 : evSlice P t a l u = some v) (h : K v s) : StepK P Hn fz i ⟨dst, .slice t x lo hi none, ty, pos, aft, g⟩ ts s K := ⟨v, s, by simp [evStep, evOp, h1, h2, h3, h4], h⟩
theorem s_extract {x : Operand} {n : Nat} {xs : List AV} {v : AV} (h1 : rho ts x = some (.tup xs)) (h3 : xs[n]? = some v) (h : K v s) : StepK P Hn fz i ⟨dst, .extract x n, ty, pos, aft, g⟩ ts s K := ⟨v, s, by simp [evStep, evOp, h1, h3], h⟩
theorem s_build {t : TypeId} {parts : Array (Nat × Operand)} {ps : List (Nat × AV)} {v : AV} (h1 : rhoP ts parts.toList = some ps) (h3 : evBuild P t ps = some v) (h : K v s) : StepK P Hn fz i ⟨dst, .build t parts, ty, pos, aft, g⟩ ts s K := ⟨v, s, by simp [evStep, evOp, h1, h3], h⟩
theorem s_buildSlice {t : TypeId} {n : Nat} {parts : Array (Nat × Operand)} {ps : List (Nat × AV)} {v : AV} {s' : HS} (h1 : rhoP ts parts.toList = some ps) (h3 : evBuildSlice P (fz i) s t n ps = some (v, s')) (h : K v s') : StepK P Hn fz i ⟨dst, .buildSlice t n parts, ty, pos, aft, g⟩ ts s K := ⟨v, s', by simp [evStep, evOp, h1, h3], h⟩
theorem s_makeFunc {fn : Fn} {a b : Array Operand} {us vs : List AV} (h1 : rhos ts a.toList = some us) (h2 : rhos ts b.toList = some vs) (h : K (.clo fn us vs) s) : StepK P Hn fz i ⟨dst, .makeFunc fn a b, ty, pos, aft, g⟩ ts s K := ⟨_, s, by simp [evStep, evOp, h1, h2], h⟩
theorem s_makeMap {t : TypeId} (h : K (.map s.n) ⟨s.h.put s.n (.map []), s.n + 1⟩) : StepK P Hn fz i ⟨dst, .makeMap t none, ty, pos, aft, g⟩ ts s K := ⟨_, _, by simp [evStep, evOp], h⟩
theorem s_lookup {t : TypeId} {x y : Operand} {ok : Bool} {a b v : AV} (h1 : rho ts x = some a) (h2 : rho ts y = some b) (h3 : evLookup P s.h t a b ok = some v) (h : K v s) : StepK P Hn fz i ⟨dst, .lookup t x y ok, ty, pos, aft, g⟩ ts s K := ⟨v, s, by simp [evStep, evOp, h1, h2, h3], h⟩
theorem s_mapUpdate {t : TypeId} {x y z : Operand} {a b c : AV} {s' : HS} (h1 : rho ts x = some a) (h2 : rho ts y = some b) (h4 : rho ts z = some c) (h3 : evMapUpdate P s t a b c = some s') (h : K (.tup []) s') : StepK P Hn fz i ⟨dst, .mapUpdate t x y z, ty, pos, aft, g⟩ ts s K := ⟨_, s', by simp [evStep, evOp, h1, h2, h3, h4], h⟩
theorem s_insert {t : TypeId} {x y z : Operand} {a b c : AV} {s' : HS} (h1 : rho ts x = some a) (h2 : rho ts y = some b) (h4 : rho ts z = some c) (h3 : evMapUpdate P s t a b c = some s') (h : K (.tup []) s') : StepK P Hn fz i ⟨dst, .insert t x y z, ty, pos, aft, g⟩ ts s K := ⟨_, s', by simp [evStep, evOp, h1, h2, h3, h4], h⟩
theorem s_append {args : Array Operand} {t t2 : TypeId} {a b v : AV} {s' : HS} (h1 : rhos ts args.toList = some [a, b]) (h3 : evAppend P s t t2 a b = some (v, s')) (h : K v s') : StepK P Hn fz i ⟨dst, .call ⟨.builtin .append, args, #[t, t2]⟩, ty, pos, aft, g⟩ ts s K := ⟨v, s', by simp [evStep, evOp, h1, h3], h⟩
theorem s_len {args : Array Operand} {t : TypeId} {a v : AV} (h1 : rhos ts args.toList = some [a]) (h3 : evLen P s.h t a = some v) (h : K v s) : StepK P Hn fz i ⟨dst, .call ⟨.builtin .len, args, #[t]⟩, ty, pos, aft, g⟩ ts s K := ⟨v, s, by simp [evStep, evOp, h1, h3], h⟩
theorem s_call {fo : Operand} {args : Array Operand} {tys : Array TypeId} {k : FuncId} {first cap vs : List AV} {r : AV} {h' : Heap} (h1 : rho ts fo = some (.clo (.func k) first cap)) (h2 : rhos ts args.toList = some vs) (h3 : RunsTo P Hn k (first ++ vs ++ cap) s r h')
    (h : ∀ n', s.n ≤ n' → K r ⟨h', n'⟩) : StepK P Hn fz i ⟨dst, .call ⟨.value fo, args, tys⟩, ty, pos, aft, g⟩ ts s K := by
  obtain ⟨n', hn, he⟩ := h3
  exact ⟨r, ⟨h', n'⟩, by simp only [evStep, h1, h2, he], h n' hn⟩
end
end
end Go.Ev
