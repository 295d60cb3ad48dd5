/- Abstract values, and what they say of the model's values. -/
import Derived.WalkKit
import Derived.Below
set_option linter.unusedVariables false
set_option linter.unusedSimpArgs false
namespace Go.Ev

/-- Abstract values: memory that nobody writes any more is part of the value ('fptr', 'fsl'); memory that may still be written is named ('ptr', 'sl', 'map'). 'pan' is no value: a call has panicked. 'yld': the function that a round of a loop is. 'fslx': as 'fsl', and there is no room behind. -/
inductive AV where
  | bool (b : Bool)
  | int (k : IntKind) (n : Int)
  | str (s : List UInt8)
  | nilp
  | ptr (id off : Nat)
  | fptr (cells : List AV)
  | nils
  | sl (id off len sz : Nat)
  | fsl (rows : List (List AV))
  | nilm
  | map (id : Nat)
  | nilf
  | clo (fn : Fn) (first captured : List AV)
  | nili
  | iface (t : TypeId) (v : AV)
  | agg (cs : List AV)
  | tup (cs : List AV)
  | pan (v : AV)
  | yld (id : Nat)
  | fslx (rows : List (List AV))
  deriving Inhabited

def AV.cells : AV → List AV
  | .agg cs => cs
  | v => [v]

def AV.one : AV → Bool
  | .agg _ | .tup _ | .pan _ => false
  | _ => true

/-- Where the named blocks lie (block, first cell, cells in the block), and which blocks are frozen, with what they hold. -/
structure Cx where
  mu : Nat → Option (Nat × Nat × Nat)
  phi : Nat → Option Obj

structure Cx.Le (X Y : Cx) : Prop where
  mu : ∀ i x, X.mu i = some x → Y.mu i = some x
  phi : ∀ b o, X.phi b = some o → Y.phi b = some o

theorem Cx.Le.refl (X : Cx) : X.Le X := ⟨fun _ _ h => h, fun _ _ h => h⟩
theorem Cx.Le.trans {X Y Z : Cx} (h : X.Le Y) (k : Y.Le Z) : X.Le Z := ⟨fun i x e => k.mu i x (h.mu i x e), fun b o e => k.phi b o (h.phi b o e)⟩

inductive V (X : Cx) : AV → Value → Prop
  | bool (b : Bool) : V X (.bool b) (.bool b)
  | int (k : IntKind) (n : Int) : V X (.int k n) (.int k n)
  | str (s : List UInt8) : V X (.str s) (.string ⟨⟨s⟩⟩)
  | nilp : V X .nilp (.pointer none)
  | ptr {id off b base size : Nat} (h : X.mu id = some (b, base, size)) : V X (.ptr id off) (.pointer (some ⟨b, base + off, none⟩))
  | fptr {cells : List AV} {b o : Nat} {c : Array Value} {e : TypeId} {fr : Nat × Nat} (g : Nat → Value) (hb : X.phi b = some (.cells c e fr))
      (hc : ∀ i, i < cells.length → c[o + i]? = some (g i)) (hv : ∀ (i : Nat) x, cells[i]? = some x → V X x (g i)) (h1 : ∀ x ∈ cells, x.one = true) : V X (.fptr cells) (.pointer (some ⟨b, o, none⟩))
  | nils : V X .nils (.slice none 0 0)
  | sl {id off len sz b base size cap : Nat} (h : X.mu id = some (b, base, size)) (hl : len ≤ cap) (hs : base + off + cap * sz ≤ size) :
      V X (.sl id off len sz) (.slice (some ⟨b, base + off, none⟩) len cap)
  | fsl {rows : List (List AV)} {b o cap sz : Nat} {c : Array Value} {e : TypeId} {fr : Nat × Nat} (g : Nat → Nat → Value) (hb : X.phi b = some (.cells c e fr))
      (hsz : ∀ row ∈ rows, row.length = sz) (hc : ∀ i j, i < rows.length → j < sz → c[o + i * sz + j]? = some (g i j))
      (hv : ∀ (i : Nat) row (j : Nat) x, rows[i]? = some row → row[j]? = some x → V X x (g i j)) (hcap : rows.length ≤ cap) (h1 : ∀ row ∈ rows, ∀ x ∈ row, x.one = true) :
      V X (.fsl rows) (.slice (some ⟨b, o, none⟩) rows.length cap)
  | fsl0 (a : Option Addr) (cap : Nat) : V X (.fsl []) (.slice a 0 cap)
  | fslx {rows : List (List AV)} {b o sz : Nat} {c : Array Value} {e : TypeId} {fr : Nat × Nat} (g : Nat → Nat → Value) (hb : X.phi b = some (.cells c e fr))
      (hsz : ∀ row ∈ rows, row.length = sz) (hc : ∀ i j, i < rows.length → j < sz → c[o + i * sz + j]? = some (g i j))
      (hv : ∀ (i : Nat) row (j : Nat) x, rows[i]? = some row → row[j]? = some x → V X x (g i j)) (h1 : ∀ row ∈ rows, ∀ x ∈ row, x.one = true) :
      V X (.fslx rows) (.slice (some ⟨b, o, none⟩) rows.length rows.length)
  | nilm : V X .nilm (.map none)
  | map {id b base size : Nat} (h : X.mu id = some (b, base, size)) : V X (.map id) (.map (some b))
  | nilf : V X .nilf .nilFunc
  | clo {fn : Fn} {xs cs : List AV} {ys ds : Array Value} (hx : xs.length = ys.size) (hc : cs.length = ds.size)
      (vx : ∀ (i : Nat) x y, xs[i]? = some x → ys[i]? = some y → V X x y) (vc : ∀ (i : Nat) x y, cs[i]? = some x → ds[i]? = some y → V X x y) : V X (.clo fn xs cs) (.func fn ys ds)
  | nili : V X .nili .nilIface
  | iface (t : TypeId) {x : AV} {y : Value} (h : V X x y) : V X (.iface t x) (.iface t y)
  | agg {xs : List AV} {ys : Array Value} (hx : xs.length = ys.size) (vx : ∀ (i : Nat) x y, xs[i]? = some x → ys[i]? = some y → V X x y) (h1 : ∀ x ∈ xs, x.one = true) : V X (.agg xs) (.agg ys)
  | yld {id b base size : Nat} (h : X.mu id = some (b, base, size)) : V X (.yld id) (.func (.yield b) #[] #[])
  | tup {xs : List AV} {ys : Array Value} (hx : xs.length = ys.size) (vx : ∀ (i : Nat) x y, xs[i]? = some x → ys[i]? = some y → V X x y) : V X (.tup xs) (.tuple ys)

theorem V.mono {X Y : Cx} (h : X.Le Y) {x : AV} {y : Value} (v : V X x y) : V Y x y := by
  induction v with
  | bool b => exact .bool b
  | int k n => exact .int k n
  | str s => exact .str s
  | nilp => exact .nilp
  | ptr hm => exact .ptr (h.mu _ _ hm)
  | fptr g hb hc _ h1 ih => exact .fptr g (h.phi _ _ hb) hc ih h1
  | nils => exact .nils
  | sl hm hl hs => exact .sl (h.mu _ _ hm) hl hs
  | fsl g hb hsz hc _ hcap h1 ih => exact .fsl g (h.phi _ _ hb) hsz hc ih hcap h1
  | fsl0 a cap => exact .fsl0 a cap
  | fslx g hb hsz hc _ h1 ih => exact .fslx g (h.phi _ _ hb) hsz hc ih h1
  | nilm => exact .nilm
  | map hm => exact .map (h.mu _ _ hm)
  | nilf => exact .nilf
  | clo hx hc _ _ ih1 ih2 => exact .clo hx hc ih1 ih2
  | nili => exact .nili
  | iface t _ ih => exact .iface t ih
  | agg hx _ h1 ih => exact .agg hx ih h1
  | tup hx _ ih => exact .tup hx ih
  | yld hm => exact .yld (h.mu _ _ hm)

theorem V.weak {X : Cx} {rows : List (List AV)} {y : Value} (h : V X (.fslx rows) y) : V X (.fsl rows) y ∧ ∃ a, y = .slice a rows.length rows.length := by
  cases h with
  | fslx g hb hsz hc hv h1 => exact ⟨.fsl g hb hsz hc hv (Nat.le_refl _) h1, _, rfl⟩

/-- A list of values, one by one. -/
structure VL (X : Cx) (xs : List AV) (ys : List Value) : Prop where
  len : xs.length = ys.length
  at_ : ∀ (i : Nat) x y, xs[i]? = some x → ys[i]? = some y → V X x y

theorem VL.mono {X Y : Cx} (h : X.Le Y) {xs : List AV} {ys : List Value} (v : VL X xs ys) : VL Y xs ys := ⟨v.len, fun i x y hx hy => (v.at_ i x y hx hy).mono h⟩
theorem VL.nil (X : Cx) : VL X [] [] := ⟨rfl, fun i x y hx _ => by simp at hx⟩
theorem VL.cons {X : Cx} {x : AV} {y : Value} {xs : List AV} {ys : List Value} (h : V X x y) (hs : VL X xs ys) : VL X (x :: xs) (y :: ys) :=
  ⟨by simp [hs.len], fun i u v hu hv => by
    cases i with
    | zero => simp at hu hv; subst hu; subst hv; exact h
    | succ i => simp at hu hv; exact hs.at_ i u v hu hv⟩
theorem VL.head {X : Cx} {x : AV} {y : Value} {xs : List AV} {ys : List Value} (h : VL X (x :: xs) (y :: ys)) : V X x y := h.at_ 0 x y rfl rfl
theorem VL.tail {X : Cx} {x : AV} {y : Value} {xs : List AV} {ys : List Value} (h : VL X (x :: xs) (y :: ys)) : VL X xs ys :=
  ⟨by have := h.len; simpa using this, fun i u v hu hv => h.at_ (i + 1) u v (by simpa using hu) (by simpa using hv)⟩
theorem VL.one {X : Cx} {x : AV} {y : Value} (h : V X x y) : VL X [x] [y] := .cons h (.nil X)
theorem VL.get {X : Cx} {xs : List AV} {ys : List Value} (h : VL X xs ys) {i : Nat} {x : AV} (hx : xs[i]? = some x) : ∃ y, ys[i]? = some y ∧ V X x y := by
  have hi : i < xs.length := (List.getElem?_eq_some_iff.1 hx).1
  have hj : i < ys.length := by rw [← h.len]; exact hi
  exact ⟨ys[i], List.getElem?_eq_getElem hj, h.at_ i x _ hx (List.getElem?_eq_getElem hj)⟩
theorem VL.append {X : Cx} {xs us : List AV} {ys vs : List Value} (h : VL X xs ys) (k : VL X us vs) : VL X (xs ++ us) (ys ++ vs) :=
  ⟨by simp [h.len, k.len], fun i x y hx hy => by
    rcases Nat.lt_or_ge i xs.length with hi | hi
    · rw [List.getElem?_append_left hi] at hx
      rw [List.getElem?_append_left (h.len ▸ hi)] at hy
      exact h.at_ i x y hx hy
    · rw [List.getElem?_append_right hi] at hx
      rw [List.getElem?_append_right (h.len ▸ hi), ← h.len] at hy
      exact k.at_ _ x y hx hy⟩
theorem VL.take {X : Cx} {xs : List AV} {ys : List Value} (h : VL X xs ys) (n : Nat) : VL X (xs.take n) (ys.take n) :=
  ⟨by simp [h.len], fun i x y hx hy => by
    rw [List.getElem?_take] at hx hy
    split at hx
    · simp_all; exact h.at_ i x y hx hy
    · cases hx⟩
theorem VL.drop {X : Cx} {xs : List AV} {ys : List Value} (h : VL X xs ys) (n : Nat) : VL X (xs.drop n) (ys.drop n) :=
  ⟨by simp [h.len], fun i x y hx hy => by
    rw [List.getElem?_drop] at hx hy
    exact h.at_ _ x y hx hy⟩
theorem VL.set {X : Cx} {xs : List AV} {ys : List Value} (h : VL X xs ys) (n : Nat) {x : AV} {y : Value} (hv : V X x y) : VL X (xs.set n x) (ys.set n y) :=
  ⟨by simp [h.len], fun i u v hu hw => by
    rw [List.getElem?_set] at hu hw
    split at hu
    · rename_i hn
      subst hn
      split at hu
      · have : n < ys.length := by rw [← h.len]; assumption
        simp [this] at hu hw
        subst hu; subst hw; exact hv
      · cases hu
    · simp_all; exact h.at_ i u v hu hw⟩
theorem VL.reverse {X : Cx} {xs : List AV} {ys : List Value} (h : VL X xs ys) : VL X xs.reverse ys.reverse := by
  refine ⟨by simp [h.len], fun i x y hx hy => ?_⟩
  have hi : i < xs.length := by have := (List.getElem?_eq_some_iff.1 hx).1; simpa using this
  rw [List.getElem?_reverse hi] at hx
  rw [List.getElem?_reverse (h.len ▸ hi), ← h.len] at hy
  exact h.at_ _ x y hx hy

theorem V.aggL {X : Cx} {xs : List AV} {ys : List Value} (h : VL X xs ys) (h1 : ∀ x ∈ xs, x.one = true) : V X (.agg xs) (.agg ys.toArray) :=
  .agg (by simp [h.len]) (fun i x y hx hy => h.at_ i x y hx (by simpa using hy)) h1
theorem V.tupL {X : Cx} {xs : List AV} {ys : List Value} (h : VL X xs ys) : V X (.tup xs) (.tuple ys.toArray) :=
  .tup (by simp [h.len]) (fun i x y hx hy => h.at_ i x y hx (by simpa using hy))
theorem VL.ofArr {X : Cx} {xs : List AV} {ys : Array Value} (hx : xs.length = ys.size) (vx : ∀ (i : Nat) x y, xs[i]? = some x → ys[i]? = some y → V X x y) : VL X xs ys.toList :=
  ⟨by simpa using hx, fun i x y h1 h2 => vx i x y h1 (by simpa using h2)⟩
theorem V.undef (X : Cx) : V X (.tup []) undef := .tup rfl (fun i x y hx _ => by simp at hx)

/-- A value's cells. -/
theorem V.cellsL {X : Cx} {x : AV} {y : Value} (h : V X x y) : VL X x.cells y.cells.toList := by
  cases h with
  | agg hx vx h1 => exact .ofArr hx vx
  | tup hx vx => exact .one (.tup hx vx)
  | bool b => exact .one (.bool b)
  | int k n => exact .one (.int k n)
  | str s => exact .one (.str s)
  | nilp => exact .one .nilp
  | ptr hm => exact .one (.ptr hm)
  | fptr g hb hc hv h1 => exact .one (.fptr g hb hc hv h1)
  | nils => exact .one .nils
  | sl hm hl hs => exact .one (.sl hm hl hs)
  | fsl g hb hsz hc hv hcap h1 => exact .one (.fsl g hb hsz hc hv hcap h1)
  | fsl0 a cap => exact .one (.fsl0 a cap)
  | fslx g hb hsz hc hv h1 => exact .one (.fslx g hb hsz hc hv h1)
  | nilm => exact .one .nilm
  | map hm => exact .one (.map hm)
  | nilf => exact .one .nilf
  | clo hx hc vx vc => exact .one (.clo hx hc vx vc)
  | nili => exact .one .nili
  | iface t hv => exact .one (.iface t hv)
  | yld hm => exact .one (.yld hm)

def AV.st : AV → Bool
  | .tup _ | .pan _ => false
  | _ => true
theorem V.cells_one {X : Cx} {x : AV} {y : Value} (h : V X x y) (ht : x.st = true) : ∀ c ∈ x.cells, c.one = true := by
  cases h with
  | agg hx vx h1 => exact h1
  | tup hx vx => simp [AV.st] at ht
  | _ => intro c hc; simp [AV.cells] at hc; subst hc; rfl
theorem V.one_cell {X : Cx} {x : AV} {y : Value} (h : V X x y) (ho : x.one = true) : y.oneCell' = true := by
  cases h <;> first | rfl | (simp [AV.one] at ho)

def AV.isPan : AV → Bool
  | .pan _ => true
  | _ => false
theorem V.isPan {X : Cx} {x : AV} {y : Value} (h : V X x y) : x.isPan = false := by cases h <;> rfl

/-- The abstract value of a constant. -/
def ofV0 : Value → Option AV
  | .bool b => some (.bool b)
  | .int k n => some (.int k n)
  | .string s => some (.str s.data.toList)
  | .pointer none => some .nilp
  | .slice none l c => if l = 0 then if c = 0 then some .nils else none else none
  | .map none => some .nilm
  | .func fn a c => if a.size = 0 then if c.size = 0 then some (.clo fn [] []) else none else none
  | .nilFunc => some .nilf
  | .nilIface => some .nili
  | .iface t v => (ofV0 v).map (.iface t)
  | _ => none

theorem ofV0_sound {X : Cx} : ∀ {v : Value} {x : AV}, ofV0 v = some x → V X x v
  | .bool b, x, h => by simp [ofV0] at h; subst h; exact .bool b
  | .int k n, x, h => by simp [ofV0] at h; subst h; exact .int k n
  | .float .., x, h => by simp [ofV0] at h
  | .complex .., x, h => by simp [ofV0] at h
  | .string s, x, h => by simp [ofV0] at h; subst h; exact .str s.data.toList
  | .pointer none, x, h => by simp [ofV0] at h; subst h; exact .nilp
  | .pointer (some _), x, h => by simp [ofV0] at h
  | .slice none len cap, x, h => by
    simp only [ofV0] at h
    split at h
    · split at h
      · simp at h; subst_vars; exact .nils
      · cases h
    · cases h
  | .slice (some _) _ _, x, h => by simp [ofV0] at h
  | .map none, x, h => by simp [ofV0] at h; subst h; exact .nilm
  | .map (some _), x, h => by simp [ofV0] at h
  | .chan _, x, h => by simp [ofV0] at h
  | .func fn a b, x, h => by
    simp only [ofV0] at h
    split at h
    · split at h
      · rename_i h1 h2
        simp at h
        subst h
        exact .clo (by simp [h1]) (by simp [h2]) (fun i x y hx _ => by simp at hx) (fun i x y hx _ => by simp at hx)
      · cases h
    · cases h
  | .nilFunc, x, h => by simp [ofV0] at h; subst h; exact .nilf
  | .nilIface, x, h => by simp [ofV0] at h; subst h; exact .nili
  | .iface t v, x, h => by
    simp [ofV0] at h
    obtain ⟨u, hu, rfl⟩ := h
    exact .iface t (ofV0_sound hu)
  | .agg _, x, h => by simp [ofV0] at h
  | .tuple ys, x, h => by simp [ofV0] at h

def ofVs : List Value → Option (List AV)
  | [] => some []
  | v :: vs => match ofV0 v, ofVs vs with
    | some x, some xs => some (x :: xs)
    | _, _ => none

theorem ofVs_sound {X : Cx} : ∀ {vs : List Value} {xs : List AV}, ofVs vs = some xs → VL X xs vs
  | [], xs, h => by simp [ofVs] at h; subst h; exact .nil X
  | v :: vs, xs, h => by
    simp only [ofVs] at h
    split at h
    · rename_i x us hx hus
      simp at h
      subst h
      exact .cons (ofV0_sound hx) (ofVs_sound hus)
    · cases h

theorem ofV0_one : ∀ {v : Value} {x : AV}, ofV0 v = some x → x.one = true := by
  intro v x h
  have hv := ofV0_sound (X := ⟨fun _ => none, fun _ => none⟩) h
  cases hv <;> first | rfl | (simp [ofV0] at h)

theorem ofVs_one : ∀ {vs : List Value} {xs : List AV}, ofVs vs = some xs → ∀ x ∈ xs, x.one = true
  | [], xs, h => by simp [ofVs] at h; subst h; simp
  | v :: vs, xs, h => by
    simp only [ofVs] at h
    split at h
    · rename_i x us hx hus
      simp at h
      subst h
      intro u hu
      cases hu with
      | head => exact ofV0_one hx
      | tail _ hm => exact ofVs_one hus u hm
    · cases h

def ofV : Value → Option AV
  | .agg cs => (ofVs cs.toList).map .agg
  | v => ofV0 v

theorem ofV_sound {X : Cx} {v : Value} {x : AV} (h : ofV v = some x) : V X x v := by
  unfold ofV at h
  split at h
  · rename_i cs
    simp at h
    obtain ⟨xs, hxs, rfl⟩ := h
    have := V.aggL (ofVs_sound (X := X) hxs) (ofVs_one hxs)
    simpa using this
  · exact ofV0_sound h

end Go.Ev
