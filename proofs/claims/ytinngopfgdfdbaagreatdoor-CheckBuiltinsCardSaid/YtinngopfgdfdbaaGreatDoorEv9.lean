/- Abstract operations: all of them together. -/
import Derived.Test.YtinngopfgdfdbaaGreatDoorEv8T
set_option linter.unusedVariables false
set_option linter.unusedSimpArgs false
namespace Go.Ev

def evMapUpdate (P : Program) (s : HS) (t : TypeId) (m k v : AV) : Option HS :=
  match P.underlying t with
  | some (.map kt _) => match P.underlying kt with
    | some kd => match m with
      | .map id => match s.h id with
        | some (.map es) => if keySort kd k = true then match findA k es 0 with
            | some (some (i, _)) => some ⟨s.h.put id (.map (es.set i (k, v))), s.n⟩
            | some none => some ⟨s.h.put id (.map (es ++ [(k, v)])), s.n⟩
            | none => none
          else none
        | _ => none
      | _ => none
    | none => none
  | _ => none

theorem sameBits_int (n : Nat) (j k : IntKind) (a b : Int) : Instr.sameBits n (.int j a) (.int k b) = (j == k && a == b) := by cases n <;> rfl
theorem sameBits_str (n : Nat) (a b : ByteArray) : Instr.sameBits n (.string a) (.string b) = (a == b) := by cases n <;> rfl

theorem keyEq_true {k u : AV} (h : keyEq k u = some true) : k = u := by
  unfold keyEq at h
  split at h <;> try cases h
  · rename_i k1 a k2 c
    split at h
    · rename_i hk
      subst hk
      simp at h
      rw [h]
    · cases h
  · simp at h
    rw [h]

section
variable {P : Program} {X : Cx} {s : HS} {w0 : W0} {w : World}

theorem run_setObj_map {b : Nat} {ms : Array MapEntry} {c : Nat} {o : Obj} (h : w.heap[b]? = some (.map ms c)) : (setObj b o).run P w = .ok () { w with heap := w.heap.setIfInBounds b o } := by
  simp only [setObj, Sem.run, h]

theorem turn_set (hR : R X s w0 w) {id : Nat} {k k' : Blk} (hk : s.h id = some k) {b base size : Nat} (hm : X.mu id = some (b, base, size)) {o' : Obj} (hB : B X base size k' o') :
    R X ⟨s.h.put id k', s.n⟩ w0 { w with heap := w.heap.setIfInBounds b o' } := by
  have hlt := hR.live_lt hk hm
  exact hR.turn hk hm hB rfl rfl rfl (by simp) (by simp [hlt]) (fun j hj => by
    show (w.heap.setIfInBounds b o')[j]? = _
    rw [Array.getElem?_setIfInBounds_ne (Ne.symm hj)])

theorem evMapUpdate_sound (hR : R X s w0 w) {t : TypeId} {m k v : AV} {mv kv vv : Value} {s' : HS} (hm : V X m mv) (hk : V X k kv) (hv : V X v vv) (h : evMapUpdate P s t m k v = some s') :
    ∃ w', (Instr.mapUpdate t mv kv vv).run P w = .ok () w' ∧ R X s' w0 w' := by
  unfold evMapUpdate at h
  split at h <;> try cases h
  rename_i kt et hu
  split at h <;> try cases h
  rename_i kd hkd
  split at h <;> try cases h
  rename_i id
  split at h <;> try cases h
  rename_i es hkk
  split at h <;> try cases h
  rename_i hs
  cases hm with
  | @map _ b base size hmu =>
    obtain ⟨b', base', size', o, m1, m2, m3, m4⟩ := hR.live id _ hkk
    rw [hmu] at m1; cases m1
    cases m4 with
    | @map _ ms clock hl hmm =>
      have hg : (getObj b).run P w = .ok (.map ms clock) w := by simp only [getObj, Sem.run, m3]
      have hck := checkKey_of (P := P) (w := w) (b := false) hkd hs hk 9999
      split at h <;> cases h
      · rename_i i x hf
        obtain ⟨r', hr', hrr⟩ := findNow_of hs hk (ms := ms.toList) (by simpa using hl) (fun i x m h1 h2 => hmm i x m h1 (by simpa using h2)) hf
        rcases hrr with ⟨h1, _⟩ | ⟨j', x', y', h1, rfl, hxv, _, hjl, e, he, hke⟩
        · cases h1
        · cases h1
          simp only [Nat.sub_zero, Nat.zero_add] at he hjl
          have hkeq := keyEq_true hke
          have hil : i < ms.size := by omega
          have hek := (hmm i e ms[i] he (Array.getElem?_eq_getElem hil)).1
          have hsb : Instr.sameBits 10000 ms[i].key kv = true := by
            rw [← hkeq] at hek
            revert hek
            generalize ms[i].key = kk
            intro hek
            cases kd <;> cases hk <;> simp [keySort] at hs <;> cases hek
            · rw [sameBits_int]; simp
            · rw [sameBits_str, ba_beq]; simp
          have hkt : (Instr.keyThatStays (((ms[i]?).map (·.key)).getD kv) kv).run P w = .ok kv w := by
            simp [Instr.keyThatStays, hil, hsb]
          refine ⟨_, ?_, turn_set hR hkk hmu (o' := .map (ms.modify i fun e => { e with key := kv, val := vv }) clock) ?_⟩
          · unfold Instr.mapUpdate
            simp only [Sem.run_bind, run_underlying hu, Result.andThen_ok, hg, hck, Instr.findKey, run_underlying hkd, hr', Sem.run_pure, hkt]
            exact run_setObj_map m3
          · refine .map (by simp [hl]) ?_
            intro j p q hp hq
            rw [Array.getElem?_modify] at hq
            by_cases hij : i = j
            · subst hij
              rw [List.getElem?_set_self hjl] at hp
              simp [hil] at hq
              cases hp
              subst hq
              exact ⟨hk, hv⟩
            · rw [List.getElem?_set_ne hij] at hp
              rw [if_neg hij] at hq
              exact hmm j p q hp hq
      · rename_i hf
        obtain ⟨r', hr', hrr⟩ := findNow_of hs hk (ms := ms.toList) (by simpa using hl) (fun i x m h1 h2 => hmm i x m h1 (by simpa using h2)) hf
        rcases hrr with ⟨_, rfl⟩ | ⟨j', x', y', h1, _⟩
        · refine ⟨_, ?_, turn_set hR hkk hmu (o' := .map (ms.push { key := kv, val := vv, born := clock }) (clock + 1)) ?_⟩
          · unfold Instr.mapUpdate
            simp only [Sem.run_bind, run_underlying hu, Result.andThen_ok, hg, hck, Instr.findKey, run_underlying hkd, hr', Sem.run_pure]
            exact run_setObj_map m3
          · refine .map (by simp [hl]) ?_
            intro j p q hp hq
            rw [Array.getElem?_push] at hq
            rcases Nat.lt_or_ge j es.length with hj | hj
            · rw [List.getElem?_append_left hj] at hp
              rw [if_neg (by omega)] at hq
              exact hmm j p q hp hq
            · rw [List.getElem?_append_right hj] at hp
              have hj0 : j = es.length := by
                have := (List.getElem?_eq_some_iff.1 hp).1
                simp at this; omega
              subst hj0
              rw [if_pos (by omega)] at hq
              simp at hp hq
              subst hp; subst hq
              exact ⟨hk, hv⟩
        · cases h1

/-- The next rune of a text. -/
def evNext (s : HS) (x : AV) : Option (AV × HS) :=
  match x with
  | .ptr id 0 => match s.h id with
    | some (.iter t pos) => if pos < t.length then
        some (.tup [.bool true, .int .i64 pos, .int .i32 (Utf8.decode ⟨⟨t⟩⟩ pos).1], ⟨s.h.put id (.iter t (pos + (Utf8.decode ⟨⟨t⟩⟩ pos).2)), s.n⟩)
      else some (.tup [.bool false], s)
    | _ => none
  | _ => none

theorem evNext_sound (hR : R X s w0 w) {ty : TypeId} {x r : AV} {xv : Value} {s' : HS} (hx : V X x xv) (h : evNext s x = some (r, s')) :
    ∃ y w', (Instr.next xv true ty).run P w = .ok y w' ∧ V X r y ∧ R X s' w0 w' := by
  unfold evNext at h
  split at h <;> try cases h
  rename_i id
  split at h <;> try cases h
  rename_i t pos hk
  cases hx with
  | @ptr _ _ b base size hm =>
    obtain ⟨b', base', size', o, m1, m2, m3, m4⟩ := hR.live id _ hk
    rw [hm] at m1; cases m1
    cases m4 with
    | iter t pos hb =>
      subst hb
      have hg : (getObj b).run P w = .ok (.stringIter ⟨⟨t⟩⟩ pos) w := by simp only [getObj, Sem.run, m3]
      have hsz : (⟨⟨t⟩⟩ : ByteArray).size = t.length := rfl
      split at h <;> cases h
      · rename_i hlt
        refine ⟨.tuple #[.bool true, goInt pos, .int .i32 (Utf8.decode ⟨⟨t⟩⟩ pos).1], _, ?_, ?_, turn_set hR hk hm (o' := .stringIter ⟨⟨t⟩⟩ (pos + (Utf8.decode ⟨⟨t⟩⟩ pos).2)) (.iter _ _ rfl)⟩
        · have hso : (setObj b (.stringIter ⟨⟨t⟩⟩ (pos + (Utf8.decode ⟨⟨t⟩⟩ pos).2))).run P w = .ok () { w with heap := w.heap.setIfInBounds b (.stringIter ⟨⟨t⟩⟩ (pos + (Utf8.decode ⟨⟨t⟩⟩ pos).2)) } := by
            simp only [setObj, Sem.run, m3]
          simp only [Instr.next, Nat.zero_add, Nat.add_zero, Sem.run_bind, hg, Result.andThen_ok, hsz, hlt, if_true, hso, Sem.run_pure]
        · exact V.tupL (.cons (.bool true) (.cons (.int _ _) (.one (.int _ _))))
      · rename_i hlt
        refine ⟨.tuple #[.bool false], w, ?_, V.tupL (.one (.bool false)), hR⟩
        simp only [Instr.next, Nat.zero_add, Nat.add_zero, Sem.run_bind, hg, Result.andThen_ok, hsz, hlt, if_false, Sem.run_pure]

def evNilCheck (x : AV) : Option AV :=
  match x with
  | .ptr _ _ => some x
  | .fptr _ => some x
  | .iface _ _ => some x
  | .clo (.func _) _ _ => some x
  | _ => none

/-! ### operands -/
def rho (ts : List AV) : Operand → Option AV
  | .tmp t => some (ts.getD t (.tup []))
  | .const v => ofV v
  | .global _ => none
  | .func f => some (.clo (.func f) [] [])

def rhos (ts : List AV) : List Operand → Option (List AV)
  | [] => some []
  | x :: xs => match rho ts x with
    | some v => match rhos ts xs with
      | some vs => some (v :: vs)
      | none => none
    | none => none

def rhoP (ts : List AV) : List (Nat × Operand) → Option (List (Nat × AV))
  | [] => some []
  | (i, x) :: xs => match rho ts x with
    | some v => match rhoP ts xs with
      | some vs => some ((i, v) :: vs)
      | none => none
    | none => none

def rhoO (ts : List AV) : Option Operand → Option (Option AV)
  | none => some none
  | some x => (rho ts x).map some

theorem getD_V {ts : List AV} {ys : Array Value} (h : VL X ts ys.toList) (t : Nat) : V X (ts.getD t (.tup [])) (ys.getD t undef) := by
  rcases Nat.lt_or_ge t ts.length with hl | hl
  · obtain ⟨y, hy, hv⟩ := h.get (List.getElem?_eq_getElem hl)
    have hy' : ys[t]? = some y := by simpa using hy
    have hlt : t < ys.size := (Array.getElem?_eq_some_iff.1 hy').1
    have h1 : ys.getD t undef = y := by simp [Array.getD, hlt]; exact (Array.getElem?_eq_some_iff.1 hy').2
    have h2 : ts.getD t (.tup []) = ts[t] := by simp [List.getD, hl]
    rw [h1, h2]; exact hv
  · have hlt : ¬ t < ys.size := by have := h.len; simp at this; omega
    have h1 : ys.getD t undef = undef := by simp [Array.getD, hlt]
    have h2 : ts.getD t (.tup []) = .tup [] := by simp [List.getD, hl]
    rw [h1, h2]; exact .undef X

theorem rho_sound {ts : List AV} {a : Act} (ha : VL X ts a.tmps.toList) {x : Operand} {v : AV} (h : rho ts x = some v) : V X v (a.eval x) := by
  unfold rho at h
  split at h
  · cases h; exact getD_V ha _
  · exact ofV_sound h
  · cases h
  · cases h
    exact .clo rfl rfl (fun i x y hx _ => by simp at hx) (fun i x y hx _ => by simp at hx)

theorem rhos_sound {ts : List AV} {a : Act} (ha : VL X ts a.tmps.toList) : ∀ {xs : List Operand} {vs : List AV}, rhos ts xs = some vs → VL X vs (xs.map a.eval)
  | [], vs, h => by simp [rhos] at h; subst h; exact .nil X
  | x :: xs, vs, h => by
    unfold rhos at h
    split at h <;> try cases h
    split at h <;> cases h
    exact .cons (rho_sound ha (by assumption)) (rhos_sound ha (by assumption))

theorem rhoP_sound {ts : List AV} {a : Act} (ha : VL X ts a.tmps.toList) : ∀ {xs : List (Nat × Operand)} {vs : List (Nat × AV)}, rhoP ts xs = some vs → PL X vs (xs.map fun p => (p.1, a.eval p.2))
  | [], vs, h => by simp [rhoP] at h; subst h; exact ⟨rfl, fun i p q hp _ => by simp at hp⟩
  | (i, x) :: xs, vs, h => by
    unfold rhoP at h
    split at h <;> try cases h
    rename_i v hv
    split at h <;> cases h
    rename_i us hus
    have ih := rhoP_sound ha hus
    refine ⟨by simp [ih.len], fun j p q hp hq => ?_⟩
    cases j with
    | zero => simp at hp hq; subst hp; subst hq; exact ⟨rfl, rho_sound ha hv⟩
    | succ j => exact ih.at_ j p q (by simpa using hp) (by simpa using hq)

theorem rhoO_sound {ts : List AV} {a : Act} (ha : VL X ts a.tmps.toList) {x : Option Operand} {v : Option AV} (h : rhoO ts x = some v) : OV X v (x.map a.eval) := by
  unfold rhoO at h
  split at h
  · cases h; trivial
  · rw [Option.map_eq_some_iff] at h
    obtain ⟨u, hu, rfl⟩ := h
    exact rho_sound ha hu

def isConst : Operand → Bool
  | .const _ => true
  | _ => false

/-- An operation that calls no function. 'fz': what it makes is frozen at once. -/
def evOp (P : Program) (fz : Bool) (o : Op) (ts : List AV) (s : HS) : Option (AV × HS) :=
  match o with
  | .move x => (rho ts x).map fun v => (v, s)
  | .assign x => (rho ts x).map fun v => (v, s)
  | .pick c a b => match rho ts c with
    | some (.bool t) => match rho ts a with
      | some u => match rho ts b with
        | some v => some (if t then u else v, s)
        | none => none
      | none => none
    | _ => none
  | .alloc e => match zero? P e with
    | some z => if z.st = true then some (evNew fz s z) else none
    | none => none
  | .box _ x => match rho ts x with
    | some v => if v.st = true then some (evNew fz s v) else none
    | none => none
  | .build t parts => match rhoP ts parts.toList with
    | some ps => (evBuild P t ps).map fun v => (v, s)
    | none => none
  | .buildSlice t len parts => match rhoP ts parts.toList with
    | some ps => evBuildSlice P fz s t len ps
    | none => none
  | .load t a => match rho ts a with
    | some p => (evLoad P s.h t p).map fun v => (v, s)
    | none => none
  | .store t a x => match rho ts a with
    | some p => match rho ts x with
      | some v => (evStore P s t p v).map fun s' => (.tup [], s')
      | none => none
    | none => none
  | .nilCheck x => match rho ts x with
    | some v => (evNilCheck v).map fun v => (v, s)
    | none => none
  | .binOp op t x y _ => match rho ts x with
    | some u => match rho ts y with
      | some v => (evBin P op t (isConst x || isConst y) u v).map fun r => (r, s)
      | none => none
    | none => none
  | .unOp op _ x => match rho ts x with
    | some v => (evUn op v).map fun r => (r, s)
    | none => none
  | .convert src dst x => match rho ts x with
    | some v => (evConv2 P s.h src dst v).map fun r => (r, s)
    | none => none
  | .makeInterface t x => match rho ts x with
    | some v => if P.concrete t = true then some (.iface t v, s) else none
    | none => none
  | .makeFunc fn first captured => match rhos ts first.toList with
    | some us => match rhos ts captured.toList with
      | some vs => some (.clo fn us vs, s)
      | none => none
    | none => none
  | .makeMap _ none => some (.map s.n, ⟨s.h.put s.n (.map []), s.n + 1⟩)
  | .slice t x lo hi none => match rho ts x with
    | some v => match rhoO ts lo with
      | some l => match rhoO ts hi with
        | some h => (evSlice P t v l h).map fun r => (r, s)
        | none => none
      | none => none
    | none => none
  | .fieldAddr t x f => match rho ts x with
    | some v => (evFieldAddr P t v f).map fun r => (r, s)
    | none => none
  | .field t x f => match rho ts x with
    | some v => (evField P t v f).map fun r => (r, s)
    | none => none
  | .indexAddr t x i => match rho ts x with
    | some v => match rho ts i with
      | some u => (evIndexAddr P t v u).map fun r => (r, s)
      | none => none
    | none => none
  | .index t x i => match rho ts x with
    | some v => match rho ts i with
      | some u => (evIndex P t v u).map fun r => (r, s)
      | none => none
    | none => none
  | .lookup t x i ok => match rho ts x with
    | some v => match rho ts i with
      | some u => (evLookup P s.h t v u ok).map fun r => (r, s)
      | none => none
    | none => none
  | .mapUpdate t m k x => match rho ts m with
    | some mv => match rho ts k with
      | some kv => match rho ts x with
        | some xv => (evMapUpdate P s t mv kv xv).map fun s' => (.tup [], s')
        | none => none
      | none => none
    | none => none
  | .insert t m k x => match rho ts m with
    | some mv => match rho ts k with
      | some kv => match rho ts x with
        | some xv => (evMapUpdate P s t mv kv xv).map fun s' => (.tup [], s')
        | none => none
      | none => none
    | none => none
  | .range t x => match P.underlying t with
    | some .string => match rho ts x with
      | some (.str u) => some (.ptr s.n 0, ⟨s.h.put s.n (.iter u 0), s.n + 1⟩)
      | _ => none
    | _ => none
  | .next it true => match rho ts it with
    | some v => evNext s v
    | none => none
  | .extract t i => match rho ts t with
    | some (.tup xs) => (xs[i]?).map fun v => (v, s)
    | _ => none
  | .call ⟨.builtin .append, args, tys⟩ => match rhos ts args.toList with
    | some [u, v] => match tys.toList with
      | [t, t2] => evAppend P s t t2 u v
      | _ => none
    | _ => none
  | .typeAssert x _ as ok => match rho ts x with
    | some v => (evTA P as ok v).map fun r => (r, s)
    | none => none
  | .call ⟨.builtin .max, args, _⟩ => match rhos ts args.toList with
    | some [u, v] => (evMax u v).map fun r => (r, s)
    | _ => none
  | .call ⟨.builtin .clear, args, tys⟩ => match rhos ts args.toList with
    | some [u] => match tys.toList with
      | [t] => (evClear P s t u).map fun s' => (.tup [], s')
      | _ => none
    | _ => none
  | .call ⟨.builtin .len, args, tys⟩ => match rhos ts args.toList with
    | some [u] => match tys.toList with
      | [t] => (evLen P s.h t u).map fun v => (v, s)
      | _ => none
    | _ => none
  | _ => none

/-- What an operation comes to. -/
def Told (P : Program) (X : Cx) (w0 : W0) (r : Result Next) (x : AV) (s' : HS) : Prop :=
  ∃ Y n w' y, X.Le Y ∧ r = .ok n w' ∧ (n = .value y ∨ (n = .skip ∧ y = undef)) ∧ V Y x y ∧ R Y s' w0 w'

theorem Told.val {M : Sem Value} {y : Value} {w' : World} {x : AV} (hr : M.run P w = .ok y w') (hv : V X x y) (hR : R X s w0 w') : Told P X w0 ((do pure (.value (← M)) : Sem Next).run P w) x s :=
  ⟨X, .value y, w', y, Cx.Le.refl X, by simp [hr], .inl rfl, hv, hR⟩
theorem Told.val' {Y : Cx} {s' : HS} {M : Sem Value} {y : Value} {w' : World} {x : AV} (hle : X.Le Y) (hr : M.run P w = .ok y w') (hv : V Y x y) (hR : R Y s' w0 w') : Told P X w0 ((do pure (.value (← M)) : Sem Next).run P w) x s' :=
  ⟨Y, .value y, w', y, hle, by simp [hr], .inl rfl, hv, hR⟩
theorem Told.skip {s' : HS} {M : Sem Unit} {w' : World} (hr : M.run P w = .ok () w') (hR : R X s' w0 w') : Told P X w0 ((do M; pure .skip : Sem Next).run P w) (.tup []) s' :=
  ⟨X, .skip, w', undef, Cx.Le.refl X, by simp [hr], .inr ⟨rfl, rfl⟩, .undef X, hR⟩

end
end Go.Ev
