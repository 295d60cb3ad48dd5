/- What turns the memory, made ready; regions. -/
import Derived.Test.YtinngopfgdfdbaaGreatDoorEv20
set_option linter.unusedVariables false
set_option linter.unusedSimpArgs false
namespace Go.Ev

inductive CO where
  | none
  | some (v : AV) (h : BT) (n : Nat)
  | pan (v : AV) (h : BT) (n : Nat)

structure CF where
  call : Nat → List AV → BT → Nat → CO

/-- The memory with these blocks as they stand there. -/
noncomputable def syncTo (h : BT) (k : Heap) : List Nat → BT
  | [] => h
  | i :: is => hput (syncTo h k is) i (.raw (k i))

noncomputable def small : List Nat → Bool
  | [] => true
  | i :: is => Bool.rec false (small is) (Nat.ble (Nat.succ i) 65536)

theorem den_sync {h : BT} {k : Heap} : ∀ {is : List Nat}, small is = true → den (syncTo h k is) = fun j => if j ∈ is then k j else den h j
  | [], _ => by funext j; simp [syncTo]
  | i :: is, hs => by
    change (Bool.rec false (small is) (Nat.ble (Nat.succ i) 65536) : Bool) = true at hs
    cases hb : Nat.ble (Nat.succ i) 65536 with
    | false => rw [hb] at hs; cases hs
    | true =>
      rw [hb] at hs
      have hi : i < 65536 := Nat.le_of_ble_eq_true hb
      simp only [syncTo]
      rw [den_hput _ hi, den_sync hs]
      funext j
      by_cases hji : j = i
      · subst hji; simp [FB.blk]
      · simp [hji]

theorem den_sync_eq {h : BT} {k : Heap} {is : List Nat} (hs : small is = true) (hk : ∀ j, j ∉ is → k j = den h j) : den (syncTo h k is) = k := by
  rw [den_sync hs]
  funext j
  split
  · rfl
  · rename_i hj; exact (hk j hj).symm

noncomputable def toCO (h : BT) (is : List Nat) (r : Option (AV × HS)) : CO := Option.rec .none (fun p => Bool.rec .none (.some p.1 (syncTo h p.2.h is) p.2.n) (small is)) r
theorem toCO_ok {h : BT} {is : List Nat} {r : Option (AV × HS)} {v : AV} {h' : BT} {n : Nat} (e : toCO h is r = .some v h' n) (hk : ∀ v s', r = some (v, s') → ∀ j, j ∉ is → s'.h j = den h j) : r = some (v, ⟨den h', n⟩) := by
  cases r with
  | none => cases e
  | some p =>
    obtain ⟨u, s'⟩ := p
    change (Bool.rec .none (.some u (syncTo h s'.h is) s'.n) (small is) : CO) = _ at e
    cases hs : small is with
    | false => rw [hs] at e; cases e
    | true =>
      rw [hs] at e
      cases e
      rw [den_sync_eq hs (hk _ _ rfl)]

noncomputable def toCOs (h : BT) (is : List Nat) (r : Option HS) : CO := toCO h is (Option.rec none (fun s => some (.tup [], s)) r)
theorem toCOs_ok {h : BT} {is : List Nat} {r : Option HS} {v : AV} {h' : BT} {n : Nat} (e : toCOs h is r = .some v h' n) (hk : ∀ s', r = some s' → ∀ j, j ∉ is → s'.h j = den h j) : v = .tup [] ∧ r = some ⟨den h', n⟩ := by
  have := toCO_ok e (fun u s' hu => by
    cases r with
    | none => cases hu
    | some s => cases hu; exact hk _ rfl)
  cases r with
  | none => cases this
  | some s => cases this; exact ⟨rfl, rfl⟩

structure CFok (P : Program) (Hn : Hints) (cf : CF) : Prop where
  val : ∀ g args h n v h' n', cf.call g args h n = .some v h' n' → evLim P Hn g args ⟨den h, n⟩ = some (v, ⟨den h', n'⟩) ∧ v.isPan = false
  pan : ∀ g args h n v h' n', cf.call g args h n = .pan v h' n' → evLim P Hn g args ⟨den h, n⟩ = some (.pan v, ⟨den h', n'⟩)

structure SG where
  go : CF → E → BT → Nat → CO

inductive OC where
  | none
  | some (g : Nat) (first cap : List AV)
  | yld (id : Nat)
def asC (v : AV) : OC := match v with
  | .clo (.func g) first cap => .some g first cap
  | .yld id => .yld id
  | _ => .none
theorem asC_eq {v : AV} {g : Nat} {a b : List AV} (h : asC v = .some g a b) : v = .clo (.func g) a b := by
  unfold asC at h
  split at h <;> cases h
  rfl
theorem asC_yld {v : AV} {id : Nat} (h : asC v = .yld id) : v = .yld id := by
  unfold asC at h
  split at h <;> cases h
  rfl

noncomputable def fapp (a b : List AV) : List AV := List.rec b (fun x _ ih => x :: ih) a
theorem fapp_eq : ∀ (a b : List AV), fapp a b = a ++ b
  | [], b => rfl
  | x :: a, b => by
    change x :: fapp a b = _
    rw [fapp_eq a b]; rfl

def jsz1 (P : Program) (t : TypeId) : Bool := match size? P t with
  | some 1 => true
  | _ => false
theorem jsz1_ok {P : Program} {t : TypeId} (h : jsz1 P t = true) : size? P t = some 1 := by
  unfold jsz1 at h
  split at h
  · assumption
  · cases h

/-- The block that a value names. -/
noncomputable def blockOf (v : AV) : List Nat := match v with
  | .ptr i _ => [i]
  | .sl i _ _ _ => [i]
  | .map i => [i]
  | _ => []

theorem evStore_frame {P : Program} {s s' : HS} {t : TypeId} {p v : AV} (h : evStore P s t p v = some s') : ∀ j, j ∉ blockOf p → s'.h j = s.h j := by
  unfold evStore at h
  split at h <;> try cases h
  split at h <;> try cases h
  split at h <;> cases h
  intro j hj
  simp only [blockOf, List.mem_singleton] at hj
  simp [Heap.put, hj]
theorem evMapUpdate_frame {P : Program} {s s' : HS} {t : TypeId} {p k v : AV} (h : evMapUpdate P s t p k v = some s') : ∀ j, j ∉ blockOf p → s'.h j = s.h j := by
  unfold evMapUpdate at h
  split at h <;> try cases h
  split at h <;> try cases h
  split at h <;> try cases h
  split at h <;> try cases h
  split at h <;> try cases h
  intro j hj
  simp only [blockOf, List.mem_singleton] at hj
  split at h <;> cases h <;> simp [Heap.put, hj]
theorem evClear_frame {P : Program} {s s' : HS} {t : TypeId} {p : AV} (h : evClear P s t p = some s') : ∀ j, j ∉ blockOf p → s'.h j = s.h j := by
  unfold evClear at h
  split at h <;> try cases h
  split at h <;> try cases h
  · intro j hj; rfl
  · split at h <;> cases h
    intro j hj
    simp only [blockOf, List.mem_singleton] at hj
    simp [Heap.put, hj]
theorem evNext_frame {s s' : HS} {p v : AV} (h : evNext s p = some (v, s')) : ∀ j, j ∉ blockOf p → s'.h j = s.h j := by
  unfold evNext at h
  split at h <;> try cases h
  split at h <;> try cases h
  intro j hj
  simp only [blockOf, List.mem_singleton] at hj
  split at h <;> cases h
  · simp [Heap.put, hj]
  · rfl
theorem evBuildSlice_frame {P : Program} {fz : Bool} {s s' : HS} {t : TypeId} {len : Nat} {ps : List (Nat × AV)} {v : AV} (h : evBuildSlice P fz s t len ps = some (v, s')) : ∀ j, j ∉ [s.n] → s'.h j = s.h j := by
  unfold evBuildSlice at h
  split at h <;> try cases h
  split at h <;> try cases h
  split at h <;> try cases h
  intro j hj
  have hji : j ≠ s.n := by simpa using hj
  cases fz
  · simp only [Bool.false_eq_true, if_false] at h
    cases h
    simp [Heap.put, hji]
  · simp only [if_true] at h
    cases h
    rfl
theorem evAppend_frame {P : Program} {s s' : HS} {t t2 : TypeId} {d x v : AV} (h : evAppend P s t t2 d x = some (v, s')) : ∀ j, j ∉ s.n :: blockOf d → s'.h j = s.h j := by
  unfold evAppend at h
  split at h <;> try cases h
  split at h <;> try cases h
  split at h <;> try cases h
  split at h <;> try cases h
  intro j hj
  split at h <;> try cases h
  · have hji : j ≠ s.n := by simpa [blockOf] using hj
    split at h
    · cases h; rfl
    · split at h <;> cases h
      simp [Heap.put, hji]
  · split at h <;> try cases h
    split at h <;> cases h
    simp [blockOf] at hj
    simp [Heap.put, Heap.del, hj.1, hj.2]
  · have hji : j ≠ s.n := by simpa [blockOf] using hj
    split at h <;> try cases h
    split at h <;> cases h
    simp [Heap.put, hji]

noncomputable def storeG (P : Program) (h : BT) (m : Nat) (t : TypeId) (p v : AV) : CO := toCOs h (blockOf p) (evStore P ⟨den h, m⟩ t p v)
theorem storeG_ok {P : Program} {t : TypeId} {h h' : BT} {m m' : Nat} {p v r : AV} (e : storeG P h m t p v = .some r h' m') : r = .tup [] ∧ evStore P ⟨den h, m⟩ t p v = some ⟨den h', m'⟩ :=
  toCOs_ok e (fun s' hs => evStore_frame hs)
noncomputable def store1 (P : Program) (h : BT) (m : Nat) (t : TypeId) (p v : AV) : CO :=
  Option.rec (storeG P h m t p v) (fun q => Bool.rec (storeG P h m t p v) (Option.rec .none (fun cs => Option.rec .none (fun cs' => Bool.rec .none (.some (.tup []) (hput h q.1 (.raw (some (.cells cs')))) m) (Nat.ble (Nat.succ q.1) 65536)) (lset cs q.2 v)) (bcells (FB.blk (bget 16 h q.1)))) (isOne v)) (asP p)

theorem store1_ok {P : Program} {t : TypeId} (hs : jsz1 P t = true) {h h' : BT} {m m' : Nat} {p v r : AV} (e : store1 P h m t p v = .some r h' m') : r = .tup [] ∧ evStore P ⟨den h, m⟩ t p v = some ⟨den h', m'⟩ := by
  unfold store1 at e
  cases hp : asP p with
  | none => rw [hp] at e; exact storeG_ok e
  | some q =>
    rw [hp] at e
    simp only at e
    cases ho : isOne v with
    | false => rw [ho] at e; exact storeG_ok e
    | true =>
      rw [ho] at e
      simp only at e
      cases hb : bcells (FB.blk (bget 16 h q.1)) with
      | none => rw [hb] at e; cases e
      | some cs =>
        rw [hb] at e
        simp only at e
        cases hl : lset cs q.2 v with
        | none => rw [hl] at e; cases e
        | some cs' =>
          rw [hl] at e
          simp only at e
          cases hsm : Nat.ble (Nat.succ q.1) 65536 with
          | false => rw [hsm] at e; cases e
          | true =>
            rw [hsm] at e
            cases e
            have hq : q.1 < 65536 := Nat.le_of_ble_eq_true hsm
            obtain ⟨hlt, rfl⟩ := lset_eq _ _ _ _ hl
            obtain ⟨h1, h2⟩ := isOne_eq ho
            refine ⟨rfl, ?_⟩
            rw [asP_eq hp]
            have hd : den h q.1 = some (.cells cs) := bcells_eq hb
            simp only [evStore, hd, h1, jsz1_ok hs, h2, List.length_singleton]
            rw [if_pos ⟨trivial, trivial, by omega⟩, den_put _ hq]
            rfl

/-- A new block. -/
noncomputable def newCO (v : AV) (h : BT) (m : Nat) (b : Blk) : CO := Bool.rec .none (.some v (hput h m (.raw (some b))) (Nat.succ m)) (Nat.ble (Nat.succ m) 65536)
theorem newCO_ok {v r : AV} {h h' : BT} {m m' : Nat} {b : Blk} (e : newCO v h m b = .some r h' m') : r = v ∧ den h' = (den h).put m b ∧ m' = m + 1 := by
  unfold newCO at e
  cases hb : Nat.ble (Nat.succ m) 65536 with
  | false => rw [hb] at e; cases e
  | true =>
    rw [hb] at e
    cases e
    exact ⟨rfl, den_put _ (Nat.le_of_ble_eq_true hb) _, rfl⟩

noncomputable def boxG (h : BT) (m : Nat) (v : AV) : CO := Bool.rec (Bool.rec .none (newCO (.ptr m 0) h m (.cells v.cells)) v.st) (newCO (.ptr m 0) h m (.cells [v])) (isOne v)
theorem boxG_ok {h h' : BT} {m m' : Nat} {v r : AV} (e : boxG h m v = .some r h' m') : v.st = true ∧ evNew false ⟨den h, m⟩ v = (r, ⟨den h', m'⟩) := by
  unfold boxG at e
  cases ho : isOne v with
  | true =>
    rw [ho] at e
    obtain ⟨h1, h2⟩ := isOne_eq ho
    obtain ⟨rfl, h3, rfl⟩ := newCO_ok e
    exact ⟨h2, by simp only [evNew, h1, h3]; rfl⟩
  | false =>
    rw [ho] at e
    simp only at e
    cases hs : v.st with
    | false => rw [hs] at e; cases e
    | true =>
      rw [hs] at e
      obtain ⟨rfl, h3, rfl⟩ := newCO_ok e
      exact ⟨rfl, by simp only [evNew, h3]; rfl⟩

/-! ### a list that grows -/
theorem pushes_len {a l : List AV} {n : Nat} (h : l.length = n) : (frev a l).length = Nat.add n (llen a) := by
  rw [frev_eq, llen_eq]
  show _ = n + a.length
  simp [h]; omega
theorem frev_len {l : List AV} : (frev l []).length = llen l := by
  rw [frev_eq, llen_eq]; simp

noncomputable def andB (a b : Bool) : Bool := Bool.rec false b a
theorem andB_eq {a b : Bool} (h : andB a b = true) : a = true ∧ b = true := by
  cases a
  · cases h
  · exact ⟨rfl, h⟩

/-- What is appended, if it is a whole block. -/
noncomputable def fsrc (h : BT) (size : Nat) (x : AV) : Option (Nat × List AV) := OS.rec none none (fun id off len sz => Option.rec none (fun cs => Bool.rec none (some (len, cs)) (andB (Nat.beq sz size) (andB (Nat.beq off 0) (Nat.beq (llen cs) (Nat.mul len size))))) (bcells (FB.blk (bget 16 h id)))) (asL x)
theorem fsrc_ok {h : BT} {size : Nat} {x : AV} {p : Nat × List AV} (e : fsrc h size x = some p) : evSrc (den h) size x = some p := by
  unfold fsrc at e
  cases hx : asL x with
  | none => rw [hx] at e; cases e
  | nils => rw [hx] at e; cases e
  | sl id off len sz =>
    rw [hx] at e
    simp only at e
    cases hb : bcells (FB.blk (bget 16 h id)) with
    | none => rw [hb] at e; cases e
    | some cs =>
      rw [hb] at e
      simp only at e
      cases hc : andB (Nat.beq sz size) (andB (Nat.beq off 0) (Nat.beq (llen cs) (Nat.mul len size))) with
      | false => rw [hc] at e; cases e
      | true =>
        rw [hc] at e
        cases e
        obtain ⟨c1, c2⟩ := andB_eq hc
        obtain ⟨c2, c3⟩ := andB_eq c2
        have d1 : sz = size := Nat.eq_of_beq_eq_true c1
        have d2 : off = 0 := Nat.eq_of_beq_eq_true c2
        have c3 : llen cs = len * size := Nat.eq_of_beq_eq_true c3
        rw [llen_eq] at c3
        subst d1
        subst d2
        rw [asL_sl hx]
        have hd : den h id = some (.cells cs) := bcells_eq hb
        simp only [evSrc, hd]
        rw [if_pos ⟨trivial, by omega⟩]
        simp [← c3]

noncomputable def grow (h : BT) (m id : Nat) (l : List AV) (n : Nat) (pf : l.length = n) (new : List AV) (len size : Nat) : CO :=
  Bool.rec .none (.some (.sl m 0 len size) (hput (hput h id (.raw none)) m (.rev (frev new l) (Nat.add n (llen new)) (pushes_len pf))) (Nat.succ m)) (andB (Nat.ble (Nat.succ m) 65536) (Nat.ble (Nat.succ id) 65536))
theorem grow_ok {h h' : BT} {m m' id : Nat} {l : List AV} {n : Nat} {pf : l.length = n} {new : List AV} {len size : Nat} {v : AV} (e : grow h m id l n pf new len size = .some v h' m') : v = .sl m 0 len size ∧ m' = m + 1 ∧ den h' = ((den h).del id).put m (.cells (l.reverse ++ new)) := by
  unfold grow at e
  cases hb : andB (Nat.ble (Nat.succ m) 65536) (Nat.ble (Nat.succ id) 65536) with
  | false => rw [hb] at e; cases e
  | true =>
    rw [hb] at e
    cases e
    obtain ⟨c1, c2⟩ := andB_eq hb
    have hm : m < 65536 := Nat.le_of_ble_eq_true c1
    have hi : id < 65536 := Nat.le_of_ble_eq_true c2
    refine ⟨rfl, rfl, ?_⟩
    rw [den_hput _ hm, den_hput _ hi]
    funext j
    simp only [Heap.put, Heap.del, FB.blk]
    by_cases hj : j = m
    · simp only [hj, if_true]
      rw [frev_eq, frev_eq]; simp
    · simp only [hj, if_false]

def appS (P : Program) (t t2 : TypeId) : Option (Nat × Nat) :=
  match P.underlying t with
  | some (.slice e) => match size? P e, bytes? P e, zero? P e with
    | some size, some bytes, some z => if 0 < size ∧ z.cells.length = size ∧ srcTy P t2 = true then some (size, bytes) else none
    | _, _, _ => none
  | _ => none

noncomputable def appF (P : Program) (size bytes : Nat) (t t2 : TypeId) (h : BT) (m : Nat) (d x : AV) : CO :=
  Option.rec (toCO h (m :: blockOf d) (evAppend P ⟨den h, m⟩ t t2 d x)) (fun p => OS.rec (toCO h (m :: blockOf d) (evAppend P ⟨den h, m⟩ t t2 d x)) (toCO h (m :: blockOf d) (evAppend P ⟨den h, m⟩ t t2 d x))
    (fun id off len sz => Bool.rec (toCO h (m :: blockOf d) (evAppend P ⟨den h, m⟩ t t2 d x)) (FB.rec (motive := fun _ => CO)
        (fun b => Option.rec .none (fun cs => Bool.rec (toCO h (m :: blockOf d) (evAppend P ⟨den h, m⟩ t t2 d x)) (grow h m id (frev cs []) (llen cs) frev_len p.2 (Nat.add len p.1) size) (Nat.beq (llen cs) (Nat.mul len size))) (bcells b))
        (fun l n pf => Bool.rec (toCO h (m :: blockOf d) (evAppend P ⟨den h, m⟩ t t2 d x)) (grow h m id l n pf p.2 (Nat.add len p.1) size) (Nat.beq n (Nat.mul len size))) (bget 16 h id))
      (andB (Nat.beq sz size) (andB (Nat.beq off 0) (andB (Nat.ble (Nat.add len p.1) 1099511627776) (Nat.ble (Nat.mul (Nat.add len p.1) bytes) 70368744177664))))) (asL d)) (fsrc h size x)

theorem appF_ok {P : Program} {size bytes : Nat} {t t2 : TypeId} (hs : appS P t t2 = some (size, bytes)) {h h' : BT} {m m' : Nat} {d x v : AV} (e : appF P size bytes t t2 h m d x = .some v h' m') : evAppend P ⟨den h, m⟩ t t2 d x = some (v, ⟨den h', m'⟩) := by
  have gen : toCO h (m :: blockOf d) (evAppend P ⟨den h, m⟩ t t2 d x) = .some v h' m' → evAppend P ⟨den h, m⟩ t t2 d x = some (v, ⟨den h', m'⟩) := fun e => toCO_ok e (fun v s' hs => evAppend_frame hs)
  unfold appF at e
  cases hp : fsrc h size x with
  | none => rw [hp] at e; exact gen e
  | some p =>
    rw [hp] at e
    simp only at e
    cases hd : asL d with
    | none => rw [hd] at e; exact gen e
    | nils => rw [hd] at e; exact gen e
    | sl id off len sz =>
      rw [hd] at e
      simp only at e
      cases hc : andB (Nat.beq sz size) (andB (Nat.beq off 0) (andB (Nat.ble (Nat.add len p.1) 1099511627776) (Nat.ble (Nat.mul (Nat.add len p.1) bytes) 70368744177664))) with
      | false => rw [hc] at e; exact gen e
      | true =>
        rw [hc] at e
        simp only at e
        obtain ⟨c1, c2⟩ := andB_eq hc
        obtain ⟨c2, c3⟩ := andB_eq c2
        obtain ⟨c3, c4⟩ := andB_eq c3
        have d1 : sz = size := Nat.eq_of_beq_eq_true c1
        have d2 : off = 0 := Nat.eq_of_beq_eq_true c2
        have c3 : len + p.1 ≤ 1099511627776 := Nat.le_of_ble_eq_true c3
        have c4 : (len + p.1) * bytes ≤ 70368744177664 := Nat.le_of_ble_eq_true c4
        subst d1
        subst d2
        have core : ∀ (l : List AV) (n : Nat) (pf : l.length = n), n = len * sz → den h id = some (.cells l.reverse) → grow h m id l n pf p.2 (Nat.add len p.1) sz = .some v h' m' → evAppend P ⟨den h, m⟩ t t2 d x = some (v, ⟨den h', m'⟩) := by
          intro l n pf hn hid hg
          obtain ⟨rfl, rfl, h3⟩ := grow_ok hg
          obtain ⟨k, new⟩ := p
          have hsrc := fsrc_ok hp
          unfold appS at hs
          split at hs <;> try cases hs
          rename_i et hu
          split at hs <;> try cases hs
          rename_i z1 z2 z3 h1 h2 h4
          split at hs <;> cases hs
          rename_i hcond
          rw [asL_sl hd]
          simp only [evAppend, hu, h1, h2, h4]
          rw [if_pos hcond]
          simp only [hsrc, hid]
          rw [if_pos ⟨trivial, by simp; omega, c3, c4⟩, h3]
          have e2 : (List.drop 0 l.reverse).take (len * sz) = l.reverse := by
            simp
            rw [List.take_of_length_le]
            simp; omega
          rw [e2]
          rfl
        cases hb : bget 16 h id with
        | raw b =>
          rw [hb] at e
          simp only at e
          cases hcs : bcells b with
          | none => rw [hcs] at e; cases e
          | some cs =>
            rw [hcs] at e
            simp only at e
            cases hl : Nat.beq (llen cs) (Nat.mul len sz) with
            | false => rw [hl] at e; exact gen e
            | true =>
              rw [hl] at e
              refine core _ _ frev_len (Nat.eq_of_beq_eq_true hl) ?_ e
              show FB.blk (bget 16 h id) = _
              rw [hb]
              show b = _
              rw [bcells_eq hcs, frev_eq]; simp
        | rev l n pf =>
          rw [hb] at e
          simp only at e
          cases hl : Nat.beq n (Nat.mul len sz) with
          | false => rw [hl] at e; exact gen e
          | true =>
            rw [hl] at e
            refine core l n pf (Nat.eq_of_beq_eq_true hl) ?_ e
            show FB.blk (bget 16 h id) = _
            rw [hb]
            show some (Blk.cells (frev l [])) = _
            rw [frev_eq]; simp

/-! ### a new slice -/
noncomputable def fcells (size : Nat) (v : AV) : Option (List AV) := Bool.rec (Option.rec none (fun cs => Bool.rec none (some cs) (Nat.beq (llen cs) size)) (asA v)) (Bool.rec none (some [v]) (Nat.beq size 1)) (isOne v)
theorem fcells_ok {size : Nat} {v : AV} {cs : List AV} (h : fcells size v = some cs) : v.cells = cs ∧ cs.length = size ∧ v.st = true := by
  unfold fcells at h
  cases ho : isOne v with
  | true =>
    rw [ho] at h
    simp only at h
    cases hb : Nat.beq size 1 with
    | false => rw [hb] at h; cases h
    | true =>
      rw [hb] at h
      cases h
      obtain ⟨h1, h2⟩ := isOne_eq ho
      exact ⟨h1, (Nat.eq_of_beq_eq_true hb).symm, h2⟩
  | false =>
    rw [ho] at h
    simp only at h
    cases ha : asA v with
    | none => rw [ha] at h; cases h
    | some xs =>
      rw [ha] at h
      simp only at h
      cases hb : Nat.beq (llen xs) size with
      | false => rw [hb] at h; cases h
      | true =>
        rw [hb] at h
        cases h
        rw [asA_eq ha]
        have := Nat.eq_of_beq_eq_true hb
        rw [llen_eq] at this
        exact ⟨rfl, this, rfl⟩

noncomputable def fparts (size len : Nat) (ps : List (Nat × AV)) : Nat → Option (List AV) := List.rec (fun k => Bool.rec none (some []) (Nat.beq k len)) (fun p _ ih k => Bool.rec none (Option.rec none (fun cs => Option.rec none (fun r => some (fapp cs r)) (ih (Nat.succ k))) (fcells size p.2)) (Nat.beq p.1 k)) ps
theorem fparts_ok {size len : Nat} : ∀ {ps : List (Nat × AV)} {k : Nat} {r : List AV}, fparts size len ps k = some r → k + ps.length = len ∧ ps.map (·.1) = List.range' k ps.length ∧ (∀ p ∈ ps, p.2.cells.length = size ∧ p.2.st = true) ∧ r = ps.flatMap (·.2.cells)
  | [], k, r, h => by
    change (Bool.rec none (some []) (Nat.beq k len) : Option (List AV)) = _ at h
    cases hb : Nat.beq k len with
    | false => rw [hb] at h; cases h
    | true =>
      rw [hb] at h
      cases h
      exact ⟨by simpa using Nat.eq_of_beq_eq_true hb, rfl, fun p hp => (by cases hp), rfl⟩
  | p :: ps, k, r, h => by
    change (Bool.rec none (Option.rec none (fun cs => Option.rec none (fun r => some (fapp cs r)) (fparts size len ps (Nat.succ k))) (fcells size p.2)) (Nat.beq p.1 k) : Option (List AV)) = _ at h
    cases hb : Nat.beq p.1 k with
    | false => rw [hb] at h; cases h
    | true =>
      rw [hb] at h
      simp only at h
      cases hc : fcells size p.2 with
      | none => rw [hc] at h; cases h
      | some cs =>
        rw [hc] at h
        simp only at h
        cases hr : fparts size len ps (Nat.succ k) with
        | none => rw [hr] at h; cases h
        | some r' =>
          rw [hr] at h
          cases h
          obtain ⟨h1, h2, h3⟩ := fcells_ok hc
          obtain ⟨g1, g2, g3, g4⟩ := fparts_ok hr
          refine ⟨by simp; omega, ?_, ?_, ?_⟩
          · simp only [List.map_cons, List.length_cons, List.range'_succ, Nat.eq_of_beq_eq_true hb, g2]
          · intro q hq
            rcases List.mem_cons.1 hq with rfl | hq
            · exact ⟨by rw [h1]; exact h2, h3⟩
            · exact g3 q hq
          · rw [fapp_eq, g4]
            simp [h1]

def bsS (P : Program) (t : TypeId) (len : Nat) : Option Nat :=
  match P.underlying t with
  | some (.slice e) => match size? P e, zero? P e with
    | some size, some z => if 0 < size ∧ len * size ≤ 16777216 ∧ z.cells.length = size then some size else none
    | _, _ => none
  | _ => none

noncomputable def bsF (P : Program) (size : Nat) (t : TypeId) (len : Nat) (h : BT) (m : Nat) (ps : List (Nat × AV)) : CO := Option.rec (toCO h [m] (evBuildSlice P false ⟨den h, m⟩ t len ps)) (fun cs => newCO (.sl m 0 len size) h m (.cells cs)) (fparts size len ps 0)
theorem bsF_ok {P : Program} {size : Nat} {t : TypeId} {len : Nat} (hs : bsS P t len = some size) {h h' : BT} {m m' : Nat} {ps : List (Nat × AV)} {v : AV} (e : bsF P size t len h m ps = .some v h' m') : evBuildSlice P false ⟨den h, m⟩ t len ps = some (v, ⟨den h', m'⟩) := by
  unfold bsF at e
  cases hp : fparts size len ps 0 with
  | none => rw [hp] at e; exact toCO_ok e (fun v s' hs => evBuildSlice_frame hs)
  | some cs =>
    rw [hp] at e
    obtain ⟨rfl, h3, rfl⟩ := newCO_ok e
    obtain ⟨g1, g2, g3, rfl⟩ := fparts_ok hp
    unfold bsS at hs
    split at hs <;> try cases hs
    rename_i et hu
    split at hs <;> try cases hs
    rename_i z1 z2 h1 h2
    split at hs <;> cases hs
    rename_i hcond
    simp only [evBuildSlice, hu, h1]
    have hr : ps.map (·.1) = List.range len := by
      rw [g2, List.range_eq_range']
      congr 1
      omega
    rw [if_pos ⟨hcond.1, hcond.2.1, hr, g3, _, h2, hcond.2.2⟩]
    simp only [Bool.false_eq_true, if_false]
    rw [h3]

noncomputable def callG (P : Program) (cf : CF) (f : AV) (vs : List AV) (h : BT) (m : Nat) : CO := OC.rec .none (fun g first cap => cf.call g (fapp (fapp first vs) cap) h m) (fun id => CO.rec .none (fun v h m => .some v h m) (fun _ _ _ => .none) (cf.call P.funcs.size (.pan (.yld id) :: vs) h m)) (asC f)

noncomputable def jeff (P : Program) (n : SR) (fz fx : Bool) : Op → Option SG
  | .alloc t => match zero? P t with
    | some z => match z.st, fz with
      | true, false => some ⟨fun _ _ h m => newCO (.ptr m 0) h m (.cells z.cells)⟩
      | _, _ => none
    | none => none
  | .box _ x => match jrho n x with
    | some x => match fz with
      | false => some ⟨fun _ e h m => boxG h m (x.get e)⟩
      | true => none
    | none => none
  | .buildSlice t len parts => match jrhoP n parts.toList with
    | some ps => match fx with
      | false => match bsS P t len, fz with
        | some size, false => some ⟨fun _ e h m => bsF P size t len h m (ps.get e)⟩
        | _, _ => some ⟨fun _ e h m => toCO h [m] (evBuildSlice P fz ⟨den h, m⟩ t len (ps.get e))⟩
      | true => some ⟨fun _ e h m => toCO h [m] (exact true (evBuildSlice P fz ⟨den h, m⟩ t len (ps.get e)))⟩
    | none => none
  | .store t a x => match jrho n a, jrho n x with
    | some a, some x => match jsz1 P t with
      | true => some ⟨fun _ e h m => store1 P h m t (a.get e) (x.get e)⟩
      | false => some ⟨fun _ e h m => storeG P h m t (a.get e) (x.get e)⟩
    | _, _ => none
  | .makeMap _ none => some ⟨fun _ _ h m => newCO (.map m) h m (.map [])⟩
  | .mapUpdate t a b c => match jrho n a, jrho n b, jrho n c with
    | some a, some b, some c => some ⟨fun _ e h m => toCOs h (blockOf (a.get e)) (evMapUpdate P ⟨den h, m⟩ t (a.get e) (b.get e) (c.get e))⟩
    | _, _, _ => none
  | .insert t a b c => match jrho n a, jrho n b, jrho n c with
    | some a, some b, some c => some ⟨fun _ e h m => toCOs h (blockOf (a.get e)) (evMapUpdate P ⟨den h, m⟩ t (a.get e) (b.get e) (c.get e))⟩
    | _, _, _ => none
  | .range t x => match jrho n x with
    | some x => match isStrT P t with
      | true => some ⟨fun _ e h m => Option.rec .none (fun u => newCO (.ptr m 0) h m (.iter u 0)) (asS (x.get e))⟩
      | false => none
    | none => none
  | .next x true => match jrho n x with
    | some x => some ⟨fun _ e h m => toCO h (blockOf (x.get e)) (evNext ⟨den h, m⟩ (x.get e))⟩
    | none => none
  | .call ⟨.builtin .clear, args, tys⟩ => match args.toList, tys.toList with
    | [a], [t] => match jrho n a with
      | some a => some ⟨fun _ e h m => toCOs h (blockOf (a.get e)) (evClear P ⟨den h, m⟩ t (a.get e))⟩
      | none => none
    | _, _ => none
  | .call ⟨.builtin .append, args, tys⟩ => match args.toList, tys.toList with
    | [a, b], [t, t2] => match jrho n a, jrho n b with
      | some a, some b => match appS P t t2 with
        | some (size, bytes) => some ⟨fun _ e h m => appF P size bytes t t2 h m (a.get e) (b.get e)⟩
        | none => some ⟨fun _ e h m => toCO h (m :: blockOf (a.get e)) (evAppend P ⟨den h, m⟩ t t2 (a.get e) (b.get e))⟩
      | _, _ => none
    | _, _ => none
  | _ => none

/-- Calls, and panics. -/
noncomputable def jcallop (P : Program) (n : SR) : Op → Option SG
  | .call ⟨.value fo, args, _⟩ => match jrho n fo, jrhos n args.toList with
    | some f, some xs => some ⟨fun cf e h m => callG P cf (f.get e) (xs.get e) h m⟩
    | _, _ => none
  | .panic x => match jrho n x with
    | some x => some ⟨fun _ e h m => Bool.rec .none (.pan (x.get e) h m) (isIf (x.get e))⟩
    | none => none
  | _ => none

theorem evStep_of {P : Program} {fz : Nat → Bool} {cf : CallF} {i : Nat} {o : Oper} {ts : List AV} {s : HS} {r : AV × HS} (h : evOp P (fz i) o.op ts s = some r) (hb : ∀ t l p, o.op ≠ .buildSlice t l p) : evStep P fz cf i o ts s = some r := by
  unfold evStep
  split
  · rename_i hop
    rw [hop] at h
    simp [evOp] at h
  · rename_i hop
    exact absurd hop (hb _ _ _)
  · exact h

theorem jpure_nb {P : Program} {n : SR} {op : Op} {g : VG} (hg : jpure P n op = some g) : ∀ t l p, op ≠ .buildSlice t l p := fun t l p hc => by
  subst hc
  simp [jpure] at hg

theorem jeff_fx {P : Program} {n : SR} {b fx : Bool} {op : Op} (h : ∀ t l p, op ≠ .buildSlice t l p) : jeff P n b fx op = jeff P n b false op := by
  unfold jeff
  split <;> first | rfl | exact absurd rfl (h _ _ _)

theorem jeff_op {P : Program} {n : SR} {fz : Nat → Bool} {i : Nat} {op : Op} {g : SG} (hg : jeff P n (fz i) false op = some g) {cf : CF} {e : E} {ts : List AV} (hr : RhoOK n e ts) {b : BT} {m : Nat} {v : AV} {h' : BT} {m' : Nat}
    (h : g.go cf e b m = .some v h' m') : evOp P (fz i) op ts ⟨den b, m⟩ = some (v, ⟨den h', m'⟩) := by
  unfold jeff at hg
  split at hg
  · split at hg <;> try cases hg
    rename_i z hz
    split at hg <;> cases hg
    rename_i hst hfz
    obtain ⟨rfl, h3, rfl⟩ := newCO_ok h
    simp only [evOp, hz, hst, if_true, hfz, evNew, h3]
    rfl
  · split at hg <;> try cases hg
    rename_i x hx
    split at hg <;> cases hg
    rename_i hfz
    obtain ⟨h1, h2⟩ := boxG_ok h
    simp only [evOp, jrho_ok hx hr, h1, if_true, hfz]
    exact congrArg some h2
  · split at hg
    rotate_left
    · cases hg
    rename_i ps hps
    dsimp only at hg
    simp only [evOp, jrhoP_ok hps hr]
    split at hg <;> cases hg
    · rename_i hs hfz
      rw [hfz]
      exact bsF_ok hs h
    · exact toCO_ok h (fun v s' hs => evBuildSlice_frame hs)
  · split at hg <;> try cases hg
    rename_i a x ha hx
    split at hg <;> cases hg
    · rename_i hs
      obtain ⟨rfl, h2⟩ := store1_ok hs h
      simp only [evOp, jrho_ok ha hr, jrho_ok hx hr]
      rw [h2]; rfl
    · obtain ⟨rfl, h2⟩ := storeG_ok h
      simp only [evOp, jrho_ok ha hr, jrho_ok hx hr]
      rw [h2]; rfl
  · cases hg
    obtain ⟨rfl, h3, rfl⟩ := newCO_ok h
    simp only [evOp, h3]
  · split at hg <;> cases hg
    rename_i a b c ha hb hc
    obtain ⟨rfl, h2⟩ := toCOs_ok h (fun s' hs => evMapUpdate_frame hs)
    simp only [evOp, jrho_ok ha hr, jrho_ok hb hr, jrho_ok hc hr]
    rw [h2]; rfl
  · split at hg <;> cases hg
    rename_i a b c ha hb hc
    obtain ⟨rfl, h2⟩ := toCOs_ok h (fun s' hs => evMapUpdate_frame hs)
    simp only [evOp, jrho_ok ha hr, jrho_ok hb hr, jrho_ok hc hr]
    rw [h2]; rfl
  · split at hg <;> try cases hg
    rename_i x hx
    split at hg <;> cases hg
    rename_i hs
    simp only at h
    cases hS : asS (x.get e) with
    | none => rw [hS] at h; cases h
    | some u =>
      rw [hS] at h
      obtain ⟨rfl, h3, rfl⟩ := newCO_ok h
      unfold isStrT at hs
      split at hs <;> try cases hs
      rename_i hu
      simp only [evOp, hu, jrho_ok hx hr, asS_eq hS, h3]
  · split at hg <;> cases hg
    rename_i x hx
    simp only [evOp, jrho_ok hx hr]
    exact toCO_ok h (fun v s' hs => evNext_frame hs)
  · split at hg <;> try cases hg
    rename_i a t hargs htys
    split at hg <;> cases hg
    rename_i a ha
    simp only [evOp, hargs, htys, rhos, jrho_ok ha hr]
    obtain ⟨rfl, h2⟩ := toCOs_ok h (fun s' hs => evClear_frame hs)
    rw [h2]; rfl
  · split at hg <;> try cases hg
    rename_i a b t t2 hargs htys
    split at hg <;> try cases hg
    rename_i a b ha hb
    simp only [evOp, hargs, htys, rhos, jrho_ok ha hr, jrho_ok hb hr]
    split at hg <;> cases hg
    · rename_i hs
      exact appF_ok hs h
    · exact toCO_ok h (fun v s' hs => evAppend_frame hs)
  · cases hg

theorem jeff_ok {P : Program} {Hn : Hints} {n : SR} {fz : Nat → Bool} {i : Nat} {o : Oper} {g : SG} (hg : jeff P n (fz i) (fz (i + 1024)) o.op = some g) {cf : CF} {e : E} {ts : List AV} (hr : RhoOK n e ts) {b : BT} {m : Nat} {v : AV} {h' : BT} {m' : Nat}
    (h : g.go cf e b m = .some v h' m') : evStep P fz (evLim P Hn) i o ts ⟨den b, m⟩ = some (v, ⟨den h', m'⟩) := by
  obtain ⟨dst, op, ty, pos, aft, gd⟩ := o
  cases op with
  | buildSlice t len parts =>
    cases hx : fz (i + 1024) with
    | false =>
      rw [hx] at hg
      have := jeff_op hg hr h
      simp only [evStep, hx, exact]
      exact this
    | true =>
      rw [hx] at hg
      simp only [jeff] at hg
      split at hg <;> cases hg
      rename_i ps hps
      simp only [evStep, hx, evOp, jrhoP_ok hps hr]
      refine toCO_ok h (fun v s' hs => ?_)
      obtain ⟨v0, h0⟩ := exact_some hs
      exact evBuildSlice_frame h0
  | _ =>
    rw [jeff_fx (fun _ _ _ hc => by cases hc)] at hg
    exact evStep_of (jeff_op hg hr h) (fun _ _ _ hc => by cases hc)

theorem jcallop_ok {P : Program} {Hn : Hints} {n : SR} {fz : Nat → Bool} {i : Nat} {o : Oper} {g : SG} (hg : jcallop P n o.op = some g) {cf : CF} (hcf : CFok P Hn cf) {e : E} {ts : List AV} (hr : RhoOK n e ts) {b : BT} {m : Nat} {v : AV} {h' : BT} {m' : Nat}
    (h : g.go cf e b m = .some v h' m') : evStep P fz (evLim P Hn) i o ts ⟨den b, m⟩ = some (v, ⟨den h', m'⟩) := by
  obtain ⟨dst, op, ty, pos, aft, gd⟩ := o
  simp only at hg
  unfold jcallop at hg
  split at hg
  · split at hg <;> cases hg
    rename_i f xs hf hxs
    simp only [callG] at h
    cases hc : asC (f.get e) with
    | none => rw [hc] at h; cases h
    | some g first cap =>
      rw [hc] at h
      simp only [evStep, jrho_ok hf hr, asC_eq hc, jrhos_ok hxs hr]
      obtain ⟨h1, h2⟩ := hcf.val _ _ _ _ _ _ _ h
      rw [fapp_eq, fapp_eq] at h1
      exact noPan_of h1 h2
    | yld id =>
      rw [hc] at h
      simp only [evStep, jrho_ok hf hr, asC_yld hc, jrhos_ok hxs hr]
      simp only at h
      cases hv : cf.call P.funcs.size (.pan (.yld id) :: xs.get e) b m with
      | none => rw [hv] at h; cases h
      | pan v2 h2 m2 => rw [hv] at h; cases h
      | some v2 h2 m2 =>
        rw [hv] at h
        cases h
        obtain ⟨h1, h2⟩ := hcf.val _ _ _ _ _ _ _ hv
        exact noPan_of h1 h2
  · split at hg <;> cases hg
    simp only at h
    rename_i x hx
    cases hi : isIf (x.get e) <;> (rw [hi] at h; cases h)
  · cases hg

theorem jcallop_pan {P : Program} {Hn : Hints} {n : SR} {i : Nat} {o : Oper} {g : SG} (hg : jcallop P n o.op = some g) {cf : CF} (hcf : CFok P Hn cf) {e : E} {ts : List AV} (hr : RhoOK n e ts) {b : BT} {m : Nat} {v : AV} {h' : BT} {m' : Nat}
    (h : g.go cf e b m = .pan v h' m') : evPan (evLim P Hn) i o ts ⟨den b, m⟩ = some (v, ⟨den h', m'⟩) := by
  obtain ⟨dst, op, ty, pos, aft, gd⟩ := o
  simp only at hg
  unfold jcallop at hg
  split at hg
  · split at hg <;> cases hg
    rename_i f xs hf hxs
    simp only [callG] at h
    cases hc : asC (f.get e) with
    | none => rw [hc] at h; cases h
    | some g first cap =>
      rw [hc] at h
      simp only [evPan, jrho_ok hf hr, asC_eq hc, jrhos_ok hxs hr]
      have h1 := hcf.pan _ _ _ _ _ _ _ h
      rw [fapp_eq, fapp_eq] at h1
      exact panOf_of h1
    | yld id =>
      rw [hc] at h
      simp only at h
      cases hv : cf.call P.funcs.size (.pan (.yld id) :: xs.get e) b m with
      | none => rw [hv] at h; cases h
      | pan v2 h2 m2 => rw [hv] at h; cases h
      | some v2 h2 m2 => rw [hv] at h; cases h
  · split at hg <;> cases hg
    rename_i x hx
    simp only at h
    cases hi : isIf (x.get e) with
    | false => rw [hi] at h; cases h
    | true =>
      rw [hi] at h
      cases h
      obtain ⟨t, u, hu⟩ := isIf_eq hi
      simp only [evPan, jrho_ok hx hr, hu]
  · cases hg
end Go.Ev
