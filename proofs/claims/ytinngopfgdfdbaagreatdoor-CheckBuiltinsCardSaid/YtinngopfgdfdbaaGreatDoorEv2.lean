/- Abstract memory, and what it says of the model's memory. -/
import Derived.Test.YtinngopfgdfdbaaGreatDoorEv1
set_option linter.unusedVariables false
set_option linter.unusedSimpArgs false
namespace Go.Ev

/-- A loop over a function: how it stands, what a round has left for behind it, in which function it is (for the hints), the slots with which a round begins. -/
structure LoopA where
  st : LoopState
  pend : Option Code
  f : Nat
  tmps : List AV
  params : Array Tmp
  assign : Code
  body : Code

/-- A block that may still be written. -/
inductive Blk where
  | cells (cs : List AV)
  | map (es : List (AV × AV))
  | iter (s : List UInt8) (pos : Nat)
  | loop (L : LoopA)
  | defd (opn : Bool)

abbrev Heap := Nat → Option Blk

def Heap.put (h : Heap) (i : Nat) (b : Blk) : Heap := fun j => if j = i then some b else h j
def Heap.del (h : Heap) (i : Nat) : Heap := fun j => if j = i then none else h j

theorem Heap.put_same (h : Heap) (i : Nat) (b : Blk) : h.put i b i = some b := by simp [Heap.put]
theorem Heap.put_ne (h : Heap) {i j : Nat} (b : Blk) (e : j ≠ i) : h.put i b j = h j := by simp [Heap.put, e]
theorem Heap.del_same (h : Heap) (i : Nat) : h.del i i = none := by simp [Heap.del]
theorem Heap.del_ne (h : Heap) {i j : Nat} (e : j ≠ i) : h.del i j = h j := by simp [Heap.del, e]

structure HS where
  h : Heap
  n : Nat

/-- What a block of the model holds. -/
inductive B (X : Cx) (base size : Nat) : Blk → Obj → Prop
  | cells {cs : List AV} {c : Array Value} {e : TypeId} {fr : Nat × Nat} (hsz : c.size = size) (hfr : ∀ i, i < size → ¬ (fr.1 ≤ i ∧ i < fr.2))
      (hfit : base + cs.length ≤ size) (hc : ∀ (i : Nat) x, cs[i]? = some x → ∃ y, c[base + i]? = some y ∧ V X x y) (h1 : ∀ x ∈ cs, x.one = true) : B X base size (.cells cs) (.cells c e fr)
  | map {es : List (AV × AV)} {ms : Array MapEntry} {clock : Nat} (hl : es.length = ms.size)
      (hm : ∀ (i : Nat) x m, es[i]? = some x → ms[i]? = some m → V X x.1 m.key ∧ V X x.2 m.val) : B X base size (.map es) (.map ms clock)
  | iter (s : List UInt8) (pos : Nat) (hb : base = 0) : B X base size (.iter s pos) (.stringIter ⟨⟨s⟩⟩ pos)
  | loop {L : LoopA} {r : Loop} (h1 : r.state = L.st) (h2 : r.pending = L.pend) (h3 : VL X L.tmps r.tmps.toList) (h4 : r.params = L.params) (h5 : r.assign = L.assign) (h6 : r.body = L.body) : B X base size (.loop L) (.loop r)
  | defdT : B X base size (.defd true) (.deferred (some []))
  | defdF : B X base size (.defd false) (.deferred none)

theorem B.mono {X Y : Cx} (h : X.Le Y) {base size : Nat} {k : Blk} {o : Obj} (b : B X base size k o) : B Y base size k o := by
  cases b with
  | cells hsz hfr hfit hc h1 => exact .cells hsz hfr hfit (fun i x hx => let ⟨y, hy, hv⟩ := hc i x hx; ⟨y, hy, hv.mono h⟩) h1
  | map hl hm => exact .map hl (fun i x m hx hm' => let ⟨h1, h2⟩ := hm i x m hx hm'; ⟨h1.mono h, h2.mono h⟩)
  | iter s pos hb => exact .iter s pos hb
  | loop h1 h2 h3 h4 h5 h6 => exact .loop h1 h2 (h3.mono h) h4 h5 h6
  | defdT => exact .defdT
  | defdF => exact .defdF

/-- A world in which a call begins, and what is frozen there. -/
structure W0 extends World where
  phi0 : Nat → Option Obj
  gh : Nat → Option (Option (Nat × Nat × Obj))

/-- A name that is set apart: nothing bears it yet, or a block does of which the abstract memory knows nothing; that one stays as it is. -/
def GhOK (X : Cx) (s : HS) (w0 : W0) (w : World) (r : Nat) : Option (Nat × Nat × Obj) → Prop
  | none => X.mu r = none
  | some (b, size, o) => X.mu r = some (b, 0, size) ∧ X.phi b = none ∧ w.heap[b]? = some o ∧ (∀ id k p q, s.h id = some k → X.mu id ≠ some (b, p, q)) ∧ ∀ r' g, r' ≠ r → w0.gh r' = some g → ∀ p q, X.mu r' ≠ some (b, p, q)

/-- The abstract memory 's' tells of the world 'w'; 'w0' is the world in which the call began: none of its blocks has a name, and none turns. -/
structure R (X : Cx) (s : HS) (w0 : W0) (w : World) : Prop where
  os : w.os = w0.os
  tape : w.tape = w0.tape
  output : w.output = w0.output
  size : w0.heap.size ≤ w.heap.size
  old : ∀ b, b < w0.heap.size → X.phi b = w0.phi0 b ∧ w.heap[b]? = w0.heap[b]? ∧ ∀ id p q, X.mu id ≠ some (b, p, q)
  phi : ∀ b o, X.phi b = some o → w.heap[b]? = some o
  live : ∀ id k, s.h id = some k → ∃ b base size o, X.mu id = some (b, base, size) ∧ X.phi b = none ∧ w.heap[b]? = some o ∧ B X base size k o
  inj : ∀ i j ki kj b p q p' q', s.h i = some ki → s.h j = some kj → X.mu i = some (b, p, q) → X.mu j = some (b, p', q') → i = j
  fresh : ∀ id, s.n ≤ id → X.mu id = none ∧ s.h id = none
  gh : ∀ r g, w0.gh r = some g → r < s.n ∧ s.h r = none ∧ GhOK X s w0 w r g

theorem GhOK.turn {X Y : Cx} {s s' : HS} {w0 : W0} {w w' : World} {r : Nat} {g : Option (Nat × Nat × Obj)} (h : GhOK X s w0 w r g) (hg : w0.gh r = some g) (hr : ∀ r' g', w0.gh r' = some g' → Y.mu r' = X.mu r')
    (hb : ∀ (b : Nat) (size : Nat) (o : Obj), X.phi b = none → w.heap[b]? = some o → (∀ id k p q, s.h id = some k → X.mu id ≠ some (b, p, q)) → Y.phi b = none ∧ w'.heap[b]? = some o ∧ ∀ id k p q, s'.h id = some k → Y.mu id ≠ some (b, p, q)) : GhOK Y s' w0 w' r g := by
  cases g with
  | none => exact (hr r _ hg).trans h
  | some t =>
    obtain ⟨b, size, o⟩ := t
    obtain ⟨h1, h2, h3, h4, h5⟩ := h
    obtain ⟨k1, k2, k3⟩ := hb b size o h2 h3 h4
    exact ⟨(hr r _ hg).trans h1, k1, k2, k3, fun r' g' hne hg' p q => by rw [hr r' g' hg']; exact h5 r' g' hne hg' p q⟩

theorem R.below {X : Cx} {s : HS} {w0 : W0} {w : World} (h : R X s w0 w) : RowKit.Below w0.heap.size w0.toWorld w :=
  ⟨h.os, h.tape, h.output, h.size, fun k hk => (h.old k hk).2.1⟩

theorem R.drew {X : Cx} {s : HS} {w0 : W0} {w : World} (h : R X s w0 w) : R X s w0 w.drew :=
  ⟨h.os, h.tape, h.output, h.size, h.old, h.phi, h.live, h.inj, h.fresh, h.gh⟩

def Cx.name (X : Cx) (id : Nat) (p : Nat × Nat × Nat) : Cx := ⟨fun i => if i = id then some p else X.mu i, X.phi⟩
def Cx.ice (X : Cx) (b : Nat) (o : Obj) : Cx := ⟨X.mu, fun i => if i = b then some o else X.phi i⟩

theorem Cx.le_name {X : Cx} {id : Nat} {p : Nat × Nat × Nat} (h : X.mu id = none) : X.Le (X.name id p) :=
  ⟨fun i x e => by
    simp only [Cx.name]
    split
    · subst_vars; rw [h] at e; cases e
    · exact e, fun _ _ e => e⟩
theorem Cx.le_ice {X : Cx} {b : Nat} {o : Obj} (h : X.phi b = none ∨ X.phi b = some o) : X.Le (X.ice b o) :=
  ⟨fun _ _ e => e, fun i u e => by
    simp only [Cx.ice]
    split
    · subst_vars
      rcases h with h | h
      · rw [h] at e; cases e
      · rw [h] at e; exact e
    · exact e⟩

section
variable {X : Cx} {s : HS} {w0 : W0} {w : World}

theorem R.phi_lt (h : R X s w0 w) {b : Nat} {o : Obj} (hb : X.phi b = some o) : b < w.heap.size :=
  (Array.getElem?_eq_some_iff.1 (h.phi b o hb)).1
theorem R.phi_none (h : R X s w0 w) : X.phi w.heap.size = none := by
  cases hp : X.phi w.heap.size with
  | none => rfl
  | some o => exact absurd (h.phi_lt hp) (Nat.lt_irrefl _)
theorem R.live_lt (h : R X s w0 w) {id : Nat} {k : Blk} (hk : s.h id = some k) {b p q : Nat} (hm : X.mu id = some (b, p, q)) : b < w.heap.size := by
  obtain ⟨b', base, size, o, h1, _, h3, _⟩ := h.live id k hk
  rw [hm] at h1; cases h1
  exact (Array.getElem?_eq_some_iff.1 h3).1
theorem R.id_lt (h : R X s w0 w) {id : Nat} {k : Blk} (hk : s.h id = some k) : id < s.n := by
  rcases Nat.lt_or_ge id s.n with hl | hl
  · exact hl
  · have := (h.fresh id hl).2; rw [this] at hk; cases hk

/-- A new block, named. -/
theorem R.alloc (h : R X s w0 w) {k : Blk} {o : Obj} {size : Nat} (hB : ∀ Y, X.Le Y → B Y 0 size k o) :
    R (X.name s.n (w.heap.size, 0, size)) ⟨s.h.put s.n k, s.n + 1⟩ w0 (w.alloc o) := by
  have hle : X.Le (X.name s.n (w.heap.size, 0, size)) := Cx.le_name (h.fresh s.n (Nat.le_refl _)).1
  refine ⟨h.os, h.tape, h.output, ?_, ?_, ?_, ?_, ?_, ?_, ?_⟩
  · have := h.size; simp; omega
  · intro b hb
    have hsz := h.size
    obtain ⟨o1, o2, o3⟩ := h.old b hb
    refine ⟨o1, ?_, fun id p q => ?_⟩
    · rw [heap_alloc_old w o (by omega)]; exact o2
    · simp only [Cx.name]
      split
      · intro hc; cases hc; omega
      · exact o3 id p q
  · intro b u hb
    have hlt := h.phi_lt hb
    show (w.heap.push o)[b]? = _
    rw [Array.getElem?_push, if_neg (by omega)]
    exact h.phi b u hb
  · intro id k' hk'
    simp only [Heap.put] at hk'
    split at hk'
    · rename_i e
      cases hk'
      refine ⟨w.heap.size, 0, size, o, by simp [Cx.name, e], h.phi_none, ?_, hB _ hle⟩
      exact heap_alloc_new w o
    · rename_i e
      obtain ⟨b, base, sz, u, h1, h2, h3, h4⟩ := h.live id k' hk'
      refine ⟨b, base, sz, u, by simp [Cx.name, e, h1], h2, ?_, h4.mono hle⟩
      rw [heap_alloc_old w o (Array.getElem?_eq_some_iff.1 h3).1]; exact h3
  · intro i j ki kj b p q p' q' hi hj mi mj
    simp only [Heap.put] at hi hj
    simp only [Cx.name] at mi mj
    split at hi <;> split at hj
    · subst_vars; rfl
    · rename_i e1 e2
      rw [if_pos e1] at mi
      rw [if_neg e2] at mj
      cases mi
      exact absurd (h.live_lt hj mj) (Nat.lt_irrefl _)
    · rename_i e1 e2
      rw [if_neg e1] at mi
      rw [if_pos e2] at mj
      cases mj
      exact absurd (h.live_lt hi mi) (Nat.lt_irrefl _)
    · rename_i e1 e2
      rw [if_neg e1] at mi
      rw [if_neg e2] at mj
      exact h.inj i j ki kj b p q p' q' hi hj mi mj
  · intro id hid
    have hid' : s.n + 1 ≤ id := hid
    have h1 := h.fresh id (by omega)
    exact ⟨by simp only [Cx.name]; rw [if_neg (by omega)]; exact h1.1, by simp only [Heap.put]; rw [if_neg (by omega)]; exact h1.2⟩
  · intro r g hg
    obtain ⟨g1, g2, g3⟩ := h.gh r g hg
    have hne : r ≠ s.n := by omega
    refine ⟨by show r < s.n + 1; omega, by simp only [Heap.put]; rw [if_neg hne]; exact g2, g3.turn hg (fun r' g' hg' => by have := (h.gh r' g' hg').1; simp [Cx.name, Nat.ne_of_lt this]) ?_⟩
    intro b sz u h2 h3 h4
    have hlt : b < w.heap.size := (Array.getElem?_eq_some_iff.1 h3).1
    refine ⟨h2, by rw [heap_alloc_old w o hlt]; exact h3, fun id k' p q hk' => ?_⟩
    simp only [Heap.put] at hk'
    simp only [Cx.name]
    split at hk'
    · rename_i e
      rw [if_pos e]
      intro hc; cases hc; exact absurd hlt (Nat.lt_irrefl _)
    · rename_i e
      rw [if_neg e]
      exact h4 id k' p q hk'

/-- A new block, frozen at once. -/
theorem R.allocIce (h : R X s w0 w) (o : Obj) : R (X.ice w.heap.size o) s w0 (w.alloc o) := by
  have hle : X.Le (X.ice w.heap.size o) := Cx.le_ice (.inl h.phi_none)
  refine ⟨h.os, h.tape, h.output, ?_, ?_, ?_, ?_, h.inj, h.fresh, fun r g hg => let ⟨g1, g2, g3⟩ := h.gh r g hg; ⟨g1, g2, g3.turn hg (fun _ _ _ => rfl) ?_⟩⟩
  case refine_5 =>
    intro b sz u h2 h3 h4
    have hlt : b < w.heap.size := (Array.getElem?_eq_some_iff.1 h3).1
    refine ⟨?_, by rw [heap_alloc_old w o hlt]; exact h3, h4⟩
    simp only [Cx.ice]
    rw [if_neg (by omega)]
    exact h2
  · have := h.size; simp; omega
  · intro b hb
    have hsz := h.size
    obtain ⟨o1, o2, o3⟩ := h.old b hb
    simp only [Cx.ice]
    rw [if_neg (by omega)]
    exact ⟨o1, by rw [heap_alloc_old w o (by omega)]; exact o2, o3⟩
  · intro b u hb
    simp only [Cx.ice] at hb
    split at hb
    · cases hb; subst_vars; exact heap_alloc_new w _
    · have hlt := h.phi_lt hb
      rw [heap_alloc_old w o hlt]; exact h.phi b u hb
  · intro id k hk
    obtain ⟨b, base, sz, u, h1, h2, h3, h4⟩ := h.live id k hk
    have hlt := (Array.getElem?_eq_some_iff.1 h3).1
    refine ⟨b, base, sz, u, h1, ?_, ?_, h4.mono hle⟩
    · simp only [Cx.ice]; rw [if_neg (by omega)]; exact h2
    · rw [heap_alloc_old w o hlt]; exact h3

/-- A live block turns. -/
theorem R.turn (h : R X s w0 w) {id : Nat} {k k' : Blk} (hk : s.h id = some k) {b base size : Nat} (hm : X.mu id = some (b, base, size)) {o' : Obj} {w' : World}
    (hB : B X base size k' o') (hos : w'.os = w.os) (htape : w'.tape = w.tape) (hout : w'.output = w.output) (hsz : w'.heap.size = w.heap.size)
    (hb : w'.heap[b]? = some o') (ho : ∀ j, j ≠ b → w'.heap[j]? = w.heap[j]?) : R X ⟨s.h.put id k', s.n⟩ w0 w' := by
  obtain ⟨b1, base1, sz1, o1, h1, h2, h3, h4⟩ := h.live id k hk
  rw [hm] at h1; cases h1
  refine ⟨hos.trans h.os, htape.trans h.tape, hout.trans h.output, by rw [hsz]; exact h.size, ?_, ?_, ?_, ?_, ?_, ?_⟩
  rotate_right
  · intro r g hg
    obtain ⟨g1, g2, g3⟩ := h.gh r g hg
    have hne : r ≠ id := fun e => by subst e; rw [g2] at hk; cases hk
    refine ⟨g1, by simp only [Heap.put]; rw [if_neg hne]; exact g2, g3.turn hg (fun _ _ _ => rfl) ?_⟩
    intro c sz u k2 k3 k4
    have hcb : c ≠ b := fun e => by subst e; exact k4 id k _ _ hk hm
    refine ⟨k2, by rw [ho c hcb]; exact k3, fun i ki p q hi => ?_⟩
    simp only [Heap.put] at hi
    split at hi
    · rename_i e; subst e; exact k4 _ k p q hk
    · exact k4 i ki p q hi
  · intro c hc
    obtain ⟨o1, o2, o3⟩ := h.old c hc
    have hne : c ≠ b := fun e => by subst e; exact o3 _ _ _ hm
    exact ⟨o1, by rw [ho c hne]; exact o2, o3⟩
  · intro c u hc
    have hne : c ≠ b := fun e => by subst e; rw [h2] at hc; cases hc
    rw [ho c hne]; exact h.phi c u hc
  · intro i ki hi
    simp only [Heap.put] at hi
    split at hi
    · cases hi; subst_vars; exact ⟨b, base, size, o', hm, h2, hb, hB⟩
    · rename_i e
      obtain ⟨c, p, q, u, m1, m2, m3, m4⟩ := h.live i ki hi
      have hne : c ≠ b := fun e' => by subst e'; exact e (h.inj i id ki k c p q base size hi hk m1 hm)
      exact ⟨c, p, q, u, m1, m2, by rw [ho c hne]; exact m3, m4⟩
  · intro i j ki kj c p q p' q' hi hj mi mj
    have conv : ∀ i ki, (s.h.put id k') i = some ki → ∃ ki', s.h i = some ki' := by
      intro i ki hi
      simp only [Heap.put] at hi
      split at hi
      · subst_vars; exact ⟨k, hk⟩
      · exact ⟨ki, hi⟩
    obtain ⟨ki', hi'⟩ := conv i ki hi
    obtain ⟨kj', hj'⟩ := conv j kj hj
    exact h.inj i j ki' kj' c p q p' q' hi' hj' mi mj
  · intro i hi
    have h5 := h.fresh i hi
    have h6 := h.id_lt hk
    have h7 : s.n ≤ i := hi
    exact ⟨h5.1, by simp only [Heap.put]; rw [if_neg (by omega)]; exact h5.2⟩

/-- A name is given up. -/
theorem R.del (h : R X s w0 w) (id : Nat) : R X ⟨s.h.del id, s.n⟩ w0 w := by
  have conv : ∀ i ki, (s.h.del id) i = some ki → s.h i = some ki := by
    intro i ki hi
    simp only [Heap.del] at hi
    split at hi
    · cases hi
    · exact hi
  refine ⟨h.os, h.tape, h.output, h.size, h.old, h.phi, fun i ki hi => h.live i ki (conv i ki hi), fun i j ki kj b p q p' q' hi hj => h.inj i j ki kj b p q p' q' (conv i ki hi) (conv j kj hj), ?_, fun r g hg => ?_⟩
  rotate_right
  · obtain ⟨g1, g2, g3⟩ := h.gh r g hg
    refine ⟨g1, ?_, g3.turn hg (fun _ _ _ => rfl) fun b sz u k2 k3 k4 => ⟨k2, k3, fun i ki p q hi => k4 i ki p q (conv i ki hi)⟩⟩
    show s.h.del id r = none
    simp only [Heap.del]
    split
    · rfl
    · exact g2
  intro i hi
  have := h.fresh i hi
  refine ⟨this.1, ?_⟩
  show s.h.del id i = none
  simp only [Heap.del]
  split
  · rfl
  · exact this.2

/-- Names are given up: those that 'keep' doesn't hold. -/
theorem R.sweep (h : R X s w0 w) (f : Heap) (hf : ∀ i k, f i = some k → s.h i = some k) : R X ⟨f, s.n⟩ w0 w := by
  refine ⟨h.os, h.tape, h.output, h.size, h.old, h.phi, fun i ki hi => h.live i ki (hf i ki hi), fun i j ki kj b p q p' q' hi hj => h.inj i j ki kj b p q p' q' (hf i ki hi) (hf j kj hj), ?_, fun r g hg => ?_⟩
  rotate_right
  · obtain ⟨g1, g2, g3⟩ := h.gh r g hg
    refine ⟨g1, ?_, g3.turn hg (fun _ _ _ => rfl) fun b sz u k2 k3 k4 => ⟨k2, k3, fun i ki p q hi => k4 i ki p q (hf i ki hi)⟩⟩
    show f r = none
    cases hfr : f r with
    | none => rfl
    | some k => rw [hf r k hfr] at g2; cases g2
  intro i hi
  have := h.fresh i hi
  refine ⟨this.1, ?_⟩
  show f i = none
  cases hfi : f i with
  | none => rfl
  | some k => rw [hf i k hfi] at this; cases this.2

/-- A block whose name is given up freezes. -/
theorem R.freeze (h : R X s w0 w) {id : Nat} {k : Blk} (hk : s.h id = some k) :
    ∃ b base size o, X.mu id = some (b, base, size) ∧ X.phi b = none ∧ w.heap[b]? = some o ∧ B X base size k o ∧ R (X.ice b o) ⟨s.h.del id, s.n⟩ w0 w := by
  obtain ⟨b, base, size, o, h1, h2, h3, h4⟩ := h.live id k hk
  refine ⟨b, base, size, o, h1, h2, h3, h4, ?_⟩
  have hle : X.Le (X.ice b o) := Cx.le_ice (.inl h2)
  have hd := h.del id
  have conv : ∀ i ki, (s.h.del id) i = some ki → i ≠ id ∧ s.h i = some ki := by
    intro i ki hi
    simp only [Heap.del] at hi
    split at hi
    · cases hi
    · exact ⟨by assumption, hi⟩
  refine ⟨h.os, h.tape, h.output, h.size, ?_, ?_, ?_, hd.inj, hd.fresh, fun r g hg => ?_⟩
  rotate_right
  · obtain ⟨g1, _, g3⟩ := h.gh r g hg
    refine ⟨g1, (hd.gh r g hg).2.1, g3.turn hg (fun _ _ _ => rfl) fun c sz u k2 k3 k4 => ⟨?_, k3, fun i ki p q hi => k4 i ki p q (conv i ki hi).2⟩⟩
    simp only [Cx.ice]
    rw [if_neg]
    · exact k2
    · rintro rfl
      exact k4 id k _ _ hk h1
  · intro c hc
    obtain ⟨o1, o2, o3⟩ := h.old c hc
    simp only [Cx.ice]
    rw [if_neg (fun e => by subst e; exact o3 _ _ _ h1)]
    exact ⟨o1, o2, o3⟩
  · intro c u hc
    simp only [Cx.ice] at hc
    split at hc
    · cases hc; subst_vars; exact h3
    · exact h.phi c u hc
  · intro i ki hi
    obtain ⟨hne, hi'⟩ := conv i ki hi
    obtain ⟨c, p, q, u, m1, m2, m3, m4⟩ := h.live i ki hi'
    have hcb : c ≠ b := fun e => by subst e; exact hne (h.inj i id ki k c p q base size hi' hk m1 h1)
    exact ⟨c, p, q, u, m1, by simp only [Cx.ice]; rw [if_neg hcb]; exact m2, m3, m4.mono hle⟩

/-! ### names that are set apart -/
def W0.res (w0 : W0) (r : Nat) : W0 := { w0 with gh := fun i => if i = r then some none else w0.gh i }
def W0.opn (w0 : W0) (r b size : Nat) (o : Obj) : W0 := { w0 with gh := fun i => if i = r then some (some (b, size, o)) else w0.gh i }

/-- A name is set apart. -/
theorem R.reserve (h : R X s w0 w) : R X ⟨s.h, s.n + 1⟩ (w0.res s.n) w := by
  have hf := h.fresh s.n (Nat.le_refl _)
  refine ⟨h.os, h.tape, h.output, h.size, h.old, h.phi, h.live, h.inj, fun i hi => h.fresh i (Nat.le_of_succ_le hi), fun r g hg => ?_⟩
  simp only [W0.res] at hg
  split at hg
  · rename_i e
    cases hg; subst e
    exact ⟨Nat.lt_succ_self _, hf.2, hf.1⟩
  · rename_i e
    obtain ⟨g1, g2, g3⟩ := h.gh r g hg
    refine ⟨Nat.lt_succ_of_lt g1, g2, ?_⟩
    cases g with
    | none => exact g3
    | some t =>
      obtain ⟨b, size, o⟩ := t
      obtain ⟨k1, k2, k3, k4, k5⟩ := g3
      refine ⟨k1, k2, k3, k4, fun r' g' hne hg' p q => ?_⟩
      simp only [W0.res] at hg'
      split at hg'
      · rename_i e'
        subst e'
        rw [hf.1]; intro hc; cases hc
      · exact k5 r' g' hne hg' p q

/-- A block bears it. -/
theorem R.bear {r : Nat} (h : R X s (w0.res r) w) (o : Obj) (size : Nat) : X.Le (X.name r (w.heap.size, 0, size)) ∧ R (X.name r (w.heap.size, 0, size)) s (w0.opn r w.heap.size size o) (w.alloc o) := by
  obtain ⟨r1, r2, r3⟩ := h.gh r none (by simp [W0.res])
  have r3 : X.mu r = none := r3
  have hle : X.Le (X.name r (w.heap.size, 0, size)) := Cx.le_name r3
  have hs0 : w0.heap.size ≤ w.heap.size := h.size
  refine ⟨hle, h.os, h.tape, h.output, ?_, ?_, ?_, ?_, ?_, ?_, ?_⟩
  · show w0.heap.size ≤ _
    simp; omega
  · intro b hb
    have hb : b < w0.heap.size := hb
    obtain ⟨o1, o2, o3⟩ := h.old b hb
    refine ⟨o1, by rw [heap_alloc_old w o (by omega)]; exact o2, fun id p q => ?_⟩
    simp only [Cx.name]
    split
    · intro hc; cases hc; omega
    · exact o3 id p q
  · intro b u hb
    have hlt := h.phi_lt hb
    rw [heap_alloc_old w o hlt]; exact h.phi b u hb
  · intro id k hk
    have hne : id ≠ r := fun e => by subst e; rw [r2] at hk; cases hk
    obtain ⟨b, base, sz, u, h1, h2, h3, h4⟩ := h.live id k hk
    refine ⟨b, base, sz, u, by simp only [Cx.name]; rw [if_neg hne]; exact h1, h2, ?_, h4.mono hle⟩
    rw [heap_alloc_old w o (Array.getElem?_eq_some_iff.1 h3).1]; exact h3
  · intro i j ki kj b p q p' q' hi hj mi mj
    have hni : i ≠ r := fun e => by subst e; rw [r2] at hi; cases hi
    have hnj : j ≠ r := fun e => by subst e; rw [r2] at hj; cases hj
    simp only [Cx.name] at mi mj
    rw [if_neg hni] at mi
    rw [if_neg hnj] at mj
    exact h.inj i j ki kj b p q p' q' hi hj mi mj
  · intro id hid
    have hne : id ≠ r := fun e => by subst e; omega
    have h1 := h.fresh id hid
    exact ⟨by simp only [Cx.name]; rw [if_neg hne]; exact h1.1, h1.2⟩
  · intro r' g hg
    simp only [W0.opn] at hg
    split at hg
    · rename_i e
      cases hg; subst e
      refine ⟨r1, r2, by simp [Cx.name], h.phi_none, heap_alloc_new w o, ?_, ?_⟩
      · intro id k p q hk
        have hne : id ≠ r' := fun e => by subst e; rw [r2] at hk; cases hk
        simp only [Cx.name]
        rw [if_neg hne]
        intro hc
        exact absurd (h.live_lt hk hc) (Nat.lt_irrefl _)
      · intro r2' g' hne hg' p q
        simp only [W0.opn] at hg'
        rw [if_neg hne] at hg'
        simp only [Cx.name]
        rw [if_neg hne]
        obtain ⟨_, _, g3⟩ := h.gh r2' g' (by simp only [W0.res]; rw [if_neg hne]; exact hg')
        cases g' with
        | none => have g3 : X.mu r2' = none := g3; rw [g3]; intro hc; cases hc
        | some t =>
          obtain ⟨b, sz, u⟩ := t
          obtain ⟨k1, k2, k3, _⟩ := g3
          rw [k1]
          intro hc; cases hc
          exact absurd (Array.getElem?_eq_some_iff.1 k3).1 (Nat.lt_irrefl _)
    · rename_i e
      obtain ⟨g1, g2, g3⟩ := h.gh r' g (by simp only [W0.res]; rw [if_neg e]; exact hg)
      refine ⟨g1, g2, ?_⟩
      cases g with
      | none => show (X.name r _).mu r' = none; simp only [Cx.name]; rw [if_neg e]; exact g3
      | some t =>
        obtain ⟨b, sz, u⟩ := t
        obtain ⟨k1, k2, k3, k4, k5⟩ := g3
        have hlt : b < w.heap.size := (Array.getElem?_eq_some_iff.1 k3).1
        refine ⟨by simp only [Cx.name]; rw [if_neg e]; exact k1, k2, by rw [heap_alloc_old w o hlt]; exact k3, fun id k p q hk => ?_, fun r2' g' hne hg' p q => ?_⟩
        · have hne : id ≠ r := fun e => by subst e; rw [r2] at hk; cases hk
          simp only [Cx.name]; rw [if_neg hne]; exact k4 id k p q hk
        · simp only [Cx.name]
          split
          · intro hc; cases hc; exact absurd hlt (Nat.lt_irrefl _)
          · rename_i e2
            simp only [W0.opn] at hg'
            rw [if_neg e2] at hg'
            exact k5 r2' g' hne (by simp only [W0.res]; rw [if_neg e2]; exact hg') p q

/-- It is told of from here on. -/
theorem R.tell {r b size : Nat} {o : Obj} {k : Blk} (h : R X s (w0.opn r b size o) w) (hr : w0.gh r = none) (hB : B X 0 size k o) : R X ⟨s.h.put r k, s.n⟩ w0 w := by
  obtain ⟨r1, r2, r3, r4, r5, r6, r7⟩ := h.gh r (some (b, size, o)) (by simp [W0.opn])
  refine ⟨h.os, h.tape, h.output, h.size, h.old, h.phi, ?_, ?_, ?_, ?_⟩
  · intro id k' hk'
    simp only [Heap.put] at hk'
    split at hk'
    · rename_i e
      cases hk'; subst e
      exact ⟨b, 0, size, o, r3, r4, r5, hB⟩
    · exact h.live id k' hk'
  · intro i j ki kj c p q p' q' hi hj mi mj
    simp only [Heap.put] at hi hj
    split at hi <;> split at hj
    · subst_vars; rfl
    · rename_i e1 e2
      subst e1
      rw [r3] at mi; cases mi
      exact absurd mj (r6 j kj _ _ hj)
    · rename_i e1 e2
      subst e2
      rw [r3] at mj; cases mj
      exact absurd mi (r6 i ki _ _ hi)
    · exact h.inj i j ki kj c p q p' q' hi hj mi mj
  · intro id hid
    have h1 := h.fresh id hid
    refine ⟨h1.1, ?_⟩
    have hid' : s.n ≤ id := hid
    simp only [Heap.put]
    rw [if_neg (by omega)]
    exact h1.2
  · intro r' g hg
    have hne : r' ≠ r := fun e => by subst e; rw [hr] at hg; cases hg
    obtain ⟨g1, g2, g3⟩ := h.gh r' g (by simp only [W0.opn]; rw [if_neg hne]; exact hg)
    refine ⟨g1, by simp only [Heap.put]; rw [if_neg hne]; exact g2, ?_⟩
    cases g with
    | none => exact g3
    | some t =>
      obtain ⟨b', sz, u⟩ := t
      obtain ⟨k1, k2, k3, k4, k5⟩ := g3
      refine ⟨k1, k2, k3, fun id k' p q hk' => ?_, fun r2' g' hne' hg' p q => ?_⟩
      · simp only [Heap.put] at hk'
        split at hk'
        · rename_i e; subst e
          exact k5 _ _ (Ne.symm hne) (by simp [W0.opn]; rfl) p q
        · exact k4 id k' p q hk'
      · have hne2 : r2' ≠ r := fun e => by subst e; rw [hr] at hg'; cases hg'
        exact k5 r2' g' hne' (by simp only [W0.opn]; rw [if_neg hne2]; exact hg') p q

/-- Nothing is set apart any more. -/
theorem R.forget {g : Nat → Option (Option (Nat × Nat × Obj))} (h : R X s { w0 with gh := g } w) (hg : ∀ r x, w0.gh r = some x → g r = some x) : R X s w0 w := by
  refine ⟨h.os, h.tape, h.output, h.size, h.old, h.phi, h.live, h.inj, h.fresh, fun r x hx => ?_⟩
  obtain ⟨g1, g2, g3⟩ := h.gh r x (hg r x hx)
  refine ⟨g1, g2, ?_⟩
  cases x with
  | none => exact g3
  | some t =>
    obtain ⟨b, sz, u⟩ := t
    obtain ⟨k1, k2, k3, k4, k5⟩ := g3
    exact ⟨k1, k2, k3, k4, fun r' g' hne hg' => k5 r' g' hne (hg r' g' hg')⟩

theorem R.gh_free (h : R X s w0 w) {r : Nat} (hr : s.n ≤ r) : w0.gh r = none := by
  cases hg : w0.gh r with
  | none => rfl
  | some g => have := (h.gh r g hg).1; omega

end

/-- Cells of a list are shown by an array, from a place on. -/
theorem cells_get {X : Cx} {cs : List AV} {c : Array Value} {o : Nat} (hc : ∀ (i : Nat) x, cs[i]? = some x → ∃ y, c[o + i]? = some y ∧ V X x y) {off n : Nat} (hn : off + n ≤ cs.length) :
    ∃ ys : List Value, ys.length = n ∧ VL X ((cs.drop off).take n) ys ∧ ∀ j, j < n → c[o + off + j]? = some (ys.getD j undef) := by
  refine ⟨(List.range n).map fun j => (c[o + off + j]?).getD undef, by simp, ⟨by simp; omega, ?_⟩, ?_⟩
  · intro i x y hx hy
    rw [List.getElem?_take] at hx
    split at hx
    · rename_i hi
      rw [List.getElem?_drop] at hx
      obtain ⟨u, hu, hv⟩ := hc _ _ hx
      simp only [List.getElem?_map, List.getElem?_range hi, Option.map_some, Option.some.injEq] at hy
      rw [← Nat.add_assoc] at hu
      subst hy
      simpa [hu] using hv
    · cases hx
  · intro j hj
    have hlt : off + j < cs.length := by omega
    obtain ⟨u, hu, _⟩ := hc (off + j) _ (List.getElem?_eq_getElem hlt)
    rw [← Nat.add_assoc] at hu
    simp [List.getD, hj, hu]

end Go.Ev
