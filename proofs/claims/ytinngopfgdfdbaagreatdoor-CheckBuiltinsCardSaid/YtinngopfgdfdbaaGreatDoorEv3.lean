/- Abstract operations on memory, and that the model's do the same. -/
import Derived.Test.YtinngopfgdfdbaaGreatDoorEv2
set_option linter.unusedVariables false
set_option linter.unusedSimpArgs false
namespace Go.Ev

def agg? (P : Program) (t : TypeId) : Option Bool :=
  match P.underlying t with
  | some (.struct _) => some true
  | some (.array _ _) => some true
  | some _ => some false
  | none => none
def size? (P : Program) (t : TypeId) : Option Nat := (P.info? t).map (·.size)
def bytes? (P : Program) (t : TypeId) : Option Nat := (P.info? t).map (·.bytes)
def zero? (P : Program) (t : TypeId) : Option AV := ((P.info? t).bind (·.zero)).bind ofV

section
variable {P : Program} (w : World)
theorem run_agg {t : TypeId} {b : Bool} (h : agg? P t = some b) : (isAgg t).run P w = .ok b w := by
  unfold agg? at h
  unfold isAgg
  rw [Sem.run_bind]
  split at h
  · rename_i f hu; rw [run_underlying hu]; simp_all
  · rename_i f hu; rw [run_underlying hu]; simp_all
  · rename_i d h1 h2 hu
    rw [run_underlying hu]
    cases h
    cases d <;> simp_all
  · cases h
theorem run_size {t : TypeId} {n : Nat} (h : size? P t = some n) : (sizeOf t).run P w = .ok n w := by
  unfold size? at h
  simp at h
  obtain ⟨i, hi, rfl⟩ := h
  simp [sizeOf, typeInfo, hi]
theorem run_zero {X : Cx} {t : TypeId} {x : AV} (h : zero? P t = some x) : ∃ y, (zeroValue t).run P w = .ok y w ∧ V X x y := by
  unfold zero? at h
  cases hi : P.info? t with
  | none => simp [hi] at h
  | some i =>
    cases hz : i.zero with
    | none => simp [hi, hz] at h
    | some y =>
      simp [hi, hz] at h
      exact ⟨y, by simp [zeroValue, typeInfo, hi, hz], ofV_sound h⟩
theorem zero_one {t : TypeId} {x : AV} (h : zero? P t = some x) : ∀ c ∈ x.cells, c.one = true := by
  obtain ⟨y, _, hv⟩ := run_zero (X := ⟨fun _ => none, fun _ => none⟩) default h
  refine hv.cells_one ?_
  unfold zero? at h
  cases x with
  | tup cs =>
    exfalso
    obtain ⟨i, _, h2⟩ := Option.bind_eq_some_iff.1 h
    unfold ofV at h2
    split at h2
    · simp at h2
    · have := ofV0_one h2; simp [AV.one] at this
  | pan v => exact absurd hv.isPan (by simp [AV.isPan])
  | _ => rfl
end

/-! ### reading -/
def loadC (P : Program) (t : TypeId) (cs : List AV) (off : Nat) : Option AV :=
  match agg? P t with
  | some true => match size? P t with
    | some n => if off + n ≤ cs.length then some (.agg ((cs.drop off).take n)) else none
    | none => none
  | some false => cs[off]?
  | none => none

def evLoad (P : Program) (h : Heap) (t : TypeId) (p : AV) : Option AV :=
  match p with
  | .ptr id off => match h id with
    | some (.cells cs) => loadC P t cs off
    | _ => none
  | .fptr cs => loadC P t cs 0
  | _ => none

theorem cell_heap {w : World} {b : Nat} {c : Array Value} {e : TypeId} {fr : Nat × Nat} (h : w.heap[b]? = some (.cells c e fr)) (i : Nat) : w.cell? ⟨b, i, none⟩ = c[i]? := by
  simp [World.cell?, h]

section
variable {P : Program} {X : Cx} {s : HS} {w0 : W0} {w : World}

theorem loadC_sound {t : TypeId} {cs : List AV} {off b o : Nat} {c : Array Value} {e : TypeId} {fr : Nat × Nat} {x : AV} (hw : w.heap[b]? = some (.cells c e fr))
    (hc : ∀ (i : Nat) x, cs[i]? = some x → ∃ y, c[o + i]? = some y ∧ V X x y) (h1 : ∀ x ∈ cs, x.one = true) (h : loadC P t cs off = some x) :
    ∃ y, (loadVar t ⟨b, o + off, none⟩).run P w = .ok y w ∧ V X x y ∧ x.st = true := by
  unfold loadC at h
  split at h
  · rename_i ha
    split at h
    · rename_i n hn
      split at h
      · rename_i hle
        cases h
        obtain ⟨ys, hl, hv, hy⟩ := cells_get hc hle
        refine ⟨.agg ys.toArray, ?_, V.aggL hv (fun x hx => h1 x (List.mem_of_mem_drop (List.mem_of_mem_take hx))), rfl⟩
        have hr := run_loadCells (P := P) w ⟨b, o + off, none⟩ n (fun j => ys.getD j undef) (fun j hj => by
          rw [Addr.add_lit, cell_heap hw]; exact hy j hj)
        have he : (List.range n).map (fun j => ys.getD j undef) = ys := by
          apply List.ext_getElem?
          intro j
          by_cases hj : j < n
          · have : j < ys.length := by omega
            simp [hj, this, List.getD]
          · have : ys.length ≤ j := by omega
            simp [hj, this]
        rw [he] at hr
        simp [loadVar, run_agg w ha, run_size w hn, hr]
      · cases h
    · cases h
  · rename_i ha
    obtain ⟨y, hy, hv⟩ := hc off x h
    refine ⟨y, ?_, hv, ?_⟩
    · simp [loadVar, run_agg w ha, cell_heap hw, hy]
    · have := h1 x (List.mem_of_getElem? h)
      cases x <;> simp_all [AV.one, AV.st]
  · cases h

theorem fptr_cells {cells : List AV} {c : Array Value} {o : Nat} {g : Nat → Value} (hc : ∀ i, i < cells.length → c[o + i]? = some (g i)) (hv : ∀ (i : Nat) x, cells[i]? = some x → V X x (g i)) :
    ∀ (i : Nat) x, cells[i]? = some x → ∃ y, c[o + i]? = some y ∧ V X x y :=
  fun i x hx => ⟨g i, hc i (List.getElem?_eq_some_iff.1 hx).1, hv i x hx⟩

theorem evLoad_sound (hR : R X s w0 w) {t : TypeId} {p x : AV} {pv : Value} (hp : V X p pv) (h : evLoad P s.h t p = some x) :
    ∃ y, (Instr.loadAt t pv).run P w = .ok y w ∧ V X x y ∧ x.st = true := by
  unfold evLoad at h
  split at h
  · rename_i id off
    split at h
    · rename_i cs hk
      cases hp with
      | ptr hm =>
        obtain ⟨b, base, size, o, h1, h2, h3, h4⟩ := hR.live id _ hk
        rw [hm] at h1; cases h1
        cases h4 with
        | cells hsz hfr hfit hc h1 =>
          obtain ⟨y, hy, hv⟩ := loadC_sound (P := P) h3 hc h1 h
          exact ⟨y, by simpa [Instr.loadAt, Instr.sureAddr] using hy, hv⟩
    · cases h
  · rename_i cs
    cases hp with
    | fptr g hb hc hv h1 =>
      obtain ⟨y, hy, hv⟩ := loadC_sound (P := P) (hR.phi _ _ hb) (fptr_cells hc hv) h1 h
      exact ⟨y, by simpa [Instr.loadAt, Instr.sureAddr] using hy, hv⟩
  · cases h

/-! ### writing -/
def putC (cs : List AV) (off : Nat) : List AV → List AV
  | [] => cs
  | v :: vs => putC (cs.set off v) (off + 1) vs

theorem putC_length (vs : List AV) : ∀ (cs : List AV) (off : Nat), (putC cs off vs).length = cs.length := by
  induction vs with
  | nil => intro cs off; rfl
  | cons v vs ih => intro cs off; simp [putC, ih]

theorem setCell_heap {w : World} {b i : Nat} {c : Array Value} {e : TypeId} {fr : Nat × Nat} (h : w.heap[b]? = some (.cells c e fr)) (v : Value) :
    (w.setCell ⟨b, i, none⟩ v).heap[b]? = some (.cells (c.setIfInBounds i v) e fr) := by
  simp [World.setCell, Array.getElem?_modify, h]

theorem setCell_heap_ne {w : World} {b i j : Nat} (v : Value) (h : j ≠ b) : (w.setCell ⟨b, i, none⟩ v).heap[j]? = w.heap[j]? := by
  simp only [World.setCell, Array.getElem?_modify]
  rw [if_neg (fun e => h e.symm)]

/-- One cell of a live block. (The cell may lie behind those that are told of: 'grow'.) -/
theorem store_one (hR : R X s w0 w) {id : Nat} {cs cs' : List AV} (hk : s.h id = some (.cells cs)) {b base size : Nat} (hm : X.mu id = some (b, base, size)) {off : Nat} {x : AV} {y : Value}
    (hv : V X x y) (h1 : x.one = true) (hoff : base + off < size) (hcs : (off < cs.length ∧ cs' = cs.set off x) ∨ (off = cs.length ∧ cs' = cs ++ [x])) :
    ∃ w', (store ⟨b, base + off, none⟩ y).run P w = .ok () w' ∧ R X ⟨s.h.put id (.cells cs'), s.n⟩ w0 w' := by
  obtain ⟨b', base', size', o, m1, m2, m3, m4⟩ := hR.live id _ hk
  rw [hm] at m1; cases m1
  cases m4 with
  | @cells _ c e fr hsz hfr hfit hc hone =>
    have hlt : base + off < c.size := by omega
    have hcell : w.cell? ⟨b, base + off, none⟩ = some c[base + off] := by rw [cell_heap m3, Array.getElem?_eq_getElem hlt]
    have hfz : w.frozen? ⟨b, base + off, none⟩ = false := by
      have := hfr (base + off) hoff
      cases fr
      simp [World.frozen?, m3]
      omega
    refine ⟨w.setCell ⟨b, base + off, none⟩ y, ?_, ?_⟩
    · rw [run_store P w _ y _ (hv.one_cell h1), hcell]; simp [hfz]
    · refine hR.turn hk hm (o' := .cells (c.setIfInBounds (base + off) y) e fr) ?_ rfl rfl rfl (by simp) (setCell_heap m3 y) (fun j hj => setCell_heap_ne y hj)
      refine .cells (by simpa using hsz) hfr ?_ ?_ ?_
      · rcases hcs with ⟨hl, rfl⟩ | ⟨hl, rfl⟩ <;> simp <;> omega
      · intro i u hu
        by_cases hi : i = off
        · subst hi
          refine ⟨y, by simp [hlt], ?_⟩
          rcases hcs with ⟨hl, rfl⟩ | ⟨hl, rfl⟩
          · simp [hl] at hu; subst hu; exact hv
          · subst hl; simp at hu; subst hu; exact hv
        · have hu' : cs[i]? = some u := by
            rcases hcs with ⟨hl, rfl⟩ | ⟨hl, rfl⟩
            · rw [List.getElem?_set_ne (fun e => hi e.symm)] at hu; exact hu
            · rcases Nat.lt_or_ge i cs.length with hl' | hl'
              · rw [List.getElem?_append_left hl'] at hu; exact hu
              · rw [List.getElem?_append_right hl'] at hu
                have hne : i - cs.length ≠ 0 := by omega
                cases hh : i - cs.length with
                | zero => exact absurd hh hne
                | succ n => rw [hh] at hu; simp at hu
          obtain ⟨v, hcv, hvv⟩ := hc i u hu'
          refine ⟨v, ?_, hvv⟩
          rw [Array.getElem?_setIfInBounds_ne (by omega)]
          exact hcv
      · intro u hu
        rcases hcs with ⟨hl, rfl⟩ | ⟨hl, rfl⟩
        · rcases List.mem_or_eq_of_mem_set hu with h | h
          · exact hone u h
          · subst h; exact h1
        · rcases List.mem_append.1 hu with h | h
          · exact hone u h
          · simp at h; subst h; exact h1

theorem store_cells (vs : List AV) : ∀ {s : HS} {w : World} (hR : R X s w0 w) {id : Nat} {cs : List AV} (hk : s.h id = some (.cells cs)) {b base size : Nat} (hm : X.mu id = some (b, base, size)) {off i : Nat}
    {ys : List Value} (hv : VL X vs ys) (h1 : ∀ x ∈ vs, x.one = true) (hle : off + i + vs.length ≤ cs.length),
    ∃ w', (storeCells ⟨b, base + off, none⟩ ys i).run P w = .ok () w' ∧ R X ⟨s.h.put id (.cells (putC cs (off + i) vs)), s.n⟩ w0 w' := by
  induction vs with
  | nil =>
    intro s w hR id cs hk b base size hm off i ys hv h1 hle
    have : ys = [] := List.eq_nil_of_length_eq_zero (by have := hv.len; simpa using this.symm)
    subst this
    refine ⟨w, by simp [storeCells], ?_⟩
    have he : s.h.put id (.cells cs) = s.h := by funext j; simp only [Heap.put]; split <;> simp_all
    simp only [putC]
    rw [he]; exact hR
  | cons v vs ih =>
    intro s w hR id cs hk b base size hm off i ys hv h1 hle
    cases ys with
    | nil => have := hv.len; simp at this
    | cons y ys =>
      simp only [List.length_cons] at hle
      obtain ⟨b', base', size', o, m1, m2, m3, m4⟩ := hR.live id _ hk
      rw [hm] at m1; cases m1
      have hfit : base + cs.length ≤ size := by cases m4; assumption
      obtain ⟨w1, hr1, hR1⟩ := store_one (P := P) hR hk hm (off := off + i) hv.head (h1 v (.head _)) (by omega) (.inl ⟨by omega, rfl⟩)
      obtain ⟨w2, hr2, hR2⟩ := ih hR1 (id := id) (cs := cs.set (off + i) v) (Heap.put_same _ _ _) hm (off := off) (i := i + 1) hv.tail (fun x hx => h1 x (.tail _ hx)) (by simp; omega)
      refine ⟨w2, ?_, ?_⟩
      · simp only [storeCells, Sem.run_bind, Addr.add_lit]
        rw [show base + off + i = base + (off + i) by omega, hr1]
        simpa using hr2
      · have he : (s.h.put id (.cells (cs.set (off + i) v))).put id (.cells (putC (cs.set (off + i) v) (off + (i + 1)) vs)) = s.h.put id (.cells (putC cs (off + i) (v :: vs))) := by
          funext j; simp only [Heap.put, putC]; split <;> rfl
        have hR3 : R X ⟨(s.h.put id (.cells (cs.set (off + i) v))).put id (.cells (putC (cs.set (off + i) v) (off + (i + 1)) vs)), s.n⟩ w0 w2 := hR2
        rw [he] at hR3
        exact hR3

def evStore (P : Program) (s : HS) (t : TypeId) (p v : AV) : Option HS :=
  match p with
  | .ptr id off => match s.h id with
    | some (.cells cs) =>
      if size? P t = some v.cells.length ∧ v.st = true ∧ off + v.cells.length ≤ cs.length then some ⟨s.h.put id (.cells (putC cs off v.cells)), s.n⟩ else none
    | _ => none
  | _ => none

theorem evStore_sound (hR : R X s w0 w) {t : TypeId} {p v : AV} {pv vv : Value} (hp : V X p pv) (hv : V X v vv) {s' : HS} (h : evStore P s t p v = some s') :
    ∃ w', (Instr.storeAt t pv vv).run P w = .ok () w' ∧ R X s' w0 w' := by
  unfold evStore at h
  split at h
  · rename_i id off
    split at h
    · rename_i cs hk
      split at h
      · rename_i hcond
        obtain ⟨hs, hst, hle⟩ := hcond
        cases h
        cases hp with
        | ptr hm =>
          have hl := hv.cellsL
          obtain ⟨w', hr, hR'⟩ := store_cells (P := P) v.cells hR hk hm (off := off) (i := 0) hl (hv.cells_one hst) (by simpa using hle)
          refine ⟨w', ?_, by simpa using hR'⟩
          have hsz : vv.cells.size = v.cells.length := by have := hl.len; simpa using this.symm
          simp [Instr.storeAt, Instr.sureAddr, storeVar, run_size w hs, hsz, hr]
      · cases h
    · cases h
  · cases h

/-! ### new blocks -/
theorem B.fresh_cells {Y : Cx} {xs : List AV} {ys : List Value} (h : VL Y xs ys) (h1 : ∀ x ∈ xs, x.one = true) (e : TypeId) : B Y 0 ys.length (.cells xs) (.cells ys.toArray e) :=
  .cells (by simp) (by intro i _; simp) (by simp [h.len]) (fun i x hx => by
    obtain ⟨y, hy, hv⟩ := h.get hx
    exact ⟨y, by simpa using hy, hv⟩) h1

theorem newVar_sound (hR : R X s w0 w) {t : TypeId} {x : AV} {y : Value} (hv : V X x y) (hst : x.st = true) :
    ∃ Y w', X.Le Y ∧ (newVar t y).run P w = .ok ⟨w.heap.size, 0, none⟩ w' ∧ V Y (.ptr s.n 0) (.pointer (some ⟨w.heap.size, 0, none⟩)) ∧ R Y ⟨s.h.put s.n (.cells x.cells), s.n + 1⟩ w0 w' := by
  have hl := hv.cellsL
  have h1 := hv.cells_one hst
  have hle : X.Le (X.name s.n (w.heap.size, 0, y.cells.toList.length)) := Cx.le_name (hR.fresh s.n (Nat.le_refl _)).1
  refine ⟨X.name s.n (w.heap.size, 0, y.cells.toList.length), w.alloc (.cells y.cells t), hle, by simp [newVar, newRow], ?_, ?_⟩
  · have := V.ptr (X := X.name s.n (w.heap.size, 0, y.cells.toList.length)) (id := s.n) (off := 0) (b := w.heap.size) (base := 0) (size := y.cells.toList.length) (by simp [Cx.name])
    simpa using this
  · refine hR.alloc (size := y.cells.toList.length) (fun Y hY => ?_)
    have := B.fresh_cells (hl.mono hY) h1 t
    simpa using this

theorem newVar_ice (hR : R X s w0 w) {t : TypeId} {x : AV} {y : Value} (hv : V X x y) (hst : x.st = true) :
    ∃ Y w', X.Le Y ∧ (newVar t y).run P w = .ok ⟨w.heap.size, 0, none⟩ w' ∧ V Y (.fptr x.cells) (.pointer (some ⟨w.heap.size, 0, none⟩)) ∧ R Y s w0 w' := by
  have hl := hv.cellsL
  have h1 := hv.cells_one hst
  have hle : X.Le (X.ice w.heap.size (.cells y.cells t)) := Cx.le_ice (.inl hR.phi_none)
  refine ⟨X.ice w.heap.size (.cells y.cells t), w.alloc (.cells y.cells t), hle, by simp [newVar, newRow], ?_, hR.allocIce _⟩
  refine .fptr (fun i => (y.cells[i]?).getD undef) (c := y.cells) (e := t) (fr := (0, 0)) (by simp [Cx.ice]) ?_ ?_ h1
  · intro i hi
    have : i < y.cells.size := by have := hl.len; simp at this; omega
    simp [this]
  · intro i u hu
    obtain ⟨v, hv1, hv2⟩ := hl.get hu
    have : y.cells[i]? = some v := by simpa using hv1
    simpa [this] using hv2.mono hle

def evNew (fz : Bool) (s : HS) (x : AV) : AV × HS := if fz then (.fptr x.cells, s) else (.ptr s.n 0, ⟨s.h.put s.n (.cells x.cells), s.n + 1⟩)

theorem evNew_sound (hR : R X s w0 w) {fz : Bool} {t : TypeId} {x : AV} {y : Value} (hv : V X x y) (hst : x.st = true) :
    ∃ Y w', X.Le Y ∧ (newVar t y).run P w = .ok ⟨w.heap.size, 0, none⟩ w' ∧ V Y (evNew fz s x).1 (.pointer (some ⟨w.heap.size, 0, none⟩)) ∧ R Y (evNew fz s x).2 w0 w' := by
  cases fz with
  | true => exact newVar_ice hR hv hst
  | false => exact newVar_sound hR hv hst

end
end Go.Ev
