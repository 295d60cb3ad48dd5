/- Abstract operations: literals, slices, append, maps. -/
import Derived.Test.YtinngopfgdfdbaaGreatDoorEv3
set_option linter.unusedVariables false
set_option linter.unusedSimpArgs false
namespace Go.Ev

/-- Parts, one by one. -/
structure PL (X : Cx) (ps : List (Nat × AV)) (qs : List (Nat × Value)) : Prop where
  len : ps.length = qs.length
  at_ : ∀ (i : Nat) p q, ps[i]? = some p → qs[i]? = some q → p.1 = q.1 ∧ V X p.2 q.2

theorem PL.head {X : Cx} {p : Nat × AV} {q : Nat × Value} {ps : List (Nat × AV)} {qs : List (Nat × Value)} (h : PL X (p :: ps) (q :: qs)) : p.1 = q.1 ∧ V X p.2 q.2 := h.at_ 0 p q rfl rfl
theorem PL.tail {X : Cx} {p : Nat × AV} {q : Nat × Value} {ps : List (Nat × AV)} {qs : List (Nat × Value)} (h : PL X (p :: ps) (q :: qs)) : PL X ps qs :=
  ⟨by have := h.len; simpa using this, fun i u v hu hv => h.at_ (i + 1) u v (by simpa using hu) (by simpa using hv)⟩

def fillA (place : Nat → Option (Nat × Nat)) (cs : List AV) : List (Nat × AV) → Option (List AV)
  | [] => some cs
  | (i, v) :: rest => match place i with
    | none => none
    | some (off, size) => if v.cells.length = size ∧ off + v.cells.length ≤ cs.length ∧ v.st = true then fillA place (putC cs off v.cells) rest else none

theorem fold_put {X : Cx} (off : Nat) : ∀ (vs : List AV) (ys : List Value) (k : Nat) (cs : List AV) (arr : Array Value), VL X vs ys → VL X cs arr.toList →
    VL X (putC cs (off + k) vs) ((ys.zipIdx k).foldl (fun (cs : Array Value) (p : Value × Nat) => cs.setIfInBounds (off + p.2) p.1) arr).toList
  | [], ys, k, cs, arr, hv, hc => by
    have : ys = [] := List.eq_nil_of_length_eq_zero (by have := hv.len; simpa using this.symm)
    subst this
    simpa [putC] using hc
  | v :: vs, [], k, cs, arr, hv, hc => by have := hv.len; simp at this
  | v :: vs, y :: ys, k, cs, arr, hv, hc => by
    have h := fold_put off vs ys (k + 1) (cs.set (off + k) v) (arr.setIfInBounds (off + k) y) hv.tail (by
      have := hc.set (off + k) hv.head
      simpa using this)
    simpa [putC, List.zipIdx_cons, Nat.add_assoc] using h

theorem putC_one : ∀ (vs : List AV) (cs : List AV) (off : Nat), (∀ x ∈ vs, x.one = true) → (∀ x ∈ cs, x.one = true) → ∀ x ∈ putC cs off vs, x.one = true
  | [], cs, off, _, hc => hc
  | v :: vs, cs, off, hv, hc => putC_one vs _ _ (fun x hx => hv x (.tail _ hx)) (fun x hx => by
    rcases List.mem_or_eq_of_mem_set hx with h | h
    · exact hc x h
    · subst h; exact hv x (.head _))

theorem fillA_sound {X : Cx} {place : Nat → Option (Nat × Nat)} : ∀ {ps : List (Nat × AV)} {qs : List (Nat × Value)} {cs xs : List AV} {arr : Array Value}, PL X ps qs → VL X cs arr.toList → (∀ x ∈ cs, x.one = true) →
    fillA place cs ps = some xs → ∃ out, Instr.fill place arr qs = some out ∧ VL X xs out.toList ∧ ∀ x ∈ xs, x.one = true
  | [], qs, cs, xs, arr, hp, hc, h1, h => by
    have : qs = [] := List.eq_nil_of_length_eq_zero (by have := hp.len; simpa using this.symm)
    subst this
    simp [fillA] at h
    subst h
    exact ⟨arr, rfl, hc, h1⟩
  | (i, v) :: ps, [], cs, xs, arr, hp, hc, h1, h => by have := hp.len; simp at this
  | (i, v) :: ps, (j, y) :: qs, cs, xs, arr, hp, hc, h1, h => by
    obtain ⟨hij, hv⟩ := hp.head
    simp only at hij
    subst hij
    simp only [fillA] at h
    split at h
    · cases h
    · rename_i off size hpl
      split at h
      · rename_i hcond
        obtain ⟨hl, hle, hst⟩ := hcond
        have hvl := hv.cellsL
        have hsz : y.cells.size = v.cells.length := by have := hvl.len; simpa using this.symm
        have hca : arr.size = cs.length := by have := hc.len; simpa using this.symm
        have hf := fold_put (X := X) off v.cells y.cells.toList 0 cs arr hvl hc
        obtain ⟨out, ho, hx⟩ := fillA_sound hp.tail hf (putC_one v.cells cs _ (hv.cells_one hst) h1) (by simpa using h)
        refine ⟨out, ?_, hx⟩
        simp only [Instr.fill, hpl, hsz, hl, hca]
        rw [if_neg (by simp; omega)]
        rw [← ho]
        congr 1
        rw [← Array.foldl_toList]
        simp [Array.toList_zipIdx]
      · cases h

/-- A struct or an array, out of its parts. -/
def evBuild (P : Program) (t : TypeId) (ps : List (Nat × AV)) : Option AV :=
  match zero? P t, P.underlying t with
  | some z, some (.struct fields) => match fields.toList.mapM (fun f => (P.info? f.type).map fun i => (f.offset, i.size)) with
    | some places => (fillA (places[·]?) z.cells ps).map .agg
    | none => none
  | some z, some (.array _ e) => match size? P e with
    | some n => (fillA (fun i => some (i * n, n)) z.cells ps).map .agg
    | none => none
  | _, _ => none

theorem zero_info {P : Program} {t : TypeId} {z : AV} (h : zero? P t = some z) : ∃ i y, P.info? t = some i ∧ i.zero = some y ∧ ∀ X, V X z y := by
  unfold zero? at h
  cases hi : P.info? t with
  | none => simp [hi] at h
  | some i =>
    cases hz : i.zero with
    | none => simp [hi, hz] at h
    | some y =>
      simp [hi, hz] at h
      exact ⟨i, y, rfl, hz, fun X => ofV_sound h⟩

theorem evBuild_sound {P : Program} {X : Cx} (w : World) {t : TypeId} {ps : List (Nat × AV)} {qs : Array (Nat × Value)} {x : AV} (hp : PL X ps qs.toList) (h : evBuild P t ps = some x) :
    ∃ y, (Instr.build t qs).run P w = .ok y w ∧ V X x y := by
  unfold evBuild at h
  split at h
  · rename_i z fields hz hu
    split at h
    · rename_i places hpl
      simp at h
      obtain ⟨xs, hxs, rfl⟩ := h
      obtain ⟨i, y, hi, hy, hv⟩ := zero_info hz
      obtain ⟨out, ho, hxo, h1⟩ := fillA_sound hp (hv X).cellsL (zero_one hz) hxs
      refine ⟨.agg out, run_build w t qs out ?_, ?_⟩
      · simp only [Program.built, hi, hu, hy, hpl]
        simpa using ho
      · have := V.aggL hxo h1
        simpa using this
    · cases h
  · rename_i z n e hz hu
    split at h
    · rename_i m hm
      simp at h
      obtain ⟨xs, hxs, rfl⟩ := h
      obtain ⟨i, y, hi, hy, hv⟩ := zero_info hz
      obtain ⟨out, ho, hxo, h1⟩ := fillA_sound hp (hv X).cellsL (zero_one hz) hxs
      refine ⟨.agg out, run_build w t qs out ?_, ?_⟩
      · unfold size? at hm
        simp at hm
        obtain ⟨ie, hie, rfl⟩ := hm
        simp only [Program.built, hi, hu, hy, hie]
        exact ho
      · have := V.aggL hxo h1
        simpa using this
    · cases h
  · cases h

/-! ### slices out of their items -/
theorem fill_rows (size : Nat) : ∀ (vs : List Value) (k : Nat) (arr : Array Value) (pre rest : List Value), arr.toList = pre ++ rest → pre.length = k * size → rest.length = vs.length * size →
    (∀ v ∈ vs, v.cells.size = size) → Instr.fill (fun i => some (i * size, size)) arr ((vs.zipIdx k).map fun p => (p.2, p.1)) = some (pre ++ vs.flatMap (·.cells.toList)).toArray
  | [], k, arr, pre, rest, ha, hp, hr, hs => by
    have : rest = [] := List.eq_nil_of_length_eq_zero (by simpa using hr)
    subst this
    simp [Instr.fill]
    apply Array.ext'
    simpa using ha
  | v :: vs, k, arr, pre, rest, ha, hp, hr, hs => by
    have hv := hs v (.head _)
    have hal : arr.size = pre.length + rest.length := by
      have := congrArg List.length ha
      simpa using this
    have hrl : rest.length = size + vs.length * size := by simp only [List.length_cons, Nat.add_mul, Nat.one_mul] at hr; omega
    simp only [List.zipIdx_cons, List.map_cons, Instr.fill]
    rw [if_neg (by simp; omega)]
    have hfold : ∀ (ys : List Value) (j : Nat) (arr : Array Value) (pre rest : List Value), arr.toList = pre ++ rest → pre.length = k * size + j → ys.length ≤ rest.length →
        ((ys.zipIdx j).foldl (fun (cs : Array Value) (p : Value × Nat) => cs.setIfInBounds (k * size + p.2) p.1) arr).toList = pre ++ ys ++ rest.drop ys.length := by
      intro ys
      induction ys with
      | nil => intro j arr pre rest ha hp hl; simpa using ha
      | cons y ys ih =>
        intro j arr pre rest ha hp hl
        cases rest with
        | nil => simp at hl
        | cons r rest =>
          simp only [List.zipIdx_cons, List.foldl_cons]
          rw [ih (j + 1) (arr.setIfInBounds (k * size + j) y) (pre ++ [y]) rest ?_ (by simp; omega) (by simpa using hl)]
          · simp
          · rw [← hp]
            simp [ha]
    have h2 := fill_rows size vs (k + 1) (v.cells.zipIdx.foldl (fun (cs : Array Value) (x : Value × Nat) => cs.setIfInBounds (k * size + x.2) x.1) arr) (pre ++ v.cells.toList) (rest.drop size) ?_ (by simp; rw [hv, hp, Nat.add_mul, Nat.one_mul]) (by simp; omega) (fun u hu => hs u (.tail _ hu))
    · rw [h2]; simp
    · rw [← Array.foldl_toList, Array.toList_zipIdx]
      have h3 := hfold v.cells.toList 0 arr pre rest ha (by simpa using hp) (by simp; omega)
      rw [h3]
      simp [hv]

def evBuildSlice (P : Program) (fz : Bool) (s : HS) (t : TypeId) (len : Nat) (ps : List (Nat × AV)) : Option (AV × HS) :=
  match P.underlying t with
  | some (.slice e) => match size? P e with
    | some size =>
      if (0 < size ∧ len * size ≤ 16777216 ∧ ps.map (·.1) = List.range len ∧ (∀ p ∈ ps, p.2.cells.length = size ∧ p.2.st = true) ∧ ∃ z, zero? P e = some z ∧ z.cells.length = size) then
        some (if fz then (.fsl (ps.map (·.2.cells)), s) else (.sl s.n 0 len size, ⟨s.h.put s.n (.cells (ps.flatMap (·.2.cells))), s.n + 1⟩))
      else none
    | none => none
  | _ => none

theorem PL.values {X : Cx} {ps : List (Nat × AV)} {qs : List (Nat × Value)} (h : PL X ps qs) : VL X (ps.map (·.2)) (qs.map (·.2)) :=
  ⟨by simp [h.len], fun i x y hx hy => by
    simp only [List.getElem?_map, Option.map_eq_some_iff] at hx hy
    obtain ⟨p, hp, rfl⟩ := hx
    obtain ⟨q, hq, rfl⟩ := hy
    exact (h.at_ i p q hp hq).2⟩

theorem VL.flatCells {X : Cx} : ∀ {xs : List AV} {ys : List Value}, VL X xs ys → VL X (xs.flatMap (·.cells)) (ys.flatMap (·.cells.toList))
  | [], ys, h => by
    have : ys = [] := List.eq_nil_of_length_eq_zero (by have := h.len; simpa using this.symm)
    subst this
    exact .nil X
  | x :: xs, [], h => by have := h.len; simp at this
  | x :: xs, y :: ys, h => by
    simp only [List.flatMap_cons]
    exact h.head.cellsL.append h.tail.flatCells

theorem flat_at {size : Nat} : ∀ {rows : List (List Value)} (_ : ∀ r ∈ rows, r.length = size) {i j : Nat} {row : List Value} (_ : rows[i]? = some row) (_ : j < size), rows.flatten[i * size + j]? = row[j]?
  | [], hs, i, j, row, hr, hj => by simp at hr
  | r :: rows, hs, 0, j, row, hr, hj => by
    simp at hr
    subst hr
    have := hs r (.head _)
    simp [List.getElem?_append_left (show j < r.length by omega)]
  | r :: rows, hs, i + 1, j, row, hr, hj => by
    have h0 := hs r (.head _)
    simp at hr
    have ih := flat_at (fun r hr => hs r (.tail _ hr)) hr hj
    simp only [List.flatten_cons]
    rw [List.getElem?_append_right (by rw [h0, Nat.add_mul, Nat.one_mul]; omega), h0, ← ih]
    congr 1
    rw [Nat.add_mul, Nat.one_mul]
    omega

section
variable {P : Program} {X : Cx} {s : HS} {w0 : W0} {w : World}

theorem range_map_size {α : Type} (n : Nat) (f : Nat → α) : ((Array.range n).map f).size = n := by simp

theorem evBuildSlice_sound (hR : R X s w0 w) {fz : Bool} {t : TypeId} {len : Nat} {ps : List (Nat × AV)} {qs : Array (Nat × Value)} (hp : PL X ps qs.toList) {x : AV} {s' : HS} (h : evBuildSlice P fz s t len ps = some (x, s')) :
    ∃ Y y w', X.Le Y ∧ (Instr.buildSlice t len qs).run P w = .ok y w' ∧ V Y x y ∧ R Y s' w0 w' ∧ y = .slice (some ⟨w.heap.size, 0, none⟩) len len := by
  unfold evBuildSlice at h
  split at h
  · rename_i e hu
    split at h
    · rename_i size hs
      split at h
      · rename_i hcond
        obtain ⟨hpos, hbig, hidx, hcells, z, hz, hzl⟩ := hcond
        simp only [Option.some.injEq] at h
        have hv := hp.values
        -- the parts in order
        have hqs : qs.toList = ((qs.toList.map (·.2)).zipIdx 0).map fun p => (p.2, p.1) := by
          apply List.ext_getElem?
          intro i
          simp only [List.getElem?_map, List.getElem?_zipIdx, Nat.zero_add]
          cases hq : qs.toList[i]? with
          | none => simp
          | some q =>
            simp only [Option.map_some, Option.some.injEq]
            have hi : i < ps.length := by rw [hp.len]; exact (List.getElem?_eq_some_iff.1 hq).1
            have h1 := (hp.at_ i _ q (List.getElem?_eq_getElem hi) hq).1
            have h2 : (ps.map (·.1))[i]? = some ps[i].1 := by simp [hi]
            rw [hidx] at h2
            have hlen : i < len := by
              have := congrArg List.length hidx
              simp at this; omega
            simp [hlen] at h2
            apply Prod.ext
            · simp; omega
            · rfl
        have hlen : ps.length = len := by have := congrArg List.length hidx; simpa using this
        have hql : qs.toList.length = len := by rw [← hp.len, hlen]
        obtain ⟨i, zy, hi, hzy, hzv⟩ := zero_info hz
        have hzs : zy.cells.size = size := by
          have := (hzv X).cellsL.len
          rw [hzl] at this
          simpa using this.symm
        have hvs : ∀ v ∈ qs.toList.map (·.2), v.cells.size = size := by
          intro v hvm
          obtain ⟨j, hj⟩ := List.mem_iff_getElem?.1 hvm
          have hjl : j < (ps.map (·.2)).length := by rw [hv.len]; exact (List.getElem?_eq_some_iff.1 hj).1
          have hx := hv.at_ j _ v (List.getElem?_eq_getElem hjl) hj
          have hc := (hcells (ps[j]'(by simpa using hjl)) (List.getElem_mem _)).1
          have := hx.cellsL.len
          simp at this
          omega
        have hrun : ∀ (zeros : Array Value), zeros.size = len * size → Instr.fill (fun i => some (i * size, size)) zeros qs.toList = some ((qs.toList.map (·.2)).flatMap (·.cells.toList)).toArray := by
          intro zeros hzz
          have := fill_rows size (qs.toList.map (·.2)) 0 zeros [] zeros.toList (by simp) (by simp) (by rw [List.length_map, hql, Array.length_toList, hzz]) hvs
          simp only [List.nil_append] at this
          rw [← hqs] at this
          exact this
        have hbs : (Instr.buildSlice t len qs).run P w = .ok (.slice (some ⟨w.heap.size, 0, none⟩) len len) (w.alloc (.cells ((qs.toList.map (·.2)).flatMap (·.cells.toList)).toArray e)) := by
          unfold Instr.buildSlice
          by_cases h0 : len * size = 0
          · have hf := hrun ((Array.range 0).map fun _ => default) (by simp [h0])
            simp only [Sem.run_bind, run_underlying hu, Result.andThen_ok, run_size w hs, h0]
            simp only [show ¬ (0 > 2 ^ 24) by decide, if_false, Sem.run_pure, Result.andThen_ok, if_true]
            simp [newRow] at hf ⊢
            simp [hf]
          · have hf := hrun ((Array.range (len * size)).map (zy.cells[· % zy.cells.size]!)) (by simp)
            have hbg : ¬ (len * size > 2 ^ 24) := by omega
            have hzr : (zeroValue e).run P w = .ok zy w := by simp [zeroValue, typeInfo, hi, hzy]
            simp only [Sem.run_bind, run_underlying hu, Result.andThen_ok, run_size w hs, if_neg hbg, Sem.run_pure, if_neg h0, hzr, hf]
            simp [newRow]
        have hfl := hv.flatCells
        have hone : ∀ x ∈ (ps.map (·.2)).flatMap (·.cells), x.one = true := by
          intro u hu
          obtain ⟨v, hvm, huv⟩ := List.mem_flatMap.1 hu
          obtain ⟨j, hj⟩ := List.mem_iff_getElem?.1 hvm
          have hjl : j < (ps.map (·.2)).length := (List.getElem?_eq_some_iff.1 hj).1
          obtain ⟨y, _, hx⟩ := hv.get hj
          obtain ⟨p, hpm, rfl⟩ := List.mem_map.1 hvm
          exact hx.cells_one (hcells p hpm).2 u huv
        have hcl : ((qs.toList.map (·.2)).flatMap (·.cells.toList)).length = len * size := by
          rw [List.length_flatMap]
          have : (List.map (fun v : Value => v.cells.toList.length) (qs.toList.map (·.2))) = List.replicate len size := by
            apply List.ext_getElem?
            intro j
            by_cases hj : j < len
            · have hjq : j < qs.toList.length := by omega
              have := hvs (qs.toList[j]).2 (List.mem_map.2 ⟨_, List.getElem_mem _, rfl⟩)
              have hjq' : j < qs.size := by simpa using hjq
              simp [hj, hjq'] at this ⊢
              exact this
            · have hjq : ¬ j < qs.size := by have : qs.size = len := by simpa using hql
                                             omega
              simp [hj, hjq]
          rw [this]
          simp
        have hfm : (ps.map (·.2)).flatMap (·.cells) = ps.flatMap (·.2.cells) := by simp [List.flatMap_map]
        cases fz with
        | true =>
          simp only [if_true, Prod.mk.injEq] at h
          obtain ⟨rfl, rfl⟩ := h
          have hle : X.Le (X.ice w.heap.size (.cells ((qs.toList.map (·.2)).flatMap (·.cells.toList)).toArray e)) := Cx.le_ice (.inl hR.phi_none)
          refine ⟨_, _, _, hle, hbs, ?_, hR.allocIce _, rfl⟩
          have hrl : (ps.map (·.2.cells)).length = len := by simp [hlen]
          have key : V (X.ice w.heap.size (.cells ((qs.toList.map (·.2)).flatMap (·.cells.toList)).toArray e)) (.fsl (ps.map (·.2.cells))) (.slice (some ⟨w.heap.size, 0, none⟩) (ps.map (·.2.cells)).length len) := by
            refine .fsl (sz := size) (fun i j => (((qs.toList.map (·.2)).flatMap (·.cells.toList))[i * size + j]?).getD undef) (c := ((qs.toList.map (·.2)).flatMap (·.cells.toList)).toArray) (e := e) (fr := (0, 0)) (by simp [Cx.ice]) ?_ ?_ ?_ (by omega) ?_
            · intro row hrow
              obtain ⟨p, hpm, rfl⟩ := List.mem_map.1 hrow
              exact (hcells p hpm).1
            · intro i j hi' hj
              have hlt : i * size + j < ((qs.toList.map (·.2)).flatMap (·.cells.toList)).length := by
                rw [hcl]
                have : i + 1 ≤ len := by omega
                have := Nat.mul_le_mul_right size this
                rw [Nat.add_mul, Nat.one_mul] at this
                omega
              rw [List.getElem?_toArray, Nat.zero_add, List.getElem?_eq_getElem hlt]
              simp
            · intro i row j u hrow hu'
              have hrow' := hrow
              simp only [List.getElem?_map, Option.map_eq_some_iff] at hrow
              obtain ⟨p, hpi, rfl⟩ := hrow
              have hil : i < ps.length := (List.getElem?_eq_some_iff.1 hpi).1
              have hiq : i < qs.toList.length := by rw [← hp.len]; exact hil
              have hpv := (hp.at_ i p _ hpi (List.getElem?_eq_getElem hiq)).2
              obtain ⟨y, hy, hyv⟩ := hpv.cellsL.get hu'
              have hj : j < size := by
                have := (List.getElem?_eq_some_iff.1 hu').1
                have := (hcells p (List.mem_of_getElem? hpi)).1
                omega
              have hfa := flat_at (size := size) (rows := (qs.toList.map (·.2)).map (·.cells.toList)) (fun r hr => by
                obtain ⟨v, hvm, rfl⟩ := List.mem_map.1 hr
                simpa using hvs v hvm) (i := i) (j := j) (row := (qs.toList[i]).2.cells.toList) (by
                have hiq' : i < qs.size := by simpa using hiq
                simp [hiq']) hj
              rw [← List.flatMap_def, hy] at hfa
              rw [hfa]
              exact hyv.mono hle
            · intro row hrow u hu'
              obtain ⟨p, hpm, rfl⟩ := List.mem_map.1 hrow
              exact hone u (by rw [hfm]; exact List.mem_flatMap.2 ⟨p, hpm, hu'⟩)
          rw [hrl] at key
          exact key
        | false =>
          simp only [Bool.false_eq_true, if_false, Prod.mk.injEq] at h
          obtain ⟨rfl, rfl⟩ := h
          have hle : X.Le (X.name s.n (w.heap.size, 0, len * size)) := Cx.le_name (hR.fresh s.n (Nat.le_refl _)).1
          refine ⟨X.name s.n (w.heap.size, 0, len * size), _, _, hle, hbs, ?_, ?_, rfl⟩
          · have := V.sl (X := X.name s.n (w.heap.size, 0, len * size)) (id := s.n) (off := 0) (len := len) (sz := size) (b := w.heap.size) (base := 0) (size := len * size) (cap := len) (by simp [Cx.name]) (Nat.le_refl _) (by omega)
            simpa using this
          · refine hR.alloc (size := len * size) (fun Y hY => ?_)
            have := B.fresh_cells (hfl.mono hY) hone e
            rw [hcl, hfm] at this
            exact this
      · cases h
    · cases h
  · cases h
end
end Go.Ev
