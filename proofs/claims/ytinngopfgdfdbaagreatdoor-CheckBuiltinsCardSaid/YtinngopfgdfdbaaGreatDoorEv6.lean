/- Abstract operations: append. -/
import Derived.Test.YtinngopfgdfdbaaGreatDoorEv5
set_option linter.unusedVariables false
set_option linter.unusedSimpArgs false
namespace Go.Ev

/-- What is appended: how many items, and their cells. -/
def evSrc (h : Heap) (size : Nat) (x : AV) : Option (Nat × List AV) :=
  match x with
  | .nils => some (0, [])
  | .sl id off len sz => match h id with
    | some (.cells cs) => if sz = size ∧ off + len * size ≤ cs.length then some (len, (cs.drop off).take (len * size)) else none
    | _ => none
  | .fsl rows => if ∀ row ∈ rows, row.length = size then some (rows.length, rows.flatten) else none
  | .str s => if size = 1 then some (s.length, s.map fun b => .int .u8 b.toNat) else none
  | _ => none

theorem flatten_len {size : Nat} : ∀ {rows : List (List AV)} (_ : ∀ r ∈ rows, r.length = size), rows.flatten.length = rows.length * size
  | [], _ => by simp
  | r :: rows, h => by
    have := flatten_len (rows := rows) (fun r hr => h r (.tail _ hr))
    have h0 := h r (.head _)
    simp only [List.flatten_cons, List.length_append, List.length_cons, Nat.add_mul, Nat.one_mul, this, h0]
    omega

theorem flat_at' {size : Nat} : ∀ {rows : List (List AV)} (_ : ∀ r ∈ rows, r.length = size) {i j : Nat} {row : List AV} (_ : rows[i]? = some row) (_ : j < size), rows.flatten[i * size + j]? = row[j]?
  | [], hs, i, j, row, hr, hj => by simp at hr
  | r :: rows, hs, 0, j, row, hr, hj => by
    simp at hr
    subst hr
    have := hs r (.head _)
    simp [List.getElem?_append_left (show j < r.length by omega)]
  | r :: rows, hs, i + 1, j, row, hr, hj => by
    have h0 := hs r (.head _)
    simp at hr
    have ih := flat_at' (fun r hr => hs r (.tail _ hr)) hr hj
    simp only [List.flatten_cons]
    rw [List.getElem?_append_right (by rw [h0, Nat.add_mul, Nat.one_mul]; omega), h0, ← ih]
    congr 1
    rw [Nat.add_mul, Nat.one_mul]
    omega

theorem range_getD (ys : List Value) (n : Nat) (h : ys.length = n) : (List.range n).map (fun j => ys.getD j undef) = ys := by
  apply List.ext_getElem?
  intro j
  by_cases hj : j < n
  · have : j < ys.length := by omega
    simp [hj, this, List.getD]
  · have : ys.length ≤ j := by omega
    simp [hj, this]

section
variable {P : Program} {X : Cx} {s : HS} {w0 : W0} {w : World}

theorem evSrc_sound (hR : R X s w0 w) {size n : Nat} {x : AV} {xv : Value} {new : List AV} (hpos : 0 < size) (hx : V X x xv) (h : evSrc s.h size x = some (n, new)) :
    new.length = n * size ∧ (∀ c ∈ new, c.one = true) ∧ ∃ ys : List Value, VL X new ys ∧ ∀ w', w'.heap = w.heap →
      ((Builtin.lenOf xv).run P w' = .ok n w' ∧ (Builtin.firstCells size n xv).run P w' = .ok ys.toArray w') := by
  unfold evSrc at h
  split at h <;> try cases h
  · cases hx
    exact ⟨by simp, by simp, [], .nil X, fun w' _ => ⟨by simp [Builtin.lenOf], by simp [Builtin.firstCells]⟩⟩
  · rename_i id off len sz
    split at h <;> try cases h
    rename_i cs hk
    split at h <;> cases h
    rename_i hb
    obtain ⟨rfl, hle⟩ := hb
    cases hx with
    | @sl _ _ _ _ b base tot cap hm hl hs =>
      obtain ⟨b', base', tot', o, m1, m2, m3, m4⟩ := hR.live id _ hk
      rw [hm] at m1; cases m1
      cases m4 with
      | cells hsz hfr hfit hc h1 =>
        obtain ⟨ys, hyl, hyv, hyc⟩ := cells_get hc hle
        refine ⟨by simp; omega, fun c hc => h1 c (List.mem_of_mem_drop (List.mem_of_mem_take hc)), ys, hyv, fun w' hw' => ⟨by simp [Builtin.lenOf], ?_⟩⟩
        have m3' := (show w'.heap[b]? = w.heap[b]? by rw [hw']).trans m3
        have hr := run_loadCells (P := P) w' ⟨b, base + off, none⟩ (n * sz) (fun j => ys.getD j undef) (fun j hj => by
          rw [Addr.add_lit, cell_heap m3']; exact hyc j hj)
        rw [range_getD ys _ hyl] at hr
        simpa [Builtin.firstCells] using hr
  · rename_i rows
    split at h <;> cases h
    rename_i hrows
    have hfl := flatten_len hrows
    cases hx with
    | fsl0 a cap =>
      refine ⟨by simp, by simp, [], .nil X, fun w' _ => ⟨by simp [Builtin.lenOf], ?_⟩⟩
      cases a <;> simp [Builtin.firstCells, loadCells, loadCellsFrom]
    | @fsl _ b o cap sz c e fr g hbk hsz hc hv hcap h1 =>
      have hone : ∀ c ∈ rows.flatten, c.one = true := fun c hc => by
        obtain ⟨row, hrow, hcr⟩ := List.mem_flatten.1 hc
        exact h1 row hrow c hcr
      have hcell : ∀ k, k < rows.flatten.length → c[o + k]? = some (g (k / size) (k % size)) := by
        intro k hk
        rw [hfl] at hk
        have hd : k / size < rows.length := Nat.div_lt_of_lt_mul (by rw [Nat.mul_comm]; exact hk)
        have hmd : k % size < size := Nat.mod_lt _ hpos
        have hszz : sz = size := by rw [← hsz _ (List.getElem_mem hd), hrows _ (List.getElem_mem hd)]
        subst hszz
        have := hc (k / sz) (k % sz) hd hmd
        rw [← this]
        congr 1
        have := Nat.div_add_mod k sz
        rw [Nat.mul_comm] at this
        omega
      refine ⟨hfl, hone, (List.range (rows.length * size)).map fun k => g (k / size) (k % size), ⟨by simp [hfl], ?_⟩, fun w' hw' => ⟨by simp [Builtin.lenOf], ?_⟩⟩
      · intro k x y hx hy
        have hk : k < rows.length * size := by rw [← hfl]; exact (List.getElem?_eq_some_iff.1 hx).1
        have hd : k / size < rows.length := Nat.div_lt_of_lt_mul (by rw [Nat.mul_comm]; exact hk)
        have hmd : k % size < size := Nat.mod_lt _ hpos
        simp [hk] at hy
        subst hy
        have hf := flat_at' hrows (i := k / size) (j := k % size) (List.getElem?_eq_getElem hd) hmd
        have hdm := Nat.div_add_mod k size
        rw [Nat.mul_comm] at hdm
        rw [hdm, hx] at hf
        exact hv _ _ _ _ (List.getElem?_eq_getElem hd) hf.symm
      · have hb' := (show w'.heap[b]? = w.heap[b]? by rw [hw']).trans (hR.phi _ _ hbk)
        have hr := run_loadCells (P := P) w' ⟨b, o, none⟩ (rows.length * size) (fun k => g (k / size) (k % size)) (fun j hj => by
          rw [Addr.add_lit, cell_heap hb']
          exact hcell j (by rw [hfl]; exact hj))
        simpa [Builtin.firstCells] using hr
  · rename_i t
    split at h <;> cases h
    rename_i h1
    subst h1
    cases hx
    refine ⟨by simp, ?_, t.map fun b => .int .u8 b.toNat, ⟨by simp, ?_⟩, fun w' _ => ⟨?_, ?_⟩⟩
    · intro c hc
      obtain ⟨b, _, rfl⟩ := List.mem_map.1 hc
      rfl
    · intro i x y hx hy
      simp only [List.getElem?_map, Option.map_eq_some_iff] at hx hy
      obtain ⟨a, ha, rfl⟩ := hx
      obtain ⟨b, hb, rfl⟩ := hy
      rw [ha] at hb; cases hb
      exact .int .u8 _
    · have hsz : (⟨⟨t⟩⟩ : ByteArray).size = t.length := rfl
      simp [Builtin.lenOf, hsz]
    · have he : ((⟨⟨t⟩⟩ : ByteArray).extract 0 t.length).data = ⟨t⟩ := by
        apply Array.ext'
        rw [Lib.extract_data]
        simp
      simp [Builtin.firstCells, he]

/-- A live block under a new name, from a place on. -/
theorem R.window (hR : R X s w0 w) {id : Nat} {cs cs' : List AV} (hk : s.h id = some (.cells cs)) {b base tot off : Nat} (hm : X.mu id = some (b, base, tot))
    (hsub : ∀ (i : Nat) x, cs'[i]? = some x → cs[off + i]? = some x) (hfit : base + off + cs'.length ≤ tot) :
    R (X.name s.n (b, base + off, tot)) ⟨(s.h.del id).put s.n (.cells cs'), s.n + 1⟩ w0 w := by
  have hfr := hR.fresh s.n (Nat.le_refl _)
  have hle : X.Le (X.name s.n (b, base + off, tot)) := Cx.le_name hfr.1
  obtain ⟨b', base', tot', o, m1, m2, m3, m4⟩ := hR.live id _ hk
  rw [hm] at m1; cases m1
  have hidn : id ≠ s.n := Nat.ne_of_lt (hR.id_lt hk)
  refine ⟨hR.os, hR.tape, hR.output, hR.size, ?_, hR.phi, ?_, ?_, ?_, fun r g hg => ?_⟩
  rotate_right
  · obtain ⟨g1, g2, g3⟩ := hR.gh r g hg
    have hne : r ≠ s.n := Nat.ne_of_lt g1
    refine ⟨Nat.lt_succ_of_lt g1, ?_, g3.turn hg (fun r' g' hg' => by have := (hR.gh r' g' hg').1; simp [Cx.name, Nat.ne_of_lt this]) fun c sz u k2 k3 k4 => ⟨k2, k3, fun i ki p q hi => ?_⟩⟩
    · simp only [Heap.put, Heap.del]
      rw [if_neg hne]
      split
      · rfl
      · exact g2
    · simp only [Heap.put, Heap.del] at hi
      simp only [Cx.name]
      split at hi
      · rename_i e
        rw [if_pos e]
        intro hc; cases hc
        exact k4 id _ _ _ hk hm
      · rename_i e
        rw [if_neg e]
        split at hi
        · cases hi
        · exact k4 i ki p q hi
  · intro c hc
    obtain ⟨o1, o2, o3⟩ := hR.old c hc
    refine ⟨o1, o2, fun i p q => ?_⟩
    simp only [Cx.name]
    split
    · intro he; cases he; exact o3 _ _ _ hm
    · exact o3 i p q
  · intro i k hi
    simp only [Heap.put] at hi
    split at hi
    · rename_i e
      cases hi
      refine ⟨b, base + off, tot, o, by simp [Cx.name, e], m2, m3, ?_⟩
      cases m4 with
      | cells hsz hfz hf hc h1 =>
        refine .cells hsz hfz hfit ?_ ?_
        · intro j x hx
          obtain ⟨y, hy, hv⟩ := hc _ _ (hsub j x hx)
          exact ⟨y, by rw [Nat.add_assoc]; exact hy, hv.mono hle⟩
        · intro x hx
          obtain ⟨j, hj⟩ := List.mem_iff_getElem?.1 hx
          exact h1 x (List.mem_of_getElem? (hsub j x hj))
    · rename_i e
      simp only [Heap.del] at hi
      split at hi
      · cases hi
      · obtain ⟨c, p, q, u, n1, n2, n3, n4⟩ := hR.live i k hi
        exact ⟨c, p, q, u, by simp only [Cx.name]; rw [if_neg e]; exact n1, n2, n3, n4.mono hle⟩
  · intro i j ki kj c p q p' q' hi hj mi mj
    simp only [Heap.put] at hi hj
    simp only [Cx.name] at mi mj
    split at hi <;> split at hj
    · subst_vars; rfl
    · rename_i e1 e2
      rw [if_pos e1] at mi; rw [if_neg e2] at mj
      cases mi
      simp only [Heap.del] at hj
      split at hj
      · cases hj
      · rename_i e3
        exact absurd (hR.inj j id kj _ b p' q' base tot hj hk mj hm) e3
    · rename_i e1 e2
      rw [if_neg e1] at mi; rw [if_pos e2] at mj
      cases mj
      simp only [Heap.del] at hi
      split at hi
      · cases hi
      · rename_i e3
        exact absurd (hR.inj i id ki _ b p q base tot hi hk mi hm) e3
    · rename_i e1 e2
      rw [if_neg e1] at mi; rw [if_neg e2] at mj
      simp only [Heap.del] at hi hj
      split at hi <;> split at hj <;> try cases hi
      · cases hj
      · exact hR.inj i j ki kj c p q p' q' hi hj mi mj
  · intro i hi
    have hi' : s.n + 1 ≤ i := hi
    have h1 := hR.fresh i (by omega)
    refine ⟨by simp only [Cx.name]; rw [if_neg (by omega)]; exact h1.1, ?_⟩
    show (s.h.del id).put s.n (.cells cs') i = none
    simp only [Heap.put, Heap.del]
    rw [if_neg (by omega)]
    split
    · rfl
    · exact h1.2

/-- Cells stored right behind those that are told of. -/
theorem store_grow (vs : List AV) : ∀ {s : HS} {w : World} (hR : R X s w0 w) {id : Nat} {cs : List AV} (hk : s.h id = some (.cells cs)) {b base tot : Nat} (hm : X.mu id = some (b, base, tot)) {a i : Nat} (ha : a + i = base + cs.length)
    {ys : List Value} (hv : VL X vs ys) (h1 : ∀ x ∈ vs, x.one = true) (hle : base + cs.length + vs.length ≤ tot),
    ∃ w', (storeCells ⟨b, a, none⟩ ys i).run P w = .ok () w' ∧ R X ⟨s.h.put id (.cells (cs ++ vs)), s.n⟩ w0 w' := by
  induction vs with
  | nil =>
    intro s w hR id cs hk b base tot hm a i ha ys hv h1 hle
    have : ys = [] := List.eq_nil_of_length_eq_zero (by have := hv.len; simpa using this.symm)
    subst this
    refine ⟨w, by simp [storeCells], ?_⟩
    have he : s.h.put id (.cells cs) = s.h := by funext j; simp only [Heap.put]; split <;> simp_all
    simp only [List.append_nil]
    rw [he]; exact hR
  | cons v vs ih =>
    intro s w hR id cs hk b base tot hm a i ha ys hv h1 hle
    cases ys with
    | nil => have := hv.len; simp at this
    | cons y ys =>
      simp only [List.length_cons] at hle
      obtain ⟨w1, hr1, hR1⟩ := store_one (P := P) hR hk hm (off := cs.length) hv.head (h1 v (.head _)) (by omega) (.inr ⟨rfl, rfl⟩)
      obtain ⟨w2, hr2, hR2⟩ := ih hR1 (id := id) (cs := cs ++ [v]) (Heap.put_same _ _ _) hm (a := a) (i := i + 1) (by simp; omega) hv.tail (fun x hx => h1 x (.tail _ hx)) (by simp; omega)
      refine ⟨w2, ?_, ?_⟩
      · simp only [storeCells, Sem.run_bind, Addr.add_lit]
        rw [ha, hr1]
        simpa using hr2
      · have he : (s.h.put id (.cells (cs ++ [v]))).put id (.cells ((cs ++ [v]) ++ vs)) = s.h.put id (.cells (cs ++ (v :: vs))) := by
          funext j; simp only [Heap.put]; split <;> simp
        have hR3 : R X ⟨(s.h.put id (.cells (cs ++ [v]))).put id (.cells ((cs ++ [v]) ++ vs)), s.n⟩ w0 w2 := hR2
        rw [he] at hR3
        exact hR3

def srcTy (P : Program) (t : TypeId) : Bool :=
  match P.underlying t with
  | some (.slice _) => true
  | some .string => true
  | _ => false

def evAppend (P : Program) (s : HS) (t t2 : TypeId) (dst x : AV) : Option (AV × HS) :=
  match P.underlying t with
  | some (.slice e) => match size? P e, bytes? P e, zero? P e with
    | some size, some bytes, some z =>
      if 0 < size ∧ z.cells.length = size ∧ srcTy P t2 = true then
        match evSrc s.h size x with
        | some (n, new) => match dst with
          | .nils => if n = 0 then some (.nils, s) else if n ≤ 1099511627776 ∧ n * bytes ≤ 70368744177664 then some (.sl s.n 0 n size, ⟨s.h.put s.n (.cells new), s.n + 1⟩) else none
          | .sl id off len sz => match s.h id with
            | some (.cells cs) => if sz = size ∧ off + len * size ≤ cs.length ∧ len + n ≤ 1099511627776 ∧ (len + n) * bytes ≤ 70368744177664 then
                some (.sl s.n 0 (len + n) size, ⟨(s.h.del id).put s.n (.cells ((cs.drop off).take (len * size) ++ new)), s.n + 1⟩) else none
            | _ => none
          | .fslx rows => match evSrc s.h size (.fsl rows) with
            | some (len, old) => if 0 < n ∧ len = rows.length ∧ len + n ≤ 1099511627776 ∧ (len + n) * bytes ≤ 70368744177664 then some (.sl s.n 0 (len + n) size, ⟨s.h.put s.n (.cells (old ++ new)), s.n + 1⟩) else none
            | none => none
          | _ => none
        | none => none
      else none
    | _, _, _ => none
  | _ => none

theorem size_zeros (z : Array Value) (n : Nat) : (Builtin.zeroCells z n).size = n * z.size := by simp [Builtin.zeroCells]

/-- A new block for what is appended to. -/
theorem grown_sound {size len n cap : Nat} {old new : List AV} {ov nv : List Value} {e : TypeId} {zy : Value} (hR : R X s w0 w) (hzs : zy.cells.size = size) (hol : old.length = len * size) (hnl : new.length = n * size)
    (ho : VL X old ov) (hn : VL X new nv) (h1 : ∀ c ∈ old, c.one = true) (h2 : ∀ c ∈ new, c.one = true) (hcap : len + n ≤ cap) :
    ∃ Y, X.Le Y ∧ V Y (.sl s.n 0 (len + n) size) (.slice (some ⟨w.heap.size, 0, none⟩) (len + n) cap) ∧
      R Y ⟨s.h.put s.n (.cells (old ++ new)), s.n + 1⟩ w0 (w.alloc (.cells (ov.toArray ++ nv.toArray ++ Builtin.zeroCells zy.cells (cap - (len + n))) e)) := by
  have hle : X.Le (X.name s.n (w.heap.size, 0, cap * size)) := Cx.le_name (hR.fresh s.n (Nat.le_refl _)).1
  have hcs : (ov.toArray ++ nv.toArray ++ Builtin.zeroCells zy.cells (cap - (len + n))).size = cap * size := by
    have e1 := ho.len
    have e2 := hn.len
    simp [size_zeros, hzs]
    rw [← e1, ← e2, hol, hnl, ← Nat.add_mul, ← Nat.add_mul]
    congr 1
    omega
  refine ⟨_, hle, ?_, hR.alloc (size := cap * size) (fun Y hY => ?_)⟩
  · have := V.sl (X := X.name s.n (w.heap.size, 0, cap * size)) (id := s.n) (off := 0) (len := len + n) (sz := size) (b := w.heap.size) (base := 0) (size := cap * size) (cap := cap) (by simp [Cx.name]) hcap (by omega)
    simpa using this
  · have hv := (ho.append hn).mono hY
    refine .cells hcs (by intro i _; simp) ?_ ?_ ?_
    · simp only [List.length_append, hol, hnl, Nat.zero_add, ← Nat.add_mul]
      exact Nat.mul_le_mul_right _ hcap
    · intro i x hx
      obtain ⟨y, hy, hxy⟩ := hv.get hx
      refine ⟨y, ?_, hxy⟩
      have hi : i < ov.length + nv.length := by
        have := (List.getElem?_eq_some_iff.1 hy).1
        simpa using this
      rw [Nat.zero_add, Array.getElem?_append_left (by simpa using hi)]
      simpa using hy
    · intro x hx
      rcases List.mem_append.1 hx with h | h
      · exact h1 x h
      · exact h2 x h

theorem evAppend_sound (hR : R X s w0 w) {t t2 ty : TypeId} {dst x r : AV} {dv xv : Value} {s' : HS} (hd : V X dst dv) (hx : V X x xv) (h : evAppend P s t t2 dst x = some (r, s')) :
    ∃ Y y w', X.Le Y ∧ (Builtin.append_ #[t, t2] ty #[dv, xv]).run P w = .ok y w' ∧ V Y r y ∧ R Y s' w0 w' := by
  unfold evAppend at h
  split at h <;> try cases h
  rename_i e hu
  split at h <;> try cases h
  rename_i size bytes z hs hb hz
  split at h <;> try cases h
  rename_i hcond
  obtain ⟨hpos, hzl, ht2⟩ := hcond
  split at h <;> try cases h
  rename_i n new hsrc
  obtain ⟨hnl, hn1, nv, hnv, hnr⟩ := evSrc_sound (P := P) hR hpos hx hsrc
  obtain ⟨i, zy, hi, hzy, hzv⟩ := zero_info hz
  have hzs : zy.cells.size = size := by
    have := (hzv X).cellsL.len
    rw [hzl] at this
    simpa using this.symm
  have hsz : i.size = size := by unfold size? at hs; simp [hi] at hs; exact hs
  have hby : i.bytes = bytes := by unfold bytes? at hb; simp [hi] at hb; exact hb
  have h2 : (∃ e2, P.underlying t2 = some (.slice e2)) ∨ P.underlying t2 = some .string := by
    unfold srcTy at ht2
    cases h2 : P.underlying t2 with
    | none => simp [h2] at ht2
    | some d => cases d <;> first | (simp [h2] at ht2; done) | exact .inl ⟨_, rfl⟩ | exact .inr rfl
  obtain ⟨hln, hfn⟩ := hnr w rfl
  split at h <;> try cases h
  · -- onto nil
    cases hd
    split at h
    · rename_i hn0
      cases h
      subst hn0
      refine ⟨X, .slice none 0 0, w, Cx.Le.refl X, ?_, .nils, hR⟩
      rcases h2 with ⟨e2, h2⟩ | h2 <;> simp [Builtin.append_, run_underlying hu, sizeOf, typeInfo, hi, hsz, run_underlying h2, hln, hfn]
    · rename_i hn0
      split at h <;> cases h
      rename_i hbd
      obtain ⟨hbd1, hbd2⟩ := hbd
      have hg := grown_sound (e := e) (len := 0) (n := n) (cap := grownCap w n 0 e) (old := []) (ov := []) hR.drew hzs (by simp) hnl (.nil X) hnv (by simp) hn1 (by have := grownCap_ge w n 0 e; omega)
      obtain ⟨Y, hY, hv, hRY⟩ := hg
      have hfit := growslice_fits (need := n) (old := 0) (bytes := bytes) (by omega) (by omega)
      simp only [Nat.zero_add, List.nil_append] at hv hRY
      refine ⟨Y, _, _, hY, ?_, hv, hRY⟩
      have h63 : ¬ (9223372036854775807 < (n : Int)) := by omega
      have h48 : ¬ (281474976710656 < Builtin.nextslicecap n 0 * bytes) := by omega
      obtain ⟨hln', hfn'⟩ := hnr w.drew rfl
      rcases h2 with ⟨e2, h2⟩ | h2 <;> simp [Builtin.append_, run_underlying hu, sizeOf, typeInfo, zeroValue, hi, hsz, hby, hzy, run_underlying h2, hln, hfn', hn0, h63, h48, Question.forced, grownCap, run_firstCells_none, newRow]
  · rename_i id off len sz
    split at h <;> try cases h
    rename_i cs hk
    split at h <;> cases h
    rename_i hb'
    obtain ⟨rfl, hle, hbd1, hbd2⟩ := hb'
    cases hd with
    | @sl _ _ _ _ b base tot cap hm hl hst =>
      obtain ⟨b', base', tot', o, m1, m2, m3, m4⟩ := hR.live id _ hk
      rw [hm] at m1; cases m1
      have hone : ∀ x ∈ cs, x.one = true := by cases m4; assumption
      have hold1 : ∀ c ∈ (cs.drop off).take (len * sz), c.one = true := fun c hc => hone c (List.mem_of_mem_drop (List.mem_of_mem_take hc))
      have holdl : ((cs.drop off).take (len * sz)).length = len * sz := by simp; omega
      by_cases hroom : len + n ≤ cap
      · -- in place
        have hmul : (len + n) * sz ≤ cap * sz := Nat.mul_le_mul_right _ hroom
        rw [Nat.add_mul] at hmul
        have hW := hR.window (off := off) (cs' := (cs.drop off).take (len * sz)) hk hm (fun i x hx => by
          rw [List.getElem?_take] at hx
          split at hx <;> try cases hx
          rw [List.getElem?_drop] at hx
          exact hx) (by rw [holdl]; omega)
        have hle' : X.Le (X.name s.n (b, base + off, tot)) := Cx.le_name (hR.fresh s.n (Nat.le_refl _)).1
        obtain ⟨w', hrun, hR'⟩ := store_grow (P := P) new hW (id := s.n) (Heap.put_same _ _ _) (b := b) (base := base + off) (tot := tot) (by simp [Cx.name]) (a := base + off + len * sz) (i := 0) (by rw [holdl]; omega) (hnv.mono hle') hn1 (by rw [holdl, hnl]; omega)
        refine ⟨X.name s.n (b, base + off, tot), .slice (some ⟨b, base + off, none⟩) (len + n) cap, w', hle', ?_, ?_, ?_⟩
        · rcases h2 with ⟨e2, h2⟩ | h2 <;> simp [Builtin.append_, run_underlying hu, sizeOf, typeInfo, hi, hsz, run_underlying h2, hln, hfn, hroom, Addr.add_lit, hrun]
        · have := V.sl (X := X.name s.n (b, base + off, tot)) (id := s.n) (off := 0) (len := len + n) (sz := sz) (b := b) (base := base + off) (size := tot) (cap := cap) (by simp [Cx.name]) hroom (by omega)
          simpa using this
        · have he : ((s.h.del id).put s.n (.cells ((cs.drop off).take (len * sz)))).put s.n (.cells ((cs.drop off).take (len * sz) ++ new)) = (s.h.del id).put s.n (.cells ((cs.drop off).take (len * sz) ++ new)) := by
            funext j; simp only [Heap.put]; split <;> rfl
          have hR3 : R _ ⟨((s.h.del id).put s.n (.cells ((cs.drop off).take (len * sz)))).put s.n (.cells ((cs.drop off).take (len * sz) ++ new)), s.n + 1⟩ w0 w' := hR'
          rw [he] at hR3
          exact hR3
      · -- a new array
        have hsrc' : evSrc s.h sz (.sl id off len sz) = some (len, (cs.drop off).take (len * sz)) := by
          simp only [evSrc, hk]
          rw [if_pos ⟨trivial, hle⟩]
        obtain ⟨_, _, ov, hov, hor⟩ := evSrc_sound (P := P) hR hpos (V.sl (cap := cap) hm hl hst) hsrc'
        have hg := grown_sound (e := e) (cap := grownCap w (len + n) cap e) (hR.del id).drew hzs holdl hnl hov hnv hold1 hn1 (grownCap_ge w (len + n) cap e)
        obtain ⟨Y, hY, hv, hRY⟩ := hg
        have hfit := growslice_fits (need := len + n) (old := cap) (bytes := bytes) (by omega) (by omega)
        refine ⟨Y, _, _, hY, ?_, hv, hRY⟩
        have h63 : ¬ (9223372036854775807 < (len : Int) + (n : Int)) := by omega
        have h48 : ¬ (281474976710656 < Builtin.nextslicecap (len + n) cap * bytes) := by omega
        obtain ⟨hln', hfn'⟩ := hnr w.drew rfl
        obtain ⟨_, hof'⟩ := hor w.drew rfl
        rcases h2 with ⟨e2, h2⟩ | h2 <;> simp [Builtin.append_, run_underlying hu, sizeOf, typeInfo, zeroValue, hi, hsz, hby, hzy, run_underlying h2, hln, hfn', hof', hroom, h63, h48, Question.forced, grownCap, newRow, ← Array.append_assoc]

  · -- onto a frozen slice with no room behind
    rename_i rows
    split at h <;> try cases h
    rename_i len old hsrc'
    split at h <;> cases h
    rename_i hb'
    obtain ⟨hn0, rfl, hbd1, hbd2⟩ := hb'
    obtain ⟨hw, a, rfl⟩ := hd.weak
    obtain ⟨hold, hold1, ov, hov, hor⟩ := evSrc_sound (P := P) hR hpos hw hsrc'
    have hg := grown_sound (e := e) (cap := grownCap w (rows.length + n) rows.length e) hR.drew hzs hold hnl hov hnv hold1 hn1 (grownCap_ge w (rows.length + n) rows.length e)
    obtain ⟨Y, hY, hv, hRY⟩ := hg
    have hfit := growslice_fits (need := rows.length + n) (old := rows.length) (bytes := bytes) (by omega) (by omega)
    refine ⟨Y, _, _, hY, ?_, hv, hRY⟩
    have hroom : ¬ (rows.length + n ≤ rows.length) := by omega
    have h63 : ¬ (9223372036854775807 < (rows.length : Int) + (n : Int)) := by omega
    have h48 : ¬ (281474976710656 < Builtin.nextslicecap (rows.length + n) rows.length * bytes) := by omega
    obtain ⟨hln', hfn'⟩ := hnr w.drew rfl
    obtain ⟨_, hof'⟩ := hor w.drew rfl
    rcases h2 with ⟨e2, h2⟩ | h2 <;> simp [Builtin.append_, run_underlying hu, sizeOf, typeInfo, zeroValue, hi, hsz, hby, hzy, run_underlying h2, hln, hfn', hof', hroom, h63, h48, Question.forced, grownCap, newRow, ← Array.append_assoc]

end
end Go.Ev
