/- Snapshots, and what a call hands back. -/
import Derived.Test.YtinngopfgdfdbaaGreatDoorEv14
set_option linter.unusedVariables false
set_option linter.unusedSimpArgs false
namespace Go.Ev

/-! ### the checks of a region that draws -/
/-- An operation, and a turn of the memory other than its own in which it may come up. -/
def checks (fz : Nat → Bool) (ops : Array Oper) : List (Nat × Nat) :=
  (List.range ops.size).flatMap fun i => match ops[i]? with
    | some o => if effR fz i o || !readOp o.op then [] else
      ((List.range (cnt (isE (effR fz) ops) ops.size + 1)).filter fun q => win (effR fz) ops i q && q != cnt (isE (effR fz) ops) i).map fun q => (i, q)
    | none => []

def StabL (P : Program) (fz : Nat → Bool) (cf : CallF) (ops : Array Oper) (T : List AV) (ph : List HS) : List (Nat × Nat) → Prop
  | [] => True
  | (i, q) :: cs => (match ops[i]? with
    | some o => wantedA ops o T = true → match ph[q]? with
      | some sq => match evStep P fz cf i o T sq with
        | some (v, sq') => sq' = sq ∧ match o.dst with
          | some d => d < T.length → slot T d = v
          | none => True
        | none => False
      | none => False
    | none => False) ∧ StabL P fz cf ops T ph cs

theorem stabL_mem {P : Program} {fz : Nat → Bool} {cf : CallF} {ops : Array Oper} {T : List AV} {ph : List HS} : ∀ {cs : List (Nat × Nat)}, StabL P fz cf ops T ph cs → ∀ (i q : Nat) (o : Oper), (i, q) ∈ cs → ops[i]? = some o → wantedA ops o T = true →
    ∃ sq v, ph[q]? = some sq ∧ evStep P fz cf i o T sq = some (v, sq) ∧ ∀ d, o.dst = some d → d < T.length → slot T d = v
  | [], _, i, q, o, hm, _, _ => by cases hm
  | (j, r) :: cs, h, i, q, o, hm, ho, hw => by
    obtain ⟨h1, h2⟩ := h
    rcases List.mem_cons.1 hm with hm | hm
    · simp only [Prod.mk.injEq] at hm
      obtain ⟨rfl, rfl⟩ := hm
      rw [ho] at h1
      have h3 := h1 hw
      cases hp : ph[q]? with
      | none => rw [hp] at h3; exact h3.elim
      | some sq =>
        rw [hp] at h3
        simp only at h3
        cases hs : evStep P fz cf i o T sq with
        | none => rw [hs] at h3; exact h3.elim
        | some r =>
          obtain ⟨v, sq'⟩ := r
          rw [hs] at h3
          obtain ⟨e, h4⟩ := h3
          subst e
          refine ⟨sq', v, rfl, hs, fun d hd hl => ?_⟩
          rw [hd] at h4
          exact h4 hl
    · exact stabL_mem h2 i q o hm ho hw

theorem evStep_pure {P : Program} {fz : Nat → Bool} {cf : CallF} {i : Nat} {o : Oper} {ts : List AV} {s s' : HS} {v : AV} (he : effR fz i o = false) (hr : readOp o.op = false) (h : evStep P fz cf i o ts s = some (v, s')) (s2 : HS) : evStep P fz cf i o ts s2 = some (v, s2) := by
  obtain ⟨dst, op, type, pos, after, guard⟩ := o
  cases op with
  | call c => simp [readOp] at hr
  | buildSlice t len parts => exact exact_congr (b := fz (i + 1024)) h (fun v0 h0 => evOp_pure (P := P) (fz := fz i) (ts := ts) (s := s) (s' := s') (v := v0) he hr h0 s2)
  | _ => exact evOp_pure (P := P) (fz := fz i) (ts := ts) (s := s) (s' := s') (v := v) he hr h s2

theorem stab_of {P : Program} {fz : Nat → Bool} {cf : CallF} {ops : Array Oper} {ts T : List AV} {s : HS} {ph : List HS} (hp : Plan (effR fz) ops) (hrun : runR (evStep P fz cf) (effR fz) ops 0 ops.toList ts s = some (T, ph))
    (h : StabL P fz cf ops T ph (checks fz ops)) : Stab (evStep P fz cf) (effR fz) ops ts T ph := by
  obtain ⟨hlen, hph0, hphl, hunw, hfacts⟩ := run_facts (ts0 := ts) (step_laws P fz cf) hp ops.toList 0 ts T s ph (fun j => by simp) rfl (fun _ _ => rfl) hrun
  simp only [Nat.zero_add, Array.length_toList, cnt, Nat.sub_zero] at hphl hfacts
  intro i o q ho he hw hwin hq hne
  by_cases hr : readOp o.op = true
  · have hv : ∀ t ∈ o.looksAt ops, slot (Vw ops ts T i) t = slot T t := by
      intro t ht
      unfold Vw
      rw [slot_TS hlen]
      split
      · rfl
      · rename_i hnw
        refine (hunw t (fun j u _ hj hd => hnw ?_)).symm
        rcases hp.deps i j o u t ho hj hd ht with hm | ⟨hf, _⟩
        · exact wr_iff.2 ⟨j, u, hj, hm, hd⟩
        · rw [hr] at hf; cases hf
    rw [wantedA_congr hv] at hw
    have hl := fun sq => (step_laws P fz cf).looks i o (Vw ops ts T i) T sq (fun t ht => hv t (mem_looks ht))
    simp only [hl]
    refine stabL_mem h i q o ?_ ho hw
    unfold checks
    rw [List.mem_flatMap]
    refine ⟨i, List.mem_range.2 (Array.getElem?_eq_some_iff.1 ho).1, ?_⟩
    simp only [ho, he, hr, Bool.not_true, Bool.or_false, Bool.false_eq_true, if_false]
    rw [List.mem_map]
    refine ⟨q, List.mem_filter.2 ⟨List.mem_range.2 (by omega), ?_⟩, rfl⟩
    simp [hwin, hne]
  · obtain ⟨s1, s2, v, f1, f2, f3, f4⟩ := (hfacts i o (Nat.zero_le _) ho).on hw
    refine ⟨ph[q], v, List.getElem?_eq_getElem hq, ?_, f3⟩
    exact evStep_pure he (by simpa using hr) f2 _

/-! ### snapshots -/
def mapO {α β : Type} (f : α → Option β) : List α → Option (List β)
  | [] => some []
  | x :: xs => match f x with
    | some y => match mapO f xs with
      | some ys => some (y :: ys)
      | none => none
    | none => none

theorem mapO_get {α β : Type} {f : α → Option β} : ∀ {xs : List α} {ys : List β}, mapO f xs = some ys → ys.length = xs.length ∧ ∀ (i : Nat) x, xs[i]? = some x → ∃ y, ys[i]? = some y ∧ f x = some y
  | [], ys, h => by simp [mapO] at h; subst h; exact ⟨rfl, fun i x hx => by simp at hx⟩
  | x :: xs, ys, h => by
    unfold mapO at h
    split at h <;> try cases h
    rename_i y hy
    split at h <;> cases h
    rename_i us hus
    obtain ⟨h1, h2⟩ := mapO_get hus
    refine ⟨by simp [h1], fun i u hu => ?_⟩
    cases i with
    | zero => simp at hu; subst hu; exact ⟨y, rfl, hy⟩
    | succ i => simp at hu; exact h2 i u hu

def rowsOf (cs : List AV) (off len sz : Nat) : List (List AV) := (List.range len).map fun i => (cs.drop (off + i * sz)).take sz

/-- What a value reads as once the names that 'keep' does not hold are frozen. -/
def snapV (nn : Bool) (keep : Nat → Bool) (h : Heap) : Nat → AV → Option AV
  | 0, _ => none
  | d + 1, v => match v with
    | .nils => some (if nn then .fsl [] else .nils)
    | .sl id off len sz => if keep id then some (.sl id off len sz) else match h id with
      | some (.cells cs) => if off + len * sz ≤ cs.length then (mapO (mapO (snapV nn keep h d)) (rowsOf cs off len sz)).map .fsl else none
      | _ => none
    | .ptr id off => if keep id then some (.ptr id off) else match h id with
      | some (.cells cs) => (mapO (snapV nn keep h d) (cs.drop off)).map .fptr
      | _ => none
    | .agg cs => (mapO (snapV nn keep h d) cs).map .agg
    | .tup cs => (mapO (snapV nn keep h d) cs).map .tup
    | .iface t v => (snapV nn keep h d v).map (.iface t)
    | v => some v

theorem snapV_one {nn : Bool} {keep : Nat → Bool} {h : Heap} {d : Nat} {v x : AV} (hs : snapV nn keep h d v = some x) (h1 : v.one = true) : x.one = true := by
  cases d with
  | zero => simp [snapV] at hs
  | succ d =>
    unfold snapV at hs
    split at hs <;> try (cases hs; first | rfl | exact h1)
    · cases nn <;> (cases hs; rfl)
    · split at hs
      · cases hs; rfl
      · split at hs <;> try cases hs
        split at hs <;> try cases hs
        rw [Option.map_eq_some_iff] at hs
        obtain ⟨_, _, rfl⟩ := hs; rfl
    · split at hs
      · cases hs; rfl
      · split at hs <;> try cases hs
        rw [Option.map_eq_some_iff] at hs
        obtain ⟨_, _, rfl⟩ := hs; rfl
    · simp [AV.one] at h1
    · simp [AV.one] at h1
    · rw [Option.map_eq_some_iff] at hs
      obtain ⟨_, _, rfl⟩ := hs; rfl

/-- The blocks of the names that go, frozen. -/
noncomputable def Cx.iceAll (X : Cx) (keep : Nat → Bool) (h : Heap) (w : World) : Cx :=
  ⟨X.mu, fun b => open Classical in if ∃ id k base size, keep id = false ∧ h id = some k ∧ X.mu id = some (b, base, size) then w.heap[b]? else X.phi b⟩

section
variable {P : Program} {X : Cx} {s : HS} {w0 : W0} {w : World}

def swept (keep : Nat → Bool) (s : HS) : HS := ⟨fun i => if keep i then s.h i else none, s.n⟩

theorem R.le_iceAll (hR : R X s w0 w) (keep : Nat → Bool) : X.Le (X.iceAll keep s.h w) := by
  refine ⟨fun _ _ h => h, fun b o h => ?_⟩
  unfold Cx.iceAll
  simp only
  split
  · rename_i he
    obtain ⟨id, k, base, size, hk, hid, hm⟩ := he
    obtain ⟨b', base', size', o', m1, m2, _, _⟩ := hR.live id k hid
    rw [hm] at m1; cases m1
    rw [m2] at h; cases h
  · exact h

theorem R.iceAll (hR : R X s w0 w) (keep : Nat → Bool) : R (X.iceAll keep s.h w) (swept keep s) w0 w := by
  have hle := hR.le_iceAll keep
  have conv : ∀ i k, (swept keep s).h i = some k → keep i = true ∧ s.h i = some k := by
    intro i k h
    simp only [swept] at h
    split at h
    · exact ⟨by assumption, h⟩
    · cases h
  refine ⟨hR.os, hR.tape, hR.output, hR.size, ?_, ?_, ?_, ?_, ?_, fun r g hg => ?_⟩
  rotate_right
  · obtain ⟨g1, g2, g3⟩ := hR.gh r g hg
    refine ⟨g1, ?_, g3.turn hg (fun _ _ _ => rfl) fun b sz u k2 k3 k4 => ⟨?_, k3, fun i ki p q hi => k4 i ki p q (conv i ki hi).2⟩⟩
    · show (swept keep s).h r = none
      simp only [swept]
      split
      · exact g2
      · rfl
    · unfold Cx.iceAll
      simp only
      rw [if_neg]
      · exact k2
      · rintro ⟨id, k, base, size, hk, hid, hm⟩
        exact k4 id k _ _ hid hm
  · intro b hb
    obtain ⟨o1, o2, o3⟩ := hR.old b hb
    unfold Cx.iceAll
    simp only
    rw [if_neg]
    · exact ⟨o1, o2, o3⟩
    · rintro ⟨id, k, base, size, hk, hid, hm⟩
      exact o3 _ _ _ hm
  · intro b o h
    unfold Cx.iceAll at h
    simp only at h
    split at h
    · exact h
    · exact hR.phi b o h
  · intro i k hi
    obtain ⟨hk, hi'⟩ := conv i k hi
    obtain ⟨b, base, size, o, m1, m2, m3, m4⟩ := hR.live i k hi'
    refine ⟨b, base, size, o, m1, ?_, m3, m4.mono hle⟩
    unfold Cx.iceAll
    simp only
    rw [if_neg]
    · exact m2
    · rintro ⟨j, kj, base', size', hkj, hj, hm⟩
      have := hR.inj i j k kj b base size base' size' hi' hj m1 hm
      subst this
      rw [hk] at hkj; cases hkj
  · intro i j ki kj b p q p' q' hi hj mi mj
    exact hR.inj i j ki kj b p q p' q' (conv i ki hi).2 (conv j kj hj).2 mi mj
  · intro i hi
    have h1 := hR.fresh i hi
    refine ⟨h1.1, ?_⟩
    show (swept keep s).h i = none
    simp only [swept]
    split
    · exact h1.2
    · rfl

theorem iceAll_phi {keep : Nat → Bool} {id b base size : Nat} {k : Blk} (hk : keep id = false) (hid : s.h id = some k) (hm : X.mu id = some (b, base, size)) : (X.iceAll keep s.h w).phi b = w.heap[b]? := by
  unfold Cx.iceAll
  simp only
  rw [if_pos ⟨id, k, base, size, hk, hid, hm⟩]

theorem rowsOf_get {cs : List AV} {off len sz : Nat} (hle : off + len * sz ≤ cs.length) {i : Nat} (hi : i < len) : (rowsOf cs off len sz)[i]? = some ((cs.drop (off + i * sz)).take sz) ∧ ((cs.drop (off + i * sz)).take sz).length = sz := by
  refine ⟨by simp [rowsOf, hi], ?_⟩
  have : i + 1 ≤ len := hi
  have := Nat.mul_le_mul_right sz this
  rw [Nat.add_mul, Nat.one_mul] at this
  simp
  omega

theorem snapV_sound (hR : R X s w0 w) {nn : Bool} (keep : Nat → Bool) : ∀ (d : Nat) (v x : AV) (y : Value), V X v y → snapV nn keep s.h d v = some x → V (X.iceAll keep s.h w) x y := by
  have hle := hR.le_iceAll keep
  intro d
  induction d with
  | zero => intro v x y _ h; simp [snapV] at h
  | succ d ih =>
    intro v x y hv h
    unfold snapV at h
    split at h
    · cases hv
      cases nn
      · cases h; exact .nils
      · cases h; exact .fsl0 _ _
    · rename_i id off len sz
      split at h
      · cases h; exact hv.mono hle
      · rename_i hk
        split at h <;> try cases h
        rename_i cs hid
        split at h <;> try cases h
        rename_i hfit
        rw [Option.map_eq_some_iff] at h
        obtain ⟨rows, hrows, rfl⟩ := h
        cases hv with
        | @sl _ _ _ _ b base size cap hm hl hs =>
          obtain ⟨b', base', size', o, m1, m2, m3, m4⟩ := hR.live id _ hid
          rw [hm] at m1; cases m1
          cases m4 with
          | @cells _ c e fr hsz hfr hfit' hc h1 =>
            have hphi := iceAll_phi (w := w) (by simpa using hk) hid hm
            rw [m3] at hphi
            obtain ⟨hrl, hrg⟩ := mapO_get hrows
            have hrl' : rows.length = len := by rw [hrl]; simp [rowsOf]
            -- each row, each cell
            have hcell : ∀ (i j : Nat), i < len → j < sz → ∃ row u cv xj, rows[i]? = some row ∧ row.length = sz ∧ cs[off + i * sz + j]? = some u ∧ c[base + off + i * sz + j]? = some cv ∧ V X u cv ∧ row[j]? = some xj ∧ snapV nn keep s.h d u = some xj ∧ u.one = true := by
              intro i j hi hj
              obtain ⟨hro, hrol⟩ := rowsOf_get hfit hi
              obtain ⟨row, hrow, hsn⟩ := hrg i _ hro
              obtain ⟨hcl, hcg⟩ := mapO_get hsn
              have hlt : off + i * sz + j < cs.length := by
                have : i + 1 ≤ len := hi
                have := Nat.mul_le_mul_right sz this
                rw [Nat.add_mul, Nat.one_mul] at this
                omega
              have hu := List.getElem?_eq_getElem hlt
              have hu' : ((cs.drop (off + i * sz)).take sz)[j]? = some cs[off + i * sz + j] := by
                rw [List.getElem?_take, if_pos hj, List.getElem?_drop, hu]
              obtain ⟨xj, hxj, hs'⟩ := hcg j _ hu'
              obtain ⟨cv, hcv, hvv⟩ := hc _ _ hu
              refine ⟨row, _, cv, xj, hrow, by rw [hcl, hrol], hu, ?_, hvv, hxj, hs', h1 _ (List.getElem_mem hlt)⟩
              rw [show base + off + i * sz + j = base + (off + i * sz + j) by omega]; exact hcv
            have hrsz : ∀ row ∈ rows, row.length = sz := by
              intro row hrow
              obtain ⟨i, hi⟩ := List.mem_iff_getElem?.1 hrow
              have hil : i < len := by rw [← hrl']; exact (List.getElem?_eq_some_iff.1 hi).1
              obtain ⟨hro, hrol⟩ := rowsOf_get hfit hil
              obtain ⟨row', hrow', hsn⟩ := hrg i _ hro
              rw [hi] at hrow'; cases hrow'
              rw [(mapO_get hsn).1, hrol]
            have key : V (X.iceAll keep s.h w) (.fsl rows) (.slice (some ⟨b, base + off, none⟩) rows.length cap) := by
              refine .fsl (sz := sz) (fun i j => (c[base + off + i * sz + j]?).getD undef) hphi hrsz ?_ ?_ (by omega) ?_
              · intro i j hi hj
                obtain ⟨row, u, cv, xj, _, _, _, hcv, _⟩ := hcell i j (by omega) hj
                rw [hcv]; rfl
              · intro i row j xj hrow hxj
                have hil : i < len := by rw [← hrl']; exact (List.getElem?_eq_some_iff.1 hrow).1
                have hjl : j < sz := by rw [← hrsz row (List.mem_of_getElem? hrow)]; exact (List.getElem?_eq_some_iff.1 hxj).1
                obtain ⟨row', u, cv, xj', hrow', _, _, hcv, hvv, hxj', hs', _⟩ := hcell i j hil hjl
                rw [hrow] at hrow'; cases hrow'
                rw [hxj] at hxj'; cases hxj'
                rw [hcv]
                exact ih u xj cv hvv hs'
              · intro row hrow xj hxj
                obtain ⟨i, hi⟩ := List.mem_iff_getElem?.1 hrow
                obtain ⟨j, hj⟩ := List.mem_iff_getElem?.1 hxj
                have hil : i < len := by rw [← hrl']; exact (List.getElem?_eq_some_iff.1 hi).1
                have hjl : j < sz := by rw [← hrsz row hrow]; exact (List.getElem?_eq_some_iff.1 hj).1
                obtain ⟨row', u, cv, xj', hrow', _, _, hcv, hvv, hxj', hs', ho⟩ := hcell i j hil hjl
                rw [hi] at hrow'; cases hrow'
                rw [hj] at hxj'; cases hxj'
                exact snapV_one hs' ho
            rw [hrl'] at key
            exact key
    · rename_i id off
      split at h
      · cases h; exact hv.mono hle
      · rename_i hk
        split at h <;> try cases h
        rename_i cs hid
        rw [Option.map_eq_some_iff] at h
        obtain ⟨xs, hxs, rfl⟩ := h
        cases hv with
        | @ptr _ _ b base size hm =>
          obtain ⟨b', base', size', o, m1, m2, m3, m4⟩ := hR.live id _ hid
          rw [hm] at m1; cases m1
          cases m4 with
          | @cells _ c e fr hsz hfr hfit' hc h1 =>
            have hphi := iceAll_phi (w := w) (by simpa using hk) hid hm
            rw [m3] at hphi
            obtain ⟨hxl, hxg⟩ := mapO_get hxs
            have hcell : ∀ i, i < xs.length → ∃ u cv xi, cs[off + i]? = some u ∧ c[base + off + i]? = some cv ∧ V X u cv ∧ xs[i]? = some xi ∧ snapV nn keep s.h d u = some xi ∧ u.one = true := by
              intro i hi
              have hlt : off + i < cs.length := by rw [hxl] at hi; simp at hi; omega
              have hu := List.getElem?_eq_getElem hlt
              have hu' : (cs.drop off)[i]? = some cs[off + i] := by rw [List.getElem?_drop, hu]
              obtain ⟨xi, hxi, hs'⟩ := hxg i _ hu'
              obtain ⟨cv, hcv, hvv⟩ := hc _ _ hu
              exact ⟨_, cv, xi, hu, by rw [Nat.add_assoc]; exact hcv, hvv, hxi, hs', h1 _ (List.getElem_mem hlt)⟩
            refine .fptr (fun i => (c[base + off + i]?).getD undef) hphi ?_ ?_ ?_
            · intro i hi
              obtain ⟨u, cv, xi, _, hcv, _⟩ := hcell i hi
              rw [hcv]; rfl
            · intro i xi hxi
              obtain ⟨u, cv, xi', _, hcv, hvv, hxi', hs', _⟩ := hcell i (List.getElem?_eq_some_iff.1 hxi).1
              rw [hxi] at hxi'; cases hxi'
              rw [hcv]
              exact ih u xi cv hvv hs'
            · intro xi hxi
              obtain ⟨i, hi⟩ := List.mem_iff_getElem?.1 hxi
              obtain ⟨u, cv, xi', _, hcv, hvv, hxi', hs', ho⟩ := hcell i (List.getElem?_eq_some_iff.1 hi).1
              rw [hi] at hxi'; cases hxi'
              exact snapV_one hs' ho
    · rename_i cs
      rw [Option.map_eq_some_iff] at h
      obtain ⟨xs, hxs, rfl⟩ := h
      obtain ⟨hxl, hxg⟩ := mapO_get hxs
      cases hv with
      | @agg _ ys hl hvv h1 =>
        refine .agg (by rw [hxl]; exact hl) ?_ ?_
        · intro i xi yi hxi hyi
          have hi : i < cs.length := by rw [← hxl]; exact (List.getElem?_eq_some_iff.1 hxi).1
          obtain ⟨xi', hxi', hs'⟩ := hxg i _ (List.getElem?_eq_getElem hi)
          rw [hxi] at hxi'; cases hxi'
          exact ih _ _ _ (hvv i _ yi (List.getElem?_eq_getElem hi) hyi) hs'
        · intro xi hxi
          obtain ⟨i, hi⟩ := List.mem_iff_getElem?.1 hxi
          have hil : i < cs.length := by rw [← hxl]; exact (List.getElem?_eq_some_iff.1 hi).1
          obtain ⟨xi', hxi', hs'⟩ := hxg i _ (List.getElem?_eq_getElem hil)
          rw [hi] at hxi'; cases hxi'
          exact snapV_one hs' (h1 _ (List.getElem_mem hil))
    · rename_i cs
      rw [Option.map_eq_some_iff] at h
      obtain ⟨xs, hxs, rfl⟩ := h
      obtain ⟨hxl, hxg⟩ := mapO_get hxs
      cases hv with
      | @tup _ ys hl hvv =>
        refine .tup (by rw [hxl]; exact hl) ?_
        intro i xi yi hxi hyi
        have hi : i < cs.length := by rw [← hxl]; exact (List.getElem?_eq_some_iff.1 hxi).1
        obtain ⟨xi', hxi', hs'⟩ := hxg i _ (List.getElem?_eq_getElem hi)
        rw [hxi] at hxi'; cases hxi'
        exact ih _ _ _ (hvv i _ yi (List.getElem?_eq_getElem hi) hyi) hs'
    · rw [Option.map_eq_some_iff] at h
      obtain ⟨u, hu, rfl⟩ := h
      cases hv with
      | iface _ hvv => exact .iface _ (ih _ _ _ hvv hu)
    · cases h; exact hv.mono hle

/-- Behind a call: the names that stay, the cells of some of them snapshots. -/
def sweptD (keep deep : Nat → Bool) (s : HS) : HS := ⟨fun i => if keep i then if deep i then match s.h i with
    | some (.cells cs) => (mapO (snapV false keep s.h 8) cs).map .cells
    | b => b
  else s.h i else none, s.n⟩

theorem R.sweptD (hR : R X s w0 w) (keep deep : Nat → Bool) : R (X.iceAll keep s.h w) (Go.Ev.sweptD keep deep s) w0 w := by
  have h0 := hR.iceAll keep
  have hle := hR.le_iceAll keep
  have conv : ∀ i k, (Go.Ev.sweptD keep deep s).h i = some k → ∃ k', (swept keep s).h i = some k' := by
    intro i k h
    simp only [Go.Ev.sweptD] at h
    simp only [swept]
    split at h
    · rename_i hk
      rw [if_pos hk]
      split at h
      · split at h
        · rename_i cs hc; exact ⟨_, hc⟩
        · exact ⟨_, h⟩
      · exact ⟨_, h⟩
    · cases h
  refine ⟨h0.os, h0.tape, h0.output, h0.size, h0.old, h0.phi, ?_, ?_, ?_, fun r g hg => ?_⟩
  rotate_right
  · obtain ⟨g1, g2, g3⟩ := h0.gh r g hg
    refine ⟨g1, ?_, g3.turn hg (fun _ _ _ => rfl) fun b sz u k2 k3 k4 => ⟨k2, k3, fun i ki p q hi => ?_⟩⟩
    · cases hc : (Go.Ev.sweptD keep deep s).h r with
      | none => rfl
      | some k =>
        obtain ⟨k', hk'⟩ := conv r k hc
        rw [hk'] at g2; cases g2
    · obtain ⟨k', hk'⟩ := conv i ki hi
      exact k4 i k' p q hk'
  · intro i k hi
    simp only [Go.Ev.sweptD] at hi
    split at hi
    · rename_i hk
      have hsw : ∀ k', s.h i = some k' → (swept keep s).h i = some k' := fun k' h => by simp only [swept]; rw [if_pos hk]; exact h
      split at hi
      · split at hi
        · rename_i cs hcs
          rw [Option.map_eq_some_iff] at hi
          obtain ⟨xs, hxs, rfl⟩ := hi
          obtain ⟨b, base, size, o, m1, m2, m3, m4⟩ := h0.live i _ (hsw _ hcs)
          refine ⟨b, base, size, o, m1, m2, m3, ?_⟩
          obtain ⟨b', base', size', o', n1, n2, n3, n4⟩ := hR.live i _ hcs
          have hm : X.mu i = some (b, base, size) := m1
          rw [hm] at n1; cases n1
          rw [m3] at n3; cases n3
          cases n4 with
          | cells hsz hfr hfit hc h1 =>
            obtain ⟨hxl, hxg⟩ := mapO_get hxs
            refine .cells hsz hfr (by rw [hxl]; exact hfit) ?_ ?_
            · intro j x hx
              have hj : j < cs.length := by rw [← hxl]; exact (List.getElem?_eq_some_iff.1 hx).1
              obtain ⟨x', hx', hs'⟩ := hxg j _ (List.getElem?_eq_getElem hj)
              rw [hx] at hx'; cases hx'
              obtain ⟨y, hy, hv⟩ := hc j _ (List.getElem?_eq_getElem hj)
              exact ⟨y, hy, snapV_sound hR keep _ _ _ _ hv hs'⟩
            · intro x hx
              obtain ⟨j, hj⟩ := List.mem_iff_getElem?.1 hx
              have hjl : j < cs.length := by rw [← hxl]; exact (List.getElem?_eq_some_iff.1 hj).1
              obtain ⟨x', hx', hs'⟩ := hxg j _ (List.getElem?_eq_getElem hjl)
              rw [hj] at hx'; cases hx'
              exact snapV_one hs' (h1 _ (List.getElem_mem hjl))
        · exact h0.live i k (hsw _ hi)
      · exact h0.live i k (hsw _ hi)
    · cases hi
  · intro i j ki kj b p q p' q' hi hj mi mj
    obtain ⟨ki', hi'⟩ := conv i ki hi
    obtain ⟨kj', hj'⟩ := conv j kj hj
    exact h0.inj i j ki' kj' b p q p' q' hi' hj' mi mj
  · intro i hi
    have h1 := h0.fresh i hi
    refine ⟨h1.1, ?_⟩
    cases hc : (Go.Ev.sweptD keep deep s).h i with
    | none => rfl
    | some k =>
      obtain ⟨k', hk'⟩ := conv i k hc
      rw [hk'] at h1; cases h1.2

end
end Go.Ev
