/- An abstract operation does what the model's does. -/
import Derived.Test.YtinngopfgdfdbaaGreatDoorEv9
set_option linter.unusedVariables false
set_option linter.unusedSimpArgs false
namespace Go.Ev

section
variable {P : Program} {X : Cx} {s : HS} {w0 : W0} {w : World}

theorem isConst_or (x y : Operand) : (isConst x || isConst y) = ((x matches .const _) || (y matches .const _)) := by
  cases x <;> cases y <;> rfl

theorem evOp_sound (hR : R X s w0 w) {ts : List AV} {a : Act} (ha : VL X ts a.tmps.toList) {fz : Bool} {o : Oper} {x : AV} {s' : HS} (h : evOp P fz o.op ts s = some (x, s')) :
    Told P X w0 ((execOp a.eval o).run P w) x s' := by
  obtain ⟨dst, op, type, pos, after, guard⟩ := o
  simp only at h
  cases op with
  | move p =>
    simp only [evOp] at h
    rw [Option.map_eq_some_iff] at h
    obtain ⟨v, hv, he⟩ := h; cases he
    exact ⟨X, _, w, _, Cx.Le.refl X, rfl, .inl rfl, rho_sound ha hv, hR⟩
  | assign p =>
    simp only [evOp] at h
    rw [Option.map_eq_some_iff] at h
    obtain ⟨v, hv, he⟩ := h; cases he
    exact ⟨X, _, w, _, Cx.Le.refl X, rfl, .inl rfl, rho_sound ha hv, hR⟩
  | pick c p q =>
    simp only [evOp] at h
    split at h <;> try cases h
    rename_i t hc
    split at h <;> try cases h
    rename_i u hu
    split at h <;> cases h
    rename_i v hv
    have h1 := rho_sound ha hc
    have h2 := rho_sound ha hu
    have h3 := rho_sound ha hv
    have hce : a.eval c = .bool t := by generalize a.eval c = cv at h1 ⊢; cases h1; rfl
    cases t
    · exact ⟨X, _, w, _, Cx.Le.refl X, by simp [execOp, hce, asBool], .inl rfl, h3, hR⟩
    · exact ⟨X, _, w, _, Cx.Le.refl X, by simp [execOp, hce, asBool], .inl rfl, h2, hR⟩
  | alloc e =>
    simp only [evOp] at h
    split at h <;> try cases h
    rename_i z hz
    split at h <;> try cases h
    rename_i hst
    simp only [Option.some.injEq] at h
    obtain ⟨rfl, rfl⟩ : x = (evNew fz s z).1 ∧ s' = (evNew fz s z).2 := by rw [h]; exact ⟨rfl, rfl⟩
    obtain ⟨zv, hzr, hzv⟩ := run_zero (P := P) (X := X) w hz
    obtain ⟨Y, w', hle, hr, hv, hR'⟩ := evNew_sound (P := P) hR (fz := fz) (t := e) hzv hst
    refine ⟨Y, _, w', _, hle, ?_, .inl rfl, hv, hR'⟩
    simp [execOp, Instr.alloc, hzr, hr]
  | box e p =>
    simp only [evOp] at h
    split at h <;> try cases h
    rename_i v hx
    split at h <;> try cases h
    rename_i hst
    simp only [Option.some.injEq] at h
    obtain ⟨rfl, rfl⟩ : x = (evNew fz s v).1 ∧ s' = (evNew fz s v).2 := by rw [h]; exact ⟨rfl, rfl⟩
    obtain ⟨Y, w', hle, hr, hv, hR'⟩ := evNew_sound (P := P) hR (fz := fz) (t := e) (rho_sound ha hx) hst
    refine ⟨Y, _, w', _, hle, ?_, .inl rfl, hv, hR'⟩
    simp [execOp, Instr.box, hr]
  | build t parts =>
    simp only [evOp] at h
    split at h <;> try cases h
    rename_i ps hps
    rw [Option.map_eq_some_iff] at h
    obtain ⟨v, hv, he⟩ := h; cases he
    have hpl := rhoP_sound ha hps
    obtain ⟨y, hy, hvy⟩ := evBuild_sound (P := P) w (qs := parts.map fun (i, x) => (i, a.eval x)) (by simpa using hpl) hv
    exact .val hy hvy hR
  | buildSlice t len parts =>
    simp only [evOp] at h
    split at h <;> try cases h
    rename_i ps hps
    have hpl := rhoP_sound ha hps
    obtain ⟨Y, y, w', hle, hr, hv, hR', _⟩ := evBuildSlice_sound (P := P) hR (qs := parts.map fun (i, x) => (i, a.eval x)) (by simpa using hpl) h
    exact .val' hle hr hv hR'
  | load t p =>
    simp only [evOp] at h
    split at h <;> try cases h
    rename_i pv hp
    rw [Option.map_eq_some_iff] at h
    obtain ⟨v, hv, he⟩ := h; cases he
    obtain ⟨y, hy, hvy, _⟩ := evLoad_sound (P := P) hR (rho_sound ha hp) hv
    exact .val hy hvy hR
  | store t p v =>
    simp only [evOp] at h
    split at h <;> try cases h
    rename_i pv hp
    split at h <;> try cases h
    rename_i vv hv
    rw [Option.map_eq_some_iff] at h
    obtain ⟨s2, hs, he⟩ := h; cases he
    obtain ⟨w', hr, hR'⟩ := evStore_sound (P := P) hR (rho_sound ha hp) (rho_sound ha hv) hs
    exact .skip hr hR'
  | nilCheck p =>
    simp only [evOp] at h
    split at h <;> try cases h
    rename_i v hx
    rw [Option.map_eq_some_iff] at h
    obtain ⟨u, hu, he⟩ := h; cases he
    have hv := rho_sound ha hx
    have key : ∀ xv, V X v xv → a.eval p = xv → Told P X w0 ((execOp a.eval ⟨dst, .nilCheck p, type, pos, after, guard⟩).run P w) x s := by
      intro xv hv hxv
      unfold execOp
      simp only [hxv]
      unfold evNilCheck at hu
      split at hu <;> cases hu <;> cases hv
      · rename_i hm; exact ⟨X, _, w, _, Cx.Le.refl X, rfl, .inl rfl, .ptr hm, hR⟩
      · rename_i g hb hc hv h1; exact ⟨X, _, w, _, Cx.Le.refl X, rfl, .inl rfl, .fptr g hb hc hv h1, hR⟩
      · rename_i hv; exact ⟨X, _, w, _, Cx.Le.refl X, rfl, .inl rfl, .iface _ hv, hR⟩
      · exact ⟨X, _, w, _, Cx.Le.refl X, rfl, .inl rfl, .clo (by assumption) (by assumption) (by assumption) (by assumption), hR⟩
    exact key _ hv rfl
  | binOp op t p q yt =>
    simp only [evOp] at h
    split at h <;> try cases h
    rename_i u hu
    split at h <;> try cases h
    rename_i v hv
    rw [Option.map_eq_some_iff] at h
    obtain ⟨r, hr, he⟩ := h; cases he
    rw [isConst_or] at hr
    obtain ⟨y', hy, hvy⟩ := evBin_sound (P := P) w (rho_sound ha hu) (rho_sound ha hv) hr
    exact .val hy hvy hR
  | unOp op t p =>
    simp only [evOp] at h
    split at h <;> try cases h
    rename_i v hv
    rw [Option.map_eq_some_iff] at h
    obtain ⟨r, hr, he⟩ := h; cases he
    obtain ⟨y', hy, hvy⟩ := evUn_sound (P := P) w (rho_sound ha hv) hr
    exact .val hy hvy hR
  | convert src dst p =>
    simp only [evOp] at h
    split at h <;> try cases h
    rename_i v hv
    rw [Option.map_eq_some_iff] at h
    obtain ⟨r, hr, he⟩ := h; cases he
    obtain ⟨Y, y', w', hle, hy, hvy, hR'⟩ := evConv2_sound (P := P) hR (rho_sound ha hv) hr
    exact .val' hle hy hvy hR'
  | typeAssert p xT as ok =>
    simp only [evOp] at h
    split at h <;> try cases h
    rename_i v hv
    rw [Option.map_eq_some_iff] at h
    obtain ⟨r, hr, he⟩ := h; cases he
    obtain ⟨y', hy, hvy⟩ := evTA_sound (P := P) (xT := xT) (w := w) (rho_sound ha hv) hr
    exact .val hy hvy hR
  | makeInterface t p =>
    simp only [evOp] at h
    split at h <;> try cases h
    rename_i v hv
    split at h <;> cases h
    rename_i hc
    exact .val (run_makeInterface w t _ hc) (.iface t (rho_sound ha hv)) hR
  | makeFunc fn first cap =>
    simp only [evOp] at h
    split at h <;> try cases h
    rename_i us hus
    split at h <;> cases h
    rename_i vs hvs
    have h1 := rhos_sound ha hus
    have h2 := rhos_sound ha hvs
    refine .val (y := .func fn (first.map a.eval) (cap.map a.eval)) (by simp [Instr.makeFunc]) (.clo ?_ ?_ ?_ ?_) hR
    · have := h1.len; simpa using this
    · have := h2.len; simpa using this
    · intro i x y hx hy; exact h1.at_ i x y hx (by simpa using hy)
    · intro i x y hx hy; exact h2.at_ i x y hx (by simpa using hy)
  | makeMap t r =>
    cases r with
    | some r => simp [evOp] at h
    | none =>
      simp only [evOp] at h
      cases h
      have hle : X.Le (X.name s.n (w.heap.size, 0, 0)) := Cx.le_name (hR.fresh s.n (Nat.le_refl _)).1
      exact .val' (w' := w.alloc (.map #[] 0)) hle (by simp [Instr.makeMap]) (.map (b := w.heap.size) (base := 0) (size := 0) (by simp [Cx.name])) (hR.alloc (fun Y _ => .map (by simp) (fun i x m hx _ => by simp at hx)))
  | slice t p lo hi mx =>
    cases mx with
    | some r => simp [evOp] at h
    | none =>
      simp only [evOp] at h
      split at h <;> try cases h
      rename_i v hv
      split at h <;> try cases h
      rename_i l hl
      split at h <;> try cases h
      rename_i u hu
      rw [Option.map_eq_some_iff] at h
      obtain ⟨r, hr, he⟩ := h; cases he
      obtain ⟨y', hy, hvy⟩ := evSlice_sound (P := P) w (rho_sound ha hv) (rhoO_sound ha hl) (rhoO_sound ha hu) hr
      exact .val hy hvy hR
  | fieldAddr t p f =>
    simp only [evOp] at h
    split at h <;> try cases h
    rename_i v hv
    rw [Option.map_eq_some_iff] at h
    obtain ⟨r, hr, he⟩ := h; cases he
    obtain ⟨y', hy, hvy⟩ := evFieldAddr_sound (P := P) w (rho_sound ha hv) hr
    exact .val hy hvy hR
  | field t p f =>
    simp only [evOp] at h
    split at h <;> try cases h
    rename_i v hv
    rw [Option.map_eq_some_iff] at h
    obtain ⟨r, hr, he⟩ := h; cases he
    obtain ⟨y', hy, hvy⟩ := evField_sound (P := P) w (rho_sound ha hv) hr
    exact .val hy hvy hR
  | indexAddr t p i =>
    simp only [evOp] at h
    split at h <;> try cases h
    rename_i v hv
    split at h <;> try cases h
    rename_i u hu
    rw [Option.map_eq_some_iff] at h
    obtain ⟨r, hr, he⟩ := h; cases he
    obtain ⟨y', hy, hvy⟩ := evIndexAddr_sound (P := P) w (rho_sound ha hv) (rho_sound ha hu) hr
    exact .val hy hvy hR
  | index t p i =>
    simp only [evOp] at h
    split at h <;> try cases h
    rename_i v hv
    split at h <;> try cases h
    rename_i u hu
    rw [Option.map_eq_some_iff] at h
    obtain ⟨r, hr, he⟩ := h; cases he
    obtain ⟨y', hy, hvy⟩ := evIndex_sound (P := P) w (rho_sound ha hv) (rho_sound ha hu) hr
    exact .val hy hvy hR
  | lookup t p i ok =>
    simp only [evOp] at h
    split at h <;> try cases h
    rename_i v hv
    split at h <;> try cases h
    rename_i u hu
    rw [Option.map_eq_some_iff] at h
    obtain ⟨r, hr, he⟩ := h; cases he
    obtain ⟨y', hy, hvy⟩ := evLookup_sound (P := P) hR (rho_sound ha hv) (rho_sound ha hu) hr
    exact .val hy hvy hR
  | mapUpdate t m k p =>
    simp only [evOp] at h
    split at h <;> try cases h
    rename_i mv hm
    split at h <;> try cases h
    rename_i kv hk
    split at h <;> try cases h
    rename_i xv hx
    rw [Option.map_eq_some_iff] at h
    obtain ⟨s2, hs, he⟩ := h; cases he
    obtain ⟨w', hr, hR'⟩ := evMapUpdate_sound (P := P) hR (rho_sound ha hm) (rho_sound ha hk) (rho_sound ha hx) hs
    exact .skip hr hR'
  | insert t m k p =>
    simp only [evOp] at h
    split at h <;> try cases h
    rename_i mv hm
    split at h <;> try cases h
    rename_i kv hk
    split at h <;> try cases h
    rename_i xv hx
    rw [Option.map_eq_some_iff] at h
    obtain ⟨s2, hs, he⟩ := h; cases he
    obtain ⟨w', hr, hR'⟩ := evMapUpdate_sound (P := P) hR (rho_sound ha hm) (rho_sound ha hk) (rho_sound ha hx) hs
    exact .skip hr hR'
  | range t p =>
    simp only [evOp] at h
    split at h <;> try cases h
    rename_i hu
    split at h <;> cases h
    rename_i u hx
    have hv := rho_sound ha hx
    have hle : X.Le (X.name s.n (w.heap.size, 0, 0)) := Cx.le_name (hR.fresh s.n (Nat.le_refl _)).1
    have hxe : a.eval p = .string ⟨⟨u⟩⟩ := by generalize a.eval p = cv at hv ⊢; cases hv; rfl
    refine .val' (w' := w.alloc (.stringIter ⟨⟨u⟩⟩ 0)) (y := .pointer (some ⟨w.heap.size, 0, none⟩)) hle (by rw [hxe]; simp [Instr.range, run_underlying hu]) ?_ (hR.alloc (fun Y _ => .iter u 0 rfl))
    have := V.ptr (X := X.name s.n (w.heap.size, 0, 0)) (id := s.n) (off := 0) (b := w.heap.size) (base := 0) (size := 0) (by simp [Cx.name])
    simpa using this
  | next it isS =>
    cases isS with
    | false => simp [evOp] at h
    | true =>
      simp only [evOp] at h
      split at h <;> try cases h
      rename_i v hv
      obtain ⟨y, w', hr, hvy, hR'⟩ := evNext_sound (P := P) hR (ty := type) (rho_sound ha hv) h
      exact .val' (Cx.Le.refl X) hr hvy hR'
  | extract t i =>
    simp only [evOp] at h
    split at h <;> try cases h
    rename_i xs hx
    rw [Option.map_eq_some_iff] at h
    obtain ⟨v, hv, he⟩ := h; cases he
    have ht := rho_sound ha hx
    have key : ∀ tv, V X (.tup xs) tv → a.eval t = tv → Told P X w0 ((execOp a.eval ⟨dst, .extract t i, type, pos, after, guard⟩).run P w) x s := by
      intro tv ht htv
      unfold execOp
      simp only [htv]
      cases ht with
      | tup hl hvv =>
        obtain ⟨y, hy, hvy⟩ := (VL.ofArr hl hvv).get hv
        rw [Array.getElem?_toList] at hy
        exact .val (y := y) (by simp [Instr.extract, hy]) hvy hR
    exact key _ ht rfl
  | call c =>
    obtain ⟨callee, args, tys⟩ := c
    cases callee with
    | value f => simp [evOp] at h
    | invoke r m => simp [evOp] at h
    | builtin b =>
      obtain ⟨tyl⟩ := tys
      obtain ⟨argl⟩ := args
      cases b <;> try (simp [evOp] at h; done)
      · simp only [evOp] at h
        split at h <;> try cases h
        rename_i u v hargs
        split at h <;> try cases h
        rename_i t t2
        have hl := rhos_sound ha hargs
        have h2 : ∃ A B, argl.map a.eval = [A, B] ∧ V X u A ∧ V X v B := by
          have hlen := hl.len
          simp only [List.length_cons, List.length_nil] at hlen
          match hm : argl.map a.eval, hlen with
          | [A, B], _ => rw [hm] at hl; exact ⟨A, B, rfl, hl.head, hl.tail.head⟩
        obtain ⟨A, B, hAB, hA, hB⟩ := h2
        obtain ⟨Y, y, w', hle, hr, hvy, hR'⟩ := evAppend_sound (P := P) hR (ty := type) hA hB h
        refine ⟨Y, .value y, w', y, hle, ?_, .inl rfl, hvy, hR'⟩
        simp [execOp, resolve, invoke, builtin, hAB, hr]
      · simp only [evOp] at h
        split at h <;> try cases h
        rename_i u hargs
        split at h <;> try cases h
        rename_i t
        rw [Option.map_eq_some_iff] at h
        obtain ⟨r, hr, he⟩ := h; cases he
        have hl := rhos_sound ha hargs
        have h2 : ∃ A, argl.map a.eval = [A] ∧ V X u A := by
          have hlen := hl.len
          simp only [List.length_cons, List.length_nil] at hlen
          match hm : argl.map a.eval, hlen with
          | [A], _ => rw [hm] at hl; exact ⟨A, rfl, hl.head⟩
        obtain ⟨A, hAB, hA⟩ := h2
        obtain ⟨w', hr', hR'⟩ := evClear_sound (P := P) hR (ty := type) hA hr
        refine ⟨X, .value (.tuple #[]), w', _, Cx.Le.refl X, ?_, .inl rfl, .tup (by simp) (fun i x y hx _ => by simp at hx), hR'⟩
        simp [execOp, resolve, invoke, builtin, hAB, hr']
      · simp only [evOp] at h
        split at h <;> try cases h
        rename_i u hargs
        split at h <;> try cases h
        rename_i t
        rw [Option.map_eq_some_iff] at h
        obtain ⟨r, hr, he⟩ := h; cases he
        have hl := rhos_sound ha hargs
        have h2 : ∃ A, argl.map a.eval = [A] ∧ V X u A := by
          have hlen := hl.len
          simp only [List.length_cons, List.length_nil] at hlen
          match hm : argl.map a.eval, hlen with
          | [A], _ => rw [hm] at hl; exact ⟨A, rfl, hl.head⟩
        obtain ⟨A, hAB, hA⟩ := h2
        obtain ⟨y, hy, hvy⟩ := evLen_sound (P := P) hR (ty := type) hA hr
        refine ⟨X, .value y, w, y, Cx.Le.refl X, ?_, .inl rfl, hvy, hR⟩
        simp [execOp, resolve, invoke, builtin, hAB, hy]
      · simp only [evOp] at h
        split at h <;> try cases h
        rename_i u v hargs
        rw [Option.map_eq_some_iff] at h
        obtain ⟨r, hr, he⟩ := h; cases he
        have hl := rhos_sound ha hargs
        have h2 : ∃ A B, argl.map a.eval = [A, B] ∧ V X u A ∧ V X v B := by
          have hlen := hl.len
          simp only [List.length_cons, List.length_nil] at hlen
          match hm : argl.map a.eval, hlen with
          | [A, B], _ => rw [hm] at hl; exact ⟨A, B, rfl, hl.head, hl.tail.head⟩
        obtain ⟨A, B, hAB, hA, hB⟩ := h2
        obtain ⟨y, hy, hvy⟩ := evMax_sound (P := P) (w := w) (tys := ⟨tyl⟩) (ty := type) hA hB hr
        refine ⟨X, .value y, w, y, Cx.Le.refl X, ?_, .inl rfl, hvy, hR⟩
        simp [execOp, resolve, invoke, builtin, hAB, hy]
  | _ => simp [evOp] at h

end
end Go.Ev
