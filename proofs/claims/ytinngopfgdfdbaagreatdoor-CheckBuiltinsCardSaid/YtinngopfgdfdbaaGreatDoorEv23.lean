/- Code and calls made ready for the kernel. -/
import Derived.Test.YtinngopfgdfdbaaGreatDoorEv22
set_option linter.unusedVariables false
set_option linter.unusedSimpArgs false
namespace Go.Ev

section
variable (P : Program) (n : Nat) (ks : Nat)

/-- What is looked at ahead of a panic is looked at to the same end. -/
noncomputable def jpanOk (fz : Nat → Bool) (ops : Array Oper) (i : Nat) (e : E) (ph : List BS) : Bool := match jchks P ks fz (cutOps ops i) (checks fz (cutOps ops i)) with
  | some t => t.ok e ph
  | none => false

noncomputable def lastB (l : List BS) : Option BS := List.rec none (fun x _ ih => Option.rec (some x) (fun y => some y) ih) l
theorem lastB_eq : ∀ (l : List BS), lastB l = l.getLast?
  | [] => rfl
  | x :: l => by
    change (Option.rec (some x) (fun y => some y) (lastB l) : Option BS) = _
    rw [lastB_eq l, List.getLast?_cons]
    cases l.getLast? <;> rfl

/-- .. where others, that don't wait, may have been done or not. -/
noncomputable def jpanX (fz : Nat → Bool) (ops : Array Oper) (i : Nat) (cf : CF) (e : E) (ph : List BS) : Bool := match jopsX P n ks fz ops i (ops.toList.drop i) i, jchks P ks fz ops (checksX fz ops i) with
  | some r, some t => Option.rec false (fun s => TO.rec false (fun e' _ _ => t.ok e' ph) (fun _ _ _ _ => false) (r.go cf e (BS.h s) (BS.n s))) (lastB ph)
  | _, _ => false

noncomputable def jlate (fz : Nat → Bool) (rs : List Nat) (ops : Array Oper) (p d : Nat) (te : TypeId) (k : J) : J :=
  match zero? P te, jopsP P n ks fz ops (ops.toList.take p) 0, jchks P ks fz (cutOps ops p) (checks fz (cutOps ops p)), jset n ks (some d) with
  | some z, some r, some t, some st => match z.st with
    | true => ⟨fun cf e h m => PO.rec .none
        (fun e' h' m' ph => Bool.rec .none (Bool.rec .none ((jops P n ks fz (fun _ => false) ops k (ops.toList.drop (p + 1)) [] (p + 1)).run cf (st.set e' (.ptr m 0)) (hput h' m (.raw (some (.cells z.cells)))) m') (Nat.ble (Nat.succ m) 65536)) (t.ok e' ph))
        (fun i v e h m ph => Bool.rec .none (Bool.rec .none (.pan v e h m) (jpanOk P ks fz ops i e ph)) (leaves rs ops && latePanOk fz ops i p)) (r.go cf e h (Nat.succ m) [])⟩
    | false => jfail
  | _, _, _, _ => jfail

noncomputable def jregion0 (fz : Nat → Bool) (rs : List Nat) (ops : Array Oper) (draw : Bool) (k : J) : J :=
  match draw with
  | false => jops P n ks fz (fun _ => leaves rs ops) ops k ops.toList [] 0
  | true => match checks fz ops with
    | [] => jops P n ks fz (fun i => leaves rs ops && (panOk fz ops i && (checks fz (cutOps ops i)).isEmpty)) ops k ops.toList [] 0
    | c :: cs => match jopsP P n ks fz ops ops.toList 0, jchks P ks fz ops (c :: cs) with
      | some r, some t => ⟨fun cf e h m => PO.rec .none (fun e' h' m' ph => Bool.rec .none (k.run cf e' h' m') (t.ok e' ph))
          (fun i v e h m ph => Bool.rec .none (Bool.rec (Bool.rec .none (Bool.rec .none (.pan v e h m) (jpanX P n ks fz ops i cf e ph)) (panXOk fz ops i)) (Bool.rec .none (.pan v e h m) (jpanOk P ks fz ops i e ph)) (panOk fz ops i)) (leaves rs ops)) (r.go cf e h m [])⟩
      | _, _ => jfail

noncomputable def jregion (fz : Nat → Bool) (rs : List Nat) (ops : Array Oper) (draw : Bool) (k : J) : J :=
  match lateOf fz ops draw with
  | none => jregion0 P n ks fz rs ops draw k
  | some (p, d, te) => jlate P n ks fz rs ops p d te k

def jend : J := ⟨fun _ e h m => .norm e h m⟩

/-- One more round: a word that the kernel unfolds. -/
def again (f : CF → E → BT → Nat → Out) (cf : CF) (e : E) (h : BT) (m : Nat) : Out := f cf e h m

noncomputable def loopJ (b : J) (F : Nat) : CF → E → BT → Nat → Out :=
  Nat.rec (fun _ _ _ _ => .none) (fun _ ih cf e h m => Out.rec .none (fun e h m => again ih cf e h m) (fun id e h m => .exit id e h m) (fun e h m => .ret e h m) (fun v e h m => .pan v e h m) (b.run cf e h m)) F

def rounds : Nat := 1000000000

noncomputable def jcode (fz : Nat → Nat → Bool) (rs : List Nat) : Code → J → J
  | .skip, k => k
  | .label _, k => k
  | .region id ops draw, k => jregion P n ks (fz id) rs ops draw k
  | .seq a b, k => jcode fz rs a (jcode fz rs b k)
  | .cond c a b, k => match jrho (jsr ks [] none) c with
    | some x => ⟨fun cf e h m => OB.rec .none ((jcode fz rs a k).run cf e h m) ((jcode fz rs b k).run cf e h m) (asB (x.get e))⟩
    | none => jfail
  | .block id b, k => ⟨fun cf e h m => Out.rec .none (fun e h m => k.run cf e h m) (fun i e h m => Bool.rec (.exit i e h m) (k.run cf e h m) (Nat.beq i id)) (fun e h m => .ret e h m) (fun v e h m => .pan v e h m) ((jcode fz rs b jend).run cf e h m)⟩
  | .loop b, _ => ⟨fun cf e h m => loopJ (jcode fz rs b jend) rounds cf e h m⟩
  | .exit id, _ => ⟨fun _ e h m => .exit id e h m⟩
  | .ret, _ => ⟨fun _ e h m => .ret e h m⟩
  | _, _ => jfail
end

section
variable {P : Program} {Hn : Hints} {n : Nat} {ks : Nat} {cf : CF}

/-- What is left to do behind a piece of code. -/
def KQ (n : Nat) (ks : Nat) (k : J) (cf : CF) (out : Out) : AX → List AV → HS → Prop
  | .normal, ts, s => ∃ e b m, s = ⟨den b, m⟩ ∧ Rel n ks e ts ∧ k.run cf e b m = out
  | .exit id, ts, s => ∃ e b m, s = ⟨den b, m⟩ ∧ Rel n ks e ts ∧ out = .exit id e b m
  | .ret, ts, s => ∃ e b m, s = ⟨den b, m⟩ ∧ Rel n ks e ts ∧ out = .ret e b m
  | .panic v, ts, s => ∃ e b m, s = ⟨den b, m⟩ ∧ Rel n ks e ts ∧ out = .pan v e b m

theorem jpanOk_ok {fz : Nat → Bool} {ops : Array Oper} {i : Nat} {e : E} {T : List AV} {ph : List BS} (hr : RhoOK (jsr ks [] none) e T) (cf : CallF) (h : jpanOk P ks fz ops i e ph = true) : StabL P fz cf (cutOps ops i) T (ph.map BS.hs) (checks fz (cutOps ops i)) := by
  unfold jpanOk at h
  split at h
  · rename_i t ht
    exact jchks_ok hr cf ht h
  · cases h

theorem jpanX_ok (hcf : CFok P Hn cf) {fz : Nat → Bool} {ops : Array Oper} {i : Nat} {e : E} {tn : List AV} {ph : List BS} (hr : Rel n ks e tn) (h : jpanX P n ks fz ops i cf e ph = true) :
    ∃ T sn, (ph.map BS.hs).getLast? = some sn ∧ runR (stepX (evStep P fz (evLim P Hn)) ops i) (effX (effR fz) ops i) ops i (ops.toList.drop i) tn sn = some (T, [sn]) ∧ StabL P fz (evLim P Hn) ops T (ph.map BS.hs) (checksX fz ops i) := by
  unfold jpanX at h
  split at h
  rotate_left
  · cases h
  rename_i r t hrr htt
  cases hl : lastB ph with
  | none => rw [hl] at h; cases h
  | some s =>
    rw [hl] at h
    simp only at h
    cases hv : r.go cf e s.h s.n with
    | none => rw [hv] at h; cases h
    | pan v e1 h1 m1 => rw [hv] at h; cases h
    | some e1 h1 m1 =>
      rw [hv] at h
      simp only at h
      obtain ⟨T, k1, k2⟩ := jopsX_ok hcf hrr hr hv
      rw [lastB_eq] at hl
      exact ⟨T, s.hs, by rw [List.getLast?_map, hl]; rfl, k1, jchks_ok (jsr_ok (k2.sinv ops) trivial) _ htt h⟩

theorem jregion0_ok (hcf : CFok P Hn cf) {f : FuncId} {rs : List Nat} {id : Nat} {ops : Array Oper} {draw : Bool} {k : J} {e : E} {ts : List AV} {b0 : BT} {m : Nat} (hr : Rel n ks e ts) {out : Out} (hlt : lateOf (Hn.fz f id) ops draw = none) (ho : out ≠ .none) (h : (jregion0 P n ks (Hn.fz f id) rs ops draw k).run cf e b0 m = out) :
    CodeK P Hn f rs (.region id ops draw) ts ⟨den b0, m⟩ (KQ n ks k cf out) := by
  unfold jregion0 at h
  split at h
  · exact c_region hlt (.inl rfl) (jops_ok hcf ho (Q := fun T s' => KQ n ks k cf out .normal T s') (fun e' ts' b' m' hr' hk => ⟨e', b', m', rfl, hr', hk⟩) (fun i v e' ts' b' m' hr' hp hk => ⟨by simpa using hp, e', b', m', rfl, hr', hk⟩) (hr.sinv ops) h)
  · split at h
    · rename_i hc
      exact c_region hlt (.inr hc) (jops_ok hcf ho (Q := fun T s' => KQ n ks k cf out .normal T s') (fun e' ts' b' m' hr' hk => ⟨e', b', m', rfl, hr', hk⟩) (fun i v e' ts' b' m' hr' hp hk => ⟨by simpa using hp, e', b', m', rfl, hr', hk⟩) (hr.sinv ops) h)
    · rename_i c cs hc
      split at h
      · rename_i r t hrr htt
        simp only at h
        have hgo := fun (ho2 : r.go cf e b0 m [] ≠ .none) => jopsP_ok hcf hrr hr ho2 rfl
        cases hv : r.go cf e b0 m [] with
        | none => rw [hv] at h; exact absurd h.symm ho
        | some e' h' m' ph =>
          rw [hv] at h hgo
          simp only at h
          cases hok : t.ok e' ph with
          | false => rw [hok] at h; exact absurd h.symm ho
          | true =>
            rw [hok] at h
            refine c_regionS hlt ?_
            rcases hgo (by simp) with ⟨T, ph2, s', h1, h2, e2, b2, m2, ph3, h3, h4, h5, h6⟩ | ⟨i, v, T, sn, s', ph2, h1, _, _, e2, b2, m2, ph3, h3, h4⟩
            · cases h3
              refine .inl ⟨T, ph2, s', h1, h2, ?_, e', h', m', h5, h6, h⟩
              simp only [List.map_nil, List.nil_append] at h4
              rw [hc, List.nil_append, h4]
              exact jchks_ok (jsr_ok (h6.sinv ops) trivial) _ htt hok
            · cases h3
        | pan i v e' h' m' ph =>
          rw [hv] at h hgo
          simp only at h
          cases hlv : leaves rs ops with
          | false => rw [hlv] at h; exact absurd h.symm ho
          | true =>
            rw [hlv] at h
            simp only at h
            rcases hgo (by simp) with ⟨T, ph2, s', h1, h2, e2, b2, m2, ph3, h3, h4⟩ | ⟨i2, v2, T, sn, s', ph2, h1, hle, hr2, e2, b2, m2, ph3, h3, h4, h5, h6⟩
            · cases h3
            cases h3
            simp only [List.map_nil, List.nil_append] at h4
            have key : out = .pan v e' h' m' → CodeK P Hn f rs (.region id ops true) ts ⟨den b0, m⟩ (KQ n ks k cf out) := by
              intro hout
              refine c_regionS hlt (.inr ⟨_, _, T, sn, s', ph2, h1, hle, hr2, hlv, ?_, e', h', m', h5, h6, hout⟩)
              rw [List.nil_append, h4]
              cases hok : panOk (Hn.fz f id) ops i with
              | true =>
                rw [hok] at h
                simp only at h
                cases hok2 : jpanOk P ks (Hn.fz f id) ops i e' ph with
                | false => rw [hok2] at h; exact absurd h.symm ho
                | true => exact .inl ⟨rfl, jpanOk_ok (jsr_ok (h6.sinv ops) trivial) _ hok2⟩
              | false =>
                rw [hok] at h
                simp only at h
                cases hox : panXOk (Hn.fz f id) ops i with
                | false => rw [hox] at h; exact absurd h.symm ho
                | true =>
                  rw [hox] at h
                  simp only at h
                  cases hok2 : jpanX P n ks (Hn.fz f id) ops i cf e' ph with
                  | false => rw [hok2] at h; exact absurd h.symm ho
                  | true => exact .inr ⟨rfl, jpanX_ok hcf h6 hok2⟩
            refine key ?_
            cases hok : panOk (Hn.fz f id) ops i with
            | true =>
              rw [hok] at h
              simp only at h
              cases hok2 : jpanOk P ks (Hn.fz f id) ops i e' ph with
              | false => rw [hok2] at h; exact absurd h.symm ho
              | true => rw [hok2] at h; exact h.symm
            | false =>
              rw [hok] at h
              simp only at h
              cases hox : panXOk (Hn.fz f id) ops i with
              | false => rw [hox] at h; exact absurd h.symm ho
              | true =>
                rw [hox] at h
                simp only at h
                cases hok2 : jpanX P n ks (Hn.fz f id) ops i cf e' ph with
                | false => rw [hok2] at h; exact absurd h.symm ho
                | true => rw [hok2] at h; exact h.symm
      · exact absurd h.symm ho

theorem jlate_ok (hcf : CFok P Hn cf) {f : FuncId} {rs : List Nat} {id : Nat} {ops : Array Oper} {p d : Nat} {te : TypeId} {k : J} {e : E} {ts : List AV} {b0 : BT} {m : Nat} (hr : Rel n ks e ts) {out : Out} (hlt : lateOf (Hn.fz f id) ops true = some (p, d, te)) (ho : out ≠ .none) (h : (jlate P n ks (Hn.fz f id) rs ops p d te k).run cf e b0 m = out) :
    CodeK P Hn f rs (.region id ops true) ts ⟨den b0, m⟩ (KQ n ks k cf out) := by
  unfold jlate at h
  split at h
  rotate_left
  · exact absurd h.symm ho
  rename_i z r t st hz hrr htt hst0
  split at h
  rotate_left
  · exact absurd h.symm ho
  rename_i hzs
  simp only at h
  have hgo := fun (ho2 : r.go cf e b0 (Nat.succ m) [] ≠ .none) => jopsP_ok hcf hrr hr ho2 rfl
  refine c_regionL hlt hz hzs ?_
  cases hv : r.go cf e b0 (Nat.succ m) [] with
  | none => rw [hv] at h; exact absurd h.symm ho
  | some e' h' m' ph =>
    rw [hv] at h hgo
    simp only at h
    cases hok : t.ok e' ph with
    | false => rw [hok] at h; exact absurd h.symm ho
    | true =>
      rw [hok] at h
      simp only at h
      cases hmb : Nat.ble (Nat.succ m) 65536 with
      | false => rw [hmb] at h; exact absurd h.symm ho
      | true =>
        rw [hmb] at h
        simp only at h
        have hm : m < 65536 := Nat.le_of_ble_eq_true hmb
        rcases hgo (by simp) with ⟨T, ph2, s', h1, h2, e2, b2, m2, ph3, h3, h4, h5, h6⟩ | ⟨i, v, T, sn, s', ph2, h1, _, _, e2, b2, m2, ph3, h3, h4⟩
        · cases h3
          refine .inl ⟨T, ph2, s', h1, h2, ?_, ?_⟩
          · simp only [List.map_nil, List.nil_append] at h4
            rw [List.nil_append, h4]
            exact jchks_ok (jsr_ok (h6.sinv ops) trivial) _ htt hok
          · have hI : SInv n ks ops [] (st.set e' (.ptr m 0)) (T.set d (.ptr m 0)) := (h6.set hst0 (.ptr m 0)).sinv ops
            subst h5
            show OpsK P Hn (Hn.fz f id) ops (p + 1) (ops.toList.drop (p + 1)) (T.set d (.ptr m 0)) ⟨(den h').put m (.cells z.cells), m'⟩ [] _ _
            rw [← den_put h' hm]
            exact jops_ok hcf ho (Q := fun T s' => KQ n ks k cf out .normal T s') (QP := fun _ _ _ _ => False) (fun e' ts' b' m' hr' hk => ⟨e', b', m', rfl, hr', hk⟩) (fun i v e' ts' b' m' hr' hp hk => by cases hp) hI h
        · cases h3
  | pan i v e' h' m' ph =>
    rw [hv] at h hgo
    simp only at h
    cases hok : (leaves rs ops && latePanOk (Hn.fz f id) ops i p) with
    | false => rw [hok] at h; exact absurd h.symm ho
    | true =>
      rw [hok] at h
      simp only at h
      cases hok2 : jpanOk P ks (Hn.fz f id) ops i e' ph with
      | false => rw [hok2] at h; exact absurd h.symm ho
      | true =>
      rw [hok2] at h
      rcases hgo (by simp) with ⟨T, ph2, s', h1, h2, e2, b2, m2, ph3, h3, h4⟩ | ⟨i2, v2, T, sn, s', ph2, h1, hle, hr2, e2, b2, m2, ph3, h3, h4, h5, h6⟩
      · cases h3
      · cases h3
        exact .inr ⟨_, _, T, sn, s', ph2, h1, hle, hr2, hok, by rw [List.nil_append]; simp only [List.map_nil, List.nil_append] at h4; rw [h4]; exact jpanOk_ok (jsr_ok (h6.sinv ops) trivial) _ hok2, e', h', m', h5, h6, h.symm⟩

theorem jregion_ok (hcf : CFok P Hn cf) {f : FuncId} {rs : List Nat} {id : Nat} {ops : Array Oper} {draw : Bool} {k : J} {e : E} {ts : List AV} {b0 : BT} {m : Nat} (hr : Rel n ks e ts) {out : Out} (ho : out ≠ .none) (h : (jregion P n ks (Hn.fz f id) rs ops draw k).run cf e b0 m = out) :
    CodeK P Hn f rs (.region id ops draw) ts ⟨den b0, m⟩ (KQ n ks k cf out) := by
  unfold jregion at h
  split at h
  · rename_i hl
    exact jregion0_ok hcf hr hl ho h
  · rename_i p d te hl
    cases draw with
    | false => cases hl
    | true => exact jlate_ok hcf hr hl ho h

theorem jcode_ok (hcf : CFok P Hn cf) {f : FuncId} {rs : List Nat} : ∀ (c : Code) {k : J} {e : E} {ts : List AV} {b0 : BT} {m : Nat} {out : Out}, Rel n ks e ts → out ≠ .none → (jcode P n ks (Hn.fz f) rs c k).run cf e b0 m = out → CodeK P Hn f rs c ts ⟨den b0, m⟩ (KQ n ks k cf out)
  | .skip, k, e, ts, b0, m, out, hr, ho, h => c_skip ⟨e, b0, m, rfl, hr, h⟩
  | .label l, k, e, ts, b0, m, out, hr, ho, h => ⟨.normal, ts, ⟨den b0, m⟩, rfl, e, b0, m, rfl, hr, h⟩
  | .region id ops draw, k, e, ts, b0, m, out, hr, ho, h => jregion_ok hcf hr ho h
  | .seq a b, k, e, ts, b0, m, out, hr, ho, h => by
    refine c_seq (c_mono (jcode_ok hcf a hr ho h) ?_)
    intro x ts' s' hq
    cases x with
    | normal =>
      obtain ⟨e', b', m', rfl, hr', hk⟩ := hq
      exact jcode_ok hcf b hr' ho hk
    | exit id => exact hq
    | ret => exact hq
    | panic v => exact hq
  | .cond c a b, k, e, ts, b0, m, out, hr, ho, h => by
    simp only [jcode] at h
    split at h
    · rename_i x hx
      simp only at h
      cases hB : asB (x.get e) with
      | none => rw [hB] at h; exact absurd h.symm ho
      | tt => rw [hB] at h; exact c_cond (b := true) (by rw [jrho_ok hx (jsr_ok (hr.sinv #[]) trivial), asB_tt hB]) (fun _ => jcode_ok hcf a hr ho h) (fun h => by cases h)
      | ff => rw [hB] at h; exact c_cond (b := false) (by rw [jrho_ok hx (jsr_ok (hr.sinv #[]) trivial), asB_ff hB]) (fun h => by cases h) (fun _ => jcode_ok hcf b hr ho h)
    · exact absurd h.symm ho
  | .block id b, k, e, ts, b0, m, out, hr, ho, h => by
    simp only [jcode] at h
    cases hv : (jcode P n ks (Hn.fz f) rs b jend).run cf e b0 m with
    | none => rw [hv] at h; exact absurd h.symm ho
    | norm e1 h1 m1 =>
      rw [hv] at h
      refine c_block (c_mono (jcode_ok hcf b hr (by simp) hv) ?_)
      intro x ts' s' hq
      cases x with
      | normal =>
        obtain ⟨e', b', m', rfl, hr', hk⟩ := hq
        cases hk
        exact ⟨_, _, _, rfl, hr', h⟩
      | exit i => obtain ⟨e', b', m', rfl, hr', hk⟩ := hq; cases hk
      | ret => obtain ⟨e', b', m', rfl, hr', hk⟩ := hq; cases hk
      | panic v => obtain ⟨e', b', m', rfl, hr', hk⟩ := hq; cases hk
    | pan v e1 h1 m1 =>
      rw [hv] at h
      refine c_block (c_mono (jcode_ok hcf b hr (by simp) hv) ?_)
      intro x ts' s' hq
      cases x with
      | normal => obtain ⟨e', b', m', rfl, hr', hk⟩ := hq; cases hk
      | ret => obtain ⟨e', b', m', rfl, hr', hk⟩ := hq; cases hk
      | exit j => obtain ⟨e', b', m', rfl, hr', hk⟩ := hq; cases hk
      | panic u =>
        obtain ⟨e', b', m', rfl, hr', hk⟩ := hq
        cases hk
        exact ⟨_, _, _, rfl, hr', h.symm⟩
    | exit i e1 h1 m1 =>
      rw [hv] at h
      refine c_block (c_mono (jcode_ok hcf b hr (by simp) hv) ?_)
      intro x ts' s' hq
      cases x with
      | normal => obtain ⟨e', b', m', rfl, hr', hk⟩ := hq; cases hk
      | ret => obtain ⟨e', b', m', rfl, hr', hk⟩ := hq; cases hk
      | panic v => obtain ⟨e', b', m', rfl, hr', hk⟩ := hq; cases hk
      | exit j =>
        obtain ⟨e', b', m', rfl, hr', hk⟩ := hq
        cases hk
        simp only at h
        simp only [blockK]
        cases hb : Nat.beq i id with
        | true =>
          rw [hb] at h
          rw [if_pos (Nat.eq_of_beq_eq_true hb)]
          exact ⟨_, _, _, rfl, hr', h⟩
        | false =>
          rw [hb] at h
          rw [if_neg (fun hc => by rw [hc, Nat.beq_refl] at hb; cases hb)]
          exact ⟨_, _, _, rfl, hr', h.symm⟩
    | ret e1 h1 m1 =>
      rw [hv] at h
      refine c_block (c_mono (jcode_ok hcf b hr (by simp) hv) ?_)
      intro x ts' s' hq
      cases x with
      | normal => obtain ⟨e', b', m', rfl, hr', hk⟩ := hq; cases hk
      | exit i => obtain ⟨e', b', m', rfl, hr', hk⟩ := hq; cases hk
      | panic v => obtain ⟨e', b', m', rfl, hr', hk⟩ := hq; cases hk
      | ret =>
        obtain ⟨e', b', m', rfl, hr', hk⟩ := hq
        cases hk
        exact ⟨_, _, _, rfl, hr', h.symm⟩
  | .loop b, k, e, ts, b0, m, out, hr, ho, h => by
    have ihb := fun {k : J} {e : E} {ts : List AV} {b0 : BT} {m : Nat} {out : Out} => jcode_ok hcf (f := f) (rs := rs) b (k := k) (e := e) (ts := ts) (b0 := b0) (m := m) (out := out)
    have key : ∀ (F : Nat) (e : E) (ts : List AV) (b0 : BT) (m : Nat), Rel n ks e ts → loopJ (jcode P n ks (Hn.fz f) rs b jend) F cf e b0 m = out → CodeK P Hn f rs (.loop b) ts ⟨den b0, m⟩ (KQ n ks k cf out) := by
      intro F
      induction F with
      | zero => intro e ts b0 m hr h; exact absurd h.symm ho
      | succ F ih =>
        intro e ts b0 m hr h
        change (Out.rec .none (fun e h m => again (loopJ (jcode P n ks (Hn.fz f) rs b jend) F) cf e h m) (fun id e h m => .exit id e h m) (fun e h m => .ret e h m) (fun v e h m => .pan v e h m) ((jcode P n ks (Hn.fz f) rs b jend).run cf e b0 m) : Out) = out at h
        cases hv : (jcode P n ks (Hn.fz f) rs b jend).run cf e b0 m with
        | none => rw [hv] at h; exact absurd h.symm ho
        | norm e1 h1 m1 =>
          rw [hv] at h
          refine c_loop (c_mono (ihb hr (by simp) hv) ?_)
          intro x ts' s' hq
          cases x with
          | normal =>
            obtain ⟨e', b', m', rfl, hr', hk⟩ := hq
            cases hk
            exact ih _ _ _ _ hr' h
          | exit i => obtain ⟨e', b', m', rfl, hr', hk⟩ := hq; cases hk
          | ret => obtain ⟨e', b', m', rfl, hr', hk⟩ := hq; cases hk
          | panic v => obtain ⟨e', b', m', rfl, hr', hk⟩ := hq; cases hk
        | pan v e1 h1 m1 =>
          rw [hv] at h
          refine c_loop (c_mono (ihb hr (by simp) hv) ?_)
          intro x ts' s' hq
          cases x with
          | normal => obtain ⟨e', b', m', rfl, hr', hk⟩ := hq; cases hk
          | ret => obtain ⟨e', b', m', rfl, hr', hk⟩ := hq; cases hk
          | exit j => obtain ⟨e', b', m', rfl, hr', hk⟩ := hq; cases hk
          | panic u =>
            obtain ⟨e', b', m', rfl, hr', hk⟩ := hq
            cases hk
            exact ⟨_, _, _, rfl, hr', h.symm⟩
        | exit i e1 h1 m1 =>
          rw [hv] at h
          refine c_loop (c_mono (ihb hr (by simp) hv) ?_)
          intro x ts' s' hq
          cases x with
          | normal => obtain ⟨e', b', m', rfl, hr', hk⟩ := hq; cases hk
          | ret => obtain ⟨e', b', m', rfl, hr', hk⟩ := hq; cases hk
          | panic v => obtain ⟨e', b', m', rfl, hr', hk⟩ := hq; cases hk
          | exit j =>
            obtain ⟨e', b', m', rfl, hr', hk⟩ := hq
            cases hk
            exact ⟨_, _, _, rfl, hr', h.symm⟩
        | ret e1 h1 m1 =>
          rw [hv] at h
          refine c_loop (c_mono (ihb hr (by simp) hv) ?_)
          intro x ts' s' hq
          cases x with
          | normal => obtain ⟨e', b', m', rfl, hr', hk⟩ := hq; cases hk
          | exit i => obtain ⟨e', b', m', rfl, hr', hk⟩ := hq; cases hk
          | panic v => obtain ⟨e', b', m', rfl, hr', hk⟩ := hq; cases hk
          | ret =>
            obtain ⟨e', b', m', rfl, hr', hk⟩ := hq
            cases hk
            exact ⟨_, _, _, rfl, hr', h.symm⟩
    exact key rounds e ts b0 m hr h
  | .exit id, k, e, ts, b0, m, out, hr, ho, h => c_exit ⟨e, b0, m, rfl, hr, h.symm⟩
  | .ret, k, e, ts, b0, m, out, hr, ho, h => c_ret ⟨e, b0, m, rfl, hr, h.symm⟩
  | .rangeFunc .., k, e, ts, b0, m, out, hr, ho, h => absurd h.symm ho
  | .scope _, k, e, ts, b0, m, out, hr, ho, h => absurd h.symm ho
  | .goto _, k, e, ts, b0, m, out, hr, ho, h => absurd h.symm ho
  | .refuse _, k, e, ts, b0, m, out, hr, ho, h => absurd h.symm ho
end
end Go.Ev
