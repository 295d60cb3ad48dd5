/- Code and calls made ready for the kernel. -/
import Derived.Test.YtghpalokaedpkaaGreatEv22
set_option linter.unusedVariables false
set_option linter.unusedSimpArgs false
namespace Go.Ev

section
variable (P : Program) (n : Nat) (ks : Nat)

noncomputable def jregion (fz : Nat → Bool) (ops : Array Oper) (draw : Bool) (k : J) : J :=
  match draw with
  | false => jops P n ks fz ops k ops.toList [] 0
  | true => match checks fz ops with
    | [] => jops P n ks fz ops k ops.toList [] 0
    | c :: cs => match jopsP P n ks fz ops ops.toList 0, jchks P ks fz ops (c :: cs) with
      | some r, some t => ⟨fun cf e h m => PO.rec .none (fun e' h' m' ph => Bool.rec .none (k.run cf e' h' m') (t.ok e' ph)) (r.go cf e h m [])⟩
      | _, _ => jfail

def jend : J := ⟨fun _ e h m => .norm e h m⟩

/-- One more round: a word that the kernel unfolds. -/
def again (f : CF → E → BT → Nat → Out) (cf : CF) (e : E) (h : BT) (m : Nat) : Out := f cf e h m

noncomputable def loopJ (b : J) (F : Nat) : CF → E → BT → Nat → Out :=
  Nat.rec (fun _ _ _ _ => .none) (fun _ ih cf e h m => Out.rec .none (fun e h m => again ih cf e h m) (fun id e h m => .exit id e h m) (fun e h m => .ret e h m) (b.run cf e h m)) F

def rounds : Nat := 1000000000

noncomputable def jcode (fz : Nat → Nat → Bool) : Code → J → J
  | .skip, k => k
  | .label _, k => k
  | .region id ops draw, k => jregion P n ks (fz id) ops draw k
  | .seq a b, k => jcode fz a (jcode fz b k)
  | .cond c a b, k => match jrho (jsr ks [] none) c with
    | some x => ⟨fun cf e h m => OB.rec .none ((jcode fz a k).run cf e h m) ((jcode fz b k).run cf e h m) (asB (x.get e))⟩
    | none => jfail
  | .block id b, k => ⟨fun cf e h m => Out.rec .none (fun e h m => k.run cf e h m) (fun i e h m => Bool.rec (.exit i e h m) (k.run cf e h m) (Nat.beq i id)) (fun e h m => .ret e h m) ((jcode fz b jend).run cf e h m)⟩
  | .loop b, _ => ⟨fun cf e h m => loopJ (jcode fz b jend) rounds cf e h m⟩
  | .exit id, _ => ⟨fun _ e h m => .exit id e h m⟩
  | .ret, _ => ⟨fun _ e h m => .ret e h m⟩
  | _, _ => jfail
end

section
variable {P : Program} {Hn : Hints} {n : Nat} {ks : Nat} {cf : CF}

/-- What is left to do behind a piece of code. -/
def KQ (n : Nat) (ks : Nat) (k : J) (cf : CF) (out : Out) : AX → List AV → HS → Prop
  | .normal, ts, s => ∃ e b m, s = ⟨den b, m⟩ ∧ Rel n ks e ts ∧ k.run cf e b m = out
  | .exit id, ts, s => ∃ e b m, s = ⟨den b, m⟩ ∧ Rel n ks e ts ∧ out = .exit id e b m
  | .ret, ts, s => ∃ e b m, s = ⟨den b, m⟩ ∧ Rel n ks e ts ∧ out = .ret e b m

theorem jregion_ok (hcf : CFok P Hn cf) {f : FuncId} {id : Nat} {ops : Array Oper} {draw : Bool} {k : J} {e : E} {ts : List AV} {b0 : BT} {m : Nat} (hr : Rel n ks e ts) {out : Out} (ho : out ≠ .none) (h : (jregion P n ks (Hn.fz f id) ops draw k).run cf e b0 m = out) :
    CodeK P Hn f (.region id ops draw) ts ⟨den b0, m⟩ (KQ n ks k cf out) := by
  unfold jregion at h
  split at h
  · exact c_region (.inl rfl) (jops_ok hcf ho (Q := fun T s' => KQ n ks k cf out .normal T s') (fun e' ts' b' m' hr' hk => ⟨e', b', m', rfl, hr', hk⟩) (hr.sinv ops) h)
  · split at h
    · rename_i hc
      exact c_region (.inr hc) (jops_ok hcf ho (Q := fun T s' => KQ n ks k cf out .normal T s') (fun e' ts' b' m' hr' hk => ⟨e', b', m', rfl, hr', hk⟩) (hr.sinv ops) h)
    · rename_i c cs hc
      split at h
      · rename_i r t hrr htt
        simp only at h
        cases hv : r.go cf e b0 m [] with
        | none => rw [hv] at h; exact absurd h.symm ho
        | some e' h' m' ph =>
          rw [hv] at h
          simp only at h
          cases hok : t.ok e' ph with
          | false => rw [hok] at h; exact absurd h.symm ho
          | true =>
            rw [hok] at h
            refine c_regionS ?_
            obtain ⟨T, ph2, s', h1, h2, rfl, rfl, h3⟩ := jopsP_ok hcf hrr hr hv
            exact ⟨T, ph.map BS.hs, ⟨den h', m'⟩, h1, h2, by rw [hc]; exact jchks_ok (jsr_ok (h3.sinv ops) trivial) _ htt hok, e', h', m', rfl, h3, h⟩
      · exact absurd h.symm ho

theorem jcode_ok (hcf : CFok P Hn cf) {f : FuncId} : ∀ (c : Code) {k : J} {e : E} {ts : List AV} {b0 : BT} {m : Nat} {out : Out}, Rel n ks e ts → out ≠ .none → (jcode P n ks (Hn.fz f) c k).run cf e b0 m = out → CodeK P Hn f c ts ⟨den b0, m⟩ (KQ n ks k cf out)
  | .skip, k, e, ts, b0, m, out, hr, ho, h => c_skip ⟨e, b0, m, rfl, hr, h⟩
  | .label l, k, e, ts, b0, m, out, hr, ho, h => ⟨.normal, ts, ⟨den b0, m⟩, rfl, e, b0, m, rfl, hr, h⟩
  | .region id ops draw, k, e, ts, b0, m, out, hr, ho, h => jregion_ok hcf hr ho h
  | .seq a b, k, e, ts, b0, m, out, hr, ho, h => by
    refine c_seq (c_mono (jcode_ok hcf a hr ho h) ?_)
    intro x ts' s' hq
    cases x with
    | normal =>
      obtain ⟨e', b', m', rfl, hr', hk⟩ := hq
      exact jcode_ok hcf b hr' ho hk
    | exit id => exact hq
    | ret => exact hq
  | .cond c a b, k, e, ts, b0, m, out, hr, ho, h => by
    simp only [jcode] at h
    split at h
    · rename_i x hx
      simp only at h
      cases hB : asB (x.get e) with
      | none => rw [hB] at h; exact absurd h.symm ho
      | tt => rw [hB] at h; exact c_cond (b := true) (by rw [jrho_ok hx (jsr_ok (hr.sinv #[]) trivial), asB_tt hB]) (fun _ => jcode_ok hcf a hr ho h) (fun h => by cases h)
      | ff => rw [hB] at h; exact c_cond (b := false) (by rw [jrho_ok hx (jsr_ok (hr.sinv #[]) trivial), asB_ff hB]) (fun h => by cases h) (fun _ => jcode_ok hcf b hr ho h)
    · exact absurd h.symm ho
  | .block id b, k, e, ts, b0, m, out, hr, ho, h => by
    simp only [jcode] at h
    cases hv : (jcode P n ks (Hn.fz f) b jend).run cf e b0 m with
    | none => rw [hv] at h; exact absurd h.symm ho
    | norm e1 h1 m1 =>
      rw [hv] at h
      refine c_block (c_mono (jcode_ok hcf b hr (by simp) hv) ?_)
      intro x ts' s' hq
      cases x with
      | normal =>
        obtain ⟨e', b', m', rfl, hr', hk⟩ := hq
        cases hk
        exact ⟨_, _, _, rfl, hr', h⟩
      | exit i => obtain ⟨e', b', m', rfl, hr', hk⟩ := hq; cases hk
      | ret => obtain ⟨e', b', m', rfl, hr', hk⟩ := hq; cases hk
    | exit i e1 h1 m1 =>
      rw [hv] at h
      refine c_block (c_mono (jcode_ok hcf b hr (by simp) hv) ?_)
      intro x ts' s' hq
      cases x with
      | normal => obtain ⟨e', b', m', rfl, hr', hk⟩ := hq; cases hk
      | ret => obtain ⟨e', b', m', rfl, hr', hk⟩ := hq; cases hk
      | exit j =>
        obtain ⟨e', b', m', rfl, hr', hk⟩ := hq
        cases hk
        simp only at h
        simp only [blockK]
        cases hb : Nat.beq i id with
        | true =>
          rw [hb] at h
          rw [if_pos (Nat.eq_of_beq_eq_true hb)]
          exact ⟨_, _, _, rfl, hr', h⟩
        | false =>
          rw [hb] at h
          rw [if_neg (fun hc => by rw [hc, Nat.beq_refl] at hb; cases hb)]
          exact ⟨_, _, _, rfl, hr', h.symm⟩
    | ret e1 h1 m1 =>
      rw [hv] at h
      refine c_block (c_mono (jcode_ok hcf b hr (by simp) hv) ?_)
      intro x ts' s' hq
      cases x with
      | normal => obtain ⟨e', b', m', rfl, hr', hk⟩ := hq; cases hk
      | exit i => obtain ⟨e', b', m', rfl, hr', hk⟩ := hq; cases hk
      | ret =>
        obtain ⟨e', b', m', rfl, hr', hk⟩ := hq
        cases hk
        exact ⟨_, _, _, rfl, hr', h.symm⟩
  | .loop b, k, e, ts, b0, m, out, hr, ho, h => by
    have ihb := fun {k : J} {e : E} {ts : List AV} {b0 : BT} {m : Nat} {out : Out} => jcode_ok hcf (f := f) b (k := k) (e := e) (ts := ts) (b0 := b0) (m := m) (out := out)
    have key : ∀ (F : Nat) (e : E) (ts : List AV) (b0 : BT) (m : Nat), Rel n ks e ts → loopJ (jcode P n ks (Hn.fz f) b jend) F cf e b0 m = out → CodeK P Hn f (.loop b) ts ⟨den b0, m⟩ (KQ n ks k cf out) := by
      intro F
      induction F with
      | zero => intro e ts b0 m hr h; exact absurd h.symm ho
      | succ F ih =>
        intro e ts b0 m hr h
        change (Out.rec .none (fun e h m => again (loopJ (jcode P n ks (Hn.fz f) b jend) F) cf e h m) (fun id e h m => .exit id e h m) (fun e h m => .ret e h m) ((jcode P n ks (Hn.fz f) b jend).run cf e b0 m) : Out) = out at h
        cases hv : (jcode P n ks (Hn.fz f) b jend).run cf e b0 m with
        | none => rw [hv] at h; exact absurd h.symm ho
        | norm e1 h1 m1 =>
          rw [hv] at h
          refine c_loop (c_mono (ihb hr (by simp) hv) ?_)
          intro x ts' s' hq
          cases x with
          | normal =>
            obtain ⟨e', b', m', rfl, hr', hk⟩ := hq
            cases hk
            exact ih _ _ _ _ hr' h
          | exit i => obtain ⟨e', b', m', rfl, hr', hk⟩ := hq; cases hk
          | ret => obtain ⟨e', b', m', rfl, hr', hk⟩ := hq; cases hk
        | exit i e1 h1 m1 =>
          rw [hv] at h
          refine c_loop (c_mono (ihb hr (by simp) hv) ?_)
          intro x ts' s' hq
          cases x with
          | normal => obtain ⟨e', b', m', rfl, hr', hk⟩ := hq; cases hk
          | ret => obtain ⟨e', b', m', rfl, hr', hk⟩ := hq; cases hk
          | exit j =>
            obtain ⟨e', b', m', rfl, hr', hk⟩ := hq
            cases hk
            exact ⟨_, _, _, rfl, hr', h.symm⟩
        | ret e1 h1 m1 =>
          rw [hv] at h
          refine c_loop (c_mono (ihb hr (by simp) hv) ?_)
          intro x ts' s' hq
          cases x with
          | normal => obtain ⟨e', b', m', rfl, hr', hk⟩ := hq; cases hk
          | exit i => obtain ⟨e', b', m', rfl, hr', hk⟩ := hq; cases hk
          | ret =>
            obtain ⟨e', b', m', rfl, hr', hk⟩ := hq
            cases hk
            exact ⟨_, _, _, rfl, hr', h.symm⟩
    exact key rounds e ts b0 m hr h
  | .exit id, k, e, ts, b0, m, out, hr, ho, h => c_exit ⟨e, b0, m, rfl, hr, h.symm⟩
  | .ret, k, e, ts, b0, m, out, hr, ho, h => c_ret ⟨e, b0, m, rfl, hr, h.symm⟩
  | .rangeFunc .., k, e, ts, b0, m, out, hr, ho, h => absurd h.symm ho
  | .scope _, k, e, ts, b0, m, out, hr, ho, h => absurd h.symm ho
  | .goto _, k, e, ts, b0, m, out, hr, ho, h => absurd h.symm ho
  | .refuse _, k, e, ts, b0, m, out, hr, ho, h => absurd h.symm ho
end
end Go.Ev
