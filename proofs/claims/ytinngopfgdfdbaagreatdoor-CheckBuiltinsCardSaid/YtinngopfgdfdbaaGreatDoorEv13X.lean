/- Regions that draw their order, and in which an operation panics while others, that don't wait for it, may have been done or not. -/
import Derived.Test.YtinngopfgdfdbaaGreatDoorEv13L
set_option linter.unusedVariables false
set_option linter.unusedSimpArgs false
namespace Go.Ev

/-- Is it the n-th, or does it wait for it? -/
def waits (ops : Array Oper) (n j : Nat) : Bool := Nat.beq j n || ((masks ops).getD j 0).testBit n
def stepX (step : Nat → Oper → List AV → HS → Option (AV × HS)) (ops : Array Oper) (n : Nat) : Nat → Oper → List AV → HS → Option (AV × HS) := fun i o ts s => if waits ops n i = true then some (.tup [], s) else step i o ts s
def effX (eff : Nat → Oper → Bool) (ops : Array Oper) (n : Nat) : Nat → Oper → Bool := fun i o => if waits ops n i = true then false else eff i o

theorem laws_x {step : Nat → Oper → List AV → HS → Option (AV × HS)} {eff : Nat → Oper → Bool} (hl : StepLaws eff step) (ops : Array Oper) (n : Nat) : StepLaws (effX eff ops n) (stepX step ops n) := by
  refine ⟨fun i o ts s v s' he h => ?_, fun i o ts ts' s h => ?_⟩
  · unfold effX at he
    unfold stepX at h
    split at he
    · rename_i hi
      rw [if_pos hi] at h
      cases h; rfl
    · rename_i hi
      rw [if_neg hi] at h
      exact hl.still i o ts s v s' he h
  · unfold stepX
    split
    · rfl
    · exact hl.looks i o ts ts' _ h

section
variable {P : Program} {ro : Option Nat} {w0 : W0} {Q : Exit → Act → World → Prop} {step pan : Nat → Oper → List AV → HS → Option (AV × HS)} {eff : Nat → Oper → Bool} {ops : Array Oper}

/-- In whatever order is drawn: the n-th operation panics. -/
theorem region_panX (hst : StepOK P ro w0 Q step) (hpan : PanOK P ro w0 Q pan) (hl : StepLaws eff step) (hlp : ∀ i o ts ts' s, (∀ t, .tmp t ∈ o.op.operands.toList → slot ts t = slot ts' t) → pan i o ts s = pan i o ts' s)
    {n : Nat} {o : Oper} (ho : ops[n]? = some o) (hgd : o.guard = none) (hrd : readOp o.op = true) (hp : Plan (effX eff ops n) ops)
    (hch : ∀ (k : Nat) u, ops[k]? = some u → waits ops n k = false → eff k u = true → ((masks ops).getD n 0).testBit k = true) {ts T : List AV} {s sn s' : HS} {ph : List HS} {v : AV}
    (hrun : runR (stepX step ops n) (effX eff ops n) ops 0 ops.toList ts s = some (T, ph)) (hlast : ph.getLast? = some sn) (hpn : pan n o T sn = some (v, s')) (hstab : Stab (stepX step ops n) (effX eff ops n) ops ts T ph) {X : Cx} {a : Act} {w : World} (hR : R X s w0 w) (ha : VL X ts a.tmps.toList)
    (hQ : ∀ Y y a' w', X.Le Y → V Y v y → R Y s' w0 w' → a'.defers = a.defers → (∃ ts', VL Y ts' a'.tmps.toList ∧ ∀ t, (∀ (j : Nat) o, ops[j]? = some o → o.dst ≠ some t) → slot ts' t = slot ts t) → Q (.panic [{ v := y, recovered := false }]) a' w') :
    wpAnyIn (WF ro) 0 P .any ops Q ops.size (Array.replicate ops.size false) a w := by
  have hn : n < ops.size := (Array.getElem?_eq_some_iff.1 ho).1
  have hll := laws_x hl ops n
  obtain ⟨hlen, hph0, hphl, hunw, hfacts⟩ := run_facts (ts0 := ts) hll hp ops.toList 0 ts T s ph (fun j => by simp) rfl (fun _ _ => rfl) hrun
  simp only [Nat.zero_add, Array.length_toList, cnt, Nat.sub_zero] at hphl
  have hwn : waits ops n n = true := by simp [waits]
  -- what an operation waits for, those behind it do, too
  have hedge : ∀ (i : Nat) u, ops[i]? = some u → waits ops n i = false → ∀ e ∈ u.after.toList, Region.binds .any e = true → waits ops n e.on = false := by
    intro i u hu hw e he hb
    cases hwe : waits ops n e.on with
    | false => rfl
    | true =>
      exfalso
      have hbit : ((masks ops).getD i 0).testBit n = true := by
        obtain ⟨rest, h1, h2, h3⟩ := masksFrom_spec ops.toList []
        obtain ⟨pre, hpr, hlp2, hem⟩ := h3 i u (by simpa using hu)
        simp only [List.length_nil, Nat.zero_add] at hlp2 hem
        have hg : (masks ops).getD i 0 = emask pre u.after.toList := by
          unfold masks
          rw [List.getD, hem]; rfl
        rw [hg]
        have hel : e.on < i := hp.back i u hu e he hb
        have hpe : (masks ops).getD e.on 0 = pre.getD e.on 0 := by
          obtain ⟨t, ht⟩ := hpr
          unfold masks
          rw [← ht, List.getD, List.getD, List.getElem?_append_left (by omega)]
        have key : ∀ (es : List Edge), e ∈ es → (emask pre es).testBit n = true := by
          intro es
          induction es with
          | nil => intro h; cases h
          | cons x xs ih =>
            intro h
            unfold emask
            rcases List.mem_cons.1 h with rfl | h
            · rw [if_pos hb]
              simp only [Nat.testBit_or, Bool.or_eq_true]
              left
              unfold waits at hwe
              simp only [Bool.or_eq_true] at hwe
              rcases hwe with hwe | hwe
              · left
                have := Nat.eq_of_beq_eq_true hwe
                rw [Nat.testBit_two_pow]
                simp [this]
              · right
                rw [← hpe]; exact hwe
            · split
              · simp only [Nat.testBit_or, Bool.or_eq_true]
                right; exact ih h
              · exact ih h
        exact key _ he
      unfold waits at hw
      rw [hbit] at hw
      simp at hw
  have key : ∀ (fuel : Nat) (L : Array Bool) (Y : Cx) (b : Act) (u : World), (∀ j, j < ops.size → waits ops n j = true → L.getD j true = false) → Inv (stepX step ops n) (effX eff ops n) ops w0 ts T ph X a.defers L Y b u → cnt (fun k => !L.getD k true) ops.size ≤ fuel → wpAnyIn (WF ro) 0 P .any ops Q fuel L b u := by
    intro fuel
    induction fuel with
    | zero =>
      intro L Y b u hW hI hc
      exfalso
      have hLn := hW n hn hwn
      have h1 : cnt (fun k => !L.getD k true) (n + 1) ≤ cnt (fun k => !L.getD k true) ops.size := cnt_mono (by omega)
      simp only [cnt, hLn, Bool.not_false, if_true] at h1
      omega
    | succ fuel ih =>
      intro L Y b u hW hI hc
      have hLn := hW n hn hwn
      refine ⟨fun hr => ?_, fun i hi => ?_⟩
      · exfalso
        have hready : ∀ i, i < ops.size → L.getD i true = false → ∃ e ∈ (ops[i]?.map (·.after)).getD #[], Region.binds .any e = true ∧ L.getD e.on false = false := by
          intro i hi hli
          apply Classical.byContradiction
          intro hno
          have hiu : ops[i]? = some ops[i] := Array.getElem?_eq_getElem hi
          have hmem : i ∈ Region.ready .any ops L := by
            rw [mem_ready]
            refine ⟨hli, _, hiu, fun e hee hb => ?_⟩
            cases hle : L.getD e.on false with
            | true => rfl
            | false => exact absurd ⟨e, by rw [hiu]; exact hee, hb, hle⟩ hno
          rw [hr] at hmem; cases hmem
        have hall : ∀ i, i < ops.size → waits ops n i = false → L.getD i true = true := by
          intro i
          induction i using Nat.strongRecOn with
          | _ i ihi =>
            intro hi hw
            cases hli : L.getD i true with
            | true => rfl
            | false =>
              exfalso
              have hiu : ops[i]? = some ops[i] := Array.getElem?_eq_getElem hi
              obtain ⟨e, hee, hb, hle⟩ := hready i hi hli
              rw [hiu] at hee
              have hee' : e ∈ (ops[i]).after.toList := by simpa using hee
              have hel := hp.back i _ hiu e hee' hb
              have hwe := hedge i _ hiu hw e hee' hb
              have := ihi e.on hel (by omega) hwe
              rw [getD_tf (by rw [hI.size]; omega)] at hle
              rw [hle] at this; cases this
        obtain ⟨e, hee, hb, hle⟩ := hready n hn hLn
        rw [ho] at hee
        have hee' : e ∈ o.after.toList := by simpa using hee
        have hel := hp.back n o ho e hee' hb
        have hwe : waits ops n e.on = false := by
          cases hwe : waits ops n e.on with
          | false => rfl
          | true =>
            exfalso
            unfold waits at hwe
            simp only [Bool.or_eq_true] at hwe
            rcases hwe with hwe | hwe
            · have := Nat.eq_of_beq_eq_true hwe; omega
            · have := mask_lt hp e.on _ (Array.getElem?_eq_getElem (by omega)) n hwe; omega
        have := hall e.on (by omega) hwe
        rw [getD_tf (by rw [hI.size]; omega)] at hle
        rw [hle] at this; cases this
      · have hir := hi
        rw [mem_ready] at hi
        obtain ⟨hli, x, hx, hed⟩ := hi
        have his : i < ops.size := (Array.getElem?_eq_some_iff.1 hx).1
        have hiL : i < L.size := by rw [hI.size]; exact his
        cases hwi : waits ops n i with
        | false =>
          have hstep : StepAt P ro w0 Q (stepX step ops n) i := by
            intro o ts s v s' h
            unfold stepX at h
            rw [if_neg (by rw [hwi]; simp)] at h
            exact hst i o ts s v s' h
          refine wpOpIn_mono (fun b' u' ⟨Z, hJ⟩ => ih _ Z b' u' ?_ hJ ?_) (core_step hstep hll hp hrun hstab hI hir)
          · intro j hj hwj
            rw [getD_set L i _ hiL, if_neg (fun e => by subst e; rw [hwi] at hwj; cases hwj)]
            exact hW j hj hwj
          · have h1 := cnt_change (p := fun k => !L.getD k true) (q := fun k => !(L.setIfInBounds i true).getD k true) (i := i) (fun k hk => by simp only [getD_set L i _ hiL, if_neg hk]) ops.size
            simp only [getD_set L i _ hiL, hli, if_true, Bool.not_true, Bool.not_false, and_true, his, Bool.false_eq_true, and_false, if_false, Nat.add_zero] at h1
            simp only [getD_set L i _ hiL]
            omega
        | true =>
          by_cases hin : i = n
          · subst hin
            rw [ho] at hx; cases hx
            have hprec : ∀ j, ((masks ops).getD i 0).testBit j = true → L.getD j true = true := by
              intro j hj
              obtain ⟨e, hee, hb, hor⟩ := masks_bit ho hj
              have hel := hp.back i o ho e hee hb
              have h1 := hed e (by simpa using hee) hb
              rw [getD_tf (by rw [hI.size]; omega)] at h1
              rcases hor with hor | hor
              · subst hor; exact h1
              · exact hI.closed e.on (by omega) h1 j hor
            obtain ⟨sq, hsq, hRq⟩ := hI.mem
            have hcq : cnt (fun k => isE (effX eff ops i) ops k && L.getD k true) ops.size = cnt (isE (effX eff ops i) ops) ops.size := by
              refine cnt_congr (fun k hk => ?_)
              cases hek : isE (effX eff ops i) ops k with
              | false => rfl
              | true =>
                obtain ⟨x, hx, hxe⟩ := isE_lt hek
                unfold effX at hxe
                split at hxe
                · cases hxe
                · rename_i hwk
                  rw [hprec k (hch k x hx (by simpa using hwk) hxe)]
                  rfl
            have hsn : sq = sn := by
              rw [hcq] at hsq
              rw [List.getLast?_eq_getElem?, hphl] at hlast
              simp only [Nat.add_sub_cancel] at hlast
              rw [hsq] at hlast
              cases hlast; rfl
            subst hsn
            have hlook : ∀ t ∈ o.looksAt ops, slot (TS ops ts T fun k => L.getD k true) t = slot T t := by
              intro t ht
              rw [slot_TS hlen]
              split
              · rfl
              · rename_i hw
                refine (hunw t (fun j x _ hj hd => hw ?_)).symm
                rcases hp.deps i j o x t ho hj hd ht with hm | ⟨hf, _⟩
                · exact wr_iff.2 ⟨j, x, hj, hprec j hm, hd⟩
                · rw [hrd] at hf; cases hf
            have hpn' : pan i o (TS ops ts T fun k => L.getD k true) sq = some (v, s') := by
              rw [hlp i o _ T sq (fun t ht => hlook t (mem_looks ht))]
              exact hpn
            unfold wpOpIn
            rw [ho]
            simp only
            rw [if_pos (by simp [Region.wanted, hgd])]
            refine hpan i o _ sq v s' hpn' Y b u hRq hI.tmps ?_ _
            intro Z y w' hZ hv hR'
            refine hQ Z y b w' (hI.le.trans hZ) hv hR' hI.defers ⟨_, hI.tmps.mono hZ, fun t ht => ?_⟩
            rw [slot_TS hlen, if_neg]
            intro hw
            obtain ⟨j, x, hj, _, hd⟩ := wr_iff.1 hw
            exact ht j x hj hd
          · -- it waits for the n-th
            exfalso
            have hbit : ((masks ops).getD i 0).testBit n = true := by
              unfold waits at hwi
              simp only [Bool.or_eq_true] at hwi
              rcases hwi with h | h
              · exact absurd (Nat.eq_of_beq_eq_true h) hin
              · exact h
            obtain ⟨e, hee, hb, hor⟩ := masks_bit hx hbit
            have hel := hp.back i x hx e hee hb
            have h1 := hed e (by simpa using hee) hb
            rw [getD_tf (by rw [hI.size]; omega)] at h1
            have hwe : waits ops n e.on = true := by
              unfold waits
              rcases hor with hor | hor
              · simp [hor]
              · rw [hor]; simp
            have := hW e.on (by omega) hwe
            rw [h1] at this; cases this
  have hgf : ∀ i, i < ops.size → (Array.replicate ops.size false).getD i true = false := fun i hi => by simp [Array.getD, hi]
  exact key ops.size _ X a w (fun j hj _ => hgf j hj) (start_mem rfl hll hp hrun hR ha) cnt_none
end
end Go.Ev
