/- Regions that draw their order, and in which a variable is made at whatever time: its name is set apart at the region's begin, and what it holds is told of once all ahead of it is done. -/
import Derived.Test.YtinngopfgdfdbaaGreatDoorEv13P
set_option linter.unusedVariables false
set_option linter.unusedSimpArgs false
namespace Go.Ev

theorem mask_back {ops : Array Oper} (hb : ∀ (i : Nat) (o : Oper), ops[i]? = some o → ∀ e ∈ o.after.toList, Region.binds .any e = true → e.on < i) : ∀ (i : Nat) (o : Oper), ops[i]? = some o → ∀ j, ((masks ops).getD i 0).testBit j = true → j < i := by
  intro i
  induction i using Nat.strongRecOn with
  | _ i ih =>
    intro o ho j hj
    obtain ⟨e, he, hbe, h⟩ := masks_bit ho hj
    have hlt := hb i o ho e he hbe
    rcases h with h | h
    · omega
    · have hio : i < ops.size := (Array.getElem?_eq_some_iff.1 ho).1
      have heo : ops[e.on]? = some ops[e.on] := Array.getElem?_eq_getElem (by omega)
      have := ih e.on hlt _ heo j h
      omega

theorem slot_set_ne (ts : List AV) {d t : Nat} (v : AV) (h : t ≠ d) : slot (ts.set d v) t = slot ts t := by
  simp [slot, List.getD, List.getElem?_set_ne (Ne.symm h)]

section
variable {step pan : Nat → Oper → List AV → HS → Option (AV × HS)} {eff : Nat → Oper → Bool} {ops : Array Oper}

/-- A slot that nobody looks at and nobody writes may hold what it will. -/
theorem runR_side (hl : StepLaws eff step) {d : Nat} {v : AV} : ∀ (os : List Oper) (i : Nat) (ts T : List AV) (s : HS) (ph : List HS), (∀ o ∈ os, o.dst ≠ some d ∧ d ∉ o.looksAt ops) → runR step eff ops i os ts s = some (T, ph) → runR step eff ops i os (ts.set d v) s = some (T.set d v, ph)
  | [], i, ts, T, s, ph, hs, h => by
    simp [runR] at h
    obtain ⟨rfl, rfl⟩ := h
    rfl
  | o :: os, i, ts, T, s, ph, hs, h => by
    obtain ⟨hd, hk⟩ := hs o (.head _)
    have hs' : ∀ o ∈ os, o.dst ≠ some d ∧ d ∉ o.looksAt ops := fun u hu => hs u (.tail _ hu)
    have hlk : ∀ t ∈ o.looksAt ops, slot (ts.set d v) t = slot ts t := fun t ht => slot_set_ne ts v (fun e => by subst e; exact hk ht)
    have hput : ∀ x, putA (ts.set d v) o.dst x = (putA ts o.dst x).set d v := by
      intro x
      unfold putA
      cases hdo : o.dst with
      | none => rfl
      | some d' =>
        have : d' ≠ d := fun e => by subst e; exact hd hdo
        simp only
        rw [List.set_comm _ _ this]
    unfold runR at h ⊢
    rw [wantedA_congr hlk]
    split at h
    · rename_i hw
      rw [if_pos hw]
      rw [hl.looks i o (ts.set d v) ts s (fun t ht => hlk t (mem_looks ht))]
      split at h <;> try cases h
      rename_i x s' hst
      split at h <;> cases h
      rename_i T' ph' hr
      rw [hput, runR_side hl os (i + 1) _ _ _ _ hs' hr]
    · rename_i hw
      rw [if_neg hw]
      split at h <;> cases h
      rename_i T' ph' hr
      rw [hput, runR_side hl os (i + 1) _ _ _ _ hs' hr]

theorem TS_side {d : Nat} {v : AV} (hd : ∀ (i : Nat) o, ops[i]? = some o → o.dst ≠ some d) (ts T : List AV) (hlen : T.length = ts.length) (l : Nat → Bool) : TS ops (ts.set d v) (T.set d v) l = (TS ops ts T l).set d v := by
  apply list_ext_slot (by simp [TS])
  intro t ht
  have htl : t < ts.length := by simpa [TS] using ht
  have hw : wr ops l d = false := by
    cases h : wr ops l d with
    | false => rfl
    | true => obtain ⟨i, o, ho, _, h2⟩ := wr_iff.1 h; exact absurd h2 (hd i o ho)
  rw [slot_TS (by simp [hlen])]
  by_cases htd : t = d
  · subst htd
    rw [hw]
    have h1 : t < (TS ops ts T l).length := by simpa [TS] using htl
    simp [slot, List.getD, htl, h1]
  · rw [slot_set_ne _ _ htd, slot_set_ne _ _ htd, slot_set_ne _ _ htd, slot_TS hlen]

theorem stab_side (hl : StepLaws eff step) {d : Nat} {v : AV} (hs : ∀ (i : Nat) o, ops[i]? = some o → o.dst ≠ some d ∧ d ∉ o.looksAt ops) {ts T : List AV} (hlen : T.length = ts.length) {ph : List HS} (h : Stab step eff ops ts T ph) : Stab step eff ops (ts.set d v) (T.set d v) ph := by
  intro i o q ho he hw hwin hq hne
  obtain ⟨hd, hk⟩ := hs i o ho
  have hV : Vw ops (ts.set d v) (T.set d v) i = (Vw ops ts T i).set d v := TS_side (fun i o h => (hs i o h).1) ts T hlen _
  have hlk : ∀ t ∈ o.looksAt ops, slot ((Vw ops ts T i).set d v) t = slot (Vw ops ts T i) t := fun t ht => slot_set_ne _ v (fun e => by subst e; exact hk ht)
  rw [hV] at hw ⊢
  rw [wantedA_congr hlk] at hw
  obtain ⟨sq, x, h1, h2, h3⟩ := h i o q ho he hw hwin hq hne
  refine ⟨sq, x, h1, ?_, fun d' hd' hlt => ?_⟩
  · rw [hl.looks i o _ (Vw ops ts T i) sq (fun t ht => hlk t (mem_looks ht))]; exact h2
  · have : d' ≠ d := fun e => by subst e; exact hd hd'
    rw [slot_set_ne _ _ this]
    exact h3 d' hd' (by simpa using hlt)
end

section
variable {P : Program} {ro : Option Nat} {w0 : W0} {Q : Exit → Act → World → Prop} {step pan : Nat → Oper → List AV → HS → Option (AV × HS)} {eff : Nat → Oper → Bool} {ops : Array Oper}


/-! ### the memory of which is told may be another behind each operation -/
/-- What is asked of a step. -/
def StepG (P : Program) (ro : Option Nat) (Q : Exit → Act → World → Prop) (step : Nat → Oper → List AV → HS → Option (AV × HS)) (ops : Array Oper) (i : Nat) (w1 : W0) (G' : W0 → Prop) : Prop :=
  ∀ o, ops[i]? = some o → ∀ ts s v s', step i o ts s = some (v, s') → ∀ X a w, R X s w1 w → VL X ts a.tmps.toList → ∀ K : Act → World → Prop,
    (∀ Y y w' w2, G' w2 → X.Le Y → V Y v y → R Y s' w2 w' → K (a.put o.dst y) w') → o.wpIn (WF ro) 0 P a w K Q

structure InvG (G : Array Bool → W0 → Prop) (step : Nat → Oper → List AV → HS → Option (AV × HS)) (eff : Nat → Oper → Bool) (ops : Array Oper) (ts T : List AV) (ph : List HS) (X0 : Cx) (ds : List Deferred) (L : Array Bool) (X : Cx) (a : Act) (w : World) : Prop where
  size : L.size = ops.size
  closed : ∀ i, i < ops.size → L.getD i true = true → ∀ j, ((masks ops).getD i 0).testBit j = true → L.getD j true = true
  mem : ∃ sq w1, G L w1 ∧ ph[cnt (fun k => isE eff ops k && L.getD k true) ops.size]? = some sq ∧ R X sq w1 w
  tmps : VL X (TS ops ts T fun k => L.getD k true) a.tmps.toList
  defers : a.defers = ds
  le : X0.Le X

theorem core_stepG {G : Array Bool → W0 → Prop} {i : Nat} (hl : StepLaws eff step) (hp : Plan eff ops) {ts T : List AV} {s : HS} {ph : List HS} (hrun : runR step eff ops 0 ops.toList ts s = some (T, ph))
    (hstab : Stab step eff ops ts T ph) {X0 : Cx} {ds : List Deferred} {L : Array Bool} {X : Cx} {a : Act} {w : World} (hI : InvG G step eff ops ts T ph X0 ds L X a w) (hi : i ∈ Region.ready .any ops L)
    (hst : (∀ i, i < ops.size → L.getD i true = true → ∀ j, ((masks ops).getD i 0).testBit j = true → L.getD j true = true) → L.getD i true = false → (∀ j, ((masks ops).getD i 0).testBit j = true → L.getD j true = true) → ∀ w1, G L w1 → StepG P ro Q step ops i w1 (G (L.setIfInBounds i true))) (hsk : ∀ o, ops[i]? = some o → o.guard ≠ none → ∀ w1, G L w1 → G (L.setIfInBounds i true) w1) :
    wpOpIn (WF ro) 0 P ops Q i (fun a' w' => ∃ Y, InvG G step eff ops ts T ph X0 ds (L.setIfInBounds i true) Y a' w') a w := by
  obtain ⟨hlen, hph0, hphl, hunw, hfacts⟩ := run_facts (ts0 := ts) hl hp ops.toList 0 ts T s ph (fun j => by simp) rfl (fun _ _ => rfl) hrun
  simp only [Nat.zero_add, Array.length_toList, cnt, Nat.sub_zero] at hphl hfacts
  -- an operation that is ready
  unfold Region.ready at hi
  rw [List.mem_filter] at hi
  obtain ⟨hin, hrd⟩ := hi
  have hin := List.mem_range.1 hin
  have ho : ops[i]? = some ops[i] := Array.getElem?_eq_getElem hin
  generalize hoo : ops[i] = o at ho
  simp only [ho, Option.map_some, Option.getD_some, Bool.and_eq_true, Bool.not_eq_true'] at hrd
  obtain ⟨hli, hedges⟩ := hrd
  rw [Array.all_eq_true'] at hedges
  have hiL : i < L.size := by rw [hI.size]; exact hin
  have hprec : ∀ j, ((masks ops).getD i 0).testBit j = true → L.getD j true = true := by
    intro j hj
    obtain ⟨e, he, hb, h⟩ := masks_bit ho hj
    have hlt := hp.back i o ho e he hb
    have h1 := hedges e (by simpa using he)
    rw [hb] at h1
    have h2 : e.on < L.size := by omega
    have h3 : L.getD e.on true = true := by
      simp [Array.getD, h2] at h1 ⊢
      exact h1
    rcases h with h | h
    · subst h; exact h3
    · exact hI.closed e.on (by omega) h3 j h
  -- the slots that it looks at
  have hlook : ∀ t ∈ o.looksAt ops, slot (TS ops ts T fun k => L.getD k true) t = slot (Vw ops ts T i) t := by
    intro t ht
    unfold Vw
    rw [slot_TS hlen, slot_TS hlen]
    have : wr ops (fun k => L.getD k true) t = wr ops (fun j => ((masks ops).getD i 0).testBit j) t := by
      rw [Bool.eq_iff_iff, wr_iff, wr_iff]
      constructor
      · rintro ⟨j, u, hj, h1, h2⟩
        rcases hp.deps i j o u t ho hj h2 ht with hm | ⟨_, hm | hm⟩
        · exact ⟨j, u, hj, hm, h2⟩
        · subst hm; rw [hli] at h1; cases h1
        · have := hI.closed j (Array.getElem?_eq_some_iff.1 hj).1 h1 i hm
          rw [hli] at this; cases this
      · rintro ⟨j, u, hj, h1, h2⟩
        exact ⟨j, u, hj, hprec j h1, h2⟩
    rw [this]
  have hwT : wantedA ops o (TS ops ts T fun k => L.getD k true) = wantedA ops o (Vw ops ts T i) := wantedA_congr hlook
  -- what is listed behind it
  have hrank : ∀ e, e < ops.size → isE eff ops e = true → (L.getD e true = true ↔ cnt (isE eff ops) e < cnt (fun k => isE eff ops k && L.getD k true) ops.size) := by
    intro e hen hee
    refine cnt_listed (e := isE eff ops) (l := fun k => L.getD k true) (fun i' j' hi' hj' hlt hli' => ?_) hen hee
    obtain ⟨oi, hoi, hei⟩ := isE_lt hi'
    obtain ⟨oj, hoj, hej⟩ := isE_lt hj'
    exact hI.closed i' (Array.getElem?_eq_some_iff.1 hoi).1 hli' j' (hp.chain i' j' oi oj hoi hoj hei hej hlt)
  have hsz' : (L.setIfInBounds i true).size = ops.size := by simpa using hI.size
  have hcl' : ∀ i', i' < ops.size → (L.setIfInBounds i true).getD i' true = true → ∀ j, ((masks ops).getD i' 0).testBit j = true → (L.setIfInBounds i true).getD j true = true := by
    intro i' hi' h j hj
    rw [getD_set L i _ hiL] at h ⊢
    split
    · rfl
    · split at h
      · rename_i e; subst e; exact hprec j hj
      · exact hI.closed i' hi' h j hj
  have hcntE : ∀ n, cnt (fun k => isE eff ops k && (L.setIfInBounds i true).getD k true) n = cnt (fun k => isE eff ops k && L.getD k true) n + (if i < n ∧ isE eff ops i = true then 1 else 0) := by
    intro n
    have h1 := cnt_change (p := fun k => isE eff ops k && L.getD k true) (q := fun k => isE eff ops k && (L.setIfInBounds i true).getD k true) (i := i) (fun k hk => by simp only [getD_set L i _ hiL, if_neg hk]) n
    simp only [getD_set L i _ hiL, hli, if_true, Bool.and_true, Bool.and_false, Bool.false_eq_true, and_false, if_false, Nat.add_zero] at h1
    simp only [getD_set L i _ hiL]
    omega
  have hslots : ∀ v, (∀ d, o.dst = some d → d < T.length → slot T d = v) → putA (TS ops ts T fun k => L.getD k true) o.dst v = TS ops ts T fun k => (L.setIfInBounds i true).getD k true := by
    intro v hv
    apply list_ext_slot (by rw [length_putA]; simp [TS])
    intro t ht
    rw [length_putA] at ht
    have htl : t < T.length := by rw [hlen]; simpa [TS] using ht
    rw [slot_putA, slot_TS hlen, slot_TS hlen]
    by_cases hd : o.dst = some t
    · rw [if_pos ⟨hd, ht⟩, if_pos (wr_iff.2 ⟨i, o, ho, by rw [getD_set L i _ hiL]; simp, hd⟩), hv t hd htl]
    · rw [if_neg (fun h => hd h.1)]
      have : wr ops (fun k => (L.setIfInBounds i true).getD k true) t = wr ops (fun k => L.getD k true) t := by
        rw [Bool.eq_iff_iff, wr_iff, wr_iff]
        constructor
        · rintro ⟨j, u, hj, h1, h2⟩
          refine ⟨j, u, hj, ?_, h2⟩
          rw [getD_set L i _ hiL] at h1
          split at h1
          · rename_i e; subst e; rw [ho] at hj; cases hj; exact absurd h2 hd
          · exact h1
        · rintro ⟨j, u, hj, h1, h2⟩
          refine ⟨j, u, hj, ?_, h2⟩
          rw [getD_set L i _ hiL]
          split
          · rfl
          · exact h1
      rw [this]
  obtain ⟨sq, w1, hG, hsq, hR⟩ := hI.mem
  have hie : isE eff ops i = eff i o := by simp [isE, ho]
  have hF := hfacts i o (Nat.zero_le _) ho
  unfold wpOpIn
  rw [ho]
  simp only
  rw [wanted_V hI.tmps, hwT]
  cases hw : wantedA ops o (Vw ops ts T i) with
  | true =>
    rw [if_pos rfl]
    obtain ⟨s1, s2, v, f1, f2, f3, f4⟩ := hF.on hw
    -- the memory that it finds
    have hfound : ∃ v s2', step i o (TS ops ts T fun k => L.getD k true) sq = some (v, s2') ∧ (∀ d, o.dst = some d → d < T.length → slot T d = v) ∧ ph[cnt (fun k => isE eff ops k && (L.setIfInBounds i true).getD k true) ops.size]? = some s2' := by
      rw [hl.looks i o _ (Vw ops ts T i) sq (fun t ht => hlook t (mem_looks ht)), hcntE]
      cases he : eff i o with
      | true =>
        have hq : cnt (fun k => isE eff ops k && L.getD k true) ops.size = cnt (isE eff ops) i := by
          have h1 : cnt (fun k => isE eff ops k && L.getD k true) ops.size = cnt (fun k => isE eff ops k && L.getD k true) i := by
            have hgen : ∀ m, i ≤ m → m ≤ ops.size → cnt (fun k => isE eff ops k && L.getD k true) m = cnt (fun k => isE eff ops k && L.getD k true) i := by
              intro m
              induction m with
              | zero => intro h _; have : i = 0 := by omega
                        subst this; rfl
              | succ m ihm =>
                intro hm hmn
                rcases Nat.lt_or_ge m i with hmi | hmi
                · have : i = m + 1 := by omega
                  subst this; rfl
                · simp only [cnt]
                  rw [ihm hmi (by omega)]
                  have : (isE eff ops m && L.getD m true) = false := by
                    cases hem : isE eff ops m
                    · rfl
                    · cases hlm : L.getD m true
                      · rfl
                      · exfalso
                        by_cases hmi' : m = i
                        · subst hmi'; rw [hli] at hlm; cases hlm
                        · obtain ⟨om, hom, hem'⟩ := isE_lt hem
                          have := hI.closed m (by omega) hlm i (hp.chain m i om o hom ho hem' he (by omega))
                          rw [hli] at this; cases this
                  simp only [this, Bool.false_eq_true, if_false, Nat.add_zero]
            exact hgen ops.size (by omega) (Nat.le_refl _)
          rw [h1]
          refine cnt_congr (fun k hk => ?_)
          cases hek : isE eff ops k
          · rfl
          · obtain ⟨ok, hok, hek'⟩ := isE_lt hek
            have := hprec k (hp.chain i k o ok ho hok he hek' hk)
            simp [this]
        rw [hq] at hsq ⊢
        rw [f1] at hsq; cases hsq
        rw [he, if_pos rfl] at f4
        refine ⟨v, s2, f2, f3, ?_⟩
        rw [if_pos ⟨hin, by rw [hie]; exact he⟩]
        exact f4
      | false =>
        rw [if_neg (fun h => by rw [hie, he] at h; exact absurd h.2 (by simp))]
        simp only [Nat.add_zero]
        by_cases hqq : cnt (fun k => isE eff ops k && L.getD k true) ops.size = cnt (isE eff ops) i
        · rw [hqq] at hsq ⊢
          rw [f1] at hsq; cases hsq
          rw [he] at f4
          simp only [Bool.false_eq_true, if_false] at f4
          subst f4
          exact ⟨v, s2, f2, f3, f1⟩
        · have hwin : win eff ops i (cnt (fun k => isE eff ops k && L.getD k true) ops.size) = true := by
            unfold win
            rw [List.all_eq_true]
            intro e hen
            have hen := List.mem_range.1 hen
            cases hee : isE eff ops e with
            | false => rfl
            | true =>
              simp only [Bool.not_true, Bool.false_or]
              by_cases hlt : cnt (isE eff ops) e < cnt (fun k => isE eff ops k && L.getD k true) ops.size
              · rw [if_pos hlt]
                have hle := (hrank e hen hee).2 hlt
                cases hb : ((masks ops).getD e 0).testBit i with
                | false => rfl
                | true => have := hI.closed e hen hle i hb; rw [hli] at this; cases this
              · rw [if_neg hlt]
                cases hb : ((masks ops).getD i 0).testBit e with
                | false => rfl
                | true => exact absurd ((hrank e hen hee).1 (hprec e hb)) hlt
          obtain ⟨sq', v', g1, g2, g3⟩ := hstab i o _ ho he hw hwin (List.getElem?_eq_some_iff.1 hsq).1 hqq
          rw [hsq] at g1; cases g1
          exact ⟨v', sq, g2, g3, hsq⟩
    obtain ⟨v, s2', hstep, hv, hph'⟩ := hfound
    refine hst hI.closed hli hprec w1 hG o ho _ sq v s2' hstep X a w hR hI.tmps _ ?_
    intro Y y w' w2 hG2 hY hvy hR'
    refine ⟨Y, hsz', hcl', ⟨s2', w2, hG2, hph', hR'⟩, ?_, ?_, hI.le.trans hY⟩
    · have := put_V (hI.tmps.mono hY) o.dst hvy
      rw [hslots v hv] at this
      exact this
    · have := hI.defers
      cases hd : o.dst <;> simpa [Act.put, hd] using this
  | false =>
    rw [if_neg (by simp)]
    obtain ⟨f3, f4⟩ := hF.off hw
    have hG' := hsk o ho (fun hg => by simp [wantedA, hg] at hw) w1 hG
    refine ⟨fun _ _ => trivial, X, hsz', hcl', ?_, ?_, ?_, hI.le⟩
    · rw [hcntE]
      cases he : eff i o with
      | true =>
        rw [if_pos ⟨hin, by rw [hie]; exact he⟩]
        have hq : cnt (fun k => isE eff ops k && L.getD k true) ops.size = cnt (isE eff ops) i := by
          have hgen : ∀ m, i ≤ m → m ≤ ops.size → cnt (fun k => isE eff ops k && L.getD k true) m = cnt (fun k => isE eff ops k && L.getD k true) i := by
            intro m
            induction m with
            | zero => intro h _; have : i = 0 := by omega
                      subst this; rfl
            | succ m ihm =>
              intro hm hmn
              rcases Nat.lt_or_ge m i with hmi | hmi
              · have : i = m + 1 := by omega
                subst this; rfl
              · simp only [cnt]
                rw [ihm hmi (by omega)]
                have : (isE eff ops m && L.getD m true) = false := by
                  cases hem : isE eff ops m
                  · rfl
                  · cases hlm : L.getD m true
                    · rfl
                    · exfalso
                      by_cases hmi' : m = i
                      · subst hmi'; rw [hli] at hlm; cases hlm
                      · obtain ⟨om, hom, hem'⟩ := isE_lt hem
                        have := hI.closed m (by omega) hlm i (hp.chain m i om o hom ho hem' he (by omega))
                        rw [hli] at this; cases this
                simp only [this, Bool.false_eq_true, if_false, Nat.add_zero]
          rw [hgen ops.size (by omega) (Nat.le_refl _)]
          refine cnt_congr (fun k hk => ?_)
          cases hek : isE eff ops k
          · rfl
          · obtain ⟨ok, hok, hek'⟩ := isE_lt hek
            have := hprec k (hp.chain i k o ok ho hok he hek' hk)
            simp [this]
        rw [hq] at hsq ⊢
        exact ⟨sq, w1, hG', by rw [f4 he]; exact hsq, hR⟩
      | false =>
        rw [if_neg (fun h => by rw [hie, he] at h; exact absurd h.2 (by simp))]
        exact ⟨sq, w1, hG', hsq, hR⟩
    · have := put_V hI.tmps o.dst (.undef X)
      rw [hslots _ f3] at this
      exact this
    · have := hI.defers
      cases hd : o.dst <;> simpa [Act.put, hd] using this

theorem region_coreG {G : Array Bool → W0 → Prop} (hst : ∀ (L : Array Bool) (i : Nat), L.size = ops.size → i < ops.size → (∀ i, i < ops.size → L.getD i true = true → ∀ j, ((masks ops).getD i 0).testBit j = true → L.getD j true = true) → L.getD i true = false → (∀ j, ((masks ops).getD i 0).testBit j = true → L.getD j true = true) → ∀ w1, G L w1 → StepG P ro Q step ops i w1 (G (L.setIfInBounds i true)))
    (hsk : ∀ (L : Array Bool) (i : Nat), L.size = ops.size → i < ops.size → ∀ o, ops[i]? = some o → o.guard ≠ none → ∀ w1, G L w1 → G (L.setIfInBounds i true) w1) (hend0 : ∀ (L : Array Bool) w1, (∀ i, i < ops.size → L.getD i true = true) → G L w1 → w1 = w0) (hl : StepLaws eff step) (hp : Plan eff ops) {ts T : List AV} {s : HS} {ph : List HS} (hrun : runR step eff ops 0 ops.toList ts s = some (T, ph))
    (hstab : Stab step eff ops ts T ph) {X0 : Cx} {ds : List Deferred} (hQ : ∀ Y a' w' s', X0.Le Y → ph.getLast? = some s' → VL Y T a'.tmps.toList → R Y s' w0 w' → a'.defers = ds → Q .normal a' w') :
    ∀ (fuel : Nat) (L : Array Bool) (X : Cx) (a : Act) (w : World), InvG G step eff ops ts T ph X0 ds L X a w → cnt (fun k => !L.getD k true) ops.size ≤ fuel → wpAnyIn (WF ro) 0 P .any ops Q fuel L a w := by
  obtain ⟨hlen, hph0, hphl, hunw, hfacts⟩ := run_facts (ts0 := ts) hl hp ops.toList 0 ts T s ph (fun j => by simp) rfl (fun _ _ => rfl) hrun
  simp only [Nat.zero_add, Array.length_toList, cnt, Nat.sub_zero] at hphl hfacts
  -- nothing is ready: all is listed
  have hdone : ∀ (L : Array Bool) (X : Cx) (a : Act) (w : World), InvG G step eff ops ts T ph X0 ds L X a w → Region.ready .any ops L = [] → ∀ i, i < ops.size → L.getD i true = true := by
    intro L X a w hI hr i
    induction i using Nat.strongRecOn with
    | _ i ih =>
      intro hi
      cases hli : L.getD i true with
      | true => rfl
      | false =>
        exfalso
        have ho : ops[i]? = some ops[i] := Array.getElem?_eq_getElem hi
        have hmem : i ∈ Region.ready .any ops L := by
          unfold Region.ready
          rw [List.mem_filter]
          refine ⟨List.mem_range.2 hi, ?_⟩
          simp only [hli, ho, Option.map_some, Option.getD_some, Bool.not_false, Bool.true_and, Array.all_eq_true']
          intro e he
          cases hb : Region.binds .any e with
          | false => rfl
          | true =>
            have hlt := hp.back i _ ho e (by simpa using he) hb
            have h1 := ih e.on hlt (by omega)
            have h2 : e.on < L.size := by rw [hI.size]; omega
            simp only [Bool.not_true, Bool.false_or]
            simp [Array.getD, h2] at h1 ⊢
            exact h1
        rw [hr] at hmem
        cases hmem
  have hend : ∀ (L : Array Bool) (X : Cx) (a : Act) (w : World), InvG G step eff ops ts T ph X0 ds L X a w → (∀ i, i < ops.size → L.getD i true = true) → Q .normal a w := by
    intro L X a w hI hall
    obtain ⟨sq, w1, hG, hsq, hR⟩ := hI.mem
    have hc : cnt (fun k => isE eff ops k && L.getD k true) ops.size = cnt (isE eff ops) ops.size := cnt_congr (fun k hk => by rw [hall k hk]; simp)
    rw [hc] at hsq
    have := hend0 L w1 hall hG
    subst this
    refine hQ X a w sq hI.le ?_ ?_ hR hI.defers
    · rw [List.getLast?_eq_getElem?, hphl]
      simpa using hsq
    · have : TS ops ts T (fun k => L.getD k true) = T := by
        apply list_ext_slot (by simp [TS, hlen])
        intro t ht
        rw [slot_TS hlen]
        split
        · rfl
        · rename_i hw
          refine (hunw t (fun j o _ hj hd => hw ?_)).symm
          exact wr_iff.2 ⟨j, o, hj, hall j (Array.getElem?_eq_some_iff.1 hj).1, hd⟩
      rw [← this]; exact hI.tmps
  intro fuel
  induction fuel with
  | zero =>
    intro L X a w hI hc
    have hall : ∀ i, i < ops.size → L.getD i true = true := by
      intro i hi
      cases hli : L.getD i true with
      | true => rfl
      | false =>
        exfalso
        have h1 : cnt (fun k => !L.getD k true) (i + 1) ≤ cnt (fun k => !L.getD k true) ops.size := cnt_mono (by omega)
        simp only [cnt, hli, Bool.not_false, if_true] at h1
        omega
    refine ⟨?_, hend L X a w hI hall⟩
    unfold Region.ready
    rw [List.filter_eq_nil_iff]
    intro i hi
    have := hall i (List.mem_range.1 hi)
    simp [this]
  | succ fuel ih =>
    intro L X a w hI hc
    refine ⟨fun hr => hend L X a w hI (hdone L X a w hI hr), fun i hi => ?_⟩
    have hmem := mem_ready.1 hi
    obtain ⟨hli, o, ho, hed⟩ := hmem
    have hin : i < ops.size := (Array.getElem?_eq_some_iff.1 ho).1
    have hiL : i < L.size := by rw [hI.size]; exact hin
    have hcnt' : cnt (fun k => !(L.setIfInBounds i true).getD k true) ops.size ≤ fuel := by
      have h1 := cnt_change (p := fun k => !L.getD k true) (q := fun k => !(L.setIfInBounds i true).getD k true) (i := i) (fun k hk => by simp only [getD_set L i _ hiL, if_neg hk]) ops.size
      simp only [getD_set L i _ hiL, hli, if_true, Bool.not_true, Bool.not_false, and_true, hin, Bool.false_eq_true, and_false, if_false, Nat.add_zero] at h1
      simp only [getD_set L i _ hiL]
      omega
    exact wpOpIn_mono (fun a' w' ⟨Y, hJ⟩ => ih _ Y a' w' hJ hcnt') (core_stepG hl hp hrun hstab hI hi (hst L i hI.size hin) (hsk L i hI.size hin))

/-- The listing of the first ones and of the p-th, and nothing else. -/
structure Ahead2 (n p k : Nat) (flag : Bool) (L0 L : Array Bool) : Prop where
  size0 : L0.size = n
  size : L.size = k
  le : n ≤ p
  lt : p < k
  same : ∀ i, i < n → L.getD i true = L0.getD i true
  at_ : L.getD p true = flag
  none : ∀ i, n ≤ i → i < k → i ≠ p → L.getD i true = false

theorem Ahead2.set {n p k : Nat} {flag : Bool} {L0 L : Array Bool} (h : Ahead2 n p k flag L0 L) {i : Nat} (hi : i < n) : Ahead2 n p k flag (L0.setIfInBounds i true) (L.setIfInBounds i true) := by
  have h1 : i < L0.size := by rw [h.size0]; exact hi
  have hle := h.le
  have hlt := h.lt
  have h2 : i < L.size := by rw [h.size]; omega
  refine ⟨by simp [h.size0], by simp [h.size], h.le, h.lt, fun j hk => ?_, ?_, fun j hk hks hne => ?_⟩
  · rw [getD_set L i _ h2, getD_set L0 i _ h1, h.same j hk]
  · rw [getD_set L i _ h2, if_neg (by omega)]; exact h.at_
  · rw [getD_set L i _ h2, if_neg (by omega)]
    exact h.none j hk hks hne
theorem Ahead2.setP {n p k : Nat} {L0 L : Array Bool} (h : Ahead2 n p k false L0 L) : Ahead2 n p k true L0 (L.setIfInBounds p true) := by
  have hle := h.le
  have h2 : p < L.size := by rw [h.size]; exact h.lt
  refine ⟨h.size0, by simp [h.size], h.le, h.lt, fun j hk => ?_, ?_, fun j hk hks hne => ?_⟩
  · rw [getD_set L p _ h2, if_neg (by omega)]; exact h.same j hk
  · rw [getD_set L p _ h2, if_pos rfl]
  · rw [getD_set L p _ h2, if_neg hne]; exact h.none j hk hks hne

/-- How it stands: the variable isn't made yet, or it is. -/
def LInv (step : Nat → Oper → List AV → HS → Option (AV × HS)) (eff : Nat → Oper → Bool) (pre : Array Oper) (w0 : W0) (r d size : Nat) (obj : Obj) (ts T : List AV) (ph : List HS) (X : Cx) (ds : List Deferred) (flag : Bool) (L0 : Array Bool) (Y : Cx) (b : Act) (u : World) : Prop :=
  match flag with
  | false => Inv step eff pre (w0.res r) ts T ph X ds L0 Y b u
  | true => ∃ c, Inv step eff pre (w0.opn r c size obj) (ts.set d (.ptr r 0)) (T.set d (.ptr r 0)) ph X ds L0 Y b u

/-- What is asked of the making of the variable. -/
def MakeOK (P : Program) (ro : Option Nat) (Q : Exit → Act → World → Prop) (o : Oper) (obj : Obj) : Prop :=
  ∀ a w (K : Act → World → Prop), K (a.put o.dst (.pointer (some ⟨w.heap.size, 0, none⟩))) (w.alloc obj) → o.wpIn (WF ro) 0 P a w K Q

theorem late_step (hst : ∀ w1, StepOK P ro w1 Q step) (hl : StepLaws eff step) {pre : Array Oper} (hp : Plan eff pre) {ts T : List AV} {s : HS} {ph : List HS} (hrun : runR step eff pre 0 pre.toList ts s = some (T, ph))
    (hstab : Stab step eff pre ts T ph) {r d size : Nat} {obj : Obj} (hs : ∀ (i : Nat) o, pre[i]? = some o → o.dst ≠ some d ∧ d ∉ o.looksAt pre) {X : Cx} {ds : List Deferred} {flag : Bool} {L0 : Array Bool} {Y : Cx} {b : Act} {u : World}
    (hI : LInv step eff pre w0 r d size obj ts T ph X ds flag L0 Y b u) {i : Nat} (hi : i ∈ Region.ready .any pre L0) :
    wpOpIn (WF ro) 0 P pre Q i (fun b' u' => ∃ Z, LInv step eff pre w0 r d size obj ts T ph X ds flag (L0.setIfInBounds i true) Z b' u') b u := by
  obtain ⟨hlen, _⟩ := run_facts (ts0 := ts) hl hp pre.toList 0 ts T s ph (fun j => by simp) rfl (fun _ _ => rfl) hrun
  cases flag with
  | false => exact core_step (hst _ i) hl hp hrun hstab hI hi
  | true =>
    obtain ⟨c, hI⟩ := hI
    have hrun' := runR_side (d := d) (v := .ptr r 0) hl pre.toList 0 ts T s ph (fun o ho => by
      obtain ⟨j, hj⟩ := List.mem_iff_getElem?.1 ho
      exact hs j o (by simpa using hj)) hrun
    exact wpOpIn_mono (fun b' u' ⟨Z, hZ⟩ => ⟨Z, c, hZ⟩) (core_step (hst _ i) hl hp hrun' (stab_side hl hs hlen hstab) hI hi)

theorem late_make {pre : Array Oper} {ts T : List AV} {ph : List HS} (hlen : T.length = ts.length) {r d size : Nat} {obj : Obj} (hs : ∀ (i : Nat) o, pre[i]? = some o → o.dst ≠ some d ∧ d ∉ o.looksAt pre) {p : Nat} {o : Oper} (ho : ops[p]? = some o) (hg : o.guard = none) (hd : o.dst = some d) (hmk : MakeOK P ro Q o obj)
    {X : Cx} {ds : List Deferred} {L0 : Array Bool} {Y : Cx} {b : Act} {u : World} (hI : LInv step eff pre w0 r d size obj ts T ph X ds false L0 Y b u) :
    wpOpIn (WF ro) 0 P ops Q p (fun b' u' => ∃ Z, LInv step eff pre w0 r d size obj ts T ph X ds true L0 Z b' u') b u := by
  have hI : Inv step eff pre (w0.res r) ts T ph X ds L0 Y b u := hI
  obtain ⟨sq, hsq, hR⟩ := hI.mem
  obtain ⟨hle, hR'⟩ := hR.bear obj size
  unfold wpOpIn
  rw [ho]
  simp only
  rw [if_pos (by simp [Region.wanted, hg])]
  refine hmk b u _ ?_
  refine ⟨_, u.heap.size, hI.size, hI.closed, ⟨sq, hsq, hR'⟩, ?_, ?_, hI.le.trans hle⟩
  · rw [TS_side (fun i o h => (hs i o h).1) ts T hlen, hd]
    exact put_V (hI.tmps.mono hle) (some d) (.ptr (b := u.heap.size) (base := 0) (size := size) (by simp [Cx.name]))
  · rw [hd]
    have := hI.defers
    simpa [Act.put] using this

theorem LInv.mem {pre : Array Oper} {ts T : List AV} {ph : List HS} {r d size : Nat} {obj : Obj} {X : Cx} {ds : List Deferred} {flag : Bool} {L0 : Array Bool} {Y : Cx} {b : Act} {u : World} (hI : LInv step eff pre w0 r d size obj ts T ph X ds flag L0 Y b u) :
    L0.size = pre.size ∧ (∀ i, i < pre.size → L0.getD i true = true → ∀ j, ((masks pre).getD i 0).testBit j = true → L0.getD j true = true) := by
  cases flag with
  | false => exact ⟨Inv.size hI, Inv.closed hI⟩
  | true => obtain ⟨c, hI⟩ := hI; exact ⟨hI.size, hI.closed⟩

/-- What is asked of a region in which the p-th operation makes a variable. -/
structure LatePlan (eff : Nat → Oper → Bool) (ops : Array Oper) (p d : Nat) (o : Oper) : Prop where
  at_ : ops[p]? = some o
  dst : o.dst = some d
  guard : o.guard = none
  free : ∀ e ∈ o.after.toList, Region.binds .any e = false
  back : ∀ (i : Nat) (u : Oper), ops[i]? = some u → ∀ e ∈ u.after.toList, Region.binds .any e = true → e.on < i
  plan : planOk eff (cutOps ops p) = true
  gs : (cutOps ops p).toList.all (guardIn p) = true
  side : ∀ (i : Nat) u, i < p → ops[i]? = some u → u.dst ≠ some d ∧ d ∉ u.looksAt ops

theorem start_mem {pre : Array Oper} {n : Nat} (hn : pre.size = n) {ts T : List AV} {s : HS} {ph : List HS} (hl : StepLaws eff step) (hp : Plan eff pre) (hrun : runR step eff pre 0 pre.toList ts s = some (T, ph)) {X : Cx} {a : Act} {w : World} (hR : R X s w0 w) (ha : VL X ts a.tmps.toList) :
    Inv step eff pre w0 ts T ph X a.defers (Array.replicate n false) X a w := by
  obtain ⟨hlen, hph0, _⟩ := run_facts (ts0 := ts) hl hp pre.toList 0 ts T s ph (fun j => by simp) rfl (fun _ _ => rfl) hrun
  have hg : ∀ i, i < n → (Array.replicate n false).getD i true = false := fun i hi => by simp [Array.getD, hi]
  refine ⟨by simp [hn], ?_, ?_, ?_, rfl, Cx.Le.refl X⟩
  · intro i hi h
    rw [hn] at hi
    rw [hg i hi] at h; cases h
  · refine ⟨s, ?_, hR⟩
    have : cnt (fun k => isE eff pre k && (Array.replicate n false).getD k true) pre.size = 0 := by
      rw [hn]
      have h1 : cnt (fun k => isE eff pre k && (Array.replicate n false).getD k true) n = cnt (fun _ => false) n := cnt_congr (fun k hk => by rw [hg k hk]; simp)
      rw [h1]
      have : ∀ m, cnt (fun _ => false) m = 0 := fun m => by induction m <;> simp_all [cnt]
      exact this _
    rw [this]; exact hph0
  · have : TS pre ts T (fun k => (Array.replicate n false).getD k true) = ts := by
      apply list_ext_slot (by simp [TS])
      intro t ht
      rw [slot_TS hlen, if_neg]
      intro hwr
      obtain ⟨i, x, hx, h1, _⟩ := wr_iff.1 hwr
      have := (Array.getElem?_eq_some_iff.1 hx).1
      rw [hg i (by omega)] at h1; cases h1
    rw [this]; exact ha

theorem cnt_none {n : Nat} : cnt (fun k => !(Array.replicate n false).getD k true) n ≤ n := by
  have : ∀ m, cnt (fun k => !(Array.replicate n false).getD k true) m ≤ m := fun m => by
    induction m with
    | zero => exact Nat.le_refl _
    | succ m ih => simp only [cnt]; split <;> omega
  exact this n

theorem cnt_set {n : Nat} {L0 : Array Bool} (hs : L0.size = n) {i : Nat} (hi : i < n) (hli : L0.getD i true = false) : cnt (fun k => !(L0.setIfInBounds i true).getD k true) n + 1 = cnt (fun k => !L0.getD k true) n := by
  have hi0 : i < L0.size := by omega
  have h1 := cnt_change (p := fun k => !L0.getD k true) (q := fun k => !(L0.setIfInBounds i true).getD k true) (i := i) (fun k hk => by simp only [getD_set L0 i _ hi0, if_neg hk]) n
  simp only [getD_set L0 i _ hi0, hli, if_true, Bool.not_true, Bool.not_false, and_true, hi, Bool.false_eq_true, and_false, if_false, Nat.add_zero] at h1
  simp only [getD_set L0 i _ hi0]
  omega

/-- An operation ahead of both is ready, by either listing. -/
theorem ready_cut {n p k : Nat} {flag : Bool} {L0 L : Array Bool} (hA : Ahead2 n p k flag L0 L) (hk : ops.size = k) (hb : ∀ (i : Nat) (o : Oper), ops[i]? = some o → ∀ e ∈ o.after.toList, Region.binds .any e = true → e.on < i) {i : Nat} {x : Oper} (hlt : i < n) (hli : L.getD i true = false) (hx : ops[i]? = some x)
    (hed : ∀ e ∈ x.after, Region.binds .any e = true → L.getD e.on false = true) : i ∈ Region.ready .any (cutOps ops n) L0 := by
  have hle := hA.le
  have hpk := hA.lt
  have hx0 : (cutOps ops n)[i]? = some x := by rw [cutOps_get hlt]; exact hx
  rw [mem_ready]
  refine ⟨by rw [← hA.same i hlt]; exact hli, x, hx0, fun e hee hbe => ?_⟩
  have hel := hb i x hx e (by simpa using hee) hbe
  have h1 := hed e hee hbe
  rw [getD_tf (by rw [hA.size]; omega), hA.same e.on (by omega)] at h1
  rw [getD_tf (by rw [hA.size0]; omega)]
  exact h1

theorem wpOp_cut {n i : Nat} {x : Oper} {K : Act → World → Prop} {b : Act} {u : World} (hlt : i < n) (hx : ops[i]? = some x) (hgs : (cutOps ops n).toList.all (guardIn n) = true) (hw : wpOpIn (WF ro) 0 P (cutOps ops n) Q i K b u) : wpOpIn (WF ro) 0 P ops Q i K b u := by
  have hx0 : (cutOps ops n)[i]? = some x := by rw [cutOps_get hlt]; exact hx
  have hgi : guardIn n x = true := by
    rw [List.all_eq_true] at hgs
    exact hgs x (by rw [Array.mem_toList_iff]; exact Array.mem_of_getElem? hx0)
  unfold wpOpIn at hw ⊢
  rw [hx0] at hw
  rw [hx]
  simp only at hw ⊢
  rw [cut_wanted hgi] at hw
  exact hw

/-- The p-th operation tells of the name that is set apart alone; the q-th finds the block. -/
def stepL (step : Nat → Oper → List AV → HS → Option (AV × HS)) (p q r : Nat) (k : Blk) : Nat → Oper → List AV → HS → Option (AV × HS) := fun i o ts s => if i = p then some (.ptr r 0, s) else if i = q then step i o ts ⟨s.h.put r k, s.n⟩ else step i o ts s
def effL (eff : Nat → Oper → Bool) (p q : Nat) : Nat → Oper → Bool := fun i o => if i = p then false else if i = q then true else eff i o

theorem laws_late {step : Nat → Oper → List AV → HS → Option (AV × HS)} {eff : Nat → Oper → Bool} (hl : StepLaws eff step) (p q r : Nat) (k : Blk) : StepLaws (effL eff p q) (stepL step p q r k) := by
  refine ⟨fun i o ts s v s' he h => ?_, fun i o ts ts' s h => ?_⟩
  · unfold effL at he
    unfold stepL at h
    split at he
    · rename_i hi
      rw [if_pos hi] at h
      cases h; rfl
    · rename_i hi
      rw [if_neg hi] at h
      split at he
      · cases he
      · rename_i hi2
        rw [if_neg hi2] at h
        exact hl.still i o ts s v s' he h
  · unfold stepL
    split
    · rfl
    · split
      · exact hl.looks i o ts ts' _ h
      · exact hl.looks i o ts ts' _ h

theorem runR_append {step : Nat → Oper → List AV → HS → Option (AV × HS)} {eff : Nat → Oper → Bool} {ops : Array Oper} : ∀ (a b : List Oper) (i : Nat) (ts tn T : List AV) (s sn : HS) (ph ph2 : List HS), runR step eff ops i a ts s = some (tn, ph) → ph.getLast? = some sn → runR step eff ops (i + a.length) b tn sn = some (T, ph2) → runR step eff ops i (a ++ b) ts s = some (T, ph.dropLast ++ ph2)
  | [], b, i, ts, tn, T, s, sn, ph, ph2, h, hl, h2 => by
    simp [runR] at h
    obtain ⟨rfl, rfl⟩ := h
    simp at hl
    subst hl
    simpa using h2
  | o :: a, b, i, ts, tn, T, s, sn, ph, ph2, h, hl, h2 => by
    have h2 : runR step eff ops (i + 1 + a.length) b tn sn = some (T, ph2) := by
      rw [show i + 1 + a.length = i + (o :: a).length by simp; omega]; exact h2
    have fin : ∀ (s0 : HS) (ph' : List HS) (bb : Bool), (if bb then s0 :: ph' else ph').getLast? = some sn → ph' ≠ [] → ph'.getLast? = some sn ∧ (if bb then s0 :: ph' else ph').dropLast ++ ph2 = if bb then s0 :: (ph'.dropLast ++ ph2) else ph'.dropLast ++ ph2 := by
      intro s0 ph' bb h hne
      cases ph' with
      | nil => exact absurd rfl hne
      | cons x xs => cases bb <;> simp_all [List.getLast?_cons]
    have hne : ∀ {i os ts s T ph}, runR step eff ops i os ts s = some (T, ph) → ph ≠ [] := by
      intro i os
      induction os generalizing i with
      | nil => intro ts s T ph h; simp [runR] at h; simp [← h.2]
      | cons x xs ih =>
        intro ts s T ph h
        unfold runR at h
        split at h
        · split at h <;> try cases h
          split at h <;> cases h
          rename_i hr
          have := ih hr
          split <;> simp_all
        · split at h <;> cases h
          rename_i hr
          have := ih hr
          split <;> simp_all
    show runR step eff ops i (o :: (a ++ b)) ts s = _
    unfold runR at h ⊢
    split at h
    · rename_i hw
      rw [if_pos hw]
      split at h <;> try cases h
      rename_i v s' hs
      split at h <;> cases h
      rename_i T' ph' hr
      obtain ⟨f1, f2⟩ := fin s ph' (eff i o) hl (hne hr)
      rw [runR_append a b (i + 1) _ _ _ _ _ _ _ hr f1 h2, f2]
    · rename_i hw
      rw [if_neg hw]
      split at h <;> cases h
      rename_i T' ph' hr
      obtain ⟨f1, f2⟩ := fin s ph' (eff i o) hl (hne hr)
      rw [runR_append a b (i + 1) _ _ _ _ _ _ _ hr f1 h2, f2]

theorem runR_ne {step : Nat → Oper → List AV → HS → Option (AV × HS)} {eff : Nat → Oper → Bool} {ops : Array Oper} : ∀ (os : List Oper) (i : Nat) (ts T : List AV) (s : HS) (ph : List HS), runR step eff ops i os ts s = some (T, ph) → ph ≠ []
  | [], i, ts, T, s, ph, h => by simp [runR] at h; simp [← h.2]
  | x :: xs, i, ts, T, s, ph, h => by
    unfold runR at h
    split at h
    · split at h <;> try cases h
      split at h <;> cases h
      rename_i hr
      have := runR_ne xs _ _ _ _ _ hr
      split <;> simp_all
    · split at h <;> cases h
      rename_i hr
      have := runR_ne xs _ _ _ _ _ hr
      split <;> simp_all

theorem runR_congr {step step' : Nat → Oper → List AV → HS → Option (AV × HS)} {eff eff' : Nat → Oper → Bool} {ops : Array Oper} : ∀ (os : List Oper) (i : Nat) (ts : List AV) (s : HS), (∀ j, i ≤ j → j < i + os.length → step j = step' j ∧ eff j = eff' j) → runR step eff ops i os ts s = runR step' eff' ops i os ts s
  | [], i, ts, s, h => rfl
  | o :: os, i, ts, s, h => by
    obtain ⟨h1, h2⟩ := h i (Nat.le_refl _) (by simp)
    have ih := fun ts s => runR_congr (ops := ops) os (i + 1) ts s (fun j hj hj2 => h j (by omega) (by simp; omega))
    unfold runR
    simp only [h1, h2, ih]

/-- The run in the listed order, in two parts. -/
theorem run_late {step : Nat → Oper → List AV → HS → Option (AV × HS)} {eff : Nat → Oper → Bool} {ops : Array Oper} {p d r : Nat} {k : Blk} {o oq : Oper} (ho : ops[p]? = some o) (hd : o.dst = some d) (hg : o.guard = none) (hoq : ops[p + 1]? = some oq) (hgq : oq.guard = none)
    {ts tn T : List AV} {s sn : HS} {ph ph2 : List HS} (hrun : runR step eff ops 0 (ops.toList.take p) ts s = some (tn, ph)) (hlast : ph.getLast? = some sn) (hrun2 : runR step eff ops (p + 1) (ops.toList.drop (p + 1)) (tn.set d (.ptr r 0)) ⟨sn.h.put r k, sn.n⟩ = some (T, ph2)) :
    ∃ ph3, runR (stepL step p (p + 1) r k) (effL eff p (p + 1)) ops 0 ops.toList ts s = some (T, ph ++ ph3) ∧ ph3.getLast? = ph2.getLast? ∧ ph3 ≠ [] := by
  have hp : p < ops.size := (Array.getElem?_eq_some_iff.1 ho).1
  have hq : p + 1 < ops.size := (Array.getElem?_eq_some_iff.1 hoq).1
  have hlen : (ops.toList.take p).length = p := by simp; omega
  have e1 : runR (stepL step p (p + 1) r k) (effL eff p (p + 1)) ops 0 (ops.toList.take p) ts s = some (tn, ph) := by
    rw [← hrun]
    refine runR_congr _ _ _ _ (fun j _ hj => ?_)
    have hjp : j < p := by omega
    refine ⟨?_, ?_⟩
    · funext o ts s; simp only [stepL]; rw [if_neg (by omega), if_neg (by omega)]
    · funext o; simp only [effL]; rw [if_neg (by omega), if_neg (by omega)]
  have hdrop : ops.toList.drop p = o :: oq :: ops.toList.drop (p + 1 + 1) := by
    have h1 : ops.toList.drop p = o :: ops.toList.drop (p + 1) := by
      rw [List.drop_eq_getElem_cons (by simpa using hp)]
      congr 1
      have := (Array.getElem?_eq_some_iff.1 ho).2
      simpa using this
    rw [h1, List.drop_eq_getElem_cons (by simpa using hq)]
    congr 2
    have := (Array.getElem?_eq_some_iff.1 hoq).2
    simpa using this
  have hdq : ops.toList.drop (p + 1) = oq :: ops.toList.drop (p + 1 + 1) := by
    rw [List.drop_eq_getElem_cons (by simpa using hq)]
    congr 1
    have := (Array.getElem?_eq_some_iff.1 hoq).2
    simpa using this
  rw [hdq] at hrun2
  have hw : ∀ ts, wantedA ops oq ts = true := fun ts => by simp [wantedA, hgq]
  have hwp : ∀ ts, wantedA ops o ts = true := fun ts => by simp [wantedA, hg]
  unfold runR at hrun2
  rw [if_pos (hw _)] at hrun2
  split at hrun2 <;> try cases hrun2
  rename_i v s2 hs2
  split at hrun2 <;> cases hrun2
  rename_i ph' hr'
  have e2 : runR (stepL step p (p + 1) r k) (effL eff p (p + 1)) ops (p + 1 + 1) (ops.toList.drop (p + 1 + 1)) (putA (tn.set d (.ptr r 0)) oq.dst v) s2 = some (T, ph') := by
    rw [← hr']
    refine runR_congr _ _ _ _ (fun j hj _ => ⟨?_, ?_⟩)
    · funext o ts s; simp only [stepL]; rw [if_neg (by omega), if_neg (by omega)]
    · funext o; simp only [effL]; rw [if_neg (by omega), if_neg (by omega)]
  have e3 : runR (stepL step p (p + 1) r k) (effL eff p (p + 1)) ops p (o :: oq :: ops.toList.drop (p + 1 + 1)) tn sn = some (T, sn :: ph') := by
    unfold runR
    rw [if_pos (hwp _)]
    have hsp : stepL step p (p + 1) r k p o tn sn = some (.ptr r 0, sn) := by simp [stepL]
    have hep : effL eff p (p + 1) p o = false := by simp [effL]
    have hsq : stepL step p (p + 1) r k (p + 1) oq (tn.set d (.ptr r 0)) sn = some (v, s2) := by
      have h1 : ¬ p + 1 = p := by omega
      simp only [stepL, h1, if_false, if_true]
      exact hs2
    have heq : effL eff p (p + 1) (p + 1) oq = true := by
      have h1 : ¬ p + 1 = p := by omega
      simp only [effL, h1, if_false, if_true]
    have hpa : putA tn o.dst (.ptr r 0) = tn.set d (.ptr r 0) := by rw [hd]; rfl
    have e4 : runR (stepL step p (p + 1) r k) (effL eff p (p + 1)) ops (p + 1) (oq :: ops.toList.drop (p + 1 + 1)) (tn.set d (.ptr r 0)) sn = some (T, sn :: ph') := by
      unfold runR
      rw [if_pos (hw _), hsq]
      simp only [e2, heq, if_true]
    simp only [hsp, hep, hpa, e4, Bool.false_eq_true, if_false]
  have hall := runR_append (ops.toList.take p) (ops.toList.drop p) 0 ts tn T s sn ph (sn :: ph') e1 hlast (by rw [hlen, Nat.zero_add, hdrop]; exact e3)
  rw [List.take_append_drop] at hall
  have hne := runR_ne _ _ _ _ _ _ hr'
  refine ⟨ph', ?_, ?_, hne⟩
  · rw [hall]
    have hph : ph.dropLast ++ [sn] = ph := by
      have hn : ph ≠ [] := fun e => by subst e; simp at hlast
      have : sn = ph.getLast hn := by rw [List.getLast?_eq_some_getLast hn] at hlast; cases hlast; rfl
      rw [this]; exact List.dropLast_concat_getLast hn
    rw [show ph.dropLast ++ sn :: ph' = (ph.dropLast ++ [sn]) ++ ph' by simp, hph]
  · cases eff (p + 1) oq with
    | false => rfl
    | true =>
      cases ph' with
      | nil => exact absurd rfl hne
      | cons x xs => simp [List.getLast?_cons]

/-- In whatever order is drawn: all comes to its end. -/
theorem region_late (hst : ∀ w1, StepOK P ro w1 Q step) (hl : StepLaws eff step) {p q d : Nat} {o oq : Oper} (hpq : p ≠ q) (ho : ops[p]? = some o) (hd : o.dst = some d) (hg : o.guard = none) (hoq : ops[q]? = some oq) (hgq : oq.guard = none) (hmq : ((masks ops).getD q 0).testBit p = true)
    (hp : Plan (effL eff p q) ops) {obj : Obj} {size : Nat} {k : Blk} (hB : ∀ X, B X 0 size k obj) (hmk : MakeOK P ro Q o obj) {ts T : List AV} {s : HS} {ph : List HS}
    (hrun : runR (stepL step p q s.n k) (effL eff p q) ops 0 ops.toList ts ⟨s.h, s.n + 1⟩ = some (T, ph)) (hstab : Stab (stepL step p q s.n k) (effL eff p q) ops ts T ph) {X : Cx} {a : Act} {w : World} (hR : R X s w0 w) (ha : VL X ts a.tmps.toList)
    (hQ : ∀ Y a' w' s', X.Le Y → ph.getLast? = some s' → VL Y T a'.tmps.toList → R Y s' w0 w' → a'.defers = a.defers → Q .normal a' w') :
    wpAnyIn (WF ro) 0 P .any ops Q ops.size (Array.replicate ops.size false) a w := by
  have hps : p < ops.size := (Array.getElem?_eq_some_iff.1 ho).1
  have hqs : q < ops.size := (Array.getElem?_eq_some_iff.1 hoq).1
  have hfree : w0.gh s.n = none := hR.gh_free (Nat.le_refl _)
  have hll := laws_late hl p q s.n k
  let G : Array Bool → W0 → Prop := fun L w1 => if L.getD q true = true then w1 = w0 else if L.getD p true = true then ∃ c, w1 = w0.opn s.n c size obj else w1 = w0.res s.n
  have hother : ∀ (L : Array Bool) (i : Nat) w1, i < L.size → i ≠ p → i ≠ q → G L w1 → G (L.setIfInBounds i true) w1 := by
    intro L i w1 hi h1 h2 hG
    show if (L.setIfInBounds i true).getD q true = true then w1 = w0 else if (L.setIfInBounds i true).getD p true = true then ∃ c, w1 = w0.opn s.n c size obj else w1 = w0.res s.n
    rw [getD_set L i _ hi, getD_set L i _ hi, if_neg (Ne.symm h2), if_neg (Ne.symm h1)]
    exact hG
  have hcore := region_coreG (P := P) (ro := ro) (w0 := w0) (Q := Q) (G := G) (step := stepL step p q s.n k) (eff := effL eff p q) (ops := ops) (ts := ts) (T := T) (s := ⟨s.h, s.n + 1⟩) (ph := ph) (X0 := X) (ds := a.defers) ?_ ?_ ?_ hll hp hrun hstab hQ
  · obtain ⟨hlen, hph0, _⟩ := run_facts (ts0 := ts) hll hp ops.toList 0 ts T ⟨s.h, s.n + 1⟩ ph (fun j => by simp) rfl (fun _ _ => rfl) hrun
    have hgf : ∀ i, i < ops.size → (Array.replicate ops.size false).getD i true = false := fun i hi => by simp [Array.getD, hi]
    refine hcore ops.size _ X a w ⟨by simp, ?_, ?_, ?_, rfl, Cx.Le.refl X⟩ cnt_none
    · intro i hi h
      rw [hgf i hi] at h; cases h
    · refine ⟨⟨s.h, s.n + 1⟩, w0.res s.n, ?_, ?_, hR.reserve⟩
      · show if (Array.replicate ops.size false).getD q true = true then _ else _
        rw [hgf q hqs, hgf p hps]
        simp
      · have : cnt (fun k => isE (effL eff p q) ops k && (Array.replicate ops.size false).getD k true) ops.size = 0 := by
          have h1 : cnt (fun k => isE (effL eff p q) ops k && (Array.replicate ops.size false).getD k true) ops.size = cnt (fun _ => false) ops.size := cnt_congr (fun k hk => by rw [hgf k hk]; simp)
          rw [h1]
          have : ∀ m, cnt (fun _ => false) m = 0 := fun m => by induction m <;> simp_all [cnt]
          exact this _
        rw [this]; exact hph0
    · have : TS ops ts T (fun k => (Array.replicate ops.size false).getD k true) = ts := by
        apply list_ext_slot (by simp [TS])
        intro t ht
        rw [slot_TS hlen, if_neg]
        intro hwr
        obtain ⟨i, x, hx, h1, _⟩ := wr_iff.1 hwr
        rw [hgf i (Array.getElem?_eq_some_iff.1 hx).1] at h1; cases h1
      rw [this]; exact ha
  · intro L i hLs his hcl hli hprec w1 hG o' ho' ts' s' v s'' hstep Y b u hRu hv K hK
    have hiL : i < L.size := by omega
    have hpL : p < L.size := by omega
    have hqL : q < L.size := by omega
    by_cases hip : i = p
    · subst hip
      rw [ho] at ho'; cases ho'
      have hLq : L.getD q true = false := by
        cases h : L.getD q true with
        | false => rfl
        | true => have := hcl q hqs h i hmq; rw [hli] at this; cases this
      have hG : if L.getD q true = true then w1 = w0 else if L.getD i true = true then ∃ c, w1 = w0.opn s.n c size obj else w1 = w0.res s.n := hG
      rw [hLq, hli] at hG
      simp only [Bool.false_eq_true, if_false] at hG
      subst hG
      unfold stepL at hstep
      rw [if_pos rfl] at hstep
      cases hstep
      obtain ⟨hle, hR'⟩ := hRu.bear obj size
      refine hmk b u K (hK _ _ _ _ ?_ hle ?_ hR')
      · show if (L.setIfInBounds i true).getD q true = true then _ else _
        rw [getD_set L i _ hiL, getD_set L i _ hiL, if_neg (Ne.symm hpq), hLq, if_pos rfl, if_neg (by simp), if_pos rfl]
        exact ⟨_, rfl⟩
      · exact .ptr (b := u.heap.size) (base := 0) (size := size) (by simp [Cx.name])
    · by_cases hiq : i = q
      · subst hiq
        have hLp : L.getD p true = true := hprec p hmq
        have hG : if L.getD i true = true then w1 = w0 else if L.getD p true = true then ∃ c, w1 = w0.opn s.n c size obj else w1 = w0.res s.n := hG
        rw [hli, hLp] at hG
        simp only [Bool.false_eq_true, if_false, if_true] at hG
        obtain ⟨c, rfl⟩ := hG
        unfold stepL at hstep
        rw [if_neg hip, if_pos rfl] at hstep
        refine hst w0 i o' ts' _ v s'' hstep Y b u (hRu.tell hfree (hB Y)) hv K (fun Z y w' hZ hvz hRz => hK Z y w' w0 ?_ hZ hvz hRz)
        show if (L.setIfInBounds i true).getD i true = true then _ else _
        rw [getD_set L i _ hiL, if_pos rfl, if_pos rfl]
      · unfold stepL at hstep
        rw [if_neg hip, if_neg hiq] at hstep
        exact hst w1 i o' ts' _ v s'' hstep Y b u hRu hv K (fun Z y w' hZ hvz hRz => hK Z y w' w1 (hother L i w1 hiL hip hiq hG) hZ hvz hRz)
  · intro L i hLs his o' ho' hgn w1 hG
    refine hother L i w1 (by omega) ?_ ?_ hG
    · rintro rfl; rw [ho] at ho'; cases ho'; exact hgn hg
    · rintro rfl; rw [hoq] at ho'; cases ho'; exact hgn hgq
  · intro L w1 hall hG
    have hG : if L.getD q true = true then w1 = w0 else if L.getD p true = true then ∃ c, w1 = w0.opn s.n c size obj else w1 = w0.res s.n := hG
    rw [hall q hqs, if_pos rfl] at hG
    exact hG

/-- Do all that are listed behind the n-th, but the p-th, wait for it? -/
def lateOk2 (ops : Array Oper) (n p : Nat) : Bool := (List.range ops.size).all fun j => !Nat.blt n j || Nat.beq j p || ((masks ops).getD j 0).testBit n

/-- In whatever order is drawn: the n-th operation panics. -/
theorem region_late_pan (hst : ∀ w1, StepOK P ro w1 Q step) (hpan : ∀ w1, PanOK P ro w1 Q pan) (hl : StepLaws eff step) (hlp : ∀ i o ts ts' s, (∀ t, .tmp t ∈ o.op.operands.toList → slot ts t = slot ts' t) → pan i o ts s = pan i o ts' s)
    {p d : Nat} {oA : Oper} (hp : LatePlan eff ops p d oA) {obj : Obj} {size : Nat} (hmk : MakeOK P ro Q oA obj)
    {n : Nat} {o : Oper} (hnp : n < p) (ho : ops[n]? = some o) (hgd : o.guard = none) (he : eff n o = true) (hgs : (cutOps ops n).toList.all (guardIn n) = true) (hlate : lateOk2 ops n p = true)
    (hpn0 : planOk eff (cutOps ops n) = true) (hpn1 : planOk eff (cutOps ops (n + 1)) = true) {ts tn : List AV} {s sn s' : HS} {ph : List HS} {v : AV} (hrun : runR step eff (cutOps ops n) 0 (cutOps ops n).toList ts ⟨s.h, s.n + 1⟩ = some (tn, ph)) (hlast : ph.getLast? = some sn)
    (hpn : pan n o tn sn = some (v, s')) (hstab : Stab step eff (cutOps ops n) ts tn ph) {X : Cx} {a : Act} {w : World} (hR : R X s w0 w) (ha : VL X ts a.tmps.toList)
    (hQ : ∀ Y y a' w', X.Le Y → V Y v y → R Y s' w0 w' → a'.defers = a.defers → (∃ ts', VL Y ts' a'.tmps.toList ∧ ∀ t, (∀ (j : Nat) o, ops[j]? = some o → o.dst ≠ some t) → slot ts' t = slot ts t) → Q (.panic [{ v := y, recovered := false }]) a' w') :
    wpAnyIn (WF ro) 0 P .any ops Q ops.size (Array.replicate ops.size false) a w := by
  have hpz : p < ops.size := (Array.getElem?_eq_some_iff.1 hp.at_).1
  have hn : n < ops.size := (Array.getElem?_eq_some_iff.1 ho).1
  have hsz : (cutOps ops n).size = n := cutOps_size (by omega)
  have hpl := planOk_spec hpn0
  have hpl1 := planOk_spec hpn1
  have hfree : w0.gh s.n = none := hR.gh_free (Nat.le_refl _)
  obtain ⟨hlen, hph0, hphl, hunw, hfacts⟩ := run_facts (ts0 := ts) hl hpl (cutOps ops n).toList 0 ts tn ⟨s.h, s.n + 1⟩ ph (fun j => by simp) rfl (fun _ _ => rfl) hrun
  simp only [Nat.zero_add, Array.length_toList, cnt, Nat.sub_zero, hsz] at hphl
  have hget1 : ∀ {i u}, i ≤ n → ops[i]? = some u → (cutOps ops (n + 1))[i]? = some u := fun {i u} hi hu => by rw [cutOps_get (by omega)]; exact hu
  have hmask1 : ∀ {i}, i ≤ n → (masks (cutOps ops (n + 1))).getD i 0 = (masks ops).getD i 0 := fun {i} hi => masks_cut (by omega) (by omega)
  have hmask0 : ∀ {i}, i < n → (masks (cutOps ops n)).getD i 0 = (masks ops).getD i 0 := fun {i} hi => masks_cut hi (by omega)
  have hs : ∀ (i : Nat) u, (cutOps ops n)[i]? = some u → u.dst ≠ some d ∧ d ∉ u.looksAt (cutOps ops n) := by
    intro i u hu
    obtain ⟨h1, h2⟩ := cutOps_lt hu
    have hgi : guardIn n u = true := by
      rw [List.all_eq_true] at hgs
      exact hgs u (by rw [Array.mem_toList_iff]; exact Array.mem_of_getElem? hu)
    rw [looks_cut hgi]
    exact hp.side i u (by omega) h2
  have key : ∀ (fuel : Nat) (flag : Bool) (L0 L : Array Bool) (Y : Cx) (b : Act) (u : World), Ahead2 n p ops.size flag L0 L → LInv step eff (cutOps ops n) w0 s.n d size obj ts tn ph X a.defers flag L0 Y b u →
      cnt (fun k => !L0.getD k true) n + (if flag then 0 else 1) < fuel → wpAnyIn (WF ro) 0 P .any ops Q fuel L b u := by
    intro fuel
    induction fuel with
    | zero => intro flag L0 L Y b u hA hI hc; omega
    | succ fuel ih =>
      intro flag L0 L Y b u hA hI hc
      have hLn : L.getD n true = false := hA.none n (Nat.le_refl _) hn (by omega)
      refine ⟨fun hr => ?_, fun i hi => ?_⟩
      · exfalso
        have hall : ∀ i, i ≤ n → L.getD i true = true := by
          intro i
          induction i using Nat.strongRecOn with
          | _ i ihi =>
            intro hi
            cases hli : L.getD i true with
            | true => rfl
            | false =>
              exfalso
              have hiu : ops[i]? = some ops[i] := Array.getElem?_eq_getElem (by omega)
              have hmem : i ∈ Region.ready .any ops L := by
                rw [mem_ready]
                refine ⟨hli, _, hiu, fun e hee hb => ?_⟩
                have hlt := hp.back i _ hiu e (by simpa using hee) hb
                rw [getD_tf (by rw [hA.size]; omega)]
                exact ihi e.on hlt (by omega)
              rw [hr] at hmem; cases hmem
        rw [hall n (Nat.le_refl _)] at hLn; cases hLn
      · have hir := hi
        rw [mem_ready] at hi
        obtain ⟨hli, x, hx, hed⟩ := hi
        have hisz : i < ops.size := (Array.getElem?_eq_some_iff.1 hx).1
        by_cases hip : i = p
        · subst hip
          have hfl : flag = false := by rw [← hA.at_]; exact hli
          subst hfl
          refine wpOpIn_mono (fun b' u' ⟨Z, hJ⟩ => ih true _ _ Z b' u' hA.setP hJ ?_) (late_make hlen hs hp.at_ hp.guard hp.dst hmk hI)
          simp at hc ⊢
          omega
        rcases Nat.lt_trichotomy i n with hlt | heq | hgt
        · have hir0 := ready_cut hA rfl hp.back hlt hli hx hed
          have hw := late_step hst hl hpl hrun hstab hs hI hir0
          refine wpOp_cut hlt hx hgs (wpOpIn_mono (fun b' u' ⟨Z, hJ⟩ => ih flag _ _ Z b' u' (hA.set hlt) hJ ?_) hw)
          have := cnt_set hA.size0 hlt (by rw [← hA.same i hlt]; exact hli)
          omega
        · -- the n-th itself
          subst heq
          rw [ho] at hx; cases hx
          have hprec : ∀ j, ((masks ops).getD i 0).testBit j = true → L0.getD j true = true := by
            intro j hj
            obtain ⟨e, hee, hb, hor⟩ := masks_bit ho hj
            have hel := hp.back i o ho e hee hb
            have h1 := hed e (by simpa using hee) hb
            rw [getD_tf (by rw [hA.size]; omega), hA.same e.on hel] at h1
            rcases hor with hor | hor
            · subst hor; exact h1
            · rw [← hmask0 hel] at hor
              exact (LInv.mem hI).2 e.on (by rw [hsz]; exact hel) h1 j hor
          have hcq : cnt (fun k => isE eff (cutOps ops i) k && L0.getD k true) (cutOps ops i).size = cnt (isE eff (cutOps ops i)) i := by
            rw [hsz]
            refine cnt_congr (fun k hk => ?_)
            cases hek : isE eff (cutOps ops i) k with
            | false => rfl
            | true =>
              obtain ⟨x, hx, hxe⟩ := isE_lt hek
              have hxk := (cutOps_lt hx).2
              have := hpl1.chain i k o x (hget1 (Nat.le_refl _) ho) (hget1 (by omega) hxk) he hxe hk
              rw [hmask1 (Nat.le_refl _)] at this
              simp [hprec k this]
          have hlook : ∀ t ∈ o.looksAt ops, slot (TS (cutOps ops i) ts tn fun k => L0.getD k true) t = slot tn t := by
            intro t ht
            rw [slot_TS hlen]
            split
            · rfl
            · rename_i hw
              refine (hunw t (fun j x _ hj hd => hw ?_)).symm
              have hj' := cutOps_lt hj
              have hlk : t ∈ o.looksAt (cutOps ops (i + 1)) := by
                have : o.looksAt (cutOps ops (i + 1)) = o.looksAt ops := looks_cut (by unfold guardIn; rw [hgd])
                rw [this]; exact ht
              rcases hpl1.deps i j o x t (hget1 (Nat.le_refl _) ho) (hget1 (by omega) hj'.2) hd hlk with hm | ⟨_, hm | hm⟩
              · rw [hmask1 (Nat.le_refl _)] at hm
                exact wr_iff.2 ⟨j, x, hj, hprec j hm, hd⟩
              · omega
              · have := mask_lt hpl1 j x (hget1 (by omega) hj'.2) i hm
                omega
          have hdo : d ∉ o.looksAt ops := (hp.side i o hnp ho).2
          unfold wpOpIn
          rw [ho]
          simp only
          rw [if_pos (by simp [Region.wanted, hgd])]
          have hsn : ∀ sq, ph[cnt (fun k => isE eff (cutOps ops i) k && L0.getD k true) (cutOps ops i).size]? = some sq → sq = sn := by
            intro sq hsq
            rw [hcq] at hsq
            rw [List.getLast?_eq_getElem?, hphl] at hlast
            simp only [Nat.add_sub_cancel] at hlast
            rw [hsq] at hlast
            cases hlast; rfl
          cases flag with
          | false =>
            have hI : Inv step eff (cutOps ops i) (w0.res s.n) ts tn ph X a.defers L0 Y b u := hI
            obtain ⟨sq, hsq, hRq⟩ := hI.mem
            have := hsn sq hsq
            subst this
            have hpn' : pan i o (TS (cutOps ops i) ts tn fun k => L0.getD k true) sq = some (v, s') := by
              rw [hlp i o _ tn sq (fun t ht => hlook t (mem_looks ht))]
              exact hpn
            refine hpan _ i o _ sq v s' hpn' Y b u hRq hI.tmps ?_ _
            intro Z y w' hZ hv hR'
            refine hQ Z y b w' (hI.le.trans hZ) hv (hR'.forget (fun r x hx => ?_)) hI.defers ⟨_, hI.tmps.mono hZ, fun t ht => ?_⟩
            · rw [if_neg (fun e => by subst e; rw [hfree] at hx; cases hx)]
              exact hx
            · rw [slot_TS hlen, if_neg]
              intro hw
              obtain ⟨j, x, hj, _, hd⟩ := wr_iff.1 hw
              exact ht j x (cutOps_lt hj).2 hd
          | true =>
            obtain ⟨c, hI⟩ := hI
            obtain ⟨sq, hsq, hRq⟩ := hI.mem
            have := hsn sq hsq
            subst this
            have hTS := TS_side (v := .ptr s.n 0) (fun i o h => (hs i o h).1) ts tn hlen (fun k => L0.getD k true)
            have hv0 := hI.tmps
            rw [hTS] at hv0
            have hpn' : pan i o ((TS (cutOps ops i) ts tn fun k => L0.getD k true).set d (.ptr s.n 0)) sq = some (v, s') := by
              rw [hlp i o _ tn sq (fun t ht => by
                rw [slot_set_ne _ _ (fun e => by subst e; exact hdo (mem_looks ht))]
                exact hlook t (mem_looks ht))]
              exact hpn
            refine hpan _ i o _ sq v s' hpn' Y b u hRq hv0 ?_ _
            intro Z y w' hZ hv hR'
            refine hQ Z y b w' (hI.le.trans hZ) hv (hR'.forget (fun r x hx => ?_)) hI.defers ⟨_, hv0.mono hZ, fun t ht => ?_⟩
            · rw [if_neg (fun e => by subst e; rw [hfree] at hx; cases hx)]
              exact hx
            · have htd : t ≠ d := fun e => by subst e; exact ht p oA hp.at_ hp.dst
              rw [slot_set_ne _ _ htd, slot_TS hlen, if_neg]
              intro hw
              obtain ⟨j, x, hj, _, hd⟩ := wr_iff.1 hw
              exact ht j x (cutOps_lt hj).2 hd
        · -- behind the n-th
          exfalso
          unfold lateOk2 at hlate
          rw [List.all_eq_true] at hlate
          have h1 := hlate i (List.mem_range.2 hisz)
          have hb : Nat.blt n i = true := by rw [Nat.blt_eq]; exact hgt
          have hb2 : Nat.beq i p = false := by rw [← Bool.not_eq_true]; intro h; exact hip (Nat.eq_of_beq_eq_true h)
          rw [hb, hb2] at h1
          simp only [Bool.not_true, Bool.false_or] at h1
          obtain ⟨e, hee, hbe, hor⟩ := masks_bit hx h1
          have h2 := hed e (by simpa using hee) hbe
          have hel := hp.back i x hx e hee hbe
          have hes : e.on < ops.size := by omega
          rw [getD_tf (by rw [hA.size]; exact hes)] at h2
          by_cases hep : e.on = p
          · rcases hor with hor | hor
            · omega
            · rw [hep] at hor
              obtain ⟨e2, he2, hb2, _⟩ := masks_bit hp.at_ hor
              rw [hp.free e2 he2] at hb2; cases hb2
          · have hen : e.on < n := by
              rcases Nat.lt_or_ge e.on n with h | h
              · exact h
              · rw [hA.none e.on h hes hep] at h2; cases h2
            rcases hor with hor | hor
            · omega
            · have := mask_back hp.back e.on _ (Array.getElem?_eq_getElem hes) n hor
              omega
  refine key ops.size false (Array.replicate n false) (Array.replicate ops.size false) X a w ⟨by simp, by simp, by omega, hpz, fun i hi => ?_, by simp [Array.getD, hpz], fun i hi his _ => by simp [Array.getD, his]⟩ (start_mem hsz hl hpl hrun hR.reserve ha) ?_
  · have : i < ops.size := by omega
    simp [Array.getD, hi, this]
  · have := cnt_none (n := n)
    simp only [Bool.false_eq_true, if_false]
    omega
end
end Go.Ev
