/- Regions that draw their order: whatever order is drawn, the slots and the memory are those of the listed order. -/
import Derived.Test.YtinngopfgdfdbaaGreatDoorEv12
set_option linter.unusedVariables false
set_option linter.unusedSimpArgs false
namespace Go.Ev

/-- Where an operation that turns no memory may come up earlier or later, it tells the same. -/
def Stab (step : Nat → Oper → List AV → HS → Option (AV × HS)) (eff : Nat → Oper → Bool) (ops : Array Oper) (ts T : List AV) (ph : List HS) : Prop :=
  ∀ i o q, ops[i]? = some o → eff i o = false → wantedA ops o (Vw ops ts T i) = true → win eff ops i q = true → q < ph.length → q ≠ cnt (isE eff ops) i →
    ∃ sq v, ph[q]? = some sq ∧ step i o (Vw ops ts T i) sq = some (v, sq) ∧ ∀ d, o.dst = some d → d < T.length → slot T d = v

theorem list_ext_slot {A B : List AV} (hl : A.length = B.length) (h : ∀ t, t < A.length → slot A t = slot B t) : A = B := by
  apply List.ext_getElem hl
  intro t h1 h2
  have := h t h1
  simpa [slot, List.getD, h1, h2] using this

section
variable {P : Program} {ro : Option Nat} {w0 : W0} {Q : Exit → Act → World → Prop} {step : Nat → Oper → List AV → HS → Option (AV × HS)} {eff : Nat → Oper → Bool} {ops : Array Oper}

structure Inv (step : Nat → Oper → List AV → HS → Option (AV × HS)) (eff : Nat → Oper → Bool) (ops : Array Oper) (w0 : W0) (ts T : List AV) (ph : List HS) (X0 : Cx) (ds : List Deferred) (L : Array Bool) (X : Cx) (a : Act) (w : World) : Prop where
  size : L.size = ops.size
  closed : ∀ i, i < ops.size → L.getD i true = true → ∀ j, ((masks ops).getD i 0).testBit j = true → L.getD j true = true
  mem : ∃ sq, ph[cnt (fun k => isE eff ops k && L.getD k true) ops.size]? = some sq ∧ R X sq w0 w
  tmps : VL X (TS ops ts T fun k => L.getD k true) a.tmps.toList
  defers : a.defers = ds
  le : X0.Le X

theorem getD_set (L : Array Bool) (i k : Nat) (hi : i < L.size) : (L.setIfInBounds i true).getD k true = if k = i then true else L.getD k true := by
  by_cases hk : k = i
  · subst hk; simp [Array.getD, hi]
  · rw [if_neg hk]
    by_cases hs : k < L.size
    · simp [Array.getD, hs, Array.getElem_setIfInBounds, Ne.symm hk]
    · simp [Array.getD, hs]

theorem cnt_change {p q : Nat → Bool} {i : Nat} (h : ∀ k, k ≠ i → p k = q k) : ∀ n, cnt p n + (if i < n ∧ q i = true then 1 else 0) = cnt q n + (if i < n ∧ p i = true then 1 else 0)
  | 0 => by simp [cnt]
  | n + 1 => by
    have ih := cnt_change h n
    simp only [cnt]
    by_cases hn : n = i
    · subst hn
      have hlt : ¬ n < n := Nat.lt_irrefl n
      have hlt' : n < n + 1 := by omega
      simp only [hlt, false_and, if_false, Nat.add_zero] at ih
      simp only [hlt', true_and]
      omega
    · rw [h n hn]
      by_cases h1 : i < n
      · have h2 : i < n + 1 := by omega
        simp only [h1, h2, true_and] at ih ⊢
        omega
      · have h2 : ¬ i < n + 1 := by omega
        simp only [h1, h2, false_and, if_false, Nat.add_zero] at ih ⊢
        omega

theorem isE_lt {k : Nat} (h : isE eff ops k = true) : ∃ o, ops[k]? = some o ∧ eff k o = true := by
  unfold isE at h
  cases ho : ops[k]? with
  | none => rw [ho] at h; cases h
  | some o => rw [ho] at h; exact ⟨o, rfl, h⟩

theorem core_step {i : Nat} (hst : StepAt P ro w0 Q step i) (hl : StepLaws eff step) (hp : Plan eff ops) {ts T : List AV} {s : HS} {ph : List HS} (hrun : runR step eff ops 0 ops.toList ts s = some (T, ph))
    (hstab : Stab step eff ops ts T ph) {X0 : Cx} {ds : List Deferred} {L : Array Bool} {X : Cx} {a : Act} {w : World} (hI : Inv step eff ops w0 ts T ph X0 ds L X a w) (hi : i ∈ Region.ready .any ops L) :
    wpOpIn (WF ro) 0 P ops Q i (fun a' w' => ∃ Y, Inv step eff ops w0 ts T ph X0 ds (L.setIfInBounds i true) Y a' w') a w := by
  obtain ⟨hlen, hph0, hphl, hunw, hfacts⟩ := run_facts (ts0 := ts) hl hp ops.toList 0 ts T s ph (fun j => by simp) rfl (fun _ _ => rfl) hrun
  simp only [Nat.zero_add, Array.length_toList, cnt, Nat.sub_zero] at hphl hfacts
  -- an operation that is ready
  unfold Region.ready at hi
  rw [List.mem_filter] at hi
  obtain ⟨hin, hrd⟩ := hi
  have hin := List.mem_range.1 hin
  have ho : ops[i]? = some ops[i] := Array.getElem?_eq_getElem hin
  generalize hoo : ops[i] = o at ho
  simp only [ho, Option.map_some, Option.getD_some, Bool.and_eq_true, Bool.not_eq_true'] at hrd
  obtain ⟨hli, hedges⟩ := hrd
  rw [Array.all_eq_true'] at hedges
  have hiL : i < L.size := by rw [hI.size]; exact hin
  have hprec : ∀ j, ((masks ops).getD i 0).testBit j = true → L.getD j true = true := by
    intro j hj
    obtain ⟨e, he, hb, h⟩ := masks_bit ho hj
    have hlt := hp.back i o ho e he hb
    have h1 := hedges e (by simpa using he)
    rw [hb] at h1
    have h2 : e.on < L.size := by omega
    have h3 : L.getD e.on true = true := by
      simp [Array.getD, h2] at h1 ⊢
      exact h1
    rcases h with h | h
    · subst h; exact h3
    · exact hI.closed e.on (by omega) h3 j h
  -- the slots that it looks at
  have hlook : ∀ t ∈ o.looksAt ops, slot (TS ops ts T fun k => L.getD k true) t = slot (Vw ops ts T i) t := by
    intro t ht
    unfold Vw
    rw [slot_TS hlen, slot_TS hlen]
    have : wr ops (fun k => L.getD k true) t = wr ops (fun j => ((masks ops).getD i 0).testBit j) t := by
      rw [Bool.eq_iff_iff, wr_iff, wr_iff]
      constructor
      · rintro ⟨j, u, hj, h1, h2⟩
        rcases hp.deps i j o u t ho hj h2 ht with hm | ⟨_, hm | hm⟩
        · exact ⟨j, u, hj, hm, h2⟩
        · subst hm; rw [hli] at h1; cases h1
        · have := hI.closed j (Array.getElem?_eq_some_iff.1 hj).1 h1 i hm
          rw [hli] at this; cases this
      · rintro ⟨j, u, hj, h1, h2⟩
        exact ⟨j, u, hj, hprec j h1, h2⟩
    rw [this]
  have hwT : wantedA ops o (TS ops ts T fun k => L.getD k true) = wantedA ops o (Vw ops ts T i) := wantedA_congr hlook
  -- what is listed behind it
  have hrank : ∀ e, e < ops.size → isE eff ops e = true → (L.getD e true = true ↔ cnt (isE eff ops) e < cnt (fun k => isE eff ops k && L.getD k true) ops.size) := by
    intro e hen hee
    refine cnt_listed (e := isE eff ops) (l := fun k => L.getD k true) (fun i' j' hi' hj' hlt hli' => ?_) hen hee
    obtain ⟨oi, hoi, hei⟩ := isE_lt hi'
    obtain ⟨oj, hoj, hej⟩ := isE_lt hj'
    exact hI.closed i' (Array.getElem?_eq_some_iff.1 hoi).1 hli' j' (hp.chain i' j' oi oj hoi hoj hei hej hlt)
  have hsz' : (L.setIfInBounds i true).size = ops.size := by simpa using hI.size
  have hcl' : ∀ i', i' < ops.size → (L.setIfInBounds i true).getD i' true = true → ∀ j, ((masks ops).getD i' 0).testBit j = true → (L.setIfInBounds i true).getD j true = true := by
    intro i' hi' h j hj
    rw [getD_set L i _ hiL] at h ⊢
    split
    · rfl
    · split at h
      · rename_i e; subst e; exact hprec j hj
      · exact hI.closed i' hi' h j hj
  have hcntE : ∀ n, cnt (fun k => isE eff ops k && (L.setIfInBounds i true).getD k true) n = cnt (fun k => isE eff ops k && L.getD k true) n + (if i < n ∧ isE eff ops i = true then 1 else 0) := by
    intro n
    have h1 := cnt_change (p := fun k => isE eff ops k && L.getD k true) (q := fun k => isE eff ops k && (L.setIfInBounds i true).getD k true) (i := i) (fun k hk => by simp only [getD_set L i _ hiL, if_neg hk]) n
    simp only [getD_set L i _ hiL, hli, if_true, Bool.and_true, Bool.and_false, Bool.false_eq_true, and_false, if_false, Nat.add_zero] at h1
    simp only [getD_set L i _ hiL]
    omega
  have hslots : ∀ v, (∀ d, o.dst = some d → d < T.length → slot T d = v) → putA (TS ops ts T fun k => L.getD k true) o.dst v = TS ops ts T fun k => (L.setIfInBounds i true).getD k true := by
    intro v hv
    apply list_ext_slot (by rw [length_putA]; simp [TS])
    intro t ht
    rw [length_putA] at ht
    have htl : t < T.length := by rw [hlen]; simpa [TS] using ht
    rw [slot_putA, slot_TS hlen, slot_TS hlen]
    by_cases hd : o.dst = some t
    · rw [if_pos ⟨hd, ht⟩, if_pos (wr_iff.2 ⟨i, o, ho, by rw [getD_set L i _ hiL]; simp, hd⟩), hv t hd htl]
    · rw [if_neg (fun h => hd h.1)]
      have : wr ops (fun k => (L.setIfInBounds i true).getD k true) t = wr ops (fun k => L.getD k true) t := by
        rw [Bool.eq_iff_iff, wr_iff, wr_iff]
        constructor
        · rintro ⟨j, u, hj, h1, h2⟩
          refine ⟨j, u, hj, ?_, h2⟩
          rw [getD_set L i _ hiL] at h1
          split at h1
          · rename_i e; subst e; rw [ho] at hj; cases hj; exact absurd h2 hd
          · exact h1
        · rintro ⟨j, u, hj, h1, h2⟩
          refine ⟨j, u, hj, ?_, h2⟩
          rw [getD_set L i _ hiL]
          split
          · rfl
          · exact h1
      rw [this]
  obtain ⟨sq, hsq, hR⟩ := hI.mem
  have hie : isE eff ops i = eff i o := by simp [isE, ho]
  have hF := hfacts i o (Nat.zero_le _) ho
  unfold wpOpIn
  rw [ho]
  simp only
  rw [wanted_V hI.tmps, hwT]
  cases hw : wantedA ops o (Vw ops ts T i) with
  | true =>
    rw [if_pos rfl]
    obtain ⟨s1, s2, v, f1, f2, f3, f4⟩ := hF.on hw
    -- the memory that it finds
    have hfound : ∃ v s2', step i o (TS ops ts T fun k => L.getD k true) sq = some (v, s2') ∧ (∀ d, o.dst = some d → d < T.length → slot T d = v) ∧ ph[cnt (fun k => isE eff ops k && (L.setIfInBounds i true).getD k true) ops.size]? = some s2' := by
      rw [hl.looks i o _ (Vw ops ts T i) sq (fun t ht => hlook t (mem_looks ht)), hcntE]
      cases he : eff i o with
      | true =>
        have hq : cnt (fun k => isE eff ops k && L.getD k true) ops.size = cnt (isE eff ops) i := by
          have h1 : cnt (fun k => isE eff ops k && L.getD k true) ops.size = cnt (fun k => isE eff ops k && L.getD k true) i := by
            have hgen : ∀ m, i ≤ m → m ≤ ops.size → cnt (fun k => isE eff ops k && L.getD k true) m = cnt (fun k => isE eff ops k && L.getD k true) i := by
              intro m
              induction m with
              | zero => intro h _; have : i = 0 := by omega
                        subst this; rfl
              | succ m ihm =>
                intro hm hmn
                rcases Nat.lt_or_ge m i with hmi | hmi
                · have : i = m + 1 := by omega
                  subst this; rfl
                · simp only [cnt]
                  rw [ihm hmi (by omega)]
                  have : (isE eff ops m && L.getD m true) = false := by
                    cases hem : isE eff ops m
                    · rfl
                    · cases hlm : L.getD m true
                      · rfl
                      · exfalso
                        by_cases hmi' : m = i
                        · subst hmi'; rw [hli] at hlm; cases hlm
                        · obtain ⟨om, hom, hem'⟩ := isE_lt hem
                          have := hI.closed m (by omega) hlm i (hp.chain m i om o hom ho hem' he (by omega))
                          rw [hli] at this; cases this
                  simp only [this, Bool.false_eq_true, if_false, Nat.add_zero]
            exact hgen ops.size (by omega) (Nat.le_refl _)
          rw [h1]
          refine cnt_congr (fun k hk => ?_)
          cases hek : isE eff ops k
          · rfl
          · obtain ⟨ok, hok, hek'⟩ := isE_lt hek
            have := hprec k (hp.chain i k o ok ho hok he hek' hk)
            simp [this]
        rw [hq] at hsq ⊢
        rw [f1] at hsq; cases hsq
        rw [he, if_pos rfl] at f4
        refine ⟨v, s2, f2, f3, ?_⟩
        rw [if_pos ⟨hin, by rw [hie]; exact he⟩]
        exact f4
      | false =>
        rw [if_neg (fun h => by rw [hie, he] at h; exact absurd h.2 (by simp))]
        simp only [Nat.add_zero]
        by_cases hqq : cnt (fun k => isE eff ops k && L.getD k true) ops.size = cnt (isE eff ops) i
        · rw [hqq] at hsq ⊢
          rw [f1] at hsq; cases hsq
          rw [he] at f4
          simp only [Bool.false_eq_true, if_false] at f4
          subst f4
          exact ⟨v, s2, f2, f3, f1⟩
        · have hwin : win eff ops i (cnt (fun k => isE eff ops k && L.getD k true) ops.size) = true := by
            unfold win
            rw [List.all_eq_true]
            intro e hen
            have hen := List.mem_range.1 hen
            cases hee : isE eff ops e with
            | false => rfl
            | true =>
              simp only [Bool.not_true, Bool.false_or]
              by_cases hlt : cnt (isE eff ops) e < cnt (fun k => isE eff ops k && L.getD k true) ops.size
              · rw [if_pos hlt]
                have hle := (hrank e hen hee).2 hlt
                cases hb : ((masks ops).getD e 0).testBit i with
                | false => rfl
                | true => have := hI.closed e hen hle i hb; rw [hli] at this; cases this
              · rw [if_neg hlt]
                cases hb : ((masks ops).getD i 0).testBit e with
                | false => rfl
                | true => exact absurd ((hrank e hen hee).1 (hprec e hb)) hlt
          obtain ⟨sq', v', g1, g2, g3⟩ := hstab i o _ ho he hw hwin (List.getElem?_eq_some_iff.1 hsq).1 hqq
          rw [hsq] at g1; cases g1
          exact ⟨v', sq, g2, g3, hsq⟩
    obtain ⟨v, s2', hstep, hv, hph'⟩ := hfound
    refine hst o _ sq v s2' hstep X a w hR hI.tmps _ ?_
    intro Y y w' hY hvy hR'
    refine ⟨Y, hsz', hcl', ⟨s2', hph', hR'⟩, ?_, ?_, hI.le.trans hY⟩
    · have := put_V (hI.tmps.mono hY) o.dst hvy
      rw [hslots v hv] at this
      exact this
    · have := hI.defers
      cases hd : o.dst <;> simpa [Act.put, hd] using this
  | false =>
    rw [if_neg (by simp)]
    obtain ⟨f3, f4⟩ := hF.off hw
    refine ⟨fun _ _ => trivial, X, hsz', hcl', ?_, ?_, ?_, hI.le⟩
    · rw [hcntE]
      cases he : eff i o with
      | true =>
        rw [if_pos ⟨hin, by rw [hie]; exact he⟩]
        have hq : cnt (fun k => isE eff ops k && L.getD k true) ops.size = cnt (isE eff ops) i := by
          have hgen : ∀ m, i ≤ m → m ≤ ops.size → cnt (fun k => isE eff ops k && L.getD k true) m = cnt (fun k => isE eff ops k && L.getD k true) i := by
            intro m
            induction m with
            | zero => intro h _; have : i = 0 := by omega
                      subst this; rfl
            | succ m ihm =>
              intro hm hmn
              rcases Nat.lt_or_ge m i with hmi | hmi
              · have : i = m + 1 := by omega
                subst this; rfl
              · simp only [cnt]
                rw [ihm hmi (by omega)]
                have : (isE eff ops m && L.getD m true) = false := by
                  cases hem : isE eff ops m
                  · rfl
                  · cases hlm : L.getD m true
                    · rfl
                    · exfalso
                      by_cases hmi' : m = i
                      · subst hmi'; rw [hli] at hlm; cases hlm
                      · obtain ⟨om, hom, hem'⟩ := isE_lt hem
                        have := hI.closed m (by omega) hlm i (hp.chain m i om o hom ho hem' he (by omega))
                        rw [hli] at this; cases this
                simp only [this, Bool.false_eq_true, if_false, Nat.add_zero]
          rw [hgen ops.size (by omega) (Nat.le_refl _)]
          refine cnt_congr (fun k hk => ?_)
          cases hek : isE eff ops k
          · rfl
          · obtain ⟨ok, hok, hek'⟩ := isE_lt hek
            have := hprec k (hp.chain i k o ok ho hok he hek' hk)
            simp [this]
        rw [hq] at hsq ⊢
        exact ⟨sq, by rw [f4 he]; exact hsq, hR⟩
      | false =>
        rw [if_neg (fun h => by rw [hie, he] at h; exact absurd h.2 (by simp))]
        exact ⟨sq, hsq, hR⟩
    · have := put_V hI.tmps o.dst (.undef X)
      rw [hslots _ f3] at this
      exact this
    · have := hI.defers
      cases hd : o.dst <;> simpa [Act.put, hd] using this

theorem region_core (hst : StepOK P ro w0 Q step) (hl : StepLaws eff step) (hp : Plan eff ops) {ts T : List AV} {s : HS} {ph : List HS} (hrun : runR step eff ops 0 ops.toList ts s = some (T, ph))
    (hstab : Stab step eff ops ts T ph) {X0 : Cx} {ds : List Deferred} (hQ : ∀ Y a' w' s', X0.Le Y → ph.getLast? = some s' → VL Y T a'.tmps.toList → R Y s' w0 w' → a'.defers = ds → Q .normal a' w') :
    ∀ (fuel : Nat) (L : Array Bool) (X : Cx) (a : Act) (w : World), Inv step eff ops w0 ts T ph X0 ds L X a w → cnt (fun k => !L.getD k true) ops.size ≤ fuel → wpAnyIn (WF ro) 0 P .any ops Q fuel L a w := by
  obtain ⟨hlen, hph0, hphl, hunw, hfacts⟩ := run_facts (ts0 := ts) hl hp ops.toList 0 ts T s ph (fun j => by simp) rfl (fun _ _ => rfl) hrun
  simp only [Nat.zero_add, Array.length_toList, cnt, Nat.sub_zero] at hphl hfacts
  -- nothing is ready: all is listed
  have hdone : ∀ (L : Array Bool) (X : Cx) (a : Act) (w : World), Inv step eff ops w0 ts T ph X0 ds L X a w → Region.ready .any ops L = [] → ∀ i, i < ops.size → L.getD i true = true := by
    intro L X a w hI hr i
    induction i using Nat.strongRecOn with
    | _ i ih =>
      intro hi
      cases hli : L.getD i true with
      | true => rfl
      | false =>
        exfalso
        have ho : ops[i]? = some ops[i] := Array.getElem?_eq_getElem hi
        have hmem : i ∈ Region.ready .any ops L := by
          unfold Region.ready
          rw [List.mem_filter]
          refine ⟨List.mem_range.2 hi, ?_⟩
          simp only [hli, ho, Option.map_some, Option.getD_some, Bool.not_false, Bool.true_and, Array.all_eq_true']
          intro e he
          cases hb : Region.binds .any e with
          | false => rfl
          | true =>
            have hlt := hp.back i _ ho e (by simpa using he) hb
            have h1 := ih e.on hlt (by omega)
            have h2 : e.on < L.size := by rw [hI.size]; omega
            simp only [Bool.not_true, Bool.false_or]
            simp [Array.getD, h2] at h1 ⊢
            exact h1
        rw [hr] at hmem
        cases hmem
  have hend : ∀ (L : Array Bool) (X : Cx) (a : Act) (w : World), Inv step eff ops w0 ts T ph X0 ds L X a w → (∀ i, i < ops.size → L.getD i true = true) → Q .normal a w := by
    intro L X a w hI hall
    obtain ⟨sq, hsq, hR⟩ := hI.mem
    have hc : cnt (fun k => isE eff ops k && L.getD k true) ops.size = cnt (isE eff ops) ops.size := cnt_congr (fun k hk => by rw [hall k hk]; simp)
    rw [hc] at hsq
    refine hQ X a w sq hI.le ?_ ?_ hR hI.defers
    · rw [List.getLast?_eq_getElem?, hphl]
      simpa using hsq
    · have : TS ops ts T (fun k => L.getD k true) = T := by
        apply list_ext_slot (by simp [TS, hlen])
        intro t ht
        rw [slot_TS hlen]
        split
        · rfl
        · rename_i hw
          refine (hunw t (fun j o _ hj hd => hw ?_)).symm
          exact wr_iff.2 ⟨j, o, hj, hall j (Array.getElem?_eq_some_iff.1 hj).1, hd⟩
      rw [← this]; exact hI.tmps
  intro fuel
  induction fuel with
  | zero =>
    intro L X a w hI hc
    have hall : ∀ i, i < ops.size → L.getD i true = true := by
      intro i hi
      cases hli : L.getD i true with
      | true => rfl
      | false =>
        exfalso
        have h1 : cnt (fun k => !L.getD k true) (i + 1) ≤ cnt (fun k => !L.getD k true) ops.size := cnt_mono (by omega)
        simp only [cnt, hli, Bool.not_false, if_true] at h1
        omega
    refine ⟨?_, hend L X a w hI hall⟩
    unfold Region.ready
    rw [List.filter_eq_nil_iff]
    intro i hi
    have := hall i (List.mem_range.1 hi)
    simp [this]
  | succ fuel ih =>
    intro L X a w hI hc
    refine ⟨fun hr => hend L X a w hI (hdone L X a w hI hr), fun i hi => ?_⟩
    have hmem := mem_ready.1 hi
    obtain ⟨hli, o, ho, hed⟩ := hmem
    have hin : i < ops.size := (Array.getElem?_eq_some_iff.1 ho).1
    have hiL : i < L.size := by rw [hI.size]; exact hin
    have hcnt' : cnt (fun k => !(L.setIfInBounds i true).getD k true) ops.size ≤ fuel := by
      have h1 := cnt_change (p := fun k => !L.getD k true) (q := fun k => !(L.setIfInBounds i true).getD k true) (i := i) (fun k hk => by simp only [getD_set L i _ hiL, if_neg hk]) ops.size
      simp only [getD_set L i _ hiL, hli, if_true, Bool.not_true, Bool.not_false, and_true, hin, Bool.false_eq_true, and_false, if_false, Nat.add_zero] at h1
      simp only [getD_set L i _ hiL]
      omega
    exact wpOpIn_mono (fun a' w' ⟨Y, hJ⟩ => ih _ Y a' w' hJ hcnt') (core_step (hst i) hl hp hrun hstab hI hi)

theorem region_any (hst : StepOK P ro w0 Q step) (hl : StepLaws eff step) (hp : planOk eff ops = true) {ts T : List AV} {s : HS} {ph : List HS} (hrun : runR step eff ops 0 ops.toList ts s = some (T, ph))
    (hstab : Stab step eff ops ts T ph) {X : Cx} {a : Act} {w : World} (hR : R X s w0 w) (ha : VL X ts a.tmps.toList)
    (hQ : ∀ Y a' w' s', X.Le Y → ph.getLast? = some s' → VL Y T a'.tmps.toList → R Y s' w0 w' → a'.defers = a.defers → Q .normal a' w') :
    wpAnyIn (WF ro) 0 P .any ops Q ops.size (Array.replicate ops.size false) a w := by
  have hpl := planOk_spec hp
  obtain ⟨hlen, hph0, _⟩ := run_facts (ts0 := ts) hl hpl ops.toList 0 ts T s ph (fun j => by simp) rfl (fun _ _ => rfl) hrun
  have hg : ∀ i, i < ops.size → (Array.replicate ops.size false).getD i true = false := fun i hi => by simp [Array.getD, hi]
  refine region_core hst hl hpl hrun hstab hQ ops.size _ X a w ⟨by simp, ?_, ?_, ?_, rfl, Cx.Le.refl X⟩ ?_
  · intro i hi h
    rw [hg i hi] at h; cases h
  · refine ⟨s, ?_, hR⟩
    have : cnt (fun k => isE eff ops k && (Array.replicate ops.size false).getD k true) ops.size = 0 := by
      have : cnt (fun k => isE eff ops k && (Array.replicate ops.size false).getD k true) ops.size = cnt (fun _ => false) ops.size := cnt_congr (fun k hk => by rw [hg k hk]; simp)
      rw [this]
      have : ∀ n, cnt (fun _ => false) n = 0 := fun n => by induction n <;> simp_all [cnt]
      exact this _
    rw [this]; exact hph0
  · have : TS ops ts T (fun k => (Array.replicate ops.size false).getD k true) = ts := by
      apply list_ext_slot (by simp [TS])
      intro t ht
      rw [slot_TS hlen, if_neg]
      intro hwr
      obtain ⟨i, o, ho, h1, _⟩ := wr_iff.1 hwr
      rw [hg i (Array.getElem?_eq_some_iff.1 ho).1] at h1; cases h1
    rw [this]; exact ha
  · have : ∀ n, cnt (fun k => !(Array.replicate ops.size false).getD k true) n ≤ n := fun n => by
      induction n with
      | zero => exact Nat.le_refl _
      | succ n ih => simp only [cnt]; split <;> omega
    exact this _

end
end Go.Ev
