/- Regions that draw their order. -/
import Derived.Test.YtinngopfgdfdbaaGreatDoorEv11
set_option linter.unusedVariables false
set_option linter.unusedSimpArgs false
namespace Go.Ev

/-- Does an operation look at the memory? -/
def readOp : Op → Bool
  | .load .. | .lookup .. | .convert .. | .call _ => true
  | _ => false

def isE (eff : Nat → Oper → Bool) (ops : Array Oper) (k : Nat) : Bool :=
  match ops[k]? with
  | some o => eff k o
  | none => false

/-- How many of the first ones may turn the memory. -/
def cnt (p : Nat → Bool) : Nat → Nat
  | 0 => 0
  | n + 1 => cnt p n + if p n then 1 else 0

theorem cnt_mono {p : Nat → Bool} : ∀ {m n : Nat}, m ≤ n → cnt p m ≤ cnt p n
  | m, 0, h => by simp at h; subst h; exact Nat.le_refl _
  | m, n + 1, h => by
    rcases Nat.lt_or_ge m (n + 1) with hl | hg
    · have := cnt_mono (p := p) (m := m) (n := n) (by omega)
      simp only [cnt]; omega
    · have : m = n + 1 := by omega
      subst this; exact Nat.le_refl _

theorem cnt_le {p q : Nat → Bool} (h : ∀ k, p k = true → q k = true) : ∀ n, cnt p n ≤ cnt q n
  | 0 => Nat.le_refl _
  | n + 1 => by
    have := cnt_le h n
    simp only [cnt]
    cases hp : p n
    · simp; omega
    · simp [h n hp]; omega

theorem cnt_congr {p q : Nat → Bool} : ∀ {n : Nat}, (∀ k, k < n → p k = q k) → cnt p n = cnt q n
  | 0, _ => rfl
  | n + 1, h => by
    simp only [cnt]
    rw [cnt_congr (fun k hk => h k (by omega)), h n (by omega)]

/-- Those of 'e' that are listed are the first ones. -/
theorem cnt_listed {e l : Nat → Bool} {n : Nat} (hdown : ∀ i j, e i = true → e j = true → j < i → l i = true → l j = true) {i : Nat} (hi : i < n) (he : e i = true) :
    l i = true ↔ cnt e i < cnt (fun k => e k && l k) n := by
  constructor
  · intro hl
    have h1 : cnt e i = cnt (fun k => e k && l k) i := cnt_congr (fun k hk => by
      cases hek : e k
      · rfl
      · simp [hdown i k he hek hk hl])
    have h2 : cnt (fun k => e k && l k) (i + 1) ≤ cnt (fun k => e k && l k) n := cnt_mono (by omega)
    simp only [cnt, he, hl, Bool.and_self, if_true] at h2
    omega
  · intro hlt
    cases hl : l i
    · exfalso
      have h3 : ∀ m, i ≤ m → cnt (fun k => e k && l k) m = cnt (fun k => e k && l k) i := by
        intro m
        induction m with
        | zero => intro hm; have : i = 0 := by omega
                  subst this; rfl
        | succ m ih =>
          intro hm
          rcases Nat.lt_or_ge m i with hmi | hmi
          · have : i = m + 1 := by omega
            subst this; rfl
          · simp only [cnt]
            rw [ih hmi]
            have : (e m && l m) = false := by
              cases hem : e m
              · rfl
              · rcases Nat.lt_or_ge i m with him | him
                · cases hlm : l m
                  · rfl
                  · have := hdown m i hem he him hlm
                    rw [hl] at this; cases this
                · have : m = i := by omega
                  subst this; simp [hl]
            simp [this]
      rw [h3 n (by omega)] at hlt
      have := cnt_le (p := fun k => e k && l k) (q := e) (fun k hk => by simp at hk; exact hk.1) i
      omega
    · rfl

/-- What is asked of a region's edges: they lead back; a slot has one writer, and who looks at it comes behind, or always ahead; what may turn the memory comes in one row. -/
def planOk (eff : Nat → Oper → Bool) (ops : Array Oper) : Bool :=
  (List.range ops.size).all fun i => match ops[i]? with
    | none => false
    | some o =>
      (o.after.toList.all fun e => !Region.binds .any e || decide (e.on < i)) &&
      (List.range ops.size).all fun j => match ops[j]? with
        | none => false
        | some u =>
          (match u.dst with
           | some d => (i == j || o.dst != some d) && (!(o.looksAt ops).contains d || ((masks ops).getD i 0).testBit j || (!readOp o.op && (i == j || ((masks ops).getD j 0).testBit i)))
           | none => true) &&
          (!(eff i o && eff j u && decide (j < i)) || ((masks ops).getD i 0).testBit j)

structure Plan (eff : Nat → Oper → Bool) (ops : Array Oper) : Prop where
  back : ∀ (i : Nat) (o : Oper), ops[i]? = some o → ∀ e ∈ o.after.toList, Region.binds .any e = true → e.on < i
  uniq : ∀ (i j : Nat) (o u : Oper) (d : Tmp), ops[i]? = some o → ops[j]? = some u → o.dst = some d → u.dst = some d → i = j
  deps : ∀ (i j : Nat) (o u : Oper) (d : Tmp), ops[i]? = some o → ops[j]? = some u → u.dst = some d → d ∈ o.looksAt ops → ((masks ops).getD i 0).testBit j = true ∨ (readOp o.op = false ∧ (i = j ∨ ((masks ops).getD j 0).testBit i = true))
  chain : ∀ (i j : Nat) (o u : Oper), ops[i]? = some o → ops[j]? = some u → eff i o = true → eff j u = true → j < i → ((masks ops).getD i 0).testBit j = true

theorem planOk_spec {eff : Nat → Oper → Bool} {ops : Array Oper} (h : planOk eff ops = true) : Plan eff ops := by
  unfold planOk at h
  rw [List.all_eq_true] at h
  have lt : ∀ {i : Nat} {o : Oper}, ops[i]? = some o → i < ops.size := fun h => (Array.getElem?_eq_some_iff.1 h).1
  have key := fun (i j : Nat) (o u : Oper) (hi : ops[i]? = some o) (hj : ops[j]? = some u) => by
    have h1 := h i (List.mem_range.2 (lt hi))
    rw [hi] at h1
    simp only [Bool.and_eq_true] at h1
    have h2 := h1.2
    rw [List.all_eq_true] at h2
    have h3 := h2 j (List.mem_range.2 (lt hj))
    rw [hj] at h3
    simp only [Bool.and_eq_true] at h3
    exact h3
  refine ⟨?_, ?_, ?_, ?_⟩
  · intro i o hi e he hb
    have h1 := h i (List.mem_range.2 (lt hi))
    rw [hi] at h1
    simp only [Bool.and_eq_true] at h1
    have h2 := h1.1
    rw [List.all_eq_true] at h2
    have h3 := h2 e he
    rw [hb] at h3
    simpa using h3
  · intro i j o u d hi hj ho hu
    have h3 := (key i j o u hi hj).1
    rw [hu] at h3
    simp only [Bool.and_eq_true, Bool.or_eq_true, beq_iff_eq, bne_iff_ne] at h3
    rcases h3.1 with h4 | h4
    · exact h4
    · exact absurd ho h4
  · intro i j o u d hi hj hu hd
    have h3 := (key i j o u hi hj).1
    rw [hu] at h3
    simp only [Bool.and_eq_true, Bool.or_eq_true, Bool.not_eq_true', beq_iff_eq] at h3
    rcases h3.2 with (h4 | h4) | h4
    · have : (o.looksAt ops).contains d = true := List.contains_iff_mem.2 hd
      rw [this] at h4; cases h4
    · exact .inl h4
    · exact .inr h4
  · intro i j o u hi hj ho hu hlt
    have h3 := (key i j o u hi hj).2
    simp only [Bool.or_eq_true, Bool.not_eq_true', Bool.and_eq_false_imp, Bool.and_eq_true, decide_eq_false_iff_not] at h3
    rcases h3 with h4 | h4
    · exact absurd hlt (h4 ⟨ho, hu⟩)
    · exact h4

theorem mask_lt {eff : Nat → Oper → Bool} {ops : Array Oper} (hp : Plan eff ops) : ∀ (i : Nat) (o : Oper), ops[i]? = some o → ∀ j, ((masks ops).getD i 0).testBit j = true → j < i := by
  intro i
  induction i using Nat.strongRecOn with
  | _ i ih =>
    intro o ho j hj
    obtain ⟨e, he, hb, h⟩ := masks_bit ho hj
    have hlt := hp.back i o ho e he hb
    rcases h with h | h
    · omega
    · have hio : i < ops.size := (Array.getElem?_eq_some_iff.1 ho).1
      have heo : ops[e.on]? = some ops[e.on] := Array.getElem?_eq_getElem (by omega)
      have := ih e.on hlt _ heo j h
      omega

/-- In how many turns of the memory may an operation come up? -/
def win (eff : Nat → Oper → Bool) (ops : Array Oper) (i q : Nat) : Bool :=
  (List.range ops.size).all fun e => !isE eff ops e || (if cnt (isE eff ops) e < q then !((masks ops).getD e 0).testBit i else !((masks ops).getD i 0).testBit e)

abbrev slot (ts : List AV) (t : Tmp) : AV := ts.getD t (.tup [])

/-- What is asked of steps, in regions that draw. -/
structure StepLaws (eff : Nat → Oper → Bool) (step : Nat → Oper → List AV → HS → Option (AV × HS)) : Prop where
  still : ∀ i o ts s v s', eff i o = false → step i o ts s = some (v, s') → s' = s
  looks : ∀ i o ts ts' s, (∀ t, .tmp t ∈ o.op.operands.toList → slot ts t = slot ts' t) → step i o ts s = step i o ts' s

def wr (ops : Array Oper) (l : Nat → Bool) (t : Tmp) : Bool :=
  (List.range ops.size).any fun i => l i && (match ops[i]? with | some o => o.dst == some t | none => false)

def TS (ops : Array Oper) (ts T : List AV) (l : Nat → Bool) : List AV :=
  (List.range ts.length).map fun t => if wr ops l t then slot T t else slot ts t

theorem slot_TS {ops : Array Oper} {ts T : List AV} (hlen : T.length = ts.length) (l : Nat → Bool) (t : Tmp) : slot (TS ops ts T l) t = if wr ops l t then slot T t else slot ts t := by
  by_cases ht : t < ts.length
  · simp [TS, slot, List.getD, ht]
  · have h1 : ts.length ≤ t := Nat.not_lt.1 ht
    have h2 : T.length ≤ t := by rw [hlen]; exact h1
    have h3 : (TS ops ts T l).length ≤ t := by simp [TS]; exact h1
    simp [slot, List.getD, List.getElem?_eq_none h1, List.getElem?_eq_none h2, List.getElem?_eq_none h3]

theorem wr_iff {ops : Array Oper} {l : Nat → Bool} {t : Tmp} : wr ops l t = true ↔ ∃ i o, ops[i]? = some o ∧ l i = true ∧ o.dst = some t := by
  unfold wr
  rw [List.any_eq_true]
  constructor
  · rintro ⟨i, hi, h⟩
    simp only [Bool.and_eq_true] at h
    obtain ⟨h1, h2⟩ := h
    cases ho : ops[i]? with
    | none => rw [ho] at h2; cases h2
    | some o =>
      rw [ho] at h2
      exact ⟨i, o, ho, h1, by simpa using h2⟩
  · rintro ⟨i, o, ho, h1, h2⟩
    refine ⟨i, List.mem_range.2 (Array.getElem?_eq_some_iff.1 ho).1, ?_⟩
    simp [h1, ho, h2]

/-- The slots as an operation finds them: written are those whose writers come ahead of it. -/
def Vw (ops : Array Oper) (ts T : List AV) (i : Nat) : List AV := TS ops ts T fun j => ((masks ops).getD i 0).testBit j

/-- What a run in the listed order tells of each operation. -/
structure Facts (step : Nat → Oper → List AV → HS → Option (AV × HS)) (eff : Nat → Oper → Bool) (ops : Array Oper) (V T : List AV) (ph : List HS) (i : Nat) (o : Oper) (q : Nat) : Prop where
  on : wantedA ops o V = true → ∃ s1 s2 v, ph[q]? = some s1 ∧ step i o V s1 = some (v, s2) ∧ (∀ d, o.dst = some d → d < T.length → slot T d = v) ∧ (if eff i o then ph[q + 1]? = some s2 else s2 = s1)
  off : wantedA ops o V = false → (∀ d, o.dst = some d → d < T.length → slot T d = .tup []) ∧ (eff i o = true → ph[q + 1]? = ph[q]?)

theorem slot_putA (ts : List AV) (dst : Option Tmp) (v : AV) (t : Tmp) : slot (putA ts dst v) t = if dst = some t ∧ t < ts.length then v else slot ts t := by
  unfold putA slot
  cases dst with
  | none => simp
  | some d =>
    simp only [Option.some.injEq]
    by_cases hd : d = t
    · subst hd
      by_cases hl : d < ts.length
      · simp [List.getD, hl]
      · have h1 : ts.length ≤ d := Nat.not_lt.1 hl
        simp [List.getD, hl, List.getElem?_eq_none h1]
    · simp [hd, List.getD, List.getElem?_set_ne hd]

theorem length_putA (ts : List AV) (dst : Option Tmp) (v : AV) : (putA ts dst v).length = ts.length := by
  unfold putA; split <;> simp

theorem wantedA_congr {ops : Array Oper} {o : Oper} {ts ts' : List AV} (h : ∀ t ∈ o.looksAt ops, slot ts t = slot ts' t) : wantedA ops o ts = wantedA ops o ts' := by
  unfold wantedA
  cases hg : o.guard with
  | none => rfl
  | some g =>
    obtain ⟨j, want⟩ := g
    simp only
    have : yieldedA ops ts j = yieldedA ops ts' j := by
      unfold yieldedA
      cases hj : ops[j]? with
      | none => rfl
      | some u =>
        cases hd : u.dst with
        | none => simp only [hd]
        | some d =>
          have hmem : d ∈ o.looksAt ops := by
            unfold Oper.looksAt
            rw [hg]
            simp [hj, hd]
          have := h d hmem
          unfold slot at this
          simp only [hd, this]
    rw [this]

theorem mem_looks {ops : Array Oper} {o : Oper} {t : Tmp} (h : .tmp t ∈ o.op.operands.toList) : t ∈ o.looksAt ops := by
  unfold Oper.looksAt
  refine List.mem_append.2 (.inl ?_)
  exact List.mem_filterMap.2 ⟨_, h, rfl⟩

theorem run_facts {step : Nat → Oper → List AV → HS → Option (AV × HS)} {eff : Nat → Oper → Bool} {ops : Array Oper} (hl : StepLaws eff step) (hp : Plan eff ops) {ts0 : List AV} :
    ∀ (os : List Oper) (i : Nat) (ts T : List AV) (s : HS) (ph : List HS), (∀ j, os[j]? = ops[i + j]?) → ts.length = ts0.length → (∀ t, (∀ j o, j < i → ops[j]? = some o → o.dst ≠ some t) → slot ts t = slot ts0 t) → runR step eff ops i os ts s = some (T, ph) →
      T.length = ts.length ∧ ph[0]? = some s ∧ ph.length = cnt (isE eff ops) (i + os.length) - cnt (isE eff ops) i + 1 ∧
      (∀ t, (∀ j o, i ≤ j → ops[j]? = some o → o.dst ≠ some t) → slot T t = slot ts t) ∧
      (∀ j o, i ≤ j → ops[j]? = some o → Facts step eff ops (Vw ops ts0 T j) T ph j o (cnt (isE eff ops) j - cnt (isE eff ops) i))
  | [], i, ts, T, s, ph, hos, hlen0, h0, h => by
    simp [runR] at h
    obtain ⟨rfl, rfl⟩ := h
    refine ⟨rfl, rfl, by simp, fun t _ => rfl, fun j o hij hj => ?_⟩
    have := hos (j - i)
    rw [show i + (j - i) = j by omega, hj] at this
    simp at this
  | o :: os, i, ts, T, s, ph, hos, hlen0, h0, h => by
    have ho : ops[i]? = some o := by have := hos 0; simpa using this.symm
    have h0' : ∀ v t, (∀ j u, j < i + 1 → ops[j]? = some u → u.dst ≠ some t) → slot (putA ts o.dst v) t = slot ts0 t := by
      intro v t ht
      rw [slot_putA, if_neg (fun hc => ht i o (by omega) ho hc.1)]
      exact h0 t (fun j u hj hu => ht j u (by omega) hu)
    have hos' : ∀ j, os[j]? = ops[i + 1 + j]? := fun j => by
      have := hos (j + 1)
      rw [show i + (j + 1) = i + 1 + j by omega] at this
      simpa using this
    have hie : isE eff ops i = eff i o := by simp [isE, ho]
    have hc1 : cnt (isE eff ops) (i + 1) = cnt (isE eff ops) i + if eff i o then 1 else 0 := by simp only [cnt, hie]
    -- what follows, from the value that the operation has
    have common : ∀ (v : AV) (s' : HS) (ph' : List HS), runR step eff ops (i + 1) os (putA ts o.dst v) s' = some (T, ph') → ph = (if eff i o then s :: ph' else ph') → (eff i o = false → s' = s) →
        (∀ t ∈ o.looksAt ops, slot (Vw ops ts0 T i) t = slot ts t) ∧ (∀ d, o.dst = some d → d < T.length → slot T d = v) ∧ T.length = ts.length ∧ ph[0]? = some s ∧ ph.length = cnt (isE eff ops) (i + (o :: os).length) - cnt (isE eff ops) i + 1 ∧
        (∀ t, (∀ j o, i ≤ j → ops[j]? = some o → o.dst ≠ some t) → slot T t = slot ts t) ∧ (eff i o = true → ph[1]? = some s') ∧
        (∀ j u, i + 1 ≤ j → ops[j]? = some u → Facts step eff ops (Vw ops ts0 T j) T ph j u (cnt (isE eff ops) j - cnt (isE eff ops) i)) := by
      intro v s' ph' hr hph hst
      obtain ⟨h1, h2, h3, h4, h5⟩ := run_facts hl hp os (i + 1) _ T s' ph' hos' (by rw [length_putA]; exact hlen0) (h0' v) hr
      have hlen : T.length = ts.length := by rw [h1, length_putA]
      have hm1 : cnt (isE eff ops) (i + 1) ≤ cnt (isE eff ops) (i + 1 + os.length) := cnt_mono (by omega)
      have hnw : ∀ t, (∀ j u, i + 1 ≤ j → ops[j]? = some u → u.dst ≠ some t) → slot T t = slot (putA ts o.dst v) t := h4
      refine ⟨?_, ?_, hlen, ?_, ?_, ?_, ?_, ?_⟩
      · intro t ht
        unfold Vw
        rw [slot_TS (by rw [hlen, hlen0])]
        split
        · rename_i hw
          obtain ⟨j, u, hj, hm, hd⟩ := wr_iff.1 hw
          have hji := mask_lt hp i o ho j hm
          have hno : ∀ k x, i ≤ k → ops[k]? = some x → x.dst ≠ some t := by
            intro k x hik hk hdk
            have := hp.uniq k j x u t hk hj hdk hd
            omega
          rw [hnw t (fun k x hik hk => hno k x (by omega) hk), slot_putA, if_neg (fun hc => hno i o (Nat.le_refl _) ho hc.1)]
        · rename_i hw
          refine (h0 t ?_).symm
          intro j u hji hj hd
          rcases hp.deps i j o u t ho hj hd ht with hm | ⟨_, hm | hm⟩
          · exact hw (wr_iff.2 ⟨j, u, hj, hm, hd⟩)
          · omega
          · have := mask_lt hp j u hj i hm
            omega
      · intro d hd hdl
        rw [hnw d (fun j u hij hj hu => by have := hp.uniq j i u o d hj ho hu hd; omega), slot_putA, if_pos ⟨hd, by rw [← hlen]; exact hdl⟩]
      · rw [hph]
        cases he : eff i o
        · simp only [Bool.false_eq_true, if_false]
          rw [h2, hst he]
        · simp
      · rw [hph]
        simp only [List.length_cons, show i + (os.length + 1) = i + 1 + os.length by omega]
        cases he : eff i o
        · rw [he] at hc1; simp at hc1; simp; omega
        · rw [he] at hc1; simp at hc1; simp; omega
      · intro t ht
        rw [hnw t (fun j u hij hj => ht j u (by omega) hj), slot_putA, if_neg (fun hc => ht i o (Nat.le_refl _) ho hc.1)]
      · intro he
        rw [hph, he]
        simpa using h2
      · intro j u hij hj
        have hf := h5 j u hij hj
        have hm2 : cnt (isE eff ops) (i + 1) ≤ cnt (isE eff ops) j := cnt_mono hij
        have hsh : ∀ q, ph[q + (if eff i o then 1 else 0)]? = ph'[q]? := by
          intro q
          rw [hph]
          cases he : eff i o <;> simp
        have hq : cnt (isE eff ops) j - cnt (isE eff ops) i = (cnt (isE eff ops) j - cnt (isE eff ops) (i + 1)) + (if eff i o then 1 else 0) := by omega
        rw [hq]
        refine ⟨?_, ?_⟩
        · intro hw
          obtain ⟨s1, s2, v', e1, e2, e3, e4⟩ := hf.on hw
          refine ⟨s1, s2, v', by rw [hsh]; exact e1, e2, e3, ?_⟩
          split
          · rename_i he
            rw [if_pos he] at e4
            rw [show cnt (isE eff ops) j - cnt (isE eff ops) (i + 1) + (if eff i o then 1 else 0) + 1 = (cnt (isE eff ops) j - cnt (isE eff ops) (i + 1) + 1) + (if eff i o then 1 else 0) by omega, hsh]
            exact e4
          · rename_i he
            rw [if_neg he] at e4
            exact e4
        · intro hw
          obtain ⟨e3, e4⟩ := hf.off hw
          refine ⟨e3, fun he => ?_⟩
          rw [show cnt (isE eff ops) j - cnt (isE eff ops) (i + 1) + (if eff i o then 1 else 0) + 1 = (cnt (isE eff ops) j - cnt (isE eff ops) (i + 1) + 1) + (if eff i o then 1 else 0) by omega, hsh, hsh]
          exact e4 he
    unfold runR at h
    split at h
    · rename_i hw
      split at h <;> try cases h
      rename_i v s' hs
      split at h <;> try cases h
      rename_i ph' hr
      obtain ⟨c1, c2, c3, c4, c5, c6, c7, c8⟩ := common v s' ph' hr rfl (fun he => hl.still i o ts s v s' he hs)
      refine ⟨c3, c4, c5, c6, fun j u hij hj => ?_⟩
      rcases Nat.lt_or_ge i j with hlt | hge
      · exact c8 j u hlt hj
      · have hji : j = i := by omega
        subst hji
        rw [ho] at hj; cases hj
        simp only [Nat.sub_self]
        have hwT : wantedA ops o (Vw ops ts0 T j) = wantedA ops o ts := wantedA_congr c1
        refine ⟨fun _ => ⟨s, s', v, c4, ?_, c2, ?_⟩, fun hf => by rw [hwT, hw] at hf; cases hf⟩
        · rw [← hs]; exact hl.looks _ _ _ _ _ (fun t ht => c1 t (mem_looks ht))
        · split
          · rename_i he
            have := c7 he
            rw [if_pos he] at this
            exact this
          · rename_i he; exact hl.still j o ts s v s' (by simpa using he) hs
    · rename_i hw
      split at h <;> try cases h
      rename_i ph' hr
      obtain ⟨c1, c2, c3, c4, c5, c6, c7, c8⟩ := common (.tup []) s ph' hr rfl (fun _ => rfl)
      refine ⟨c3, c4, c5, c6, fun j u hij hj => ?_⟩
      rcases Nat.lt_or_ge i j with hlt | hge
      · exact c8 j u hlt hj
      · have hji : j = i := by omega
        subst hji
        rw [ho] at hj; cases hj
        simp only [Nat.sub_self]
        have hwT : wantedA ops o (Vw ops ts0 T j) = wantedA ops o ts := wantedA_congr c1
        refine ⟨fun hf => absurd (hwT ▸ hf) hw, fun _ => ⟨c2, fun he => ?_⟩⟩
        rw [c7 he, c4]

end Go.Ev
