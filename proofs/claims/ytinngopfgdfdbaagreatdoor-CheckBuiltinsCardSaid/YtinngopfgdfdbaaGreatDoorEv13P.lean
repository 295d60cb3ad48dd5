/- Regions that draw their order, and in which an operation panics. -/
import Derived.Test.YtinngopfgdfdbaaGreatDoorEv13
set_option linter.unusedVariables false
set_option linter.unusedSimpArgs false
namespace Go.Ev

/-- The first n operations. -/
def cutOps (ops : Array Oper) (n : Nat) : Array Oper := ⟨ops.toList.take n⟩

theorem cutOps_get {ops : Array Oper} {n i : Nat} (hi : i < n) : (cutOps ops n)[i]? = ops[i]? := by
  simp [cutOps, List.getElem?_take, hi]

theorem cutOps_size {ops : Array Oper} {n : Nat} (hn : n ≤ ops.size) : (cutOps ops n).size = n := by
  simp [cutOps]; omega

theorem cutOps_lt {ops : Array Oper} {n i : Nat} {o : Oper} (h : (cutOps ops n)[i]? = some o) : i < n ∧ ops[i]? = some o := by
  have h1 : i < (cutOps ops n).size := (Array.getElem?_eq_some_iff.1 h).1
  have h2 : i < n := by simp [cutOps] at h1; omega
  exact ⟨h2, by rw [← cutOps_get h2]; exact h⟩

/-- Does a guard look ahead of n? -/
def guardIn (n : Nat) (u : Oper) : Bool := match u.guard with
  | some (j, _) => Nat.blt j n
  | none => true

/-- Do all that are listed behind the n-th wait for it? -/
def lateOk (ops : Array Oper) (n : Nat) : Bool := (List.range ops.size).all fun j => !Nat.blt n j || ((masks ops).getD j 0).testBit n

theorem cut_yielded {ops : Array Oper} {n j : Nat} (hj : j < n) (tmps : Array Value) : yielded (cutOps ops n) tmps j = yielded ops tmps j := by
  unfold yielded
  rw [cutOps_get hj]

theorem cut_wanted {ops : Array Oper} {n : Nat} {u : Oper} (hg : guardIn n u = true) (tmps : Array Value) : Region.wanted u (yielded (cutOps ops n) tmps) = Region.wanted u (yielded ops tmps) := by
  unfold guardIn at hg
  unfold Region.wanted
  cases hug : u.guard with
  | none => rfl
  | some g =>
    obtain ⟨j, b⟩ := g
    rw [hug] at hg
    simp only [Nat.blt_eq] at hg
    simp only [cut_yielded hg]

theorem cut_wantedA {ops : Array Oper} {n : Nat} {u : Oper} (hg : guardIn n u = true) (ts : List AV) : wantedA (cutOps ops n) u ts = wantedA ops u ts := by
  unfold guardIn at hg
  unfold wantedA
  cases hug : u.guard with
  | none => rfl
  | some g =>
    obtain ⟨j, b⟩ := g
    rw [hug] at hg
    simp only [Nat.blt_eq] at hg
    have : yieldedA (cutOps ops n) ts j = yieldedA ops ts j := by
      unfold yieldedA
      rw [cutOps_get hg]
    simp only [this]

theorem masksFrom_append : ∀ (a b : List Oper) (acc : List Nat), masksFrom acc (a ++ b) = masksFrom (masksFrom acc a) b
  | [], b, acc => rfl
  | o :: a, b, acc => by simp only [List.cons_append, masksFrom]; exact masksFrom_append a b _

theorem masks_cut {ops : Array Oper} {n i : Nat} (hi : i < n) (hn : n ≤ ops.size) : (masks (cutOps ops n)).getD i 0 = (masks ops).getD i 0 := by
  have h1 : masks ops = masksFrom (masks (cutOps ops n)) (ops.toList.drop n) := by
    unfold masks cutOps
    rw [← masksFrom_append, List.take_append_drop]
  obtain ⟨rest, h2, _, _⟩ := masksFrom_spec (ops.toList.drop n) (masks (cutOps ops n))
  obtain ⟨rest0, h3, h4, _⟩ := masksFrom_spec (cutOps ops n).toList []
  have hlen : (masks (cutOps ops n)).length = n := by
    unfold masks
    rw [h3]
    simp [h4, cutOps]; omega
  rw [h1, h2, List.getD, List.getD, List.getElem?_append_left (by omega)]

section
variable {P : Program} {ro : Option Nat} {w0 : W0} {step : Nat → Oper → List AV → HS → Option (AV × HS)} {eff : Nat → Oper → Bool}

/-- The listing of the first ones, and nothing behind them. -/
structure Ahead (n k : Nat) (L0 L : Array Bool) : Prop where
  size0 : L0.size = n
  size : L.size = k
  le : n ≤ k
  same : ∀ i, i < n → L.getD i true = L0.getD i true
  none : ∀ i, n ≤ i → i < k → L.getD i true = false

theorem Ahead.set {n k : Nat} {L0 L : Array Bool} (h : Ahead n k L0 L) {i : Nat} (hi : i < n) : Ahead n k (L0.setIfInBounds i true) (L.setIfInBounds i true) := by
  have h1 : i < L0.size := by rw [h.size0]; exact hi
  have h2 : i < L.size := by rw [h.size]; exact Nat.lt_of_lt_of_le hi h.le
  refine ⟨by simp [h.size0], by simp [h.size], h.le, fun j hk => ?_, fun j hk hks => ?_⟩
  · rw [getD_set L i _ h2, getD_set L0 i _ h1, h.same j hk]
  · rw [getD_set L i _ h2, if_neg (by omega)]
    exact h.none j hk hks

theorem getD_tf {L : Array Bool} {i : Nat} (hi : i < L.size) : L.getD i false = L.getD i true := by simp [Array.getD, hi]

theorem looks_cut {ops : Array Oper} {n : Nat} {o : Oper} (hg : guardIn n o = true) : o.looksAt (cutOps ops n) = o.looksAt ops := by
  unfold Oper.looksAt
  unfold guardIn at hg
  cases hug : o.guard with
  | none => rfl
  | some g =>
    obtain ⟨j, b⟩ := g
    rw [hug] at hg
    simp only [Nat.blt_eq] at hg
    simp only [cutOps_get hg]

/-- In whatever order is drawn: the n-th operation panics. -/
theorem region_pan {Q : Exit → Act → World → Prop} {pan : Nat → Oper → List AV → HS → Option (AV × HS)} (hst : StepOK P ro w0 Q step) (hpan : PanOK P ro w0 Q pan) (hl : StepLaws eff step) (hlp : ∀ i o ts ts' s, (∀ t, .tmp t ∈ o.op.operands.toList → slot ts t = slot ts' t) → pan i o ts s = pan i o ts' s)
    {ops : Array Oper} {n : Nat} {o : Oper} (ho : ops[n]? = some o) (hgd : o.guard = none) (he : eff n o = true) (hgs : (cutOps ops n).toList.all (guardIn n) = true) (hlate : lateOk ops n = true)
    (hp : planOk eff (cutOps ops n) = true) (hp1 : planOk eff (cutOps ops (n + 1)) = true) {ts tn : List AV} {s sn s' : HS} {ph : List HS} {v : AV} (hrun : runR step eff (cutOps ops n) 0 (cutOps ops n).toList ts s = some (tn, ph)) (hlast : ph.getLast? = some sn)
    (hpn : pan n o tn sn = some (v, s')) (hstab : Stab step eff (cutOps ops n) ts tn ph) {X : Cx} {a : Act} {w : World} (hR : R X s w0 w) (ha : VL X ts a.tmps.toList)
    (hQ : ∀ Y y a' w', X.Le Y → V Y v y → R Y s' w0 w' → a'.defers = a.defers → (∃ ts', VL Y ts' a'.tmps.toList ∧ ∀ t, (∀ (j : Nat) o, ops[j]? = some o → o.dst ≠ some t) → slot ts' t = slot ts t) → Q (.panic [{ v := y, recovered := false }]) a' w') :
    wpAnyIn (WF ro) 0 P .any ops Q ops.size (Array.replicate ops.size false) a w := by
  have hn : n < ops.size := (Array.getElem?_eq_some_iff.1 ho).1
  have hsz : (cutOps ops n).size = n := cutOps_size (by omega)
  have hpl := planOk_spec hp
  have hpl1 := planOk_spec hp1
  obtain ⟨hlen, hph0, hphl, hunw, hfacts⟩ := run_facts (ts0 := ts) hl hpl (cutOps ops n).toList 0 ts tn s ph (fun j => by simp) rfl (fun _ _ => rfl) hrun
  simp only [Nat.zero_add, Array.length_toList, cnt, Nat.sub_zero, hsz] at hphl
  have hget1 : ∀ {i u}, i ≤ n → ops[i]? = some u → (cutOps ops (n + 1))[i]? = some u := fun {i u} hi hu => by rw [cutOps_get (by omega)]; exact hu
  have hmask1 : ∀ {i}, i ≤ n → (masks (cutOps ops (n + 1))).getD i 0 = (masks ops).getD i 0 := fun {i} hi => masks_cut (by omega) (by omega)
  have hmask0 : ∀ {i}, i < n → (masks (cutOps ops n)).getD i 0 = (masks ops).getD i 0 := fun {i} hi => masks_cut hi (by omega)
  have hback : ∀ (i : Nat) (u : Oper), i ≤ n → ops[i]? = some u → ∀ e ∈ u.after.toList, Region.binds .any e = true → e.on < i := fun i u hi hu => hpl1.back i u (hget1 hi hu)
  have key : ∀ (fuel : Nat) (L0 L : Array Bool) (Y : Cx) (b : Act) (u : World), Ahead n ops.size L0 L → Inv step eff (cutOps ops n) w0 ts tn ph X a.defers L0 Y b u → cnt (fun k => !L0.getD k true) n < fuel → wpAnyIn (WF ro) 0 P .any ops Q fuel L b u := by
    intro fuel
    induction fuel with
    | zero => intro L0 L Y b u hA hI hc; omega
    | succ fuel ih =>
      intro L0 L Y b u hA hI hc
      have hLn : L.getD n true = false := hA.none n (Nat.le_refl _) hn
      refine ⟨fun hr => ?_, fun i hi => ?_⟩
      · -- nothing is ready: then the n-th is listed
        exfalso
        have hall : ∀ i, i ≤ n → L.getD i true = true := by
          intro i
          induction i using Nat.strongRecOn with
          | _ i ihi =>
            intro hi
            cases hli : L.getD i true with
            | true => rfl
            | false =>
              exfalso
              have hiu : ops[i]? = some ops[i] := Array.getElem?_eq_getElem (by omega)
              have hmem : i ∈ Region.ready .any ops L := by
                rw [mem_ready]
                refine ⟨hli, _, hiu, fun e hee hb => ?_⟩
                have hlt := hback i _ hi hiu e (by simpa using hee) hb
                rw [getD_tf (by rw [hA.size]; omega)]
                exact ihi e.on hlt (by omega)
              rw [hr] at hmem; cases hmem
        rw [hall n (Nat.le_refl _)] at hLn; cases hLn
      · have hir := hi
        rw [mem_ready] at hi
        obtain ⟨hli, x, hx, hed⟩ := hi
        have hisz : i < ops.size := (Array.getElem?_eq_some_iff.1 hx).1
        rcases Nat.lt_trichotomy i n with hlt | heq | hgt
        · -- ahead of the n-th
          have hx0 : (cutOps ops n)[i]? = some x := by rw [cutOps_get hlt]; exact hx
          have hir0 : i ∈ Region.ready .any (cutOps ops n) L0 := by
            rw [mem_ready]
            refine ⟨by rw [← hA.same i hlt]; exact hli, x, hx0, fun e hee hb => ?_⟩
            have hel := hpl.back i x hx0 e (by simpa using hee) hb
            have h1 := hed e hee hb
            rw [getD_tf (by rw [hA.size]; omega), hA.same e.on (by omega)] at h1
            rw [getD_tf (by rw [hA.size0]; omega)]
            exact h1
          have hw := core_step (hst i) hl hpl hrun hstab hI hir0
          have hgi : guardIn n x = true := by
            rw [List.all_eq_true] at hgs
            exact hgs x (by rw [Array.mem_toList_iff]; exact Array.mem_of_getElem? hx0)
          have hi0 : i < L0.size := by rw [hA.size0]; exact hlt
          have hK : ∀ b' u', (∃ Z, Inv step eff (cutOps ops n) w0 ts tn ph X a.defers (L0.setIfInBounds i true) Z b' u') → wpAnyIn (WF ro) 0 P .any ops Q fuel (L.setIfInBounds i true) b' u' := by
            rintro b' u' ⟨Z, hJ⟩
            refine ih _ _ Z b' u' (hA.set hlt) hJ ?_
            have h1 := cnt_change (p := fun k => !L0.getD k true) (q := fun k => !(L0.setIfInBounds i true).getD k true) (i := i) (fun k hk => by simp only [getD_set L0 i _ hi0, if_neg hk]) n
            have hli0 : L0.getD i true = false := by rw [← hA.same i hlt]; exact hli
            simp only [getD_set L0 i _ hi0, hli0, if_true, Bool.not_true, Bool.not_false, and_true, hlt, Bool.false_eq_true, and_false, if_false, Nat.add_zero] at h1
            simp only [getD_set L0 i _ hi0]
            omega
          unfold wpOpIn at hw ⊢
          rw [hx0] at hw
          rw [hx]
          simp only at hw ⊢
          rw [cut_wanted hgi] at hw
          split
          · rename_i hwt
            rw [if_pos hwt] at hw
            exact Oper.wpIn_mono hK hw
          · rename_i hwt
            rw [if_neg hwt] at hw
            exact ⟨hw.1, hK _ _ hw.2⟩
        · -- the n-th itself
          subst heq
          rw [ho] at hx; cases hx
          have hprec : ∀ j, ((masks ops).getD i 0).testBit j = true → L0.getD j true = true := by
            intro j hj
            obtain ⟨e, hee, hb, hor⟩ := masks_bit ho hj
            have hel := hback i o (Nat.le_refl _) ho e hee hb
            have h1 := hed e (by simpa using hee) hb
            rw [getD_tf (by rw [hA.size]; omega), hA.same e.on hel] at h1
            rcases hor with hor | hor
            · subst hor; exact h1
            · rw [← hmask0 hel] at hor
              exact hI.closed e.on (by rw [hsz]; exact hel) h1 j hor
          obtain ⟨sq, hsq, hRq⟩ := hI.mem
          have hcq : cnt (fun k => isE eff (cutOps ops i) k && L0.getD k true) (cutOps ops i).size = cnt (isE eff (cutOps ops i)) i := by
            rw [hsz]
            refine cnt_congr (fun k hk => ?_)
            cases hek : isE eff (cutOps ops i) k with
            | false => rfl
            | true =>
              obtain ⟨x, hx, hxe⟩ := isE_lt hek
              have hxk := (cutOps_lt hx).2
              have := hpl1.chain i k o x (hget1 (Nat.le_refl _) ho) (hget1 (by omega) hxk) he hxe hk
              rw [hmask1 (Nat.le_refl _)] at this
              simp [hprec k this]
          have hsn : sq = sn := by
            rw [hcq] at hsq
            rw [List.getLast?_eq_getElem?, hphl] at hlast
            simp only [Nat.add_sub_cancel] at hlast
            rw [hsq] at hlast
            cases hlast; rfl
          subst hsn
          have hlook : ∀ t ∈ o.looksAt ops, slot (TS (cutOps ops i) ts tn fun k => L0.getD k true) t = slot tn t := by
            intro t ht
            rw [slot_TS hlen]
            split
            · rfl
            · rename_i hw
              refine (hunw t (fun j x _ hj hd => hw ?_)).symm
              have hj' := cutOps_lt hj
              have hlk : t ∈ o.looksAt (cutOps ops (i + 1)) := by
                have : o.looksAt (cutOps ops (i + 1)) = o.looksAt ops := looks_cut (by unfold guardIn; rw [hgd])
                rw [this]; exact ht
              rcases hpl1.deps i j o x t (hget1 (Nat.le_refl _) ho) (hget1 (by omega) hj'.2) hd hlk with hm | ⟨_, hm | hm⟩
              · rw [hmask1 (Nat.le_refl _)] at hm
                exact wr_iff.2 ⟨j, x, hj, hprec j hm, hd⟩
              · omega
              · have := mask_lt hpl1 j x (hget1 (by omega) hj'.2) i hm
                omega
          have hpn' : pan i o (TS (cutOps ops i) ts tn fun k => L0.getD k true) sq = some (v, s') := by
            rw [hlp i o _ tn sq (fun t ht => hlook t (mem_looks ht))]
            exact hpn
          unfold wpOpIn
          rw [ho]
          simp only
          rw [if_pos (by simp [Region.wanted, hgd])]
          refine hpan i o _ sq v s' hpn' Y b u hRq hI.tmps ?_ _
          intro Z y w' hZ hv hR'
          refine hQ Z y b w' (hI.le.trans hZ) hv hR' hI.defers ⟨_, hI.tmps.mono hZ, fun t ht => ?_⟩
          rw [slot_TS hlen, if_neg]
          intro hw
          obtain ⟨j, x, hj, _, hd⟩ := wr_iff.1 hw
          exact ht j x (cutOps_lt hj).2 hd
        · -- behind the n-th
          exfalso
          unfold lateOk at hlate
          rw [List.all_eq_true] at hlate
          have h1 := hlate i (List.mem_range.2 hisz)
          have hb : Nat.blt n i = true := by rw [Nat.blt_eq]; exact hgt
          rw [hb] at h1
          simp only [Bool.not_true, Bool.false_or] at h1
          obtain ⟨e, hee, hbe, hor⟩ := masks_bit hx h1
          have h2 := hed e (by simpa using hee) hbe
          have hes : e.on < ops.size := by
            rcases Nat.lt_or_ge e.on L.size with h | h
            · rw [hA.size] at h; exact h
            · rw [Array.getD, dif_neg (by omega)] at h2; cases h2
          rw [getD_tf (by rw [hA.size]; exact hes)] at h2
          have hen : e.on < n := by
            rcases Nat.lt_or_ge e.on n with h | h
            · exact h
            · rw [hA.none e.on h hes] at h2; cases h2
          rcases hor with hor | hor
          · omega
          · rw [← hmask0 hen] at hor
            have hu : (cutOps ops n)[e.on]? = some ops[e.on] := by rw [cutOps_get hen]; exact Array.getElem?_eq_getElem hes
            have := mask_lt hpl e.on _ hu n hor
            omega
  have hg : ∀ i, i < n → (Array.replicate n false).getD i true = false := fun i hi => by simp [Array.getD, hi]
  refine key ops.size (Array.replicate n false) (Array.replicate ops.size false) X a w ⟨by simp, by simp, by omega, fun i hi => ?_, fun i hi his => by simp [Array.getD, his]⟩ ⟨by simp [hsz], ?_, ?_, ?_, rfl, Cx.Le.refl X⟩ ?_
  · have : i < ops.size := by omega
    simp [Array.getD, hi, this]
  · intro i hi h
    rw [hsz] at hi
    rw [hg i hi] at h; cases h
  · refine ⟨s, ?_, hR⟩
    have : cnt (fun k => isE eff (cutOps ops n) k && (Array.replicate n false).getD k true) (cutOps ops n).size = 0 := by
      rw [hsz]
      have h1 : cnt (fun k => isE eff (cutOps ops n) k && (Array.replicate n false).getD k true) n = cnt (fun _ => false) n := cnt_congr (fun k hk => by rw [hg k hk]; simp)
      rw [h1]
      have : ∀ m, cnt (fun _ => false) m = 0 := fun m => by induction m <;> simp_all [cnt]
      exact this _
    rw [this]; exact hph0
  · have : TS (cutOps ops n) ts tn (fun k => (Array.replicate n false).getD k true) = ts := by
      apply list_ext_slot (by simp [TS])
      intro t ht
      rw [slot_TS hlen, if_neg]
      intro hwr
      obtain ⟨i, x, hx, h1, _⟩ := wr_iff.1 hwr
      rw [hg i (cutOps_lt hx).1] at h1; cases h1
    rw [this]; exact ha
  · have : ∀ m, cnt (fun k => !(Array.replicate n false).getD k true) m ≤ m := fun m => by
      induction m with
      | zero => exact Nat.le_refl _
      | succ m ih => simp only [cnt]; split <;> omega
    have := this n
    omega
end
end Go.Ev
