/- Abstract operations: places, slices, len, append. -/
import Derived.Test.YtinngopfgdfdbaaGreatDoorEv4
import Derived.Lib.Strings
set_option linter.unusedVariables false
set_option linter.unusedSimpArgs false
namespace Go.Ev

/-! ### places -/
def evFieldAddr (P : Program) (t : TypeId) (p : AV) (f : Nat) : Option AV :=
  match P.underlying t with
  | some (.struct fields) => match fields[f]? with
    | some fd => match size? P fd.type with
      | some (_ + 1) => match p with
        | .ptr id off => some (.ptr id (off + fd.offset))
        | .fptr cells => some (.fptr (cells.drop fd.offset))
        | _ => none
      | _ => none
    | none => none
  | _ => none

def evIndexAddr (P : Program) (t : TypeId) (x ix : AV) : Option AV :=
  match ix with
  | .int _ i =>
    match P.underlying t with
    | some (.slice e) => match size? P e with
      | some size => match x with
        | .sl id off len _ => if 0 ≤ i ∧ i < len then some (.ptr id (off + i.toNat * size)) else none
        | .fsl rows => if 0 ≤ i then match rows[i.toNat]? with
          | some row => if row.length = size then some (.fptr row) else none
          | none => none else none
        | _ => none
      | none => none
    | some (.array n e) => match size? P e with
      | some size => if 0 ≤ i ∧ i < n then match x with
        | .ptr id off => some (.ptr id (off + i.toNat * size))
        | .fptr cells => some (.fptr (cells.drop (i.toNat * size)))
        | _ => none else none
      | none => none
    | _ => none
  | _ => none

theorem V.fptr_drop {X : Cx} {cells : List AV} {b o : Nat} (n : Nat) (h : V X (.fptr cells) (.pointer (some ⟨b, o, none⟩))) : V X (.fptr (cells.drop n)) (.pointer (some ⟨b, o + n, none⟩)) := by
  cases h with
  | fptr g hb hc hv h1 =>
    refine .fptr (fun i => g (n + i)) hb ?_ ?_ (fun x hx => h1 x (List.mem_of_mem_drop hx))
    · intro i hi
      have hi' : n + i < cells.length := by simp at hi; omega
      rw [Nat.add_assoc]; exact hc _ hi'
    · intro i x hx
      rw [List.getElem?_drop] at hx
      exact hv _ x hx

section
variable {P : Program} {X : Cx} (w : World)

theorem evFieldAddr_sound {t : TypeId} {p x : AV} {pv : Value} {f : Nat} (hp : V X p pv) (h : evFieldAddr P t p f = some x) : ∃ y, (Instr.fieldAt t pv f).run P w = .ok y w ∧ V X x y := by
  unfold evFieldAddr at h
  split at h <;> try cases h
  rename_i fields hu
  split at h <;> try cases h
  rename_i fd hf
  split at h <;> try cases h
  rename_i m hs
  have hrs := run_size (P := P) w hs
  split at h <;> cases h
  · cases hp with
    | ptr hm =>
      refine ⟨_, ?_, .ptr (off := _) hm⟩
      simp [Instr.fieldAt, run_underlying hu, hf, Instr.sureAddr, fieldPlace, hrs, Addr.add_lit, Nat.add_assoc]
  · cases hp with
    | fptr g hb hc hv h1 =>
      refine ⟨_, ?_, V.fptr_drop fd.offset (.fptr g hb hc hv h1)⟩
      simp [Instr.fieldAt, run_underlying hu, hf, Instr.sureAddr, fieldPlace, hrs, Addr.add_lit]

theorem evIndexAddr_sound {t : TypeId} {x ix r : AV} {xv iv : Value} (hx : V X x xv) (hi : V X ix iv) (h : evIndexAddr P t x ix = some r) : ∃ y, (Instr.indexAt t xv iv).run P w = .ok y w ∧ V X r y := by
  unfold evIndexAddr at h
  split at h <;> try cases h
  rename_i k i
  cases hi
  split at h <;> try cases h
  · rename_i e hu
    split at h <;> try cases h
    rename_i size hs
    have hrs := run_size (P := P) w hs
    split at h <;> try cases h
    · rename_i id off len sz
      split at h <;> cases h
      rename_i hb
      cases hx with
      | sl hm hl hsz =>
        refine ⟨_, ?_, .ptr hm⟩
        simp [Instr.indexAt, asIntOf, run_underlying hu, hb, hrs, Addr.add_lit, Nat.add_assoc]
    · rename_i rows
      split at h <;> try cases h
      rename_i h0
      split at h <;> try cases h
      rename_i row hr
      split at h <;> cases h
      rename_i hrow
      have hlt : i.toNat < rows.length := (List.getElem?_eq_some_iff.1 hr).1
      cases hx with
      | fsl0 a cap => simp at hlt
      | @fsl _ b o cap sz c e' fr g hb hsz hc hv hcap h1 =>
        have hszr := hsz row (List.mem_of_getElem? hr)
        refine ⟨.pointer (some ⟨b, o + i.toNat * size, none⟩), ?_, ?_⟩
        · have hlt' : i < (rows.length : Int) := by omega
          simp [Instr.indexAt, asIntOf, run_underlying hu, h0, hlt', hrs, Addr.add_lit]
        · refine .fptr (fun j => g i.toNat j) hb ?_ ?_ (fun x hx => h1 row (List.mem_of_getElem? hr) x hx)
          · intro j hj
            have := hc i.toNat j hlt (by omega)
            rw [← hszr, hrow] at this
            exact this
          · intro j u hu'
            exact hv _ _ _ _ hr hu'
  · rename_i n e hu
    split at h <;> try cases h
    rename_i size hs
    have hrs := run_size (P := P) w hs
    split at h <;> try cases h
    rename_i hb
    split at h <;> cases h
    · cases hx with
      | ptr hm =>
        refine ⟨_, ?_, .ptr hm⟩
        simp [Instr.indexAt, asIntOf, run_underlying hu, Instr.sureAddr, hb, hrs, Addr.add_lit, Nat.add_assoc]
    · cases hx with
      | fptr g hb' hc hv h1 =>
        refine ⟨_, ?_, V.fptr_drop (i.toNat * size) (.fptr g hb' hc hv h1)⟩
        simp [Instr.indexAt, asIntOf, run_underlying hu, Instr.sureAddr, hb, hrs, Addr.add_lit]

/-- A part of a struct's or an array's value. -/
def evPart (P : Program) (t : TypeId) (cs : List AV) (off : Nat) : Option AV :=
  match agg? P t with
  | some true => match size? P t with
    | some n => if off + n ≤ cs.length then some (.agg ((cs.drop off).take n)) else none
    | none => none
  | some false => cs[off]?
  | none => none

theorem evPart_sound {t : TypeId} {cs : List AV} {ys : Array Value} {off : Nat} {x : AV} (hx : VL X cs ys.toList) (h1 : ∀ c ∈ cs, c.one = true) (h : evPart P t cs off = some x) :
    ∃ y, (part t ys off).run P w = .ok y w ∧ V X x y := by
  unfold evPart at h
  split at h
  · rename_i ha
    split at h <;> try cases h
    rename_i n hn
    split at h <;> cases h
    rename_i hle
    refine ⟨.agg (ys.extract off (off + n)), ?_, ?_⟩
    · simp [part, run_agg w ha, run_size w hn]
    · have hl := (hx.drop off).take n
      have := V.aggL hl (fun c hc => h1 c (List.mem_of_mem_drop (List.mem_of_mem_take hc)))
      have he : (List.take n (List.drop off ys.toList)).toArray = ys.extract off (off + n) := by
        apply Array.ext'
        simp [List.extract_eq_take_drop]
      rw [he] at this
      exact this
  · rename_i ha
    obtain ⟨y, hy, hv⟩ := hx.get h
    refine ⟨y, ?_, hv⟩
    have hy' : ys[off]? = some y := by simpa using hy
    simp [part, run_agg w ha, hy']
  · cases h

def evField (P : Program) (t : TypeId) (x : AV) (f : Nat) : Option AV :=
  match P.underlying t with
  | some (.struct fields) => match fields[f]? with
    | some fd => match x with
      | .agg cs => evPart P fd.type cs fd.offset
      | _ => none
    | none => none
  | _ => none

theorem evField_sound {t : TypeId} {x r : AV} {xv : Value} {f : Nat} (hx : V X x xv) (h : evField P t x f = some r) : ∃ y, (Instr.field t xv f).run P w = .ok y w ∧ V X r y := by
  unfold evField at h
  split at h <;> try cases h
  rename_i fields hu
  split at h <;> try cases h
  rename_i fd hf
  split at h <;> try cases h
  cases hx with
  | agg hl hv h1 =>
    obtain ⟨y, hy, hr⟩ := evPart_sound (P := P) w (.ofArr hl hv) h1 h
    exact ⟨y, by simp [Instr.field, run_underlying hu, hf, asAgg, hy], hr⟩

def evIndex (P : Program) (t : TypeId) (x ix : AV) : Option AV :=
  match ix with
  | .int _ i => match x with
    | .str s => match P.underlying t with
      | some .string => if 0 ≤ i then match s[i.toNat]? with
        | some b => some (.int .u8 b.toNat)
        | none => none else none
      | _ => none
    | .agg cs => match P.underlying t with
      | some (.array n e) => match size? P e with
        | some size => if 0 ≤ i ∧ i < n then evPart P e cs (i.toNat * size) else none
        | none => none
      | _ => none
    | _ => none
  | _ => none

theorem bytes_get? (s : List UInt8) (i : Nat) : (if h : i < (⟨⟨s⟩⟩ : ByteArray).size then some ((⟨⟨s⟩⟩ : ByteArray)[i]) else none) = s[i]? := by
  have hsz : (⟨⟨s⟩⟩ : ByteArray).size = s.length := rfl
  by_cases h : i < s.length
  · rw [dif_pos (by rw [hsz]; exact h), List.getElem?_eq_getElem h]
    rfl
  · rw [dif_neg (by rw [hsz]; exact h), List.getElem?_eq_none (by omega)]

theorem evIndex_sound {t : TypeId} {x ix r : AV} {xv iv : Value} (hx : V X x xv) (hi : V X ix iv) (h : evIndex P t x ix = some r) : ∃ y, (Instr.index t xv iv).run P w = .ok y w ∧ V X r y := by
  unfold evIndex at h
  split at h <;> try cases h
  rename_i k i
  cases hi
  split at h <;> try cases h
  · rename_i s
    cases hx
    split at h <;> try cases h
    rename_i hu
    split at h <;> try cases h
    rename_i h0
    split at h <;> cases h
    rename_i b hb
    refine ⟨_, ?_, .int .u8 _⟩
    have hlt : i.toNat < s.length := (List.getElem?_eq_some_iff.1 hb).1
    have hg : (⟨⟨s⟩⟩ : ByteArray)[i.toNat]? = some b := by
      have := bytes_get? s i.toNat
      rw [hb] at this
      have hsz : (⟨⟨s⟩⟩ : ByteArray).size = s.length := rfl
      rw [dif_pos (by rw [hsz]; exact hlt)] at this
      rw [getElem?_pos _ _ (by exact hlt)]
      exact this
    simp [Instr.index, asIntOf, run_underlying hu, h0, hg]
  · rename_i cs
    split at h <;> try cases h
    rename_i n e hu
    split at h <;> try cases h
    rename_i size hs
    split at h <;> try cases h
    rename_i hb
    cases hx with
    | agg hl hv h1 =>
      obtain ⟨y, hy, hr⟩ := evPart_sound (P := P) w (.ofArr hl hv) h1 h
      exact ⟨y, by simp [Instr.index, asIntOf, run_underlying hu, hb, run_size w hs, hy], hr⟩

/-! ### slices of slices and of strings -/
/-- Bounds of a slice expression: none given: 0, the length. -/
def evBound (d : Nat) : Option AV → Option Nat
  | none => some d
  | some (.int _ i) => if 0 ≤ i then some i.toNat else none
  | some _ => none

def evSlice (P : Program) (t : TypeId) (x : AV) (lo hi : Option AV) : Option AV :=
  match P.underlying t with
  | some .string => match x with
    | .str s => match evBound 0 lo, evBound s.length hi with
      | some l, some h => if l ≤ h ∧ h ≤ s.length then some (.str ((s.drop l).take (h - l))) else none
      | _, _ => none
    | _ => none
  | some (.slice e) => match size? P e with
    | some size => match x with
      | .sl id off len sz => match evBound 0 lo, evBound len hi with
        | some l, some h => if l ≤ h ∧ h ≤ len ∧ sz = size then (if l = 0 then some (.sl id off h sz) else if l = h then some (.fsl []) else some (.sl id (off + l * size) (h - l) sz)) else none
        | _, _ => none
      | .fsl rows => match evBound 0 lo, evBound rows.length hi with
        | some l, some h => if l ≤ h ∧ h ≤ rows.length ∧ (∀ row ∈ rows, row.length = size) then some (.fsl ((rows.drop l).take (h - l))) else none
        | _, _ => none
      | .nils => match evBound 0 lo, evBound 0 hi with
        | some 0, some 0 => some .nils
        | _, _ => none
      | _ => none
    | none => none
  | _ => none

theorem run_bound {d y : Nat} {code : BoundsCode} {o : Option AV} {ov : Option Value} (h : match o, ov with | none, none => True | some a, some v => V X a v | _, _ => False) {n : Nat} (hb : evBound d o = some n) (hn : n ≤ y) :
    (match ov with | some v => Instr.sliceBound v y code | none => pure d).run P w = .ok n w := by
  cases o with
  | none =>
    cases ov with
    | none => simp [evBound] at hb; subst hb; simp
    | some v => exact h.elim
  | some a =>
    cases ov with
    | none => exact h.elim
    | some v =>
      unfold evBound at hb
      split at hb <;> try cases hb
      · rename_i e; cases e
      · rename_i k i e
        cases e
        split at hb <;> cases hb
        rename_i h0
        cases h
        have : i ≤ (y : Int) := by omega
        simp [Instr.sliceBound, asIntOf, h0, this]

def OV (X : Cx) (o : Option AV) (ov : Option Value) : Prop := match o, ov with | none, none => True | some a, some v => V X a v | _, _ => False

theorem run_sliceBounds {isSlice : Bool} {len cap l h : Nat} {lo hi : Option AV} {lov hiv : Option Value} (hlo : OV X lo lov) (hhi : OV X hi hiv) (hl : evBound 0 lo = some l) (hh : evBound len hi = some h) (h1 : l ≤ h) (h2 : h ≤ cap) :
    (Instr.sliceBounds isSlice len cap lov hiv none).run P w = .ok (l, h, cap) w := by
  have e1 := run_bound (P := P) (X := X) w (code := .sliceB) (y := h) hlo hl h1
  have e2 := run_bound (P := P) (X := X) w (code := if isSlice then .sliceAcap else .sliceAlen) (y := cap) hhi hh h2
  unfold Instr.sliceBounds
  cases lov <;> cases hiv <;> simp_all

theorem evSlice_sound {t : TypeId} {x r : AV} {xv : Value} {lo hi : Option AV} {lov hiv : Option Value} (hx : V X x xv) (hlo : OV X lo lov) (hhi : OV X hi hiv) (h : evSlice P t x lo hi = some r) :
    ∃ y, (Instr.sliceAt t xv lov hiv none).run P w = .ok y w ∧ V X r y := by
  unfold evSlice at h
  split at h <;> try cases h
  · rename_i hu
    split at h <;> try cases h
    rename_i s
    split at h <;> try cases h
    rename_i l u hl hh
    split at h <;> cases h
    rename_i hb
    cases hx
    have hr := run_sliceBounds (P := P) (X := X) w (isSlice := false) (cap := s.length) hlo hhi hl hh hb.1 hb.2
    refine ⟨.string ((⟨⟨s⟩⟩ : ByteArray).extract l u), ?_, ?_⟩
    · have hsz : (⟨⟨s⟩⟩ : ByteArray).size = s.length := rfl
      simp [Instr.sliceAt, Instr.slice, run_underlying hu, hsz, hr]
    · have he : ((⟨⟨s⟩⟩ : ByteArray).extract l u) = ⟨⟨(s.drop l).take (u - l)⟩⟩ := by
        have := Lib.extract_data ⟨⟨s⟩⟩ l u
        cases hq : (⟨⟨s⟩⟩ : ByteArray).extract l u with
        | mk d =>
          cases d with
          | mk q => rw [hq] at this; simp at this; rw [this]
      rw [he]
      exact .str _
  · rename_i e hu
    split at h <;> try cases h
    rename_i size hs
    have hrs := run_size (P := P) w hs
    split at h <;> try cases h
    · rename_i id off len sz
      split at h <;> try cases h
      rename_i l u hl hh
      split at h <;> try cases h
      rename_i hb
      obtain ⟨hb1, hb2, rfl⟩ := hb
      cases hx with
      | @sl _ _ _ _ b base tot cap hm hlc hsz =>
        have hr := run_sliceBounds (P := P) (X := X) w (isSlice := true) (cap := cap) hlo hhi hl hh hb1 (by omega)
        have hrun : (Instr.sliceAt t (.slice (some ⟨b, base + off, none⟩) len cap) lov hiv none).run P w = .ok (.slice (if cap = l then some ⟨b, base + off, none⟩ else some ⟨b, base + off + l * sz, none⟩) (u - l) (cap - l)) w := by
          simp [Instr.sliceAt, Instr.slice, run_underlying hu, hr, hrs, Addr.add_lit]
        refine ⟨_, hrun, ?_⟩
        split at h
        · rename_i h0
          cases h
          subst h0
          have : (if cap = 0 then some (⟨b, base + off, none⟩ : Addr) else some ⟨b, base + off + 0 * sz, none⟩) = some ⟨b, base + off, none⟩ := by split <;> simp
          rw [this]
          exact .sl hm (by omega) (by simpa using hsz)
        · split at h
          · rename_i h0 he
            cases h
            subst he
            simp only [Nat.sub_self]
            exact .fsl0 _ _
          · rename_i h0 hne
            cases h
            rw [if_neg (by omega), Nat.add_assoc]
            refine .sl hm (by omega) ?_
            have : l * sz + (cap - l) * sz = cap * sz := by rw [← Nat.add_mul]; congr 1; omega
            omega
    · rename_i rows
      split at h <;> try cases h
      rename_i l u hl hh
      split at h <;> cases h
      rename_i hb
      obtain ⟨hb1, hb2, hb3⟩ := hb
      cases hx with
      | fsl0 a cap =>
        simp at hb2
        obtain rfl : u = 0 := hb2
        obtain rfl : l = 0 := by omega
        have hr := run_sliceBounds (P := P) (X := X) w (isSlice := true) (cap := cap) hlo hhi hl hh (Nat.le_refl _) (by omega)
        refine ⟨.slice (if cap = 0 then a else a.map (·.add 0)) 0 cap, ?_, by simpa using .fsl0 _ cap⟩
        simp only [List.length_nil] at hr
        simp [Instr.sliceAt, Instr.slice, run_underlying hu, hr, hrs]
      | @fsl _ b o cap sz c e' fr g hbk hsz hc hv hcap h1 =>
        have hr := run_sliceBounds (P := P) (X := X) w (isSlice := true) (cap := cap) hlo hhi hl hh hb1 (by omega)
        have hrun : (Instr.sliceAt t (.slice (some ⟨b, o, none⟩) rows.length cap) lov hiv none).run P w = .ok (.slice (if cap = l then some ⟨b, o, none⟩ else some ⟨b, o + l * size, none⟩) (u - l) (cap - l)) w := by
          simp [Instr.sliceAt, Instr.slice, run_underlying hu, hr, hrs, Addr.add_lit]
        refine ⟨_, hrun, ?_⟩
        have hlen : ((rows.drop l).take (u - l)).length = u - l := by simp; omega
        by_cases hlu : l = u
        · subst hlu
          simp only [Nat.sub_self, List.take_zero]
          exact .fsl0 _ _
        · rw [if_neg (by omega)]
          have hszz : sz = size := by
            have hl0 : 0 < rows.length := by omega
            rw [← hsz _ (List.getElem_mem hl0), hb3 _ (List.getElem_mem hl0)]
          subst hszz
          have key : V X (.fsl ((rows.drop l).take (u - l))) (.slice (some ⟨b, o + l * sz, none⟩) ((rows.drop l).take (u - l)).length (cap - l)) := by
            refine .fsl (sz := sz) (fun i j => g (l + i) j) hbk ?_ ?_ ?_ (by omega) ?_
            · intro row hrow; exact hsz row (List.mem_of_mem_drop (List.mem_of_mem_take hrow))
            · intro i j hi hj
              have := hc (l + i) j (by omega) hj
              rw [← this]
              congr 1
              rw [Nat.add_mul]; omega
            · intro i row j u' hrow hu'
              rw [List.getElem?_take] at hrow
              split at hrow <;> try cases hrow
              rw [List.getElem?_drop] at hrow
              exact hv _ _ _ _ hrow hu'
            · intro row hrow; exact h1 row (List.mem_of_mem_drop (List.mem_of_mem_take hrow))
          rw [hlen] at key
          exact key
    · split at h <;> cases h
      rename_i hl hh
      cases hx
      have hr := run_sliceBounds (P := P) (X := X) w (isSlice := true) (cap := 0) (len := 0) hlo hhi hl hh (Nat.le_refl _) (Nat.le_refl _)
      refine ⟨.slice none 0 0, ?_, .nils⟩
      simp [Instr.sliceAt, Instr.slice, run_underlying hu, hr, hrs]

end
end Go.Ev
