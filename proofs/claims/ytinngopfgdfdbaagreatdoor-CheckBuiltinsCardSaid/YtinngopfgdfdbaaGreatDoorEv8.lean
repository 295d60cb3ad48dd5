/- Abstract operations: conversions, maps, the rest. -/
import Derived.Test.YtinngopfgdfdbaaGreatDoorEv7
set_option linter.unusedVariables false
set_option linter.unusedSimpArgs false
namespace Go.Ev

/-- The bytes of a slice of bytes. -/
def asBytes : List AV → Option (List UInt8)
  | [] => some []
  | .int .u8 n :: l => (asBytes l).map (UInt8.ofNat n.toNat :: ·)
  | _ => none

theorem asBytes_ints {X : Cx} : ∀ {cs : List AV} {ys : List Value} {s : List UInt8}, VL X cs ys → asBytes cs = some s → ∃ ns : List Int, ys = ns.map (Value.int .u8) ∧ s = ns.map fun n => UInt8.ofNat n.toNat
  | [], ys, s, hv, h => by
    have : ys = [] := List.eq_nil_of_length_eq_zero (by have := hv.len; simpa using this.symm)
    subst this
    simp [asBytes] at h
    exact ⟨[], rfl, by simp [h]⟩
  | c :: cs, [], s, hv, h => by have := hv.len; simp at this
  | c :: cs, y :: ys, s, hv, h => by
    unfold asBytes at h
    split at h <;> try cases h
    · rename_i e; cases e
    · rename_i n l e
      cases e
      rw [Option.map_eq_some_iff] at h
      obtain ⟨s', hs', rfl⟩ := h
      have hy := hv.head
      cases hy
      obtain ⟨ns, rfl, rfl⟩ := asBytes_ints hv.tail hs'
      exact ⟨n :: ns, rfl, rfl⟩

theorem foldl_push : ∀ (ns : List Int) (acc : ByteArray), ns.foldl (fun r n => r.push (UInt8.ofNat n.toNat)) acc = ⟨⟨acc.data.toList ++ ns.map fun n => UInt8.ofNat n.toNat⟩⟩
  | [], acc => by simp
  | n :: ns, acc => by
    simp only [List.foldl_cons]
    rw [foldl_push ns]
    congr 1
    apply Array.ext'
    simp [ByteArray.push]

def AV.isStr : AV → Bool
  | .str _ => true
  | _ => false

def evConv (P : Program) (h : Heap) (src dst : TypeId) (x : AV) : Option AV :=
  match P.underlying src with
  | some d => match P.underlying dst with
    | some (.int k) => match x with
      | .int _ n => some (.int k (k.wrap n))
      | _ => none
    | some .string => match d with
      | .string => match x with
        | .str s => some (.str s)
        | _ => none
      | .slice e => match P.underlying e with
        | some (.int .u8) => if x.isStr then none else match evSrc h 1 x with
          | some (_, cs) => (asBytes cs).map .str
          | none => none
        | _ => none
      | _ => none
    | _ => none
  | none => none

section
variable {P : Program} {X : Cx} {s : HS} {w0 : W0} {w : World}

theorem evConv_sound (hR : R X s w0 w) {src dst : TypeId} {x r : AV} {xv : Value} (hx : V X x xv) (h : evConv P s.h src dst x = some r) : ∃ y, (convert src dst xv).run P w = .ok y w ∧ V X r y := by
  unfold evConv at h
  split at h <;> try cases h
  rename_i d hs
  split at h <;> try cases h
  · rename_i k hd
    split at h <;> cases h
    cases hx
    exact ⟨_, by simp [convert, run_underlying hs, run_underlying hd, Conv.intToInt], .int _ _⟩
  · rename_i hd
    split at h <;> try cases h
    · split at h <;> cases h
      cases hx
      exact ⟨_, by simp [convert, run_underlying hs, run_underlying hd], .str _⟩
    · rename_i e
      split at h <;> try cases h
      rename_i he
      split at h <;> try cases h
      rename_i hns
      split at h <;> try cases h
      rename_i n cs hsrc
      rw [Option.map_eq_some_iff] at h
      obtain ⟨t, ht, rfl⟩ := h
      obtain ⟨hl, h1, ys, hys, hrun⟩ := evSrc_sound (P := P) hR (by decide) hx hsrc
      obtain ⟨ns, rfl, rfl⟩ := asBytes_ints hys ht
      obtain ⟨_, hf⟩ := hrun w rfl
      have key : ∀ {len cap : Nat} {b : Addr}, n = len → (Builtin.firstCells 1 n (.slice (some b) len cap)).run P w = .ok (ns.map (Value.int .u8)).toArray w →
          (Conv.bytesToString (.slice (some b) len cap)).run P w = .ok (.string ⟨⟨ns.map fun n => UInt8.ofNat n.toNat⟩⟩) w := by
        intro len cap b hn hf
        subst hn
        have := run_bytesToString (P := P) w b n cap ns (by simpa [Builtin.firstCells] using hf)
        rw [this, foldl_push]
        rfl
      cases hx with
      | nils =>
        simp [evSrc] at hsrc
        obtain ⟨rfl, rfl⟩ := hsrc
        have hn0 : ns = [] := by
          have := hys.len
          simpa using this.symm
        subst hn0
        exact ⟨.string ⟨⟨[]⟩⟩, by simp [convert, run_underlying hs, run_underlying hd, run_underlying he, Conv.bytesToString]; rfl, .str _⟩
      | @sl _ _ len _ _ _ _ cap hm hlc hsz =>
        have hn : n = len := by
          simp only [evSrc] at hsrc
          split at hsrc <;> try cases hsrc
          split at hsrc <;> cases hsrc
          rfl
        exact ⟨_, by rw [run_convert_bytes_string w _ _ e _ _ _ hs he hd]; exact key hn hf, .str _⟩
      | @fsl rows _ _ cap _ _ _ _ g hb hsz hc hv hcap h1' =>
        have hn : n = rows.length := by
          simp only [evSrc] at hsrc
          split at hsrc <;> cases hsrc
          rfl
        exact ⟨_, by rw [run_convert_bytes_string w _ _ e _ _ _ hs he hd]; exact key hn hf, .str _⟩
      | fsl0 a cap =>
        simp [evSrc] at hsrc
        obtain ⟨rfl, rfl⟩ := hsrc
        have hn0 : ns = [] := by
          have := hys.len
          simpa using this.symm
        subst hn0
        cases a with
        | none => exact ⟨.string ⟨⟨[]⟩⟩, by rw [run_convert_bytes_string w _ _ e _ _ _ hs he hd]; simp [Conv.bytesToString]; rfl, .str _⟩
        | some b => exact ⟨_, by rw [run_convert_bytes_string w _ _ e _ _ _ hs he hd]; exact key rfl hf, .str _⟩
      | str t => simp [AV.isStr] at hns
      | _ => simp [evSrc] at hsrc

/-! ### len -/
def evLen (P : Program) (h : Heap) (t : TypeId) (x : AV) : Option AV :=
  match P.underlying t with
  | some .string => match x with
    | .str s => some (.int .i64 s.length)
    | _ => none
  | some (.slice _) => match x with
    | .nils => some (.int .i64 0)
    | .sl _ _ len _ => some (.int .i64 len)
    | .fsl rows => some (.int .i64 rows.length)
    | _ => none
  | some (.map _ _) => match x with
    | .nilm => some (.int .i64 0)
    | .map id => match h id with
      | some (.map es) => some (.int .i64 es.length)
      | _ => none
    | _ => none
  | some (.array n _) => some (.int .i64 n)
  | _ => none

theorem evLen_sound (hR : R X s w0 w) {t ty : TypeId} {x r : AV} {xv : Value} (hx : V X x xv) (h : evLen P s.h t x = some r) : ∃ y, (Builtin.len_ #[t] ty #[xv]).run P w = .ok y w ∧ V X r y := by
  unfold evLen at h
  split at h <;> try cases h
  · rename_i hu
    split at h <;> cases h
    cases hx
    rename_i s'
    have hsz : (⟨⟨s'⟩⟩ : ByteArray).size = s'.length := rfl
    exact ⟨_, by simp [Builtin.len_, run_underlying hu, hsz, goInt], .int _ _⟩
  · rename_i e hu
    split at h <;> cases h
    · cases hx; exact ⟨_, by simp [Builtin.len_, run_underlying hu, goInt], .int _ _⟩
    · cases hx; exact ⟨_, by simp [Builtin.len_, run_underlying hu, goInt], .int _ _⟩
    · cases hx
      · exact ⟨_, by simp [Builtin.len_, run_underlying hu, goInt], .int _ _⟩
      · exact ⟨_, by simp [Builtin.len_, run_underlying hu, goInt], .int _ _⟩
  · rename_i k e hu
    split at h <;> try cases h
    · cases hx; exact ⟨_, by simp [Builtin.len_, run_underlying hu, goInt], .int _ _⟩
    · rename_i id
      split at h <;> cases h
      rename_i es hk
      cases hx with
      | @map _ b base size hm =>
        obtain ⟨b', base', size', o, m1, m2, m3, m4⟩ := hR.live id _ hk
        rw [hm] at m1; cases m1
        cases m4 with
        | @map _ ms clock hl hmm =>
          refine ⟨_, ?_, .int _ _⟩
          have : (getObj b).run P w = .ok (.map ms clock) w := by simp only [getObj, Sem.run, m3]
          simp [Builtin.len_, run_underlying hu, goInt, this, hl]
  · rename_i n e hu
    exact ⟨_, by simp [Builtin.len_, run_underlying hu, goInt], .int _ _⟩

/-! ### maps with keys that are numbers or texts -/
def keyEq : AV → AV → Option Bool
  | .int k a, .int k' b => if k = k' then some (a == b) else none
  | .str a, .str b => some (a == b)
  | _, _ => none

def findA (k : AV) : List (AV × AV) → Nat → Option (Option (Nat × AV))
  | [], _ => some none
  | e :: es, i => match keyEq k e.1 with
    | some true => some (some (i, e.2))
    | some false => findA k es (i + 1)
    | none => none

/-- Is a key of the map's sort of keys? -/
def keySort : TypeDesc → AV → Bool
  | .int _, .int _ _ => true
  | .string, .str _ => true
  | _, _ => false

theorem ba_beq (a b : List UInt8) : ((⟨⟨a⟩⟩ : ByteArray) == ⟨⟨b⟩⟩) = (a == b) := by
  by_cases e : a = b
  · subst e
    have : ((⟨⟨a⟩⟩ : ByteArray) == ⟨⟨a⟩⟩) = true := by
      show ((⟨a⟩ : Array UInt8) == ⟨a⟩) = true
      simp
    simp [this]
  · have : ((⟨⟨a⟩⟩ : ByteArray) == ⟨⟨b⟩⟩) = false := by
      show ((⟨a⟩ : Array UInt8) == ⟨b⟩) = false
      simpa using e
    simp [this, e]

theorem sameNow_of {d : TypeDesc} {k u : AV} {kv uv : Value} {b : Bool} (hd : keySort d k = true) (hk : V X k kv) (hu : V X u uv) (h : keyEq k u = some b) : Instr.sameNow d kv uv = some b := by
  unfold keyEq at h
  split at h <;> try cases h
  · rename_i k1 a k2 c
    cases hk; cases hu
    split at h <;> cases h
    rename_i hkk
    subst hkk
    cases d <;> simp [keySort] at hd
    simp [Instr.sameNow]
  · rename_i a c
    cases hk; cases hu
    cases d <;> simp [keySort] at hd
    simp only [Instr.sameNow, ba_beq]

theorem findNow_of {d : TypeDesc} {k : AV} {kv : Value} (hd : keySort d k = true) (hk : V X k kv) : ∀ {es : List (AV × AV)} {ms : List MapEntry} {i : Nat} {r : Option (Nat × AV)}, es.length = ms.length →
    (∀ (i : Nat) x m, es[i]? = some x → ms[i]? = some m → V X x.1 m.key ∧ V X x.2 m.val) → findA k es i = some r →
    ∃ r', Instr.findNow d kv ms i = some r' ∧ (r = none ∧ r' = none ∨ ∃ j x y, r = some (j, x) ∧ r' = some (j, y) ∧ V X x y ∧ i ≤ j ∧ j < i + es.length ∧ ∃ e, es[j - i]? = some e ∧ keyEq k e.1 = some true)
  | [], ms, i, r, hl, hm, h => by
    have : ms = [] := List.eq_nil_of_length_eq_zero (by simpa using hl.symm)
    subst this
    simp [findA] at h
    exact ⟨none, rfl, .inl ⟨h.symm, rfl⟩⟩
  | e :: es, [], i, r, hl, hm, h => by simp at hl
  | e :: es, m :: ms, i, r, hl, hm, h => by
    obtain ⟨h1, h2⟩ := hm 0 e m rfl rfl
    unfold findA at h
    split at h <;> try cases h
    · rename_i he
      refine ⟨some (i, m.val), by simp [Instr.findNow, sameNow_of hd hk h1 he], .inr ⟨i, e.2, m.val, rfl, rfl, h2, Nat.le_refl _, by simp, e, by simp, he⟩⟩
    · rename_i he
      obtain ⟨r', hr', hrr⟩ := findNow_of hd hk (by simpa using hl) (fun j x y hx hy => hm (j + 1) x y (by simpa using hx) (by simpa using hy)) h
      refine ⟨r', by simp [Instr.findNow, sameNow_of hd hk h1 he, hr'], ?_⟩
      rcases hrr with ⟨rfl, rfl⟩ | ⟨j, x, y, rfl, rfl, hv, hij, hjl, e', he', hk'⟩
      · exact .inl ⟨rfl, rfl⟩
      · refine .inr ⟨j, x, y, rfl, rfl, hv, by omega, by simp; omega, e', ?_, hk'⟩
        rw [show j - i = (j - (i + 1)) + 1 by omega]
        simpa using he'

theorem checkKey_of {t : TypeId} {d : TypeDesc} {k : AV} {kv : Value} {b : Bool} (hu : P.underlying t = some d) (hd : keySort d k = true) (hk : V X k kv) : ∀ n, (Instr.checkKey b (n + 1) t kv).run P w = .ok () w := by
  intro n
  cases d <;> cases hk <;> simp [keySort] at hd <;> simp [Instr.checkKey, run_underlying hu]

/-- The entries of a map. -/
def mapOf (h : Heap) : AV → Option (List (AV × AV))
  | .nilm => some []
  | .map id => match h id with
    | some (.map es) => some es
    | _ => none
  | _ => none

def evLookup (P : Program) (h : Heap) (t : TypeId) (x k : AV) (ok : Bool) : Option AV :=
  match P.underlying t with
  | some (.map kt et) => match P.underlying kt, zero? P et, mapOf h x with
    | some kd, some z, some es => if keySort kd k = true then match findA k es 0 with
        | some (some (_, v)) => some (if ok then .tup [v, .bool true] else v)
        | some none => some (if ok then .tup [z, .bool false] else z)
        | none => none
      else none
    | _, _, _ => none
  | _ => none

theorem evLookup_sound (hR : R X s w0 w) {t : TypeId} {x k r : AV} {xv kv : Value} {ok : Bool} (hx : V X x xv) (hk : V X k kv) (h : evLookup P s.h t x k ok = some r) : ∃ y, (Instr.lookup t xv kv ok).run P w = .ok y w ∧ V X r y := by
  unfold evLookup at h
  split at h <;> try cases h
  rename_i kt et hu
  split at h <;> try cases h
  rename_i kd z es hkd hz hes
  split at h <;> try cases h
  rename_i hs
  obtain ⟨zv, hzr, hzv⟩ := run_zero (P := P) (X := X) w hz
  have hget : ∃ ms : Array MapEntry, (xv = .map none ∧ ms = #[] ∨ ∃ b clock, xv = .map (some b) ∧ (getObj b).run P w = .ok (.map ms clock) w) ∧ es.length = ms.toList.length ∧ (∀ (i : Nat) x m, es[i]? = some x → ms.toList[i]? = some m → V X x.1 m.key ∧ V X x.2 m.val) := by
    unfold mapOf at hes
    split at hes
    · cases hes; cases hx
      exact ⟨#[], .inl ⟨rfl, rfl⟩, by simp, fun i x m hx _ => by simp at hx⟩
    · rename_i id
      split at hes <;> cases hes
      rename_i hkk
      cases hx with
      | @map _ b base size hm =>
        obtain ⟨b', base', size', o, m1, m2, m3, m4⟩ := hR.live id _ hkk
        rw [hm] at m1; cases m1
        cases m4 with
        | @map _ ms clock hl hmm =>
          have hg : (getObj b).run P w = .ok (.map ms clock) w := by simp only [getObj, Sem.run, m3]
          exact ⟨ms, .inr ⟨b, clock, rfl, hg⟩, by simpa using hl, fun i x m h1 h2 => hmm i x m h1 (by simpa using h2)⟩
    · cases hes
  obtain ⟨ms, hrun, hl, hmm⟩ := hget
  have hck := checkKey_of (P := P) (w := w) (b := ms.isEmpty) hkd hs hk 9999
  have hbase : ∀ r', Instr.findNow kd kv ms.toList 0 = some r' → (Instr.lookup t xv kv ok).run P w = ((match r' with | some (_, v) => pure (v, true) | none => do pure (← zeroValue et, false) : Sem (Value × Bool)).run P w).andThen fun p w' => .ok (if ok then .tuple #[p.1, .bool p.2] else p.1) w' := by
    intro r' hr'
    unfold Instr.lookup
    rcases hrun with ⟨rfl, rfl⟩ | ⟨b, clock, rfl, hg⟩
    · simp only [Sem.run_bind, run_underlying hu, Result.andThen_ok, Sem.run_pure, hck, Instr.findKey, run_underlying hkd, hr']
      cases r' with
      | none => simp [hzr]
      | some p => cases p; simp
    · simp only [Sem.run_bind, run_underlying hu, Result.andThen_ok, Sem.run_pure, hg, hck, Instr.findKey, run_underlying hkd, hr']
      cases r' with
      | none => simp [hzr]
      | some p => cases p; simp
  split at h <;> cases h
  · rename_i j v hf
    obtain ⟨r', hr', hrr⟩ := findNow_of hs hk hl hmm hf
    rcases hrr with ⟨h1, _⟩ | ⟨j', x', y', h1, rfl, hv, _⟩
    · cases h1
    · cases h1
      refine ⟨_, hbase _ hr', ?_⟩
      cases ok
      · simpa using hv
      · simpa using V.tupL (.cons hv (.one (.bool true)))
  · rename_i hf
    obtain ⟨r', hr', hrr⟩ := findNow_of hs hk hl hmm hf
    rcases hrr with ⟨_, rfl⟩ | ⟨j', x', y', h1, _⟩
    · refine ⟨if ok then .tuple #[zv, .bool false] else zv, by rw [hbase _ hr']; simp [hzr], ?_⟩
      cases ok
      · simpa using hzv
      · simpa using V.tupL (.cons hzv (.one (.bool false)))
    · cases h1

end
end Go.Ev
