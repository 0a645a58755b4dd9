/- Maps; make; build; what is left. -/
import Derived.Test.YtpdgbhjhodhkiaaGreatDoorS9
import Derived.MapKept
set_option linter.unusedVariables false
set_option linter.unusedSimpArgs false
namespace Go.Proofs.YtpdgbhjhodhkiaaGreatDoor.AI
open Go
variable {kp : Kp}

section
variable {P : Program} {cx : Cx} {m : Mem} {w : World}

/-! ### Keys -/
theorem agg2 {a b : ByteArray} {v : Value} (h : VRel cx w (.agg [.str a, .str b]) v) : v = .agg #[.string a, .string b] := by
  simp only [VRel] at h
  obtain ⟨arr, rfl, h⟩ := h
  match hl : arr.toList, h with
  | [], h => simp [VRelL] at h
  | [_], h => simp [VRelL] at h
  | [x, y], h =>
    simp only [VRelL, VRel] at h
    obtain ⟨rfl, rfl, _⟩ := h
    have : arr = #[.string a, .string b] := by
      apply Array.ext'
      simpa using hl
    rw [this]
  | _ :: _ :: _ :: _, h => simp [VRelL] at h
theorem equal2 (n : Nat) {kt e : TypeId} {a1 a2 b1 b2 : ByteArray} (hd : P.underlying kt = some (.array 2 e)) (he : P.underlying e = some .string) (hs : sizeV P e = some 1) :
    (Op.equalIn (n + 2) kt (.agg #[.string a1, .string a2]) (.agg #[.string b1, .string b2])).run P w = .ok (a1 == b1 && a2 == b2) w := by
  have hs' := fun w => sizeV_some (P := P) (w := w) hs
  have hp : ∀ (x y : ByteArray) (i : Nat) (v : Value), (#[Value.string x, .string y] : Array Value)[i]? = some v → (part e #[.string x, .string y] i).run P w = .ok v w := by
    intro x y i v h
    simp [part, r_agg he, isAggD, h]
  have h0 : ∀ (x y : ByteArray), (part e #[.string x, .string y] 0).run P w = .ok (.string x) w := fun x y => hp x y 0 _ rfl
  have h1 : ∀ (x y : ByteArray), (part e #[.string x, .string y] 1).run P w = .ok (.string y) w := fun x y => hp x y 1 _ rfl
  have hq : ∀ (x y : ByteArray), (Op.equalIn (n + 1) e (.string x) (.string y)).run P w = .ok (x == y) w := fun x y => by simp [Op.equalIn, r_und he]
  rw [show n + 2 = (n + 1) + 1 from rfl]
  unfold Op.equalIn
  simp only [Sem.run_bind, r_und hd, Result.andThen_ok, hs']
  cases h1c : (a1 == b1) <;> cases h2c : (a2 == b2) <;>
    simp [Std.Legacy.Range.forIn_eq_forIn_range', Std.Legacy.Range.size, List.range', h0, h1, hq, h1c, h2c]
/-- What a key that is taken reads as. -/
theorem keyOk_cases {d : TypeDesc} {k : V} {ck : Value} (hk : keyOk P d k = true) (hr : VRel cx w k ck) :
    (MapKept.IsKey d ck ∧ V.pure k = true ∧ (∀ n e, d ≠ .array n e)) ∨ ∃ e a b, d = .array 2 e ∧ k = .agg [.str a, .str b] ∧ ck = .agg #[.string a, .string b] ∧ P.underlying e = some .string ∧ sizeV P e = some 1 := by
  unfold keyOk at hk
  split at hk
  · left; simp only [VRel] at hr; subst hr; have hk := beq_iff_eq.1 hk; subst hk; exact ⟨by simp [MapKept.IsKey], rfl, by simp⟩
  · left; simp only [VRel] at hr; subst hr; exact ⟨by simp [MapKept.IsKey], rfl, by simp⟩
  · left; simp only [VRel] at hr; subst hr; exact ⟨by simp [MapKept.IsKey], rfl, by simp⟩
  · rename_i e a b
    split at hk
    · rename_i h1 h2
      exact .inr ⟨e, a, b, rfl, rfl, agg2 hr, h1, h2⟩
    · cases hk
  · cases hk
theorem keyOk_pure {d : TypeDesc} {k : V} (hk : keyOk P d k = true) : V.pure k = true := by
  unfold keyOk at hk
  split at hk <;> first | rfl | cases hk
def RRel (cx : Cx) (w : World) : Option (Nat × V) → Option (Nat × Value) → Prop
  | none, none => True
  | some (i, v), some (j, c) => i = j ∧ VRel cx w v c
  | _, _ => False
theorem keyEq_now {d : TypeDesc} {k k' : V} {ck ck' : Value} {b : Bool} (hd : ∀ n e, d ≠ .array n e) (hr : VRel cx w k ck) (hr' : VRel cx w k' ck') (h : keyEq P d k k' = some b) : Instr.sameNow d ck ck' = some b := by
  unfold keyEq at h
  split at h
  · simp only [VRel] at hr hr'
    subst hr hr'
    simpa [Instr.sameNow] using h
  · simp only [VRel] at hr hr'
    subst hr hr'
    simpa [Instr.sameNow] using h
  · simp only [VRel] at hr hr'
    subst hr hr'
    simpa [Instr.sameNow] using h
  · exact absurd rfl (hd _ _)
  · cases h
theorem find_now {d : TypeDesc} {k : V} {ck : Value} (hd : ∀ n e, d ≠ .array n e) (hr : VRel cx w k ck) : ∀ (es : List (V × V)) (fs : List MapEntry) (i : Nat) {r : Option (Nat × V)}, EsRel cx w es fs → findV P d k es i = some r → ∃ r', Instr.findNow d ck fs i = some r' ∧ RRel cx w r r'
  | [], [], i, r, _, h => by
    simp only [findV] at h
    injection h with h
    subst h
    exact ⟨none, rfl, trivial⟩
  | [], _ :: _, _, _, h, _ => by simp [EsRel] at h
  | _ :: _, [], _, _, h, _ => by simp [EsRel] at h
  | (k', v) :: es, e :: fs, i, r, he, h => by
    simp only [EsRel] at he
    simp only [findV] at h
    cases hq : keyEq P d k k' with
    | none => simp [hq] at h
    | some b =>
      have hn := keyEq_now hd hr he.1.2.2.1 hq
      cases b with
      | true =>
        simp only [hq] at h
        injection h with h
        subst h
        exact ⟨some (i, e.val), by simp [Instr.findNow, hn], rfl, he.1.2.2.2⟩
      | false =>
        simp only [hq] at h
        obtain ⟨r', h1, h2⟩ := find_now hd hr es fs (i + 1) he.2 h
        exact ⟨r', by simp [Instr.findNow, hn, h1], h2⟩
theorem find_asking {kt e : TypeId} {a b : ByteArray} (hd : P.underlying kt = some (.array 2 e)) (he : P.underlying e = some .string) (hs : sizeV P e = some 1) : ∀ (es : List (V × V)) (fs : List MapEntry) (i : Nat) {r : Option (Nat × V)}, EsRel cx w es fs →
    findV P (.array 2 e) (.agg [.str a, .str b]) es i = some r → ∃ r', (Instr.findAsking kt (.agg #[.string a, .string b]) fs i).run P w = .ok r' w ∧ RRel cx w r r'
  | [], [], i, r, _, h => by
    simp only [findV] at h
    injection h with h
    subst h
    exact ⟨none, rfl, trivial⟩
  | [], _ :: _, _, _, h, _ => by simp [EsRel] at h
  | _ :: _, [], _, _, h, _ => by simp [EsRel] at h
  | (k', v) :: es, f :: fs, i, r, hes, h => by
    simp only [EsRel] at hes
    simp only [findV] at h
    cases hq : keyEq P (.array 2 e) (.agg [.str a, .str b]) k' with
    | none => simp [hq] at h
    | some q =>
      have hkk : ∃ b1 b2, k' = .agg [.str b1, .str b2] ∧ q = (a == b1 && b == b2) := by
        unfold keyEq at hq
        split at hq
        · simp at *
        · simp at *
        · simp at *
        · rename_i e' a1 a2 b1 b2 h1 h2
          simp only [V.agg.injEq, List.cons.injEq, V.str.injEq, and_true] at h2
          obtain ⟨rfl, rfl⟩ := h2
          simp only [TypeDesc.array.injEq, true_and] at h1
          subst h1
          rw [he, hs] at hq
          simp only [Option.some.injEq] at hq
          exact ⟨b1, b2, rfl, hq.symm⟩
        · cases hq
      obtain ⟨b1, b2, rfl, rfl⟩ := hkk
      have hk := agg2 hes.1.2.2.1
      have heq : (Op.equal kt (.agg #[.string a, .string b]) f.key).run P w = .ok (a == b1 && b == b2) w := by
        rw [hk]
        exact equal2 9998 hd he hs
      cases hb : (a == b1 && b == b2) with
      | true =>
        simp only [hq, hb] at h
        injection h with h
        subst h
        exact ⟨some (i, f.val), by simp [Instr.findAsking, heq, hb], rfl, hes.1.2.2.2⟩
      | false =>
        simp only [hq, hb] at h
        obtain ⟨r', h1, h2⟩ := find_asking hd he hs es fs (i + 1) hes.2 h
        exact ⟨r', by simp [Instr.findAsking, heq, hb, h1], h2⟩
theorem find_sound {kt : TypeId} {d : TypeDesc} {k : V} {ck : Value} (hd : P.underlying kt = some d) (hk : keyOk P d k = true) (hr : VRel cx w k ck) {es : List (V × V)} {fs : List MapEntry} {r : Option (Nat × V)} (he : EsRel cx w es fs) (h : findV P d k es 0 = some r) :
    ∃ r', (Instr.findKey kt ck fs).run P w = .ok r' w ∧ RRel cx w r r' := by
  rcases keyOk_cases hk hr with ⟨h1, h2, h3⟩ | ⟨e, a, b, rfl, rfl, rfl, h4, h5⟩
  · obtain ⟨r', h4, h5⟩ := find_now (P := P) h3 hr es fs 0 he h
    exact ⟨r', MapKept.run_findKey hd h4, h5⟩
  · cases fs with
    | nil =>
      cases es with
      | nil =>
        simp only [findV] at h
        injection h with h
        subst h
        exact ⟨none, by simp [Instr.findKey, r_und hd, Instr.findNow], trivial⟩
      | cons _ _ => simp [EsRel] at he
    | cons f fs =>
      obtain ⟨r', h6, h7⟩ := find_asking (P := P) hd h4 h5 es (f :: fs) 0 he h
      refine ⟨r', ?_, h7⟩
      simp [Instr.findKey, r_und hd, Instr.findNow, Instr.sameNow, h6]
theorem check_sound {kt : TypeId} {d : TypeDesc} {k : V} {ck : Value} (hd : P.underlying kt = some d) (hk : keyOk P d k = true) (hr : VRel cx w k ck) (em : Bool) (n : Nat) : (Instr.checkKey em (n + 2) kt ck).run P w = .ok () w := by
  rcases keyOk_cases hk hr with ⟨h1, h2, h3⟩ | ⟨e, a, b, rfl, rfl, rfl, h4, h5⟩
  · exact MapKept.run_checkKey hd h1 em (n + 1)
  · have hs' := fun w => sizeV_some (P := P) (w := w) h5
    have hp : ∀ (i : Nat) (v : Value), (#[Value.string a, .string b] : Array Value)[i]? = some v → (part e #[.string a, .string b] i).run P w = .ok v w := by
      intro i v h
      simp [part, r_agg h4, isAggD, h]
    have h0 := hp 0 _ rfl
    have h1 := hp 1 _ rfl
    have hc : ∀ s, (Instr.checkKey em (n + 1) e (.string s)).run P w = .ok () w := fun s => MapKept.run_checkKey h4 (by simp [MapKept.IsKey]) em n
    rw [show n + 2 = (n + 1) + 1 from rfl]
    unfold Instr.checkKey
    simp only [Sem.run_bind, r_und hd, Result.andThen_ok]
    simp [Std.Legacy.Range.forIn_eq_forIn_range', Std.Legacy.Range.size, List.range', h0, h1, hs', hc]
theorem stays_sound {d : TypeDesc} {k : V} {ck : Value} (hk : keyOk P d k = true) (hr : VRel cx w k ck) (co : Value) (ho : Instr.sameBits 10000 co ck = true) : (Instr.keyThatStays co ck).run P w = .ok ck w := by
  simp [Instr.keyThatStays, ho]

theorem lookup_sound (S : Sim kp cx m w) {t : TypeId} {x k v : V} {cv ck : Value} {ok : Bool} (hx : VRel cx w x cv) (hk : VRel cx w k ck) (h : lookupV P m t x k ok = some v) : OpRes kp P cx m w v m (Instr.lookup t cv ck ok) := by
  unfold lookupV at h
  split at h
  · rename_i kt et hd
    split at h
    · rename_i d es z hdk hes hz
      split at h
      · cases h
      · rename_i hko
        have hko : keyOk P d k = true := by simpa using hko
        have hzz : ∃ i zv, P.info? et = some i ∧ i.zero = some zv ∧ z = ofConst zv := by
          unfold zeroV at hz
          cases hi : P.info? et with
          | none => simp [hi] at hz
          | some i =>
            cases hzv : i.zero with
            | none => simp [hi, hzv] at hz
            | some zv =>
              simp only [hi, hzv, Option.map_some] at hz
              injection hz with hz
              exact ⟨i, zv, rfl, hzv, hz.symm⟩
        obtain ⟨i, zv, hi, hzv, rfl⟩ := hzz
        -- the entries
        have hent : ∃ fs : Array MapEntry, EsRel cx w es fs.toList ∧ ((cv = .map none ∧ fs = #[]) ∨ ∃ c clk, cv = .map (some c) ∧ w.heap[c]? = some (.map fs clk)) := by
          cases x <;> simp only at hes <;> try cases hes
          case nilm =>
            simp only [VRel] at hx
            exact ⟨#[], by simp [EsRel], .inl ⟨hx, rfl⟩⟩
          case map b =>
            split at hes
            · rename_i es' hB
              injection hes with hes
              subst hes
              have hb := S.B b _ hB
              simp only [BOk] at hb
              obtain ⟨c, fs, clk, h1, h2, h3, _⟩ := hb
              simp only [VRel] at hx
              obtain ⟨c', h4, rfl⟩ := hx
              rw [h1] at h4
              injection h4 with h4
              subst h4
              exact ⟨fs, h3, .inr ⟨c, clk, rfl, h2⟩⟩
            · cases hes
        obtain ⟨fs, h1, h2⟩ := hent
        cases hf : findV P d k es 0 with
        | none => simp [hf] at h
        | some r =>
          obtain ⟨r', h3, h4⟩ := find_sound hdk hko hk h1 hf
          have hc := check_sound (P := P) hdk hko hk fs.isEmpty 9998
          cases r with
          | none =>
            cases r' with
            | some _ => simp [RRel] at h4
            | none =>
              simp only [hf] at h
              injection h with h
              subst h
              refine OpRes.same S (cv := if ok then .tuple #[zv, .bool false] else zv) ?_ ?_
              · rcases h2 with ⟨rfl, rfl⟩ | ⟨c, clk, rfl, h2⟩
                · simp only [Instr.lookup, Sem.run_bind, r_und hd, Result.andThen_ok, Sem.run_pure, hc, h3, r_zero hi hzv]
                · simp only [Instr.lookup, Sem.run_bind, r_und hd, Result.andThen_ok, Sem.run_pure, MapKept.run_getObj_map h2, hc, h3, r_zero hi hzv]
              · cases ok
                · exact ofConst_rel zv
                · simp only [if_true, VRel]
                  exact ⟨_, rfl, ofConst_rel zv, by simp [VRel], trivial⟩
          | some q =>
            obtain ⟨j, vq⟩ := q
            cases r' with
            | none => simp [RRel] at h4
            | some q' =>
              obtain ⟨j', cq⟩ := q'
              simp only [RRel] at h4
              simp only [hf] at h
              injection h with h
              subst h
              refine OpRes.same S (cv := if ok then .tuple #[cq, .bool true] else cq) ?_ ?_
              · rcases h2 with ⟨rfl, rfl⟩ | ⟨c, clk, rfl, h2⟩
                · simp only [Instr.lookup, Sem.run_bind, r_und hd, Result.andThen_ok, Sem.run_pure, hc, h3]
                · simp only [Instr.lookup, Sem.run_bind, r_und hd, Result.andThen_ok, Sem.run_pure, MapKept.run_getObj_map h2, hc, h3]
              · cases ok
                · exact h4.2
                · simp only [if_true, VRel]
                  exact ⟨_, rfl, h4.2, by simp [VRel], trivial⟩
    · cases h
  · cases h

/-! ### Updates -/
theorem EsRel.length : ∀ {es : List (V × V)} {fs : List MapEntry}, EsRel cx w es fs → es.length = fs.length
  | [], [], _ => rfl
  | [], _ :: _, h => by simp [EsRel] at h
  | _ :: _, [], h => by simp [EsRel] at h
  | _ :: es, _ :: fs, h => by
    simp only [EsRel] at h
    simp [EsRel.length h.2]
theorem EsRel.push : ∀ {es : List (V × V)} {fs : List MapEntry} {k v : V} {f : MapEntry}, EsRel cx w es fs → V.pure k = true → VRel cx w k f.key → VRel cx w v f.val → EsRel cx w (es ++ [(k, v)]) (fs ++ [f])
  | [], [], k, v, f, _, hp, hk, hv => by
    simp only [List.nil_append, EsRel]
    exact ⟨⟨hp, maxA_pure k hp, hk, hv⟩, trivial⟩
  | [], _ :: _, _, _, _, h, _, _, _ => by simp [EsRel] at h
  | _ :: _, [], _, _, _, h, _, _, _ => by simp [EsRel] at h
  | _ :: es, _ :: fs, k, v, f, h, hp, hk, hv => by
    simp only [EsRel] at h
    simp only [List.cons_append, EsRel]
    exact ⟨h.1, EsRel.push h.2 hp hk hv⟩
theorem EsRel.modify : ∀ {es : List (V × V)} {fs : List MapEntry} (i : Nat) {k v : V} {g : MapEntry → MapEntry}, EsRel cx w es fs → V.pure k = true → (∀ f, VRel cx w k (g f).key) → (∀ f, VRel cx w v (g f).val) →
    EsRel cx w (es.modify i fun _ => (k, v)) (fs.modify i g)
  | [], [], i, _, _, _, _, _, _, _ => by simp [EsRel]
  | [], _ :: _, _, _, _, _, h, _, _, _ => by simp [EsRel] at h
  | _ :: _, [], _, _, _, _, h, _, _, _ => by simp [EsRel] at h
  | _ :: es, _ :: fs, 0, k, v, g, h, hp, hk, hv => by
    simp only [EsRel] at h
    simp only [List.modify_zero_cons, EsRel]
    exact ⟨⟨hp, maxA_pure k hp, hk _, hv _⟩, h.2⟩
  | _ :: es, _ :: fs, i + 1, k, v, g, h, hp, hk, hv => by
    simp only [EsRel] at h
    simp only [List.modify_succ_cons, EsRel]
    exact ⟨h.1, EsRel.modify i h.2 hp hk hv⟩
theorem EsRel.erase : ∀ {es : List (V × V)} {fs : List MapEntry} (i : Nat), EsRel cx w es fs → EsRel cx w (es.eraseIdx i) (fs.eraseIdx i)
  | [], [], i, _ => by simp [EsRel]
  | [], _ :: _, _, h => by simp [EsRel] at h
  | _ :: _, [], _, h => by simp [EsRel] at h
  | _ :: es, _ :: fs, 0, h => by
    simp only [EsRel] at h
    simpa using h.2
  | _ :: es, _ :: fs, i + 1, h => by
    simp only [EsRel] at h
    simp only [List.eraseIdx_cons_succ, EsRel]
    exact ⟨h.1, EsRel.erase i h.2⟩
theorem EsRel.on' {cx' : Cx} {w' : World} (S : Sim kp cx m w) (L : Later cx w cx' w') (hfa : ∀ i c, i < m.A.length → cx.fa i = some c → cx'.fa i = some c) {es : List (V × V)} {fs : List MapEntry} (h : EsRel cx w es fs) : EsRel cx' w' es fs :=
  EsRel.on L hfa es fs (EsRel.maxA S.fa es fs h) h
/-- The key that is found is the key that is asked. -/
theorem find_same {d : TypeDesc} {k : V} {ck : Value} (hk : keyOk P d k = true) (hr : VRel cx w k ck) : ∀ (es : List (V × V)) (fs : List MapEntry) (i j : Nat) (v : V), EsRel cx w es fs → findV P d k es i = some (some (j, v)) → i ≤ j ∧ ∃ f, fs[j - i]? = some f ∧ Instr.sameBits 10000 f.key ck = true
  | [], _, _, _, _, _, h => by simp [findV] at h
  | _ :: _, [], _, _, _, h, _ => by simp [EsRel] at h
  | (k', v') :: es, f :: fs, i, j, v, he, h => by
    simp only [EsRel] at he
    simp only [findV] at h
    cases hq : keyEq P d k k' with
    | none => simp [hq] at h
    | some b =>
      cases b with
      | false =>
        simp only [hq] at h
        obtain ⟨h1, f', h2, h3⟩ := find_same hk hr es fs (i + 1) j v he.2 h
        refine ⟨by omega, f', ?_, h3⟩
        rw [show j - i = (j - (i + 1)) + 1 from by omega]
        simpa using h2
      | true =>
        simp only [hq] at h
        simp only [Option.some.injEq, Prod.mk.injEq] at h
        obtain ⟨rfl, rfl⟩ := h
        refine ⟨Nat.le_refl _, f, by simp, ?_⟩
        have hkk := he.1.2.2.1
        unfold keyEq at hq
        split at hq
        · split at hq
          · rename_i e
            simp only [VRel] at hr hkk
            rw [hr, hkk]
            simp only [Option.some.injEq, beq_iff_eq] at hq
            simp [Instr.sameBits, e, hq]
          · cases hq
        · simp only [VRel] at hr hkk
          rw [hr, hkk]
          simp only [Option.some.injEq] at hq
          have := (MapKept.bytes_beq _ _).1 hq
          subst this
          simp [Instr.sameBits, (MapKept.bytes_beq _ _).2]
        · simp only [VRel] at hr hkk
          rw [hr, hkk]
          simp only [Option.some.injEq, beq_iff_eq] at hq
          simp [Instr.sameBits, hq]
        · rename_i e a1 a2 b1 b2
          split at hq
          · simp only [Option.some.injEq, Bool.and_eq_true] at hq
            have e1 := (MapKept.bytes_beq _ _).1 hq.1
            have e2 := (MapKept.bytes_beq _ _).1 hq.2
            subst e1 e2
            rw [agg2 hr, agg2 hkk]
            have hb : ∀ x : ByteArray, (x == x) = true := fun x => (MapKept.bytes_beq _ _).2 rfl
            simp [Instr.sameBits, hb]
          · cases hq
        · cases hq

theorem setObj_put {c : Nat} {es : Array MapEntry} {clk : Nat} (o : Obj) (hb : w.heap[c]? = some (.map es clk)) : (setObj c o).run P w = .ok () (putO w c o) := MapKept.run_setObj_map o hb

theorem update_sound (S : Sim kp cx m w) {t : TypeId} {x k v : V} {cv ck cw : Value} {m' : Mem} (hx : VRel cx w x cv) (hk : VRel cx w k ck) (hv : VRel cx w v cw) (h : updateV P m t x k v = some m') :
    ∃ w', (Instr.mapUpdate t cv ck cw).run P w = .ok () w' ∧ Sim kp cx m' w' ∧ Ev m.A.length cx m w cx m' w' := by
  unfold updateV at h
  split at h
  · rename_i kt et b hd
    split at h
    · rename_i d es hdk hB
      split at h
      · rename_i hcond
        obtain ⟨hlb, hko⟩ := hcond
        have hb := S.B b _ hB
        simp only [BOk] at hb
        obtain ⟨c, fs, clk, h1, h2, h3, h4⟩ := hb
        simp only [VRel] at hx
        obtain ⟨c', h5, rfl⟩ := hx
        rw [h1] at h5
        injection h5 with h5
        subst h5
        cases hf : findV P d k es 0 with
        | none => simp [hf] at h
        | some r =>
          obtain ⟨r', h6, h7⟩ := find_sound hdk hko hk h3 hf
          have hc := check_sound (P := P) hdk hko hk false 9998
          have hpk := keyOk_pure hko
          cases r with
          | none =>
            cases r' with
            | some _ => simp [RRel] at h7
            | none =>
              simp only [hf] at h
              injection h with h
              subst h
              have hput := sim_set_O (y := .map (es ++ [(k, v)])) (o := .map (fs.push { key := ck, val := cw, born := clk }) (clk + 1)) S hB hlb h1 h4 (lt_of_heap h2) (fun L hn => by
                simp only [BOk]
                refine ⟨c, _, _, h1, hn, ?_, h4⟩
                rw [Array.toList_push]
                exact EsRel.on' S L (fun _ _ _ h => h) (EsRel.push h3 hpk hk hv)) (max m.hi (V.maxA v))
              refine ⟨_, ?_, hput.1, hput.2⟩
              simp only [Instr.mapUpdate, Sem.run_bind, r_und hd, Result.andThen_ok, MapKept.run_getObj_map h2, hc, h6]
              exact setObj_put _ h2
          | some q =>
            obtain ⟨j, vq⟩ := q
            cases r' with
            | none => simp [RRel] at h7
            | some q' =>
              obtain ⟨j', cq⟩ := q'
              simp only [RRel] at h7
              obtain ⟨rfl, h7⟩ := h7
              simp only [hf] at h
              injection h with h
              subst h
              obtain ⟨_, f, h8, h9⟩ := find_same hko hk es fs.toList 0 j vq h3 hf
              have hst := stays_sound (P := P) hko hk f.key h9
              have hput := sim_set_O (y := .map (es.modify j fun _ => (k, v))) (o := .map (fs.modify j fun e => { e with key := ck, val := cw }) clk) S hB hlb h1 h4 (lt_of_heap h2) (fun L hn => by
                simp only [BOk]
                refine ⟨c, _, _, h1, hn, ?_, h4⟩
                rw [Array.toList_modify]
                exact EsRel.on' S L (fun _ _ _ h => h) (EsRel.modify j h3 hpk (fun _ => hk) (fun _ => hv))) (max m.hi (V.maxA v))
              refine ⟨_, ?_, hput.1, hput.2⟩
              have h8' : fs[j]? = some f := by simpa using h8
              simp only [Instr.mapUpdate, Sem.run_bind, r_und hd, Result.andThen_ok, MapKept.run_getObj_map h2, hc, h6, h8', Option.map_some, Option.getD_some, hst]
              exact setObj_put _ h2
      · cases h
    · cases h
  · cases h

theorem delete_sound (S : Sim kp cx m w) {t : TypeId} {x k : V} {cv ck : Value} {m' : Mem} (ts : Array TypeId) (ht : ts[0]? = some t) (ty : TypeId) (hx : VRel cx w x cv) (hk : VRel cx w k ck) (h : deleteV P m t x k = some m') :
    ∃ w', (Builtin.delete_ ts ty #[cv, ck]).run P w = .ok (.tuple #[]) w' ∧ Sim kp cx m' w' ∧ Ev m.A.length cx m w cx m' w' := by
  unfold deleteV at h
  split at h
  · rename_i kt et b hd
    split at h
    · rename_i d es hdk hB
      split at h
      · rename_i hcond
        obtain ⟨hlb, hko⟩ := hcond
        have hb := S.B b _ hB
        simp only [BOk] at hb
        obtain ⟨c, fs, clk, h1, h2, h3, h4⟩ := hb
        simp only [VRel] at hx
        obtain ⟨c', h5, rfl⟩ := hx
        rw [h1] at h5
        injection h5 with h5
        subst h5
        cases hf : findV P d k es 0 with
        | none => simp [hf] at h
        | some r =>
          obtain ⟨r', h6, h7⟩ := find_sound hdk hko hk h3 hf
          have hc := check_sound (P := P) hdk hko hk fs.isEmpty 9998
          cases r with
          | none =>
            cases r' with
            | some _ => simp [RRel] at h7
            | none =>
              simp only [hf] at h
              injection h with h
              subst h
              refine ⟨w, ?_, S, Ev.refl _ _ _ _ (Nat.le_refl _)⟩
              simp only [Builtin.delete_, ht, List.getElem?_toArray, List.getElem?_cons_succ, List.getElem?_cons_zero, Sem.run_bind, r_und hd, Result.andThen_ok, MapKept.run_getObj_map h2, hc, h6, setObj_put _ h2, putO_self h2, Sem.run_pure]
          | some q =>
            obtain ⟨j, vq⟩ := q
            cases r' with
            | none => simp [RRel] at h7
            | some q' =>
              obtain ⟨j', cq⟩ := q'
              simp only [RRel] at h7
              obtain ⟨rfl, h7⟩ := h7
              simp only [hf] at h
              injection h with h
              subst h
              have hput := sim_set_O (y := .map (es.eraseIdx j)) (o := .map (fs.eraseIdxIfInBounds j) clk) S hB hlb h1 h4 (lt_of_heap h2) (fun L hn => by
                simp only [BOk]
                refine ⟨c, _, _, h1, hn, ?_, h4⟩
                have : (fs.eraseIdxIfInBounds j).toList = fs.toList.eraseIdx j := by
                  unfold Array.eraseIdxIfInBounds
                  split
                  · simp
                  · rename_i hn
                    rw [List.eraseIdx_of_length_le (by simpa using hn)]
                rw [this]
                exact EsRel.on' S L (fun _ _ _ h => h) (EsRel.erase j h3)) m.hi
              refine ⟨_, ?_, hput.1, hput.2⟩
              simp only [Builtin.delete_, ht, List.getElem?_toArray, List.getElem?_cons_succ, List.getElem?_cons_zero, Sem.run_bind, r_und hd, Result.andThen_ok, MapKept.run_getObj_map h2, hc, h6, setObj_put _ h2, Sem.run_pure]
      · cases h
    · cases h
  · cases h
end
end Go.Proofs.YtpdgbhjhodhkiaaGreatDoor.AI
