/- Typed values: operations that read. -/
import Derived.Test.YtpdgbhjhodhkiaaGreatDoorW2
set_option linter.unusedVariables false
set_option linter.unusedSimpArgs false
namespace Go.Proofs.YtpdgbhjhodhkiaaGreatDoor.AI
open Go
variable {T : Nat → Type} {C : Cod T} {R : Type} {P : Program}

structure WCfg (T : Nat → Type) where
  C : Cod T
  kd : TypeId → Option Nat

/-! ### Reading -/
def cellsK (C : Cod T) (wm : WM T) (p : W T) (n : Nat) (k : List (W T) → Option R) : Option R :=
  match p with
  | .ptr i off => opK ((wm.A[i]?).bind fun ws => subX ws off n) k
  | .relem kk x off => if off + n ≤ C.size kk then opK (subX (C.out kk x) off n) k else none
  | .oelem kk h i off =>
    match wm.H[h]? with
    | some (.rows k' l) => if k' = kk ∧ off + n ≤ C.size k' then opK l[i]? fun x => opK (subX (C.out k' x) off n) k else none
    | _ => none
  | _ => none
theorem sub_in {cs : List V} {o off n sz : Nat} (h : off + n ≤ sz) (hz : 0 < sz) {vs : List V} (hs : sub ((cs.drop o).take sz) off n = some vs) (hl : ((cs.drop o).take sz).length = sz) : sub cs (o + off) n = some vs := by
  unfold sub at hs ⊢
  rw [if_pos (by omega)] at hs
  simp only [List.length_take, List.length_drop] at hl
  rw [if_pos (by omega)]
  injection hs with hs
  rw [← hs, ← List.drop_drop, List.drop_take, List.take_take, Nat.min_eq_left (by omega)]
theorem cellsK_sound (ok : CodOk C) {wm : WM T} {p : W T} {n : Nat} {k : List (W T) → Option R} {r : R} (h : cellsK C wm p n k = some r) :
    ∃ ws, k ws = some r ∧ ∀ {bs α β m v}, WSim bs C α β wm m → Rep C α β p v → ∃ vs, rdCells m v n = some vs ∧ RepL C α β ws vs := by
  unfold cellsK at h
  split at h
  · rename_i i off
    obtain ⟨ws, h1, h2⟩ := opK_some h
    obtain ⟨cs, h3, h4⟩ := Option.bind_eq_some_iff.1 h1
    refine ⟨ws, h2, fun S hr => ?_⟩
    simp only [Rep] at hr
    obtain ⟨j, hj, rfl⟩ := hr
    obtain ⟨vs, h5, h6⟩ := S.A _ _ _ hj h3
    obtain ⟨vs', h7, h8⟩ := sub_rep h6 h4
    exact ⟨vs', by simp only [rdCells, h5, Option.bind_some, h7], h8⟩
  · rename_i kk x off
    split at h
    · rename_i hle
      obtain ⟨ws, h1, h2⟩ := opK_some h
      refine ⟨ws, h2, fun S hr => ?_⟩
      simp only [Rep] at hr
      obtain ⟨cs, o, rfl, hc⟩ := hr
      obtain ⟨vs', h7, h8⟩ := sub_rep (ok.out _ _ _ hc _ _) h1
      exact ⟨vs', by simp only [rdCells]; exact sub_in hle (ok.pos _) h7 (ok.len _ _ _ hc), h8⟩
    · cases h
  · rename_i kk hh i off
    split at h
    · rename_i k' l he
      split at h
      · rename_i hle
        obtain ⟨x, h0, h⟩ := opK_some h
        obtain ⟨ws, h1, h2⟩ := opK_some h
        refine ⟨ws, h2, fun S hr => ?_⟩
        simp only [Rep] at hr
        obtain ⟨b, ver, nn, hb, rfl⟩ := hr
        rcases S.rows he with ⟨hb', _⟩ | ⟨b', ver', cs, hb', hB, hcr⟩
        · rw [hb] at hb'; cases hb'
        · rw [hb] at hb'
          injection hb' with hb'; injection hb' with hb'
          simp only [Prod.mk.injEq] at hb'
          obtain ⟨rfl, rfl, rfl⟩ := hb'
          have hc := hcr.get ok h0
          obtain ⟨vs', h7, h8⟩ := sub_rep (ok.out _ _ _ hc _ _) h1
          refine ⟨vs', ?_, h8⟩
          simp only [rdCells, hB, if_true]
          rw [← hle.1]
          exact sub_in hle.2 (ok.pos _) h7 (ok.len _ _ _ hc)
      · cases h
    · cases h
  · cases h
def loadWK (C : Cod T) (P : Program) (wm : WM T) (t : TypeId) (p : W T) (k : W T → Option R) : Option R :=
  match P.info? t, P.underlying t with
  | some i, some d =>
    if isAggD d then cellsK C wm p i.size fun cs => k (.agg cs)
    else cellsK C wm p 1 fun
      | [x] => k x
      | _ => none
  | _, _ => none
theorem loadWK_sound (ok : CodOk C) {wm : WM T} {t : TypeId} {p : W T} {k : W T → Option R} {r : R} (h : loadWK C P wm t p k = some r) :
    ∃ w, k w = some r ∧ ∀ {bs α β m v}, WSim bs C α β wm m → Rep C α β p v → ∃ u, loadV P m t v = some u ∧ Rep C α β w u := by
  unfold loadWK at h
  split at h
  · rename_i i d hi hd
    split at h
    · rename_i ha
      obtain ⟨ws, h1, h2⟩ := cellsK_sound ok h
      refine ⟨_, h1, fun S hr => ?_⟩
      obtain ⟨vs, h3, h4⟩ := h2 S hr
      refine ⟨.agg vs, by simp only [loadV, hi, hd, ha, if_true, h3, Option.map_some], ?_⟩
      simp only [Rep]
      exact ⟨_, rfl, h4⟩
    · rename_i ha
      obtain ⟨ws, h1, h2⟩ := cellsK_sound ok h
      split at h1
      · rename_i x
        refine ⟨x, h1, fun S hr => ?_⟩
        obtain ⟨vs, h3, h4⟩ := h2 S hr
        simp only [RepL] at h4
        obtain ⟨v, vs', rfl, h5, rfl⟩ := h4
        exact ⟨v, by simp only [loadV, hi, hd]; rw [if_neg ha, h3]; rfl, h5⟩
      · cases h1
  · cases h

def paddW (p : W T) (n : Nat) : Option (W T) :=
  match p with
  | .ptr i off => some (.ptr i (off + n))
  | .relem k x off => some (.relem k x (off + n))
  | .oelem k h i off => some (.oelem k h i (off + n))
  | _ => none
theorem paddW_sound {p w : W T} {n : Nat} (h : paddW p n = some w) {α β v} (hr : Rep C α β p v) : ∃ u, padd v n = some u ∧ Rep C α β w u := by
  unfold paddW at h
  split at h <;> first | (injection h with h; subst h) | cases h
  · simp only [Rep] at hr
    obtain ⟨j, hj, rfl⟩ := hr
    exact ⟨_, rfl, by simp only [Rep]; exact ⟨j, hj, rfl⟩⟩
  · simp only [Rep] at hr
    obtain ⟨cs, o, rfl, hc⟩ := hr
    exact ⟨_, rfl, by simp only [Rep]; exact ⟨cs, o, by rw [Nat.add_assoc], hc⟩⟩
  · simp only [Rep] at hr
    obtain ⟨b, ver, nn, hb, rfl⟩ := hr
    exact ⟨_, rfl, by simp only [Rep]; exact ⟨b, ver, nn, hb, by rw [Nat.add_assoc]⟩⟩
def fieldAddrW (P : Program) (s : TypeId) (p : W T) (f : Nat) : Option (W T) :=
  match P.underlying s with
  | some (.struct fields) =>
    match fields[f]? with
    | some fd =>
      match sizeV P fd.type with
      | some n => if n = 0 then none else paddW p fd.offset
      | none => none
    | none => none
  | _ => none
theorem fieldAddrW_sound {s : TypeId} {p w : W T} {f : Nat} (h : fieldAddrW P s p f = some w) {α β v} (hr : Rep C α β p v) : ∃ u, fieldAddrV P s v f = some u ∧ Rep C α β w u := by
  unfold fieldAddrW at h
  split at h
  · rename_i fields hu
    split at h
    · rename_i fd hfd
      split at h
      · rename_i n hn
        split at h
        · cases h
        · rename_i h0
          obtain ⟨u, h1, h2⟩ := paddW_sound h hr
          refine ⟨u, ?_, h2⟩
          simp only [fieldAddrV, hu, hfd, hn]
          rw [if_neg h0]
          exact h1
      · cases h
    · cases h
  · cases h
def partW (P : Program) (t : TypeId) (cs : List (W T)) (off : Nat) : Option (W T) :=
  match P.info? t, P.underlying t with
  | some i, some d => if isAggD d then (subX cs off i.size).map .agg else cs[off]?
  | _, _ => none
theorem partW_sound {t : TypeId} {cs : List (W T)} {off : Nat} {w : W T} (h : partW P t cs off = some w) {α β vs} (hr : RepL C α β cs vs) : ∃ u, partV P t vs off = some u ∧ Rep C α β w u := by
  unfold partW at h
  unfold partV
  split at h
  · rename_i i d hi hd
    simp only [hi, hd]
    split at h
    · rename_i ha
      rw [if_pos ha]
      obtain ⟨ws, h1, rfl⟩ := Option.map_eq_some_iff.1 h
      obtain ⟨vs', h2, h3⟩ := sub_rep hr h1
      exact ⟨_, by rw [h2]; rfl, by simp only [Rep]; exact ⟨_, rfl, h3⟩⟩
    · rename_i ha
      rw [if_neg ha]
      exact hr.get h
  · cases h
def fieldW (P : Program) (t : TypeId) (x : W T) (f : Nat) : Option (W T) :=
  match P.underlying t, x with
  | some (.struct fields), .agg cs =>
    match fields[f]? with
    | some fd => partW P fd.type cs fd.offset
    | none => none
  | _, _ => none
theorem fieldW_sound {t : TypeId} {x w : W T} {f : Nat} (h : fieldW P t x f = some w) {α β v} (hr : Rep C α β x v) : ∃ u, fieldV P t v f = some u ∧ Rep C α β w u := by
  unfold fieldW at h
  split at h
  · rename_i fields cs hu
    simp only [Rep] at hr
    obtain ⟨vs, rfl, hr⟩ := hr
    unfold fieldV
    simp only [hu]
    split at h
    · rename_i fd hfd
      simp only [hfd]
      exact partW_sound h hr
    · cases h
  · cases h

/-- So many data out of cells. -/
def packN (C : Cod T) (k : Nat) : Nat → List (W T) → Option (List (T k))
  | 0, [] => some []
  | 0, _ :: _ => none
  | n + 1, cs =>
    match C.inn k (cs.take (C.size k)), packN C k n (cs.drop (C.size k)) with
    | some x, some l => some (x :: l)
    | _, _ => none
theorem packN_sound (ok : CodOk C) {k : Nat} : ∀ {n : Nat} {ws : List (W T)} {l : List (T k)}, packN C k n ws = some l → ∀ {α β vs}, RepL C α β ws vs → CRL C k l vs ∧ l.length = n
  | 0, [], l, h, α, β, vs, hr => by
    simp only [packN, Option.some.injEq] at h
    subst h
    simp only [RepL] at hr
    exact ⟨hr, rfl⟩
  | 0, _ :: _, l, h, α, β, vs, hr => by simp [packN] at h
  | n + 1, ws, l, h, α, β, vs, hr => by
    simp only [packN] at h
    split at h
    · rename_i x l' h1 h2
      injection h with h
      subst h
      have e1 := inn_rep ok h1 (hr.take (C.size k))
      obtain ⟨e2, e3⟩ := packN_sound ok h2 (hr.drop (C.size k))
      exact ⟨⟨_, _, (List.take_append_drop _ _).symm, e1, e2⟩, by simp [e3]⟩
    · cases h
def indexAddrWK (C : Cod T) (P : Program) (wm : WM T) (t : TypeId) (x ix : W T) (k : W T → Option R) : Option R :=
  match P.underlying t, ix with
  | some (.slice e), .int _ i =>
    match sizeV P e, x with
    | some sz, .row kk l _ => if sz = C.size kk then opK (idx l i) fun x => k (.relem kk x 0) else none
    | some sz, .own kk h =>
      match wm.H[h]? with
      | some (.rows k' l) => if sz = C.size kk ∧ k' = kk then opK (idx l i) fun _ => k (.oelem kk h i.toNat 0) else none
      | _ => none
    | some sz, .view kk h off len => if sz = C.size kk then cnd (decide (0 ≤ i ∧ i < len)) (k (.oelem kk h (off + i.toNat) 0)) none else none
    | _, _ => none
  | some (.array len e), .int _ i =>
    match sizeV P e with
    | some sz => if 0 ≤ i ∧ i < len then opK (paddW x (i.toNat * sz)) k else none
    | none => none
  | _, _ => none
theorem indexAddrWK_sound (ok : CodOk C) {wm : WM T} {t : TypeId} {x ix : W T} {k : W T → Option R} {r : R} (h : indexAddrWK C P wm t x ix k = some r) :
    ∃ w, k w = some r ∧ ∀ {bs α β m v vi}, WSim bs C α β wm m → Rep C α β x v → Rep C α β ix vi → ∃ u, indexAddrV P t v vi = some u ∧ Rep C α β w u := by
  unfold indexAddrWK at h
  split at h
  · rename_i e kd i hu
    split at h
    · rename_i sz kk l full hsz
      split at h
      · rename_i hs
        obtain ⟨y, h1, h2⟩ := opK_some h
        obtain ⟨h3, h4⟩ := idx_some h1
        refine ⟨_, h2, fun S hr hi => ?_⟩
        simp only [Rep] at hr hi
        subst hi
        obtain ⟨cs, fl, rfl, hfl, hc⟩ := hr
        have hl := (List.getElem?_eq_some_iff.1 h4).1
        have hlen := hc.length ok
        have hpos := ok.pos kk
        refine ⟨.rp cs (i.toNat * sz), ?_, ?_⟩
        · simp only [indexAddrV, hu, hsz]
          rw [if_pos]
          refine ⟨h3, by omega, ?_⟩
          rw [hlen, hs]
          exact Nat.mul_lt_mul_of_pos_right hl hpos
        · simp only [Rep]
          exact ⟨cs, i.toNat * sz, rfl, by rw [hs]; exact hc.get ok h4⟩
      · cases h
    · rename_i sz kk hh hsz
      split at h
      · rename_i k' l he
        split at h
        · rename_i hs
          obtain ⟨y, h1, h2⟩ := opK_some h
          obtain ⟨h3, h4⟩ := idx_some h1
          have hl := (List.getElem?_eq_some_iff.1 h4).1
          refine ⟨_, h2, fun S hr hi => ?_⟩
          simp only [Rep] at hr hi
          subst hi
          rcases S.rows he with ⟨hb', hl0⟩ | ⟨b', ver', cs, hb', hB, hcr⟩
          · subst hl0; simp at hl
          · rcases hr with ⟨hb, _⟩ | ⟨b, ver, nn, hb, rfl⟩
            · rw [hb] at hb'; cases hb'
            · rw [hb] at hb'
              injection hb' with hb'; injection hb' with hb'
              simp only [Prod.mk.injEq] at hb'
              obtain ⟨rfl, rfl, rfl⟩ := hb'
              refine ⟨.bptr b ver (0 + i.toNat * sz), ?_, ?_⟩
              · simp only [indexAddrV, hu, hsz]
                rw [if_pos ⟨h3, by omega⟩]
              · simp only [Rep]
                exact ⟨b, ver, _, hb, by rw [hs.1]; simp⟩
        · cases h
      · cases h
    · rename_i sz kk hh off len hsz
      split at h
      · rename_i hs
        obtain ⟨h1, h2⟩ := cond_some h
        have h1 := of_decide_eq_true h1
        refine ⟨_, h2, fun S hr hi => ?_⟩
        simp only [Rep] at hr hi
        subst hi
        rcases hr with ⟨_, _, rfl, _⟩ | ⟨b, ver, nn, hb, rfl⟩
        · simp at h1; omega
        · refine ⟨.bptr b ver (off * C.size kk + i.toNat * sz), ?_, ?_⟩
          · simp only [indexAddrV, hu, hsz]
            rw [if_pos h1]
          · simp only [Rep]
            exact ⟨b, ver, _, hb, by rw [hs, Nat.add_mul]; rfl⟩
      · cases h
    · cases h
  · rename_i len e kd i hu
    split at h
    · rename_i sz hsz
      split at h
      · rename_i hc
        obtain ⟨w, h1, h2⟩ := opK_some h
        refine ⟨w, h2, fun S hr hi => ?_⟩
        simp only [Rep] at hi
        subst hi
        obtain ⟨u, h3, h4⟩ := paddW_sound h1 hr
        exact ⟨u, by simp only [indexAddrV, hu, hsz]; rw [if_pos hc]; exact h3, h4⟩
      · cases h
    · cases h
  · cases h
/-- Bytes of a string of the machine. -/
theorem data_mk (s : List UInt8) : (ByteArray.mk s.toArray).data.toList = s := by simp
def indexWK (wc : WCfg T) (P : Program) (t : TypeId) (x ix : W T) (k : W T → Option R) : Option R :=
  match P.underlying t, x, ix with
  | some .string, .str s, .int _ i => opK (idx s i) fun b => k (.int .u8 b.toNat)
  | some (.array len e), .agg cs, .int _ i =>
    match sizeV P e, wc.kd e, P.info? e, P.underlying e with
    | some sz, some kk, some inf, some d =>
      if sz = wc.C.size kk ∧ inf.size = sz ∧ wc.C.isAgg kk = isAggD d then
        match packN wc.C kk len cs with
        | some l => opK (idx l i) fun y => k (outV wc.C kk y)
        | none => none
      else none
    | _, _, _, _ => none
  | _, _, _ => none
theorem indexWK_sound {wc : WCfg T} (ok : CodOk wc.C) {t : TypeId} {x ix : W T} {k : W T → Option R} {r : R} (h : indexWK wc P t x ix k = some r) :
    ∃ w, k w = some r ∧ ∀ {α β v vi}, Rep wc.C α β x v → Rep wc.C α β ix vi → ∃ u, indexV P t v vi = some u ∧ Rep wc.C α β w u := by
  unfold indexWK at h
  split at h
  · rename_i s kd i hu
    obtain ⟨b, h1, h2⟩ := opK_some h
    obtain ⟨h3, h4⟩ := idx_some h1
    refine ⟨_, h2, fun hr hi => ?_⟩
    simp only [Rep] at hr hi
    subst hr hi
    refine ⟨.int .u8 b.toNat, ?_, by simp only [Rep]⟩
    simp only [indexV, hu, byteAt]
    rw [if_pos h3, h4]
    rfl
  · rename_i len e cs kd i hu
    split at h
    · rename_i sz kk inf d hsz hk hinf hd
      split at h
      · rename_i hs
        split at h
        · rename_i l hp
          obtain ⟨y, h1, h2⟩ := opK_some h
          obtain ⟨h3, h4⟩ := idx_some h1
          have hl := (List.getElem?_eq_some_iff.1 h4).1
          refine ⟨_, h2, fun hr hi => ?_⟩
          simp only [Rep] at hr hi
          subst hi
          obtain ⟨vs, rfl, hr⟩ := hr
          obtain ⟨hc, hn⟩ := packN_sound ok hp hr
          have hg := hc.get ok h4
          have hlen := ok.len _ _ _ hg
          have hpos := ok.pos kk
          have hsub : sub vs (i.toNat * sz) sz = some ((vs.drop (i.toNat * sz)).take sz) := by
            unfold sub
            rw [if_pos]
            simp only [List.length_take, List.length_drop] at hlen
            rw [hs.1]; omega
          refine ⟨if wc.C.isAgg kk then .agg ((vs.drop (i.toNat * sz)).take sz) else ((vs.drop (i.toNat * sz)).take sz).headD .undef, ?_, ?_⟩
          · simp only [indexV, hu, hsz]
            rw [if_pos ⟨h3, by omega⟩]
            simp only [partV, hinf, hd]
            rw [hs.2.2, hs.2.1, hsub]
            split
            · rfl
            · rename_i hna
              have h1' := ok.one kk (by rw [hs.2.2]; simpa using hna)
              rw [hs.1, h1'] at hsub ⊢
              unfold sub at hsub
              split at hsub
              · rename_i hle
                rw [List.getElem?_eq_getElem (by omega), List.drop_eq_getElem_cons (by omega)]
                rfl
              · cases hsub
          · exact outV_rep ok ⟨_, by rw [hs.1]; exact hg, rfl⟩
        · cases h
      · cases h
    · cases h
  · cases h
end Go.Proofs.YtpdgbhjhodhkiaaGreatDoor.AI
