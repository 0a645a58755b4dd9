/- Typed values: writes, new rows, maps. -/
import Derived.Test.YtpdgbhjhodhkiaaGreatDoorW4
set_option linter.unusedVariables false
set_option linter.unusedSimpArgs false
namespace Go.Proofs.YtpdgbhjhodhkiaaGreatDoor.AI
open Go
variable {T : Nat → Type} {C : Cod T} {R : Type} {P : Program}

/-- What an operation does to memories that are related. -/
def Goes (C : Cod T) (wm wm' : WM T) (w : W T) (bs : Base) (α : List Nat) (β : Bt) (o : Option (V × Mem)) : Prop :=
  ∃ v m' α' β', o = some (v, m') ∧ α <+: α' ∧ β <+: β' ∧ WSim bs C α' β' wm' m' ∧ Rep C α' β' w v

theorem pureL_app {a b : List V} : pureL (a ++ b) = (pureL a && pureL b) := by
  induction a with
  | nil => rfl
  | cons x a ih => simp only [List.cons_append, pureL, ih, Bool.and_assoc]
theorem splice_in {cs ds : List V} {o off sz : Nat} (h : off + ds.length ≤ sz) (hl : ((cs.drop o).take sz).length = sz) (hz : 0 < sz) : splice cs (o + off) ds = splice cs o (splice ((cs.drop o).take sz) off ds) := by
  simp only [List.length_take, List.length_drop] at hl
  unfold splice
  have e1 : (List.take off (List.take sz (List.drop o cs)) ++ ds ++ List.drop (off + ds.length) (List.take sz (List.drop o cs))).length = sz := by simp; omega
  rw [e1]
  have e2 : List.take (o + off) cs = List.take o cs ++ List.take off (List.drop o cs) := by rw [← List.take_add]
  have e3 : List.drop (o + off + ds.length) cs = List.drop (off + ds.length) (List.take sz (List.drop o cs)) ++ List.drop (o + sz) cs := by
    rw [List.drop_take, List.drop_drop, Nat.add_assoc]
    conv => lhs; rw [← List.take_append_drop (sz - (off + ds.length)) (List.drop (o + (off + ds.length)) cs), List.drop_drop]
    rw [show o + (off + ds.length) + (sz - (off + ds.length)) = o + sz by omega]
  rw [e2, e3, List.take_take, Nat.min_eq_left (by omega)]
  simp only [List.append_assoc]
theorem splice_len {cs ds : List V} {o : Nat} (h : o + ds.length ≤ cs.length) : (splice cs o ds).length = cs.length := by
  unfold splice; simp; omega

def writeWK (C : Cod T) (wm : WM T) (p : W T) (cs : List (W T)) (k : WM T → Option R) : Option R :=
  match p with
  | .ptr i off =>
    match wm.A[i]? with
    | some old => if wm.la ≤ i ∧ off + cs.length ≤ old.length then k { wm with A := wm.A.set i (spliceX old off cs) } else none
    | none => none
  | .oelem kk h i off =>
    match wm.H[h]? with
    | some (.rows k' l) =>
      if k' = kk ∧ wm.lh ≤ h ∧ off + cs.length ≤ C.size k' then
        opK l[i]? fun x => opK (C.inn k' (spliceX (C.out k' x) off cs)) fun x' => k { wm with H := wm.H.set h (.rows k' (l.set i x')) }
      else none
    | _ => none
  | _ => none
theorem writeWK_sound (ok : CodOk C) {wm : WM T} {p : W T} {cs : List (W T)} {k : WM T → Option R} {r : R} (h : writeWK C wm p cs k = some r) :
    ∃ wm', k wm' = some r ∧ ∀ {bs α β m v ds}, WSim bs C α β wm m → Rep C α β p v → RepL C α β cs ds → ∃ m', wrCells m v ds = some m' ∧ WSim bs C α β wm' m' := by
  unfold writeWK at h
  split at h
  · rename_i i off
    split at h
    · rename_i old hold
      split at h
      · rename_i hc
        refine ⟨_, h, fun {bs α β m v ds} S hr hrs => ?_⟩
        simp only [Rep] at hr
        obtain ⟨j, hj, rfl⟩ := hr
        obtain ⟨vs, h1, h2⟩ := S.A _ _ _ hj hold
        have hla := S.la _ _ hj hc.1
        have hlen := h2.length
        have hlen' := hrs.length
        refine ⟨_, ?_, S.setA hj (splice_rep h2 hrs off) (max m.hi (maxAL ds))⟩
        simp only [wrCells, h1]
        rw [if_pos ⟨hla, by omega⟩]
      · cases h
    · cases h
  · rename_i kk hh i off
    split at h
    · rename_i k' l he
      split at h
      · rename_i hc
        obtain ⟨rfl, hlh, hle⟩ := hc
        obtain ⟨x, h0, h⟩ := opK_some h
        obtain ⟨x', h1, h2⟩ := opK_some h
        refine ⟨_, h2, fun {bs α β m v ds} S hr hrs => ?_⟩
        simp only [Rep] at hr
        obtain ⟨b, ver, nn, hb, rfl⟩ := hr
        have hl := (List.getElem?_eq_some_iff.1 h0).1
        rcases S.rows he with ⟨hb', _⟩ | ⟨b', ver', ccs, hb', hB, hcr⟩
        · rw [hb] at hb'; cases hb'
        · have hb0 := hb
          rw [hb] at hb'
          injection hb' with hb'; injection hb' with hb'
          simp only [Prod.mk.injEq] at hb'
          obtain ⟨rfl, rfl, rfl⟩ := hb'
          have hg := hcr.get ok h0
          have hgl := ok.len _ _ _ hg
          have hlen := hcr.length ok
          have hpos := ok.pos k'
          have hin := inn_rep ok h1 (splice_rep (ok.out _ _ _ hg _ _) hrs off)
          have hle' : off + ds.length ≤ C.size k' := by rw [← hrs.length]; exact hle
          have hbound : i * C.size k' + off + cs.length ≤ ccs.length := by
            rw [hlen]
            have : (i + 1) * C.size k' ≤ l.length * C.size k' := Nat.mul_le_mul_right _ hl
            rw [Nat.succ_mul] at this
            omega
          have hpu := ok.pure _ _ _ hin
          unfold splice at hpu
          simp only [pureL_app, Bool.and_eq_true] at hpu
          have hlb : m.lb ≤ b := S.lb _ _ _ _ _ he rfl hb0 hlh
          refine ⟨_, ?_, S.setB (hi' := max m.hi (maxAL ds)) he rfl hb0 (bb := .cells (C.size k') ver true false (splice ccs (i * C.size k' + off) ds)) ?_⟩
          · simp only [wrCells, hB]
            rw [if_pos ⟨by first | trivial | rfl, hlb, by rw [← hrs.length]; omega⟩, hpu.1.2]
            rfl
          · simp only [EnOk]
            refine .inr ⟨b, ver, _, by rw [List.length_set]; exact hb0, by rw [List.getElem?_set, if_pos rfl, if_pos (S.ltB _ _ _ _ hb0)], ?_⟩
            rw [splice_in hle' hgl hpos]
            exact hcr.set ok hl hin
      · cases h
    · cases h
  · cases h
def storeWK (C : Cod T) (P : Program) (wm : WM T) (t : TypeId) (p v : W T) (k : WM T → Option R) : Option R :=
  match P.info? t with
  | some i => if (wCells v).length = i.size ∧ (wCells v).all W.cellLike = true then writeWK C wm p (wCells v) k else none
  | none => none
theorem storeWK_sound (ok : CodOk C) {wm : WM T} {t : TypeId} {p x : W T} {k : WM T → Option R} {r : R} (h : storeWK C P wm t p x k = some r) :
    ∃ wm', k wm' = some r ∧ ∀ {bs α β m v u}, WSim bs C α β wm m → Rep C α β p v → Rep C α β x u → ∃ m', storeV P m t v u = some m' ∧ WSim bs C α β wm' m' := by
  unfold storeWK at h
  split at h
  · rename_i i hi
    split at h
    · rename_i hc
      obtain ⟨wm', h1, h2⟩ := writeWK_sound ok h
      refine ⟨wm', h1, fun S hr hx => ?_⟩
      obtain ⟨h3, h4⟩ := rep_cells hx hc.2
      obtain ⟨m', h5, h6⟩ := h2 S hr h3
      refine ⟨m', ?_, h6⟩
      simp only [storeV, hi]
      rw [if_pos ⟨by rw [← h3.length]; exact hc.1, h4⟩]
      exact h5
    · cases h
  · cases h

/-! ### Zero values and built ones -/
def zeroCellsW (P : Program) (t : TypeId) : Option (List (W T)) :=
  match P.info? t with
  | some i =>
    match i.zero with
    | some z => if ((z.cells.toList.map wConst0).all (W.cellLike (T := T))) = true then some (z.cells.toList.map wConst0) else none
    | none => none
  | none => none
theorem zeroCellsW_sound {t : TypeId} {ws : List (W T)} (h : zeroCellsW P t = some ws) {α β} : ∃ vs, zeroCellsV P t = some vs ∧ RepL C α β ws vs ∧ ws.all W.cellLike = true ∧ vs.all V.cellLike = true := by
  unfold zeroCellsW at h
  split at h
  · rename_i i hi
    split at h
    · rename_i z hz
      split at h
      · rename_i hc
        injection h with h
        subst h
        have hr : RepL C α β (z.cells.toList.map wConst0) (z.cells.toList.map ofConst0) := repL_const _
        have hv : (z.cells.toList.map ofConst0).all V.cellLike = true := (rep_cells (w := .agg (z.cells.toList.map wConst0)) (v := .agg (z.cells.toList.map ofConst0)) (by simp only [Rep]; exact ⟨_, rfl, hr⟩) hc).2
        refine ⟨_, ?_, hr, hc, hv⟩
        simp only [zeroCellsV, hi, hz]
        rw [if_pos hv]
      · cases h
    · cases h
  · cases h
def zeroW (P : Program) (t : TypeId) : Option (W T) :=
  match P.info? t with
  | some i => i.zero.map wConst
  | none => none
theorem zeroW_sound {t : TypeId} {w : W T} (h : zeroW P t = some w) {α β} : ∃ v, zeroV P t = some v ∧ Rep C α β w v := by
  unfold zeroW at h
  split at h
  · rename_i i hi
    obtain ⟨z, h1, rfl⟩ := Option.map_eq_some_iff.1 h
    exact ⟨_, by simp only [zeroV, hi, h1]; rfl, rep_const z⟩
  · cases h
def fillW (place : Nat → Option (Nat × Nat)) (cells : List (W T)) : List (Nat × W T) → Option (List (W T))
  | [] => some cells
  | (i, v) :: rest =>
    match place i with
    | none => none
    | some (off, size) => if (wCells v).length = size ∧ off + size ≤ cells.length ∧ (wCells v).all W.cellLike = true then fillW place (spliceX cells off (wCells v)) rest else none
inductive PRep (C : Cod T) (α : List Nat) (β : Bt) : List (Nat × W T) → List (Nat × V) → Prop
  | nil : PRep C α β [] []
  | cons {i w v ps qs} : Rep C α β w v → PRep C α β ps qs → PRep C α β ((i, w) :: ps) ((i, v) :: qs)
theorem fillW_sound {place : Nat → Option (Nat × Nat)} : ∀ {ps : List (Nat × W T)} {cells ws : List (W T)}, fillW place cells ps = some ws → ∀ {α β vs qs}, RepL C α β cells vs → PRep C α β ps qs → ∃ us, fillV place vs qs = some us ∧ RepL C α β ws us
  | [], cells, ws, h, α, β, vs, qs, hr, hp => by
    cases hp
    simp only [fillW, Option.some.injEq] at h
    subst h
    exact ⟨vs, rfl, hr⟩
  | (i, w) :: ps, cells, ws, h, α, β, vs, qs, hr, hp => by
    cases hp with
    | cons hw hp =>
      simp only [fillW] at h
      split at h
      · cases h
      · rename_i off size hpl
        split at h
        · rename_i hc
          obtain ⟨h3, h4⟩ := rep_cells hw hc.2.2
          obtain ⟨us, h5, h6⟩ := fillW_sound h (splice_rep hr h3 off) hp
          refine ⟨us, ?_, h6⟩
          simp only [fillV, hpl]
          rw [if_pos ⟨by rw [← h3.length]; exact hc.1, by rw [← hr.length]; exact hc.2.1, h4⟩]
          exact h5
        · cases h
def buildW (P : Program) (t : TypeId) (parts : List (Nat × W T)) : Option (W T) :=
  match zeroW P t, P.underlying t with
  | some (.agg z), some (.struct fields) => if fields.toList.all (fun f => (sizeV P f.type).isSome) = true then (fillW (fieldPlaceV P fields) z parts).map .agg else none
  | some (.agg z), some (.array _ e) =>
    match sizeV P e with
    | some sz => (fillW (fun i => some (i * sz, sz)) z parts).map .agg
    | none => none
  | _, _ => none
theorem buildW_sound {t : TypeId} {ps : List (Nat × W T)} {w : W T} (h : buildW P t ps = some w) {α β qs} (hp : PRep C α β ps qs) : ∃ v, buildV P t qs = some v ∧ Rep C α β w v := by
  unfold buildW at h
  split at h
  · rename_i z fields hz hu
    split at h
    · rename_i hf
      obtain ⟨ws, h1, rfl⟩ := Option.map_eq_some_iff.1 h
      obtain ⟨v, h2, h3⟩ := zeroW_sound (C := C) hz (α := α) (β := β)
      simp only [Rep] at h3
      obtain ⟨vs, rfl, h3⟩ := h3
      obtain ⟨us, h4, h5⟩ := fillW_sound h1 h3 hp
      refine ⟨.agg us, ?_, by simp only [Rep]; exact ⟨_, rfl, h5⟩⟩
      simp only [buildV, h2, hu]
      rw [if_pos hf, h4]
      rfl
    · cases h
  · rename_i z n e hz hu
    split at h
    · rename_i sz hsz
      obtain ⟨ws, h1, rfl⟩ := Option.map_eq_some_iff.1 h
      obtain ⟨v, h2, h3⟩ := zeroW_sound (C := C) hz (α := α) (β := β)
      simp only [Rep] at h3
      obtain ⟨vs, rfl, h3⟩ := h3
      obtain ⟨us, h4, h5⟩ := fillW_sound h1 h3 hp
      refine ⟨.agg us, ?_, by simp only [Rep]; exact ⟨_, rfl, h5⟩⟩
      simp only [buildV, h2, hu, hsz, h4]
      rfl
    · cases h
  · cases h
def replW (n : Nat) (z : List (W T)) : List (W T) :=
  match n with
  | 0 => []
  | n + 1 => z ++ replW n z
theorem replW_rep {z : List (W T)} {vz : List V} {α β} (h : RepL C α β z vz) : ∀ n, RepL C α β (replW n z) (repl n vz)
  | 0 => RepL.nil
  | n + 1 => h.append (replW_rep h n)
def buildSliceWK (wc : WCfg T) (P : Program) (t : TypeId) (len : Nat) (parts : List (Nat × W T)) : Option (W T) :=
  match P.underlying t with
  | some (.slice e) =>
    match sizeV P e, zeroCellsW P e, wc.kd e with
    | some sz, some z, some kk =>
      if z.length = sz ∧ sz = wc.C.size kk ∧ len * sz ≤ 16777216 then
        match fillW (fun i => some (i * sz, sz)) (replW len z) parts with
        | some ws => if ws.all W.cellLike = true then (packN wc.C kk len ws).map fun l => if len = 0 then .nilsl else .row kk l true else none
        | none => none
      else none
    | _, _, _ => none
  | _ => none
theorem buildSliceWK_sound {wc : WCfg T} (ok : CodOk wc.C) {t : TypeId} {len : Nat} {ps : List (Nat × W T)} {w : W T} (h : buildSliceWK wc P t len ps = some w) {α β qs} (hp : PRep wc.C α β ps qs) :
    ∃ sz cs, buildSliceCells P t len qs = some (sz, cs) ∧ pureL cs = true ∧ Rep wc.C α β w (.ro cs len true) := by
  unfold buildSliceWK at h
  split at h
  · rename_i e hu
    split at h
    · rename_i sz z kk hsz hz hk
      split at h
      · rename_i hc
        split at h
        · rename_i ws hf
          split at h
          · rename_i hcl
            obtain ⟨l, h1, rfl⟩ := Option.map_eq_some_iff.1 h
            obtain ⟨vz, h2, h3, _, _⟩ := zeroCellsW_sound (C := wc.C) hz (α := α) (β := β)
            obtain ⟨us, h4, h5⟩ := fillW_sound hf (replW_rep h3 len) hp
            obtain ⟨h6, h7⟩ := packN_sound ok h1 h5
            have hv : us.all V.cellLike = true := (rep_cells (w := .agg ws) (v := .agg us) (by simp only [Rep]; exact ⟨_, rfl, h5⟩) hcl).2
            have hpos := ok.pos kk
            refine ⟨sz, us, ?_, h6.pure ok, ?_⟩
            · simp only [buildSliceCells, hu, hsz, h2]
              rw [if_pos ⟨by rw [← h3.length]; exact hc.1, by omega, hc.2.2⟩, h4]
              simp only
              rw [if_pos hv]
            · split
              · rename_i h0
                have el : l = [] := List.eq_nil_of_length_eq_zero (by rw [h7]; exact h0)
                subst el
                simp only [CRL] at h6
                subst h6
                simp only [Rep, h0]
              · simp only [Rep]
                exact ⟨us, true, by rw [h7], fun _ => rfl, h6⟩
          · cases h
        · cases h
      · cases h
    · cases h
  · cases h

/-! ### append, make -/
def growK (wc : WCfg T) (wm : WM T) (bytes : Nat) (s : W T) (kk : Nat) (new : List (T kk)) (k : W T × WM T → Option R) : Option R :=
  match s with
  | .nilsl => cnd (decide (new.length * bytes ≤ 140737488355328)) (k (.own kk wm.H.length, { wm with H := wm.H ++ [.rows kk new] })) none
  | .row k' l true =>
    if e : kk = k' then cnd (decide (new.length = 0)) (k (s, wm)) (cnd (decide ((l.length + new.length) * bytes ≤ 140737488355328)) (k (.own k' wm.H.length, { wm with H := wm.H ++ [.rows k' (l ++ e ▸ new)] })) none) else none
  | .own k0 h =>
    match wm.H[h]? with
    | some (.rows k' l) =>
      if e : kk = k' then
        if k' = k0 ∧ wm.lh ≤ h then
          cnd (decide ((l.length + new.length) * bytes ≤ 140737488355328)) (k (.own k' wm.H.length, { wm with H := wm.H.set h .dead ++ [.rows k' (l ++ e ▸ new)] })) none
        else none
      else none
    | _ => none
  | .view k0 h off len =>
    match wm.H[h]? with
    | some (.rows k' l) =>
      if e : kk = k' then
        if k' = k0 ∧ wm.lh ≤ h then
          cnd (decide (off + len + new.length ≤ l.length ∧ (len + new.length) * bytes ≤ 140737488355328)) (k (.view k' h off (len + new.length), { wm with H := wm.H.set h (.rows k' (l.take (off + len) ++ (e ▸ new) ++ l.drop (off + len + new.length))) })) none
        else none
      else none
    | _ => none
  | _ => none
def appendWK (wc : WCfg T) (P : Program) (wm : WM T) (sT : TypeId) (s x : W T) (k : W T × WM T → Option R) : Option R :=
  match P.underlying sT with
  | some (.slice e) =>
    match P.info? e, zeroCellsW (T := T) P e, wc.kd e with
    | some i, some z, some ke =>
      if i.size = wc.C.size ke ∧ z.length = i.size ∧ 0 < i.bytes then
        match x with
        | .nilsl => (match s with
          | .nilsl | .row _ _ _ | .own _ _ | .view _ _ _ _ => k (s, wm)
          | _ => none)
        | .str t => (if i.size = 1 then opK (wc.C.bytes ke t) fun new => growK wc wm i.bytes s ke new k else none)
        | x => contWK wm x fun kk new => if wc.C.size kk = i.size then growK wc wm i.bytes s kk new k else none
      else none
    | _, _, _ => none
  | _ => none
theorem growK_sound {wc : WCfg T} (ok : CodOk wc.C) {wm : WM T} {bytes : Nat} {s : W T} {kk : Nat} {new : List (T kk)} {k : W T × WM T → Option R} {r : R} (h : growK wc wm bytes s kk new k = some r) :
    ∃ w wm', k (w, wm') = some r ∧ ∀ {bs α β m vs sT x cs e i z}, P.underlying sT = some (.slice e) → P.info? e = some i → zeroCellsV P e = some z → i.size = wc.C.size kk → z.length = i.size → bytes = i.bytes → 0 < i.bytes →
      WSim bs wc.C α β wm m → Rep wc.C α β s vs → contents m i.size x = some (new.length, cs) → CRL wc.C kk new cs → Goes wc.C wm wm' w bs α β (appendV P m sT vs x) := by
  have frame : ∀ {m : Mem} {vs : V} {sT e : TypeId} {i} {z : List V} {x : V} {cs : List V}, P.underlying sT = some (.slice e) → P.info? e = some i → zeroCellsV P e = some z → i.size = wc.C.size kk → z.length = i.size →
      contents m i.size x = some (new.length, cs) → CRL wc.C kk new cs → ¬ (cs.all V.cellLike = false ∨ i.size = 0 ∨ z.length ≠ i.size) := by
    intro m vs sT e i z x cs hu hi hz hsz hzl hx hc
    have := hc.cell ok
    have := ok.pos kk
    rintro (h | h | h)
    · simp_all
    · omega
    · exact h hzl
  unfold growK at h
  split at h
  · -- nil
    obtain ⟨h1, h2⟩ := cond_some h
    have h1 := of_decide_eq_true h1
    refine ⟨_, _, h2, ?_⟩
    intro bs α β m vs sT x cs e i z hu hi hz hsz hzl hby hpos S hr hx hc
    simp only [Rep] at hr
    subst hr hby
    unfold appendV
    simp only [hu, hi, hx, hz]
    rw [if_neg (frame (vs := .ro [] 0 true) hu hi hz hsz hzl hx hc)]
    have hlen := hc.length ok
    cases hn : new with
    | nil =>
      subst hn
      simp only [List.length_nil, if_true]
      refine ⟨_, m, α, β ++ [none], rfl, List.prefix_refl _, pre_app _ _, S.pushN ?_, ?_⟩
      · simp only [EnOk]; exact .inl ⟨by simp, by first | rfl | trivial⟩
      · simp only [Rep]; exact .inl ⟨by rw [← S.lenH]; simp, by first | rfl | trivial⟩
    | cons y new' =>
      rw [← hn]
      have hne : new.length ≠ 0 := by rw [hn]; simp
      simp only [hne, if_false, Nat.zero_mul, List.length_nil, Nat.zero_add]
      rw [if_pos ⟨trivial, h1, hpos, by simp⟩]
      refine ⟨_, _, α, β ++ [some (m.B.length, 0, new.length)], rfl, List.prefix_refl _, pre_app _ _, S.pushB ?_, ?_⟩
      · simp only [EnOk]
        refine .inr ⟨m.B.length, 0, cs, by simp, ?_, hc⟩
        simp [hc.pure ok, hsz]
      · simp only [Rep]
        exact .inr ⟨m.B.length, 0, new.length, by rw [← S.lenH]; simp, by first | rfl | trivial⟩
  · -- a full row
    rename_i k' l
    split at h
    · rename_i e
      subst e
      rcases cond_cases h with ⟨h0, h2⟩ | ⟨h0, h⟩
      · have h0 := of_decide_eq_true h0
        refine ⟨_, _, h2, ?_⟩
        intro bs α β m vs sT x cs e i z hu hi hz hsz hzl hby hpos S hr hx hc
        have hr0 := hr
        simp only [Rep] at hr
        obtain ⟨c0, fl, rfl, hfl, hc0⟩ := hr
        have hfl := hfl (by first | rfl | trivial)
        subst hfl
        unfold appendV
        simp only [hu, hi, hx, hz]
        rw [if_neg (frame (vs := .ro c0 l.length true) hu hi hz hsz hzl hx hc)]
        simp only [h0, if_true]
        exact ⟨_, m, α, β, rfl, List.prefix_refl _, List.prefix_refl _, S, hr0⟩
      · have h0 := of_decide_eq_false h0
        obtain ⟨h1, h2⟩ := cond_some h
        have h1 := of_decide_eq_true h1
        refine ⟨_, _, h2, ?_⟩
        intro bs α β m vs sT x cs e i z hu hi hz hsz hzl hby hpos S hr hx hc
        simp only [Rep] at hr
        obtain ⟨c0, fl, rfl, hfl, hc0⟩ := hr
        have hfl := hfl (by first | rfl | trivial)
        subst hfl hby
        unfold appendV
        simp only [hu, hi, hx, hz]
        rw [if_neg (frame (vs := .ro c0 l.length true) hu hi hz hsz hzl hx hc)]
        simp only [h0, if_false]
        rw [if_pos ⟨by rw [hsz]; exact (hc0.length ok).symm, h1, hpos, hc0.cell ok⟩]
        refine ⟨_, _, α, β ++ [some (m.B.length, 0, l.length + new.length)], rfl, List.prefix_refl _, pre_app _ _, S.pushB ?_, ?_⟩
        · simp only [EnOk]
          refine .inr ⟨m.B.length, 0, c0 ++ cs, by simp, ?_, hc0.append hc⟩
          simp [hc.pure ok, hsz]
        · simp only [Rep]
          exact .inr ⟨m.B.length, 0, l.length + new.length, by rw [← S.lenH]; simp, by first | rfl | trivial⟩
    · cases h
  · rename_i k0 hh
    split at h
    · rename_i k' l he
      split at h
      · rename_i e
        subst e
        split at h
        · rename_i hk
          obtain ⟨rfl, hlh⟩ := hk
          obtain ⟨h1, h2⟩ := cond_some h
          have h1 := of_decide_eq_true h1
          refine ⟨_, _, h2, ?_⟩
          intro bs α β m vs sT x cs e i z hu hi hz hsz hzl hby hpos S hr hx hc
          subst hby
          simp only [Rep] at hr
          have hlen := hc.length ok
          have hdead : (wm.H.set hh .dead).length = β.length := by simp [S.lenH]
          unfold appendV
          simp only [hu, hi, hx, hz]
          rcases S.rows he with ⟨hb', rfl⟩ | ⟨b', ver', ccs, hb', hB, hcr⟩
          · rcases hr with ⟨hb, rfl⟩ | ⟨b, ver, nn, hb, rfl⟩
            · rw [if_neg (frame (vs := .ro [] 0 true) hu hi hz hsz hzl hx hc)]
              cases hn : new with
              | nil =>
                subst hn
                simp only [List.length_nil, if_true]
                refine ⟨_, m, α, β ++ [none], rfl, List.prefix_refl _, pre_app _ _, ?_, ?_⟩
                · exact (S.kill hh).pushN (by simp only [EnOk]; exact .inl ⟨by simp, by first | rfl | trivial⟩)
                · simp only [Rep]; exact .inl ⟨by rw [← S.lenH]; simp, by first | rfl | trivial⟩
              | cons y new' =>
                rw [← hn]
                have hne : new.length ≠ 0 := by rw [hn]; simp
                simp only [hne, if_false, Nat.zero_mul, List.length_nil, Nat.zero_add]
                simp only [List.length_nil, Nat.zero_add] at h1
                rw [if_pos ⟨trivial, h1, hpos, by simp⟩]
                refine ⟨_, _, α, β ++ [some (m.B.length, 0, new.length)], rfl, List.prefix_refl _, pre_app _ _, S.regrowN ?_, ?_⟩
                · simp only [EnOk]
                  refine .inr ⟨m.B.length, 0, cs, by simp, ?_, by simpa using hc⟩
                  simp [hc.pure ok, hsz]
                · simp only [Rep]
                  exact .inr ⟨m.B.length, 0, new.length, by rw [← S.lenH]; simp, by first | rfl | trivial⟩
            · rw [hb] at hb'; cases hb'
          · rcases hr with ⟨hb, _⟩ | ⟨b, ver, nn, hb, rfl⟩
            · rw [hb] at hb'; cases hb'
            · have hb0 := hb
              rw [hb] at hb'
              injection hb' with hb'; injection hb' with hb'
              simp only [Prod.mk.injEq] at hb'
              obtain ⟨rfl, rfl, rfl⟩ := hb'
              have hcl := hcr.length ok
              have hlb : m.lb ≤ b := S.lb _ _ _ _ _ he rfl hb0 hlh
              rw [if_neg (frame (vs := .sl b ver 0 l.length) hu hi hz hsz hzl hx hc)]
              cases hn : new with
              | nil =>
                subst hn
                simp only [List.length_nil, if_true]
                refine ⟨_, m, α, β ++ [some (b, ver, l.length)], rfl, List.prefix_refl _, pre_app _ _, S.renew he rfl hb0 hlh hB ?_, ?_⟩
                · simp only [EnOk, List.append_nil]
                  exact .inr ⟨b, ver, ccs, by simp, hB, hcr⟩
                · simp only [Rep]
                  exact .inr ⟨b, ver, l.length, by rw [← S.lenH]; simp, by first | rfl | trivial⟩
              | cons y new' =>
                rw [← hn]
                have hne : new.length ≠ 0 := by rw [hn]; simp
                have hnp : 0 < new.length := by omega
                have hsp := ok.pos kk
                simp only [hne, if_false, hB]
                rw [if_pos ⟨trivial, hsz.symm, hlb, h1, hpos⟩]
                rw [if_neg (by rw [hcl, Nat.zero_add, Nat.add_mul]; have := Nat.mul_pos hnp hsp; omega), if_pos ⟨by first | rfl | trivial, by rw [hcl]⟩]
                refine ⟨_, _, α, β ++ [some (b, ver + 1, l.length + new.length)], rfl, List.prefix_refl _, pre_app _ _, S.regrow he rfl hb0 hlh ?_, ?_⟩
                · simp only [EnOk]
                  refine .inr ⟨b, ver + 1, ccs ++ cs, by simp, ?_, hcr.append hc⟩
                  try simp only
                  rw [List.getElem?_set, if_pos rfl, if_pos (S.ltB _ _ _ _ hb0), hc.pure ok]
                  rfl
                · simp only [Rep]
                  exact .inr ⟨b, ver + 1, l.length + new.length, by rw [← S.lenH]; simp, by first | rfl | trivial⟩
        · cases h
      · cases h
    · cases h
  · rename_i k0 hh off len
    split at h
    · rename_i k' l he
      split at h
      · rename_i e
        subst e
        split at h
        · rename_i hk
          obtain ⟨rfl, hlh⟩ := hk
          obtain ⟨h1, h2⟩ := cond_some h
          obtain ⟨hb1, hb2⟩ := of_decide_eq_true h1
          refine ⟨_, _, h2, ?_⟩
          intro bs α β m vs sT x cs e i z hu hi hz hsz hzl hby hpos S hr hx hc
          subst hby
          have hr0 := hr
          simp only [Rep] at hr
          have hlen := hc.length ok
          unfold appendV
          simp only [hu, hi, hx, hz]
          have same : new = [] → l.take (off + len) ++ new ++ l.drop (off + len + new.length) = l := by
            intro hn; subst hn; simp
          rcases S.rows he with ⟨hb', rfl⟩ | ⟨b', ver', ccs, hb', hB, hcr⟩
          · have hn : new = [] := by
              cases new with
              | nil => rfl
              | cons y n' => simp at hb1
            rcases hr with ⟨hb, rfl, rfl, fl, rfl⟩ | ⟨b, ver, nn, hb, rfl⟩
            · rw [if_neg (frame (vs := .ro [] 0 fl) hu hi hz hsz hzl hx hc)]
              subst hn
              simp only [List.length_nil, if_true]
              refine ⟨_, m, α, β, rfl, List.prefix_refl _, List.prefix_refl _, ?_, hr0⟩
              have e0 : wm.H.set hh (En.rows kk []) = wm.H := set_self he
              simp only [List.take_nil, List.drop_nil, List.append_nil, List.nil_append]
              rw [e0]
              exact S
            · rw [hb] at hb'; cases hb'
          · rcases hr with ⟨hb, _⟩ | ⟨b, ver, nn, hb, rfl⟩
            · rw [hb] at hb'; cases hb'
            · have hb0 := hb
              rw [hb] at hb'
              injection hb' with hb'; injection hb' with hb'
              simp only [Prod.mk.injEq] at hb'
              obtain ⟨rfl, rfl, rfl⟩ := hb'
              have hcl := hcr.length ok
              have hlb : m.lb ≤ b := S.lb _ _ _ _ _ he rfl hb0 hlh
              rw [if_neg (frame (vs := .sl b ver (off * wc.C.size kk) len) hu hi hz hsz hzl hx hc)]
              by_cases hn0 : new.length = 0
              · have hn : new = [] := List.length_eq_zero_iff.1 hn0
                rw [if_pos hn0]
                refine ⟨_, m, α, β, rfl, List.prefix_refl _, List.prefix_refl _, ?_, ?_⟩
                · have e0 : wm.H.set hh (En.rows kk l) = wm.H := set_self he
                  rw [same hn, e0]
                  exact S
                · rw [hn0, Nat.add_zero]
                  exact hr0
              · simp only [hn0, if_false, hB]
                rw [if_pos ⟨trivial, hsz.symm, hlb, hb2, hpos⟩]
                have e1 : off * wc.C.size kk + (len + new.length) * wc.C.size kk = (off + len + new.length) * wc.C.size kk := by rw [← Nat.add_mul, Nat.add_assoc]
                rw [if_pos (by rw [e1, hcl]; exact Nat.mul_le_mul_right _ hb1)]
                have e2 : off * wc.C.size kk + len * wc.C.size kk = (off + len) * wc.C.size kk := by rw [← Nat.add_mul]
                rw [e2]
                have hcr' : CRL wc.C kk (l.take (off + len) ++ new ++ l.drop (off + len + new.length)) (splice ccs ((off + len) * wc.C.size kk) cs) := by
                  unfold splice
                  have := ((hcr.take ok (off + len)).append hc).append (hcr.drop ok (off + len + new.length))
                  rw [show (off + len) * wc.C.size kk + cs.length = (off + len + new.length) * wc.C.size kk by rw [hlen, ← Nat.add_mul]]
                  exact this
                have hll : (l.take (off + len) ++ new ++ l.drop (off + len + new.length)).length = l.length := by simp; omega
                refine ⟨_, _, α, β, rfl, List.prefix_refl _, List.prefix_refl _, S.setB he rfl hb0 ?_, ?_⟩
                · simp only [EnOk]
                  refine .inr ⟨b, ver, _, by rw [hll]; exact hb0, ?_, hcr'⟩
                  rw [List.getElem?_set, if_pos rfl, if_pos (S.ltB _ _ _ _ hb0), hc.pure ok]
                  rfl
                · simp only [Rep]
                  exact .inr ⟨b, ver, _, hb0, rfl⟩
        · cases h
      · cases h
    · cases h
  · cases h
theorem appendWK_sound {wc : WCfg T} (ok : CodOk wc.C) {wm : WM T} {sT : TypeId} {s x : W T} {k : W T × WM T → Option R} {r : R} (h : appendWK wc P wm sT s x k = some r) :
    ∃ w wm', k (w, wm') = some r ∧ ∀ {bs α β m vs vx}, WSim bs wc.C α β wm m → Rep wc.C α β s vs → Rep wc.C α β x vx → Goes wc.C wm wm' w bs α β (appendV P m sT vs vx) := by
  unfold appendWK at h
  split at h
  · rename_i e hu
    split at h
    · rename_i i z ke hi hz hke
      split at h
      · rename_i hc
        obtain ⟨hc1, hc2, hc3⟩ := hc
        have zv := fun {α β} => zeroCellsW_sound (C := wc.C) hz (α := α) (β := β)
        split at h
        · -- nothing to append
          have key : ∀ {bs α β m vs vx}, WSim bs wc.C α β wm m → Rep wc.C α β s vs → Rep wc.C α β (.nilsl : W T) vx → (∃ c n f, vs = .ro c n f) ∨ (∃ b ver o n, vs = .sl b ver o n) → Goes wc.C wm wm s bs α β (appendV P m sT vs vx) := by
            intro bs α β m vs vx S hr hx hv
            simp only [Rep] at hx
            subst hx
            obtain ⟨vz, h2, h3, _, _⟩ := zv (α := α) (β := β)
            refine ⟨vs, m, α, β, ?_, List.prefix_refl _, List.prefix_refl _, S, hr⟩
            unfold appendV
            simp only [hu, hi, contents, Nat.zero_mul, List.length_nil, if_true, h2]
            rw [if_neg (by
              rintro (h | h | h)
              · simp at h
              · have := ok.pos ke; omega
              · exact h (by rw [← h3.length]; exact hc2))]
            rcases hv with ⟨_, _, _, rfl⟩ | ⟨_, _, _, _, rfl⟩ <;> rfl
          split at h
          · refine ⟨_, _, h, fun S hr hx => key S hr hx ?_⟩
            simp only [Rep] at hr; exact .inl ⟨_, _, _, hr⟩
          · refine ⟨_, _, h, fun S hr hx => key S hr hx ?_⟩
            simp only [Rep] at hr; obtain ⟨_, _, rfl, _⟩ := hr; exact .inl ⟨_, _, _, rfl⟩
          · refine ⟨_, _, h, fun S hr hx => key S hr hx ?_⟩
            simp only [Rep] at hr; rcases hr with ⟨_, rfl⟩ | ⟨_, _, _, _, rfl⟩
            · exact .inl ⟨_, _, _, rfl⟩
            · exact .inr ⟨_, _, _, _, rfl⟩
          · refine ⟨_, _, h, fun S hr hx => key S hr hx ?_⟩
            simp only [Rep] at hr; rcases hr with ⟨_, _, _, _, rfl⟩ | ⟨_, _, _, _, rfl⟩
            · exact .inl ⟨_, _, _, rfl⟩
            · exact .inr ⟨_, _, _, _, rfl⟩
          · cases h
        · rename_i t
          split at h
          · rename_i h1'
            obtain ⟨new, h1, h2⟩ := opK_some h
            obtain ⟨h5, h6, h7⟩ := ok.bytes _ _ _ h1
            obtain ⟨w, wm', h3, h4⟩ := growK_sound ok h2
            refine ⟨w, wm', h3, fun {bs α β m vs vx} S hr hx => ?_⟩
            simp only [Rep] at hx
            subst hx
            obtain ⟨vz, h8, h9, _, _⟩ := zv (α := α) (β := β)
            refine h4 hu hi h8 hc1 (by rw [← h9.length]; exact hc2) rfl hc3 S hr ?_ h6
            simp only [contents, h1', if_true, size_mk, data_mk, h5]
          · cases h
        · rename_i hx1 hx2
          obtain ⟨kk, new, h1, h2⟩ := contWK_sound ok h
          split at h1
          · rename_i hsz
            obtain ⟨w, wm', h3, h4⟩ := growK_sound ok h1
            refine ⟨w, wm', h3, fun {bs α β m vs vx} S hr hx => ?_⟩
            obtain ⟨cs, h5, h6, _⟩ := h2 S hx
            obtain ⟨vz, h8, h9, _, _⟩ := zv (α := α) (β := β)
            exact h4 hu hi h8 hsz.symm (by rw [← h9.length]; exact hc2) rfl hc3 S hr (by rw [← hsz]; exact h5) h6
          · cases h1
      · cases h
    · cases h
  · cases h
theorem CRL.replicate {k : Nat} {x : T k} {cs : List V} (h : C.CR k x cs) : ∀ n, CRL C k (List.replicate n x) (repl n cs)
  | 0 => rfl
  | n + 1 => ⟨cs, repl n cs, rfl, h, CRL.replicate h n⟩
def makeSliceWK (wc : WCfg T) (P : Program) (wm : WM T) (t : TypeId) (l c : W T) (k : W T × WM T → Option R) : Option R :=
  match P.underlying t, l, c with
  | some (.slice e), .int .i64 l, .int .i64 c =>
    match P.info? e, zeroCellsW P e, wc.kd e with
    | some i, some z, some kk =>
      if z.length = i.size ∧ i.size = wc.C.size kk ∧ i.bytes ≤ 140737488355328 then
        match wc.C.inn kk z with
        | some x => cnd (decide (0 ≤ l ∧ l = c ∧ l * i.bytes ≤ 140737488355328 ∧ l ≤ 140737488355328)) (k (.own kk wm.H.length, { wm with H := wm.H ++ [.rows kk (List.replicate l.toNat x)] })) none
        | none => none
      else none
    | _, _, _ => none
  | _, _, _ => none
theorem makeSliceWK_sound {wc : WCfg T} (ok : CodOk wc.C) {wm : WM T} {t : TypeId} {l c : W T} {k : W T × WM T → Option R} {r : R} (h : makeSliceWK wc P wm t l c k = some r) :
    ∃ w wm', k (w, wm') = some r ∧ ∀ {bs α β m vl vc}, WSim bs wc.C α β wm m → Rep wc.C α β l vl → Rep wc.C α β c vc → Goes wc.C wm wm' w bs α β (makeSliceV P m t vl vc) := by
  unfold makeSliceWK at h
  split at h
  · rename_i e l c hu
    split at h
    · rename_i i z kk hi hz hk
      split at h
      · rename_i hc
        obtain ⟨hc1, hc2, hc3⟩ := hc
        split at h
        · rename_i x hx
          obtain ⟨h1, h2⟩ := cond_some h
          obtain ⟨h3, h4, h5, h6⟩ := of_decide_eq_true h1
          refine ⟨_, _, h2, fun {bs α β m vl vc} S hl hc => ?_⟩
          simp only [Rep] at hl hc
          subst hl hc
          obtain ⟨vz, h8, h9, _, _⟩ := zeroCellsW_sound (C := wc.C) hz (α := α) (β := β)
          have hcr := inn_rep ok hx h9
          have hpos := ok.pos kk
          refine ⟨.sl m.B.length 0 0 l.toNat, _, α, β ++ [some (m.B.length, 0, l.toNat)], ?_, List.prefix_refl _, pre_app _ _, S.pushB (hi' := m.hi) (bb := .cells i.size 0 (pureL vz) false (repl l.toNat vz)) ?_, ?_⟩
          · simp only [makeSliceV, hu, hi, h8]
            rw [if_pos ⟨h3, h4, h5, h6, by rw [← h9.length]; exact hc1, by omega, hc3⟩]
          · simp only [EnOk]
            refine .inr ⟨m.B.length, 0, repl l.toNat vz, by simp, ?_, CRL.replicate hcr _⟩
            simp [ok.pure _ _ _ hcr, hc2]
          · simp only [Rep]
            exact .inr ⟨m.B.length, 0, l.toNat, by rw [← S.lenH]; simp, rfl⟩
        · cases h
      · cases h
    · cases h
  · cases h
def appendMakeWK (wc : WCfg T) (P : Program) (wm : WM T) (sT : TypeId) (s x : W T) (k : W T × WM T → Option R) : Option R :=
  match P.underlying sT, s, x with
  | some (.slice e), .nilsl, .int .i64 n =>
    match P.info? e, zeroCellsW P e, wc.kd e with
    | some i, some z, some kk =>
      if z.length = i.size ∧ i.size = wc.C.size kk ∧ 0 < i.bytes then
        match wc.C.inn kk z with
        | some x => cnd (decide (0 ≤ n ∧ n * i.bytes ≤ 140737488355328)) (k (.own kk wm.H.length, { wm with H := wm.H ++ [.rows kk (List.replicate n.toNat x)] })) none
        | none => none
      else none
    | _, _, _ => none
  | _, _, _ => none
theorem appendMakeWK_sound {wc : WCfg T} (ok : CodOk wc.C) {wm : WM T} {sT : TypeId} {s x : W T} {k : W T × WM T → Option R} {r : R} (h : appendMakeWK wc P wm sT s x k = some r) :
    ∃ w wm', k (w, wm') = some r ∧ ∀ {bs α β m vs vx}, WSim bs wc.C α β wm m → Rep wc.C α β s vs → Rep wc.C α β x vx → Goes wc.C wm wm' w bs α β (appendMakeV P m sT vs vx) := by
  unfold appendMakeWK at h
  split at h
  · rename_i e n hu
    split at h
    · rename_i i z kk hi hz hk
      split at h
      · rename_i hc
        obtain ⟨hc1, hc2, hc3⟩ := hc
        split at h
        · rename_i x hx
          obtain ⟨h1, h2⟩ := cond_some h
          obtain ⟨h3, h4⟩ := of_decide_eq_true h1
          refine ⟨_, _, h2, fun {bs α β m vl vc} S hl hc => ?_⟩
          simp only [Rep] at hl hc
          subst hl hc
          obtain ⟨vz, h8, h9, _, _⟩ := zeroCellsW_sound (C := wc.C) hz (α := α) (β := β)
          have hcr := inn_rep ok hx h9
          have hpos := ok.pos kk
          by_cases h0 : n = 0
          · subst h0
            refine ⟨.ro [] 0 true, m, α, β ++ [none], ?_, List.prefix_refl _, pre_app _ _, S.pushN ?_, ?_⟩
            · simp only [appendMakeV, hu, hi, h8]
              rw [if_pos ⟨h3, h4, hc3, by omega, by rw [← h9.length]; exact hc1⟩]
              rfl
            · simp only [EnOk]; exact .inl ⟨by simp, by simp⟩
            · simp only [Rep]; exact .inl ⟨by rw [← S.lenH]; simp, by trivial⟩
          · refine ⟨.sl m.B.length 0 0 n.toNat, _, α, β ++ [some (m.B.length, 0, n.toNat)], ?_, List.prefix_refl _, pre_app _ _, S.pushB (hi' := m.hi) (bb := .cells i.size 0 (pureL vz) false (repl n.toNat vz)) ?_, ?_⟩
            · simp only [appendMakeV, hu, hi, h8]
              rw [if_pos ⟨h3, h4, hc3, by omega, by rw [← h9.length]; exact hc1⟩, if_neg h0]
            · simp only [EnOk]
              refine .inr ⟨m.B.length, 0, repl n.toNat vz, by simp, ?_, CRL.replicate hcr _⟩
              simp [ok.pure _ _ _ hcr, hc2]
            · simp only [Rep]
              exact .inr ⟨m.B.length, 0, n.toNat, by rw [← S.lenH]; simp, rfl⟩
        · cases h
      · cases h
    · cases h
  · cases h
end Go.Proofs.YtpdgbhjhodhkiaaGreatDoor.AI
