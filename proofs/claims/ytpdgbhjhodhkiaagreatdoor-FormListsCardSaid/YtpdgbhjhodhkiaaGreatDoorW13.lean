/- Typed values: a part of the memory seen by itself; put back behind a call. -/
import Derived.Test.YtpdgbhjhodhkiaaGreatDoorW12
set_option linter.unnecessarySimpa false
set_option linter.unusedVariables false
set_option linter.unusedSimpArgs false
namespace Go.Proofs.YtpdgbhjhodhkiaaGreatDoor.AI
open Go
variable {T : Nat → Type} {C : Cod T} {R : Type} {P : Program} {cfg : Cfg} {wc : WCfg T} {I : WI T R}
variable {bs : Base} {α α' : List Nat} {β β' : Bt} {wm wm' : WM T} {m m' : Mem}

/-! ### New names -/
mutual
def renF (fa fh : Nat → Option Nat) : W T → Option (W T)
  | .ptr i off => (fa i).map fun p => .ptr p off
  | .own k h => (fh h).map fun p => .own k p
  | .view k h off len => (fh h).map fun p => .view k p off len
  | .oelem k h i off => (fh h).map fun p => .oelem k p i off
  | .map h => (fh h).map fun p => .map p
  | .yld h => (fh h).map fun p => .yld p
  | .fn f ws => (renFL fa fh ws).map fun l => .fn f l
  | .ifc t w => (renF fa fh w).map fun x => .ifc t x
  | .agg ws => (renFL fa fh ws).map fun l => .agg l
  | .tup ws => (renFL fa fh ws).map fun l => .tup l
  | .undef => some .undef
  | .bool b => some (.bool b)
  | .int k n => some (.int k n)
  | .str s => some (.str s)
  | .nilp => some .nilp
  | .nilsl => some .nilsl
  | .row k l f => some (.row k l f)
  | .relem k x o => some (.relem k x o)
  | .nilm => some .nilm
  | .nilf => some .nilf
  | .nili => some .nili
def renFL (fa fh : Nat → Option Nat) : List (W T) → Option (List (W T))
  | [] => some []
  | w :: ws => (renF fa fh w).bind fun x => (renFL fa fh ws).map fun l => x :: l
end
def renFU (fa fh : Nat → Option Nat) (w : W T) : W T := (renF fa fh w).getD .undef
structure Ren (fa fh : Nat → Option Nat) (α α' : List Nat) (β β' : Bt) : Prop where
  a : ∀ (i p j : Nat), fa i = some p → α[i]? = some j → α'[p]? = some j
  h : ∀ (i p : Nat) x, fh i = some p → β[i]? = some x → β'[p]? = some x
mutual
theorem renF_rep {fa fh : Nat → Option Nat} (N : Ren fa fh α α' β β') : ∀ {w w' : W T} {v : V}, renF fa fh w = some w' → Rep C α β w v → Rep C α' β' w' v
  | .ptr i off, w', v, hw, hr => by
    simp only [renF] at hw
    obtain ⟨p, hp, rfl⟩ := Option.map_eq_some_iff.1 hw
    simp only [Rep] at hr ⊢
    obtain ⟨j, h1, h2⟩ := hr
    exact ⟨j, N.a _ _ _ hp h1, h2⟩
  | .own k h, w', v, hw, hr => by
    simp only [renF] at hw
    obtain ⟨p, hp, rfl⟩ := Option.map_eq_some_iff.1 hw
    simp only [Rep] at hr ⊢
    rcases hr with ⟨h1, h2⟩ | ⟨b, ver, n, h1, h2⟩
    · exact .inl ⟨N.h _ _ _ hp h1, h2⟩
    · exact .inr ⟨b, ver, n, N.h _ _ _ hp h1, h2⟩
  | .view k h off len, w', v, hw, hr => by
    simp only [renF] at hw
    obtain ⟨p, hp, rfl⟩ := Option.map_eq_some_iff.1 hw
    simp only [Rep] at hr ⊢
    rcases hr with ⟨h1, h2⟩ | ⟨b, ver, n, h1, h2⟩
    · exact .inl ⟨N.h _ _ _ hp h1, h2⟩
    · exact .inr ⟨b, ver, n, N.h _ _ _ hp h1, h2⟩
  | .oelem k h i off, w', v, hw, hr => by
    simp only [renF] at hw
    obtain ⟨p, hp, rfl⟩ := Option.map_eq_some_iff.1 hw
    simp only [Rep] at hr ⊢
    obtain ⟨b, ver, n, h1, h2⟩ := hr
    exact ⟨b, ver, n, N.h _ _ _ hp h1, h2⟩
  | .map h, w', v, hw, hr => by
    simp only [renF] at hw
    obtain ⟨p, hp, rfl⟩ := Option.map_eq_some_iff.1 hw
    simp only [Rep] at hr ⊢
    obtain ⟨b, ver, n, h1, h2⟩ := hr
    exact ⟨b, ver, n, N.h _ _ _ hp h1, h2⟩
  | .yld h, w', v, hw, hr => by
    simp only [renF] at hw
    obtain ⟨p, hp, rfl⟩ := Option.map_eq_some_iff.1 hw
    simp only [Rep] at hr ⊢
    obtain ⟨b, ver, n, h1, h2⟩ := hr
    exact ⟨b, ver, n, N.h _ _ _ hp h1, h2⟩
  | .fn f ws, w', v, hw, hr => by
    simp only [renF] at hw
    obtain ⟨l, hl, rfl⟩ := Option.map_eq_some_iff.1 hw
    simp only [Rep] at hr ⊢
    obtain ⟨vs, h1, h2⟩ := hr
    exact ⟨vs, h1, renFL_rep N hl h2⟩
  | .ifc t w, w', v, hw, hr => by
    simp only [renF] at hw
    obtain ⟨l, hl, rfl⟩ := Option.map_eq_some_iff.1 hw
    simp only [Rep] at hr ⊢
    obtain ⟨u, h1, h2⟩ := hr
    exact ⟨u, h1, renF_rep N hl h2⟩
  | .agg ws, w', v, hw, hr => by
    simp only [renF] at hw
    obtain ⟨l, hl, rfl⟩ := Option.map_eq_some_iff.1 hw
    simp only [Rep] at hr ⊢
    obtain ⟨vs, h1, h2⟩ := hr
    exact ⟨vs, h1, renFL_rep N hl h2⟩
  | .tup ws, w', v, hw, hr => by
    simp only [renF] at hw
    obtain ⟨l, hl, rfl⟩ := Option.map_eq_some_iff.1 hw
    simp only [Rep] at hr ⊢
    obtain ⟨vs, h1, h2⟩ := hr
    exact ⟨vs, h1, renFL_rep N hl h2⟩
  | .undef, w', v, hw, hr | .bool _, w', v, hw, hr | .int _ _, w', v, hw, hr | .str _, w', v, hw, hr | .nilp, w', v, hw, hr | .nilsl, w', v, hw, hr | .row _ _ _, w', v, hw, hr
  | .relem _ _ _, w', v, hw, hr | .nilm, w', v, hw, hr | .nilf, w', v, hw, hr | .nili, w', v, hw, hr => by
    simp only [renF, Option.some.injEq] at hw
    subst hw
    simpa only [Rep] using hr
theorem renFL_rep {fa fh : Nat → Option Nat} (N : Ren fa fh α α' β β') : ∀ {ws ws' : List (W T)} {vs : List V}, renFL fa fh ws = some ws' → RepL C α β ws vs → RepL C α' β' ws' vs
  | [], ws', vs, hw, hr => by
    simp only [renFL, Option.some.injEq] at hw
    subst hw
    simpa only [RepL] using hr
  | w :: ws, ws', vs, hw, hr => by
    simp only [renFL] at hw
    obtain ⟨x, hx, hw⟩ := Option.bind_eq_some_iff.1 hw
    obtain ⟨l, hl, rfl⟩ := Option.map_eq_some_iff.1 hw
    simp only [RepL] at hr
    obtain ⟨v, vs', rfl, h1, h2⟩ := hr
    exact RepL.cons (renF_rep N hx h1) (renFL_rep N hl h2)
end
theorem renFU_rep {fa fh : Nat → Option Nat} (N : Ren fa fh α α' β β') {w : W T} {v : V} (h : Rep C α β w v) : Rep C α' β' (renFU fa fh w) v := by
  unfold renFU
  cases hw : renF fa fh w with
  | none => simp only [Option.getD_none, Rep]
  | some x => exact renF_rep N hw h
theorem renFU_repL {fa fh : Nat → Option Nat} (N : Ren fa fh α α' β β') {ws : List (W T)} {vs : List V} (h : RepL C α β ws vs) : RepL C α' β' (ws.map (renFU fa fh)) vs := by
  induction ws generalizing vs with
  | nil => simpa only [List.map_nil, RepL] using h
  | cons w ws ihh =>
    simp only [RepL] at h
    obtain ⟨v, vs', rfl, h1, h2⟩ := h
    exact RepL.cons (renFU_rep N h1) (ihh h2)
def renFE (fa fh : Nat → Option Nat) : En T → En T
  | .loop s pend tm ps as bo pt => .loop s pend (tm.map (renFU fa fh)) ps as bo pt
  | e => e
theorem renFE_live {fa fh : Nat → Option Nat} {e : En T} : (renFE fa fh e).live = e.live := by cases e <;> rfl
theorem renFE_ok {fa fh : Nat → Option Nat} (N : Ren fa fh α α' β β') {h p : Nat} (hp : fh h = some p) {e : En T} (k : EnOk C α β m h e) : EnOk C α' β' m p (renFE fa fh e) := by
  cases e with
  | dead => trivial
  | rows kk l =>
    simp only [EnOk, renFE] at k ⊢
    rcases k with ⟨k1, k2⟩ | ⟨b, ver, cs, k1, k2, k3⟩
    · exact .inl ⟨N.h _ _ _ hp k1, k2⟩
    · exact .inr ⟨b, ver, cs, N.h _ _ _ hp k1, k2, k3⟩
  | map kk kv es =>
    simp only [EnOk, renFE] at k ⊢
    obtain ⟨b, ver, n, es', k1, k2, k3⟩ := k
    exact ⟨b, ver, n, es', N.h _ _ _ hp k1, k2, k3⟩
  | loop s pend tm ps as bo pt =>
    simp only [EnOk, renFE] at k ⊢
    obtain ⟨b, ver, n, tm', k1, k2, k3⟩ := k
    exact ⟨b, ver, n, tm', N.h _ _ _ hp k1, k2, renFU_repL N k3⟩

/-! ### A part of the memory -/
def αren (α : List Nat) (ia : List Nat) : List Nat := ia.map fun i => (α[i]?).getD 0
theorem posOf_lt {l : List Nat} {h p : Nat} (k : posOf l h = some p) : p < l.length := (List.getElem?_eq_some_iff.1 (posOf_some k)).1
theorem posOf_inv {l : List Nat} (hn : nodupB l = true) {h p : Nat} (k : l[p]? = some h) : posOf l h = some p := by
  have := posOf_mem k
  obtain ⟨q, hq⟩ := Option.isSome_iff_exists.1 this
  rw [hq, nodupB_inj hn (posOf_some hq) k]
theorem αren_get {ia : List Nat} {p i j : Nat} (hp : ia[p]? = some i) (ha : α[i]? = some j) : (αren α ia)[p]? = some j := by
  unfold αren; rw [List.getElem?_map, hp]; simp [ha]
theorem αren_inv {ia : List Nat} (hl : ∀ (p i : Nat), ia[p]? = some i → i < α.length) {p j : Nat} (h : (αren α ia)[p]? = some j) : ∃ i, ia[p]? = some i ∧ α[i]? = some j := by
  unfold αren at h
  rw [List.getElem?_map] at h
  obtain ⟨i, h1, h2⟩ := Option.map_eq_some_iff.1 h
  refine ⟨i, h1, ?_⟩
  have := List.getElem?_eq_getElem (hl p i h1)
  rw [this] at h2 ⊢
  simpa using h2
theorem βren_getp {ih : List Nat} {p h : Nat} {x : Option (Nat × Nat × Nat)} (hp : ih[p]? = some h) (hb : β[h]? = some x) : (βren β ih)[p]? = some x := by
  unfold βren; rw [List.getElem?_map, hp]; simp [hb]
theorem βren_inv {ih : List Nat} {h b ver n : Nat} (hb : (βren β ih)[h]? = some (some (b, ver, n))) : ∃ h0, ih[h]? = some h0 ∧ β[h0]? = some (some (b, ver, n)) := by
  unfold βren at hb
  rw [List.getElem?_map] at hb
  obtain ⟨h0, h1, h2⟩ := Option.map_eq_some_iff.1 hb
  refine ⟨h0, h1, ?_⟩
  cases hx : β[h0]? with
  | none => rw [hx] at h2; cases h2
  | some y => rw [hx] at h2; simp at h2; rw [h2]
theorem ren_sel {ia ih : List Nat} : Ren (posOf ia) (posOf ih) α (αren α ia) β (βren β ih) :=
  ⟨fun i p j hp ha => αren_get (posOf_some hp) ha, fun i p x hp hb => βren_getp (posOf_some hp) hb⟩
def pickA (ia ih : List Nat) (wm : WM T) : List (List (W T)) := ia.map fun i => ((wm.A[i]?).getD []).map (renFU (posOf ia) (posOf ih))
def pickH (ia ih : List Nat) (wm : WM T) : List (En T) := ih.map fun h => renFE (posOf ia) (posOf ih) ((wm.H[h]?).getD .dead)
theorem pickA_get {ia ih : List Nat} {wm : WM T} (hl : ∀ (p i : Nat), ia[p]? = some i → i < wm.A.length) {p : Nat} {ws : List (W T)} (h : (pickA ia ih wm)[p]? = some ws) : ∃ i ws0, ia[p]? = some i ∧ wm.A[i]? = some ws0 ∧ ws = ws0.map (renFU (posOf ia) (posOf ih)) := by
  unfold pickA at h
  rw [List.getElem?_map] at h
  obtain ⟨i, h1, h2⟩ := Option.map_eq_some_iff.1 h
  refine ⟨i, wm.A[i]'(hl p i h1), h1, List.getElem?_eq_getElem _, ?_⟩
  rw [← h2, List.getElem?_eq_getElem (hl p i h1)]
  rfl
theorem pickH_get {ia ih : List Nat} {wm : WM T} (hl : ∀ (p i : Nat), ih[p]? = some i → i < wm.H.length) {p : Nat} {e : En T} (h : (pickH ia ih wm)[p]? = some e) : ∃ i e0, ih[p]? = some i ∧ wm.H[i]? = some e0 ∧ e = renFE (posOf ia) (posOf ih) e0 := by
  unfold pickH at h
  rw [List.getElem?_map] at h
  obtain ⟨i, h1, h2⟩ := Option.map_eq_some_iff.1 h
  refine ⟨i, wm.H[i]'(hl p i h1), h1, List.getElem?_eq_getElem _, ?_⟩
  rw [← h2, List.getElem?_eq_getElem (hl p i h1)]
  rfl
def allLt (l : List Nat) (n : Nat) : Bool := l.all fun i => Nat.blt i n
theorem allLt_get {l : List Nat} {n : Nat} (h : allLt l n = true) {p i : Nat} (k : l[p]? = some i) : i < n := by
  have := List.all_eq_true.1 h i (List.mem_of_getElem? k)
  simpa using this
def allGe (l : List Nat) (n : Nat) : Bool := l.all fun i => Nat.ble n i
theorem allGe_get {l : List Nat} {n : Nat} (h : allGe l n = true) {p i : Nat} (k : l[p]? = some i) : n ≤ i := by
  have := List.all_eq_true.1 h i (List.mem_of_getElem? k)
  simpa using this
def allLive (wm : WM T) (l : List Nat) : Bool := l.all fun i => match wm.H[i]? with | some e => e.live | none => false
theorem allLive_get {l : List Nat} (h : allLive wm l = true) {p i : Nat} (k : l[p]? = some i) {e : En T} (he : wm.H[i]? = some e) : e.live = true := by
  have := List.all_eq_true.1 h i (List.mem_of_getElem? k)
  simpa [he] using this
def selOk (ia ih : List Nat) (wm : WM T) : Bool := nodupB ia && nodupB ih && allLt ia wm.A.length && allLt ih wm.H.length && allGe ia wm.la && allGe ih wm.lh && allLive wm ih
/-- Some blocks and rows by themselves. -/
def selM (ia ih : List Nat) (wm : WM T) : WM T := { A := pickA ia ih wm, H := pickH ia ih wm, la := 0, lh := 0, pa := ia.length, ph := ih.length }
theorem sel_sound {ia ih : List Nat} (h : selOk ia ih wm = true) (S : WSim bs C α β wm m) : WSim ⟨m, αren α ia, βren β ih⟩ C (αren α ia) (βren β ih) (selM ia ih wm) m := by
  simp only [selOk, Bool.and_eq_true] at h
  obtain ⟨⟨⟨⟨⟨⟨na, nh⟩, lA⟩, lH⟩, gA⟩, gH⟩, lv⟩ := h
  have hlA : ∀ (p i : Nat), ia[p]? = some i → i < wm.A.length := fun p i => allLt_get lA
  have hlH : ∀ (p i : Nat), ih[p]? = some i → i < wm.H.length := fun p i => allLt_get lH
  have hlα : ∀ (p i : Nat), ia[p]? = some i → i < α.length := fun p i hp => by rw [S.lenA]; exact hlA p i hp
  have N : Ren (posOf ia) (posOf ih) α (αren α ia) β (βren β ih) := ren_sel
  exact {
    lenA := by simp [αren, selM, pickA]
    lenH := by simp [βren, selM, pickH]
    A := fun p j ws h1 h2 => by
      obtain ⟨i, g1, g2⟩ := αren_inv hlα h1
      obtain ⟨i', ws0, g3, g4, rfl⟩ := pickA_get hlA h2
      rw [g1] at g3; injection g3 with g3; subst g3
      obtain ⟨vs, g5, g6⟩ := S.A i j ws0 g2 g4
      exact ⟨vs, g5, renFU_repL N g6⟩
    injA := fun p p' j h1 h2 => by
      obtain ⟨i, g1, g2⟩ := αren_inv hlα h1
      obtain ⟨i', g3, g4⟩ := αren_inv hlα h2
      have := S.injA i i' j g2 g4
      subst this
      exact nodupB_inj na g1 g3
    la := fun p j h1 _ => by
      obtain ⟨i, g1, g2⟩ := αren_inv hlα h1
      exact S.la i j g2 (allGe_get gA g1)
    H := fun p e he => by
      obtain ⟨i, e0, g1, g2, rfl⟩ := pickH_get hlH he
      exact renFE_ok N (posOf_inv nh g1) (S.H i e0 g2)
    injH := fun p p' e e' b ver n ver' n' h1 h2 l1 l2 b1 b2 => by
      obtain ⟨i, e0, g1, g2, rfl⟩ := pickH_get hlH h1
      obtain ⟨i', e0', g1', g2', rfl⟩ := pickH_get hlH h2
      obtain ⟨h0, k1, k2⟩ := βren_inv b1
      obtain ⟨h0', k1', k2'⟩ := βren_inv b2
      rw [g1] at k1; injection k1 with k1; subst k1
      rw [g1'] at k1'; injection k1' with k1'; subst k1'
      have := S.injH _ _ _ _ _ _ _ _ _ g2 g2' (by rw [← renFE_live]; exact l1) (by rw [← renFE_live]; exact l2) k2 k2'
      subst this
      exact nodupB_inj nh g1 g1'
    lb := fun p e b ver n he l hb _ => by
      obtain ⟨i, e0, g1, g2, rfl⟩ := pickH_get hlH he
      obtain ⟨h0, k1, k2⟩ := βren_inv hb
      rw [g1] at k1; injection k1 with k1; subst k1
      exact S.lb _ _ _ _ _ g2 (by rw [← renFE_live]; exact l) k2 (allGe_get gH g1)
    ltB := fun p b ver n hb => by
      obtain ⟨h0, _, k2⟩ := βren_inv hb
      exact S.ltB _ _ _ _ k2
    pa := List.prefix_refl _
    pb := List.prefix_refl _
    na := fun i j h1 h2 => by have := (List.getElem?_eq_some_iff.1 h1).1; simp only at h2; omega
    nb := fun h b ver n hb => .inl ⟨h, ver, n, hb⟩
    fa := fun _ _ _ => rfl
    fb := fun _ _ _ => rfl
    lenA0 := Nat.le_refl _
    lenB0 := Nat.le_refl _
    la0 := rfl
    lb0 := rfl
    bla := by have := S.la0; have := S.bla; have := S.lenA0; show m.la ≤ m.A.length; omega
    blb := by have := S.lb0; have := S.blb; have := S.lenB0; show m.lb ≤ m.B.length; omega
    hpa := by simp [αren, selM]
    bα := fun p j h1 => by
      obtain ⟨i, g1, g2⟩ := αren_inv hlα h1
      exact S.ltA g2
    hph := by simp [βren, selM] }

/-! ### Put back -/
def backF (ia : List Nat) (n : Nat) (p : Nat) : Option Nat :=
  match ia[p]? with
  | some i => some i
  | none => some (n + (p - ia.length))
def backL {X : Type} (d : X) (old : List X) (ia : List Nat) (new : List X) : List X :=
  ((List.range old.length).map fun i => match posOf ia i with | some p => (new[p]?).getD d | none => (old[i]?).getD d) ++ new.drop ia.length
theorem backL_length {X : Type} {d : X} {old new : List X} {ia : List Nat} : (backL d old ia new).length = old.length + (new.length - ia.length) := by simp [backL]
theorem backL_old {X : Type} {d : X} {old new : List X} {ia : List Nat} {i : Nat} {x : X} (h : (backL d old ia new)[i]? = some x) (hi : i < old.length) (hn : posOf ia i = none) : old[i]? = some x := by
  unfold backL at h
  rw [List.getElem?_append_left (by simpa using hi), List.getElem?_map, List.getElem?_range hi] at h
  simp only [Option.map_some, hn, Option.some.injEq] at h
  rw [List.getElem?_eq_getElem hi] at h ⊢
  simpa using h
theorem backL_sel {X : Type} {d : X} {old new : List X} {ia : List Nat} {i p : Nat} {x : X} (h : (backL d old ia new)[i]? = some x) (hi : i < old.length) (hp : posOf ia i = some p) (hl : ia.length ≤ new.length) : new[p]? = some x := by
  unfold backL at h
  rw [List.getElem?_append_left (by simpa using hi), List.getElem?_map, List.getElem?_range hi] at h
  simp only [Option.map_some, hp, Option.some.injEq] at h
  have : p < new.length := Nat.lt_of_lt_of_le (posOf_lt hp) hl
  rw [List.getElem?_eq_getElem this] at h ⊢
  simpa using h
theorem backL_new {X : Type} {d : X} {old new : List X} {ia : List Nat} {i : Nat} {x : X} (h : (backL d old ia new)[i]? = some x) (hi : old.length ≤ i) : new[ia.length + (i - old.length)]? = some x := by
  unfold backL at h
  rw [List.getElem?_append_right (by simpa using hi)] at h
  simpa using h
def backM (ia ih : List Nat) (wm wl : WM T) : WM T :=
  { A := backL [] wm.A ia (wl.A.map (List.map (renFU (backF ia wm.A.length) (backF ih wm.H.length)))), H := backL .dead wm.H ih (wl.H.map (renFE (backF ia wm.A.length) (backF ih wm.H.length))), la := wm.la, lh := wm.lh, pa := wm.pa, ph := wm.ph }
theorem ren_back {ia ih : List Nat} {n q : Nat} (hn : α.length = n) (hq : β.length = q) (lA : ∀ (p i : Nat), ia[p]? = some i → i < α.length) (pa : αren α ia <+: α') (pb : βren β ih <+: β') (lH : ∀ (p i : Nat), ih[p]? = some i → i < β.length) :
    Ren (backF ia n) (backF ih q) α' (α ++ α'.drop ia.length) β' (β ++ β'.drop ih.length) := by
  constructor
  · intro p i j hf ha
    unfold backF at hf
    split at hf
    · rename_i i' hi
      injection hf with hf
      subst hf
      have h1 : α[i']? = some (α[i']'(lA _ _ hi)) := List.getElem?_eq_getElem _
      have h2 := get_pre pa (αren_get hi h1)
      rw [ha] at h2; injection h2 with h2
      rw [List.getElem?_append_left (lA _ _ hi), h1, h2]
    · rename_i hi
      injection hf with hf
      subst hf
      have : ia.length ≤ p := by
        apply Nat.le_of_not_lt
        intro hlt
        rw [List.getElem?_eq_getElem hlt] at hi
        cases hi
      rw [List.getElem?_append_right (by omega), List.getElem?_drop, hn, show ia.length + (n + (p - ia.length) - n) = p by omega]
      exact ha
  · intro p i x hf hb
    unfold backF at hf
    split at hf
    · rename_i i' hi
      injection hf with hf
      subst hf
      have h1 : β[i']? = some (β[i']'(lH _ _ hi)) := List.getElem?_eq_getElem _
      have h2 := get_pre pb (βren_getp hi h1)
      rw [hb] at h2; injection h2 with h2
      rw [List.getElem?_append_left (lH _ _ hi), h1, h2]
    · rename_i hi
      injection hf with hf
      subst hf
      have : ih.length ≤ p := by
        apply Nat.le_of_not_lt
        intro hlt
        rw [List.getElem?_eq_getElem hlt] at hi
        cases hi
      rw [List.getElem?_append_right (by omega), List.getElem?_drop, hq, show ih.length + (q + (p - ih.length) - q) = p by omega]
      exact hb
def backOk (ia ih : List Nat) (wl : WM T) : Bool := Nat.beq wl.lh 0 && Nat.ble ia.length wl.A.length && Nat.ble ih.length wl.H.length
theorem back_sound {ia ih : List Nat} {wl : WM T} (h : selOk ia ih wm = true) (hb : backOk ia ih wl = true) (S : WSim bs C α β wm m) (S' : WSim ⟨m, αren α ia, βren β ih⟩ C α' β' wl m') :
    WSim bs C (α ++ α'.drop ia.length) (β ++ β'.drop ih.length) (backM ia ih wm wl) m' ∧ Ren (backF ia wm.A.length) (backF ih wm.H.length) α' (α ++ α'.drop ia.length) β' (β ++ β'.drop ih.length) := by
  simp only [selOk, Bool.and_eq_true] at h
  obtain ⟨⟨⟨⟨⟨⟨na, nh⟩, lA⟩, lH⟩, gA⟩, gH⟩, lv⟩ := h
  simp only [backOk, Bool.and_eq_true] at hb
  obtain ⟨⟨hlh, hA⟩, hH⟩ := hb
  have hlh : wl.lh = 0 := by simpa using hlh
  have hA : ia.length ≤ wl.A.length := by simpa using hA
  have hH : ih.length ≤ wl.H.length := by simpa using hH
  have hlA : ∀ (p i : Nat), ia[p]? = some i → i < wm.A.length := fun p i => allLt_get lA
  have hlH : ∀ (p i : Nat), ih[p]? = some i → i < wm.H.length := fun p i => allLt_get lH
  have hlα : ∀ (p i : Nat), ia[p]? = some i → i < α.length := fun p i hp => by rw [S.lenA]; exact hlA p i hp
  have hlβ : ∀ (p i : Nat), ih[p]? = some i → i < β.length := fun p i hp => by rw [S.lenH]; exact hlH p i hp
  have N : Ren (backF ia wm.A.length) (backF ih wm.H.length) α' (α ++ α'.drop ia.length) β' (β ++ β'.drop ih.length) := ren_back S.lenA S.lenH hlα S'.pa S'.pb hlβ
  refine ⟨?_, N⟩
  have pre : α <+: α ++ α'.drop ia.length := pre_app _ _
  have preb : β <+: β ++ β'.drop ih.length := pre_app _ _
  have hll : (αren α ia).length = ia.length := by simp [αren]
  have hlb : (βren β ih).length = ih.length := by simp [βren]
  -- where a block comes from
  have caseA : ∀ (i j : Nat), (α ++ α'.drop ia.length)[i]? = some j → (i < wm.A.length ∧ α[i]? = some j ∧ posOf ia i = none) ∨ (∃ p, α'[p]? = some j ∧ ((i < wm.A.length ∧ α[i]? = some j ∧ posOf ia i = some p) ∨ (wm.A.length ≤ i ∧ p = ia.length + (i - wm.A.length)))) := by
    intro i j hi
    by_cases hlt : i < α.length
    · rw [List.getElem?_append_left hlt] at hi
      cases hp : posOf ia i with
      | none => exact .inl ⟨by rw [← S.lenA]; exact hlt, hi, rfl⟩
      | some p => exact .inr ⟨p, get_pre S'.pa (αren_get (posOf_some hp) hi), .inl ⟨by rw [← S.lenA]; exact hlt, hi, rfl⟩⟩
    · rw [List.getElem?_append_right (by omega), List.getElem?_drop, S.lenA] at hi
      exact .inr ⟨_, hi, .inr ⟨by rw [← S.lenA]; omega, rfl⟩⟩
  have newA : ∀ (i p j : Nat), wm.A.length ≤ i → p = ia.length + (i - wm.A.length) → α'[p]? = some j → m.A.length ≤ j := by
    intro i p j hi hp hj
    exact S'.na p j hj (by show (αren α ia).length ≤ p; omega)
  have caseH : ∀ (h : Nat) e, (backM ia ih wm wl).H[h]? = some e → (h < wm.H.length ∧ wm.H[h]? = some e ∧ posOf ih h = none) ∨ (∃ p e0, wl.H[p]? = some e0 ∧ e = renFE (backF ia wm.A.length) (backF ih wm.H.length) e0 ∧ backF ih wm.H.length p = some h ∧ ((h < wm.H.length ∧ posOf ih h = some p) ∨ (wm.H.length ≤ h ∧ p = ih.length + (h - wm.H.length)))) := by
    intro h e he
    simp only [backM] at he
    by_cases hlt : h < wm.H.length
    · cases hp : posOf ih h with
      | none => exact .inl ⟨hlt, backL_old he hlt hp, rfl⟩
      | some p =>
        have := backL_sel he hlt hp (by simpa using hH)
        rw [List.getElem?_map] at this
        obtain ⟨e0, g1, g2⟩ := Option.map_eq_some_iff.1 this
        refine .inr ⟨p, e0, g1, g2.symm, ?_, .inl ⟨hlt, rfl⟩⟩
        unfold backF
        rw [posOf_some hp]
    · have := backL_new he (by omega)
      rw [List.getElem?_map] at this
      obtain ⟨e0, g1, g2⟩ := Option.map_eq_some_iff.1 this
      refine .inr ⟨_, e0, g1, g2.symm, ?_, .inr ⟨by omega, rfl⟩⟩
      unfold backF
      rw [List.getElem?_eq_none (by omega)]
      simp only [Option.some.injEq]
      omega
  have bigH : ∀ (h b ver n : Nat), (β ++ β'.drop ih.length)[h]? = some (some (b, ver, n)) → (h < wm.H.length ∧ β[h]? = some (some (b, ver, n))) ∨ (wm.H.length ≤ h ∧ β'[ih.length + (h - wm.H.length)]? = some (some (b, ver, n))) := by
    intro h b ver n hb
    by_cases hlt : h < β.length
    · rw [List.getElem?_append_left hlt] at hb
      exact .inl ⟨by rw [← S.lenH]; exact hlt, hb⟩
    · rw [List.getElem?_append_right (by omega), List.getElem?_drop, S.lenH] at hb
      exact .inr ⟨by rw [← S.lenH]; omega, hb⟩
  -- the part's entry for a row of the whole
  have locH : ∀ (h p b ver n : Nat), ((h < wm.H.length ∧ posOf ih h = some p) ∨ (wm.H.length ≤ h ∧ p = ih.length + (h - wm.H.length))) → (β ++ β'.drop ih.length)[h]? = some (some (b, ver, n)) → β'[p]? = some (some (b, ver, n)) := by
    intro h p b ver n hc hb
    rcases hc with ⟨h1, h2⟩ | ⟨h1, rfl⟩
    · rcases bigH _ _ _ _ hb with ⟨_, h3⟩ | ⟨h3, _⟩
      · exact get_pre S'.pb (βren_getp (posOf_some h2) h3)
      · omega
    · rcases bigH _ _ _ _ hb with ⟨h3, _⟩ | ⟨_, h3⟩
      · omega
      · exact h3
  -- a row of the whole that is not in the part shares no block with it
  have apart : ∀ (h : Nat) e b ver n, wm.H[h]? = some e → e.live = true → posOf ih h = none → β[h]? = some (some (b, ver, n)) → ∀ (p ver' n' : Nat), β'[p]? ≠ some (some (b, ver', n')) := by
    intro h e b ver n he hl hp hb p ver' n' hb'
    rcases S'.nb p b ver' n' hb' with ⟨h', v1, n1, hx⟩ | hge
    · obtain ⟨h0, k1, k2⟩ := βren_inv hx
      have hl0 := hlH _ _ k1
      have := S.injH h h0 e (wm.H[h0]) b ver n v1 n1 he (List.getElem?_eq_getElem hl0) hl (allLive_get lv k1 (List.getElem?_eq_getElem hl0)) hb k2
      subst this
      rw [posOf_inv nh k1] at hp
      cases hp
    · have := S.ltB _ _ _ _ hb
      simp only at hge
      omega
  exact {
    lenA := by
      rw [List.length_append, List.length_drop, S.lenA]
      simp only [backM, backL_length, List.length_map]
      have := S'.lenA
      omega
    lenH := by
      rw [List.length_append, List.length_drop, S.lenH]
      simp only [backM, backL_length, List.length_map]
      have := S'.lenH
      omega
    A := fun i j ws h1 h2 => by
      simp only [backM] at h2
      rcases caseA i j h1 with ⟨g1, g2, g3⟩ | ⟨p, g1, g2⟩
      · have h3 := backL_old h2 g1 g3
        obtain ⟨vs, g4, g5⟩ := S.A i j ws g2 h3
        refine ⟨vs, ?_, g5.ext pre preb⟩
        rw [S'.fa j (S.ltA g2) (fun q hq => by
          obtain ⟨i0, k1, k2⟩ := αren_inv hlα hq
          have := S.injA _ _ _ g2 k2
          subst this
          rw [posOf_inv na k1] at g3
          cases g3)]
        exact g4
      · have h3 : (wl.A.map (List.map (renFU (backF ia wm.A.length) (backF ih wm.H.length))))[p]? = some ws := by
          rcases g2 with ⟨k1, _, k3⟩ | ⟨k1, rfl⟩
          · exact backL_sel h2 k1 k3 (by simpa using hA)
          · exact backL_new h2 k1
        rw [List.getElem?_map] at h3
        obtain ⟨ws0, k1, rfl⟩ := Option.map_eq_some_iff.1 h3
        obtain ⟨vs, k2, k3⟩ := S'.A p j ws0 g1 k1
        exact ⟨vs, k2, renFU_repL N k3⟩
    injA := fun i i' j h1 h2 => by
      have old : ∀ (i : Nat), (α ++ α'.drop ia.length)[i]? = some j → (i < wm.A.length ∧ α[i]? = some j) ∨ (wm.A.length ≤ i ∧ α'[ia.length + (i - wm.A.length)]? = some j) := by
        intro i hi
        rcases caseA i j hi with ⟨g1, g2, _⟩ | ⟨p, g1, ⟨g2, g3, _⟩ | ⟨g2, rfl⟩⟩
        · exact .inl ⟨g1, g2⟩
        · exact .inl ⟨g2, g3⟩
        · exact .inr ⟨g2, g1⟩
      rcases old i h1 with ⟨a1, a2⟩ | ⟨a1, a2⟩ <;> rcases old i' h2 with ⟨b1, b2⟩ | ⟨b1, b2⟩
      · exact S.injA _ _ _ a2 b2
      · have := S.ltA a2; have := newA i' _ j b1 rfl b2; omega
      · have := S.ltA b2; have := newA i _ j a1 rfl a2; omega
      · have := S'.injA _ _ _ a2 b2; omega
    la := fun i j h1 h2 => by
      have e : m'.la = m.la := S'.la0
      rw [e]
      rcases caseA i j h1 with ⟨g1, g2, _⟩ | ⟨p, g1, ⟨g2, g3, _⟩ | ⟨g2, g3⟩⟩
      · exact S.la i j g2 h2
      · exact S.la i j g3 h2
      · have := newA i p j g2 g3 g1
        have : m.la ≤ m.A.length := S'.bla
        omega
    H := fun h e he => by
      rcases caseH h e he with ⟨g1, g2, g3⟩ | ⟨p, e0, g1, rfl, g3, _⟩
      · refine EnOk.mem (m := m) (fun hl b ver n hb => ?_) ((S.H h e g2).ext pre preb)
        rcases bigH _ _ _ _ hb with ⟨_, hb⟩ | ⟨hx, _⟩
        · exact S'.fb b (S.ltB _ _ _ _ hb) (fun h' ver' n' hx => apart h e b ver n g2 hl g3 hb h' ver' n' (get_pre S'.pb hx))
        · omega
      · exact renFE_ok N g3 (S'.H p e0 g1)
    injH := fun h h' e e' b ver n ver' n' h1 h2 l1 l2 b1 b2 => by
      rcases caseH h e h1 with ⟨g1, g2, g3⟩ | ⟨p, e0, g1, rfl, g3, g4⟩ <;> rcases caseH h' e' h2 with ⟨k1, k2, k3⟩ | ⟨p', e0', k1, rfl, k3, k4⟩
      · rcases bigH _ _ _ _ b1 with ⟨_, b1⟩ | ⟨hx, _⟩
        · rcases bigH _ _ _ _ b2 with ⟨_, b2⟩ | ⟨hx, _⟩
          · exact S.injH _ _ _ _ _ _ _ _ _ g2 k2 l1 l2 b1 b2
          · omega
        · omega
      · rcases bigH _ _ _ _ b1 with ⟨_, b1⟩ | ⟨hx, _⟩
        · exact absurd (locH _ _ _ _ _ k4 b2) (apart h e b ver n g2 l1 g3 b1 p' ver' n')
        · omega
      · rcases bigH _ _ _ _ b2 with ⟨_, b2⟩ | ⟨hx, _⟩
        · exact absurd (locH _ _ _ _ _ g4 b1) (apart h' e' b ver' n' k2 l2 k3 b2 p ver n)
        · omega
      · have := S'.injH _ _ _ _ _ _ _ _ _ g1 k1 (by rw [← renFE_live]; exact l1) (by rw [← renFE_live]; exact l2) (locH _ _ _ _ _ g4 b1) (locH _ _ _ _ _ k4 b2)
        subst this
        rcases g4 with ⟨q1, q2⟩ | ⟨q1, q2⟩ <;> rcases k4 with ⟨r1, r2⟩ | ⟨r1, r2⟩
        · have e1 := posOf_some q2
          have e2 := posOf_some r2
          rw [e1] at e2; injection e2
        · have := posOf_lt q2; omega
        · have := posOf_lt r2; omega
        · omega
    lb := fun h e b ver n he l hb hlh' => by
      have e1 : m'.lb = m.lb := S'.lb0
      rcases caseH h e he with ⟨g1, g2, g3⟩ | ⟨p, e0, g1, rfl, g3, g4⟩
      · rw [e1]
        rcases bigH _ _ _ _ hb with ⟨_, hb⟩ | ⟨hx, _⟩
        · exact S.lb _ _ _ _ _ g2 l hb hlh'
        · omega
      · exact S'.lb _ _ _ _ _ g1 (by rw [← renFE_live]; exact l) (locH _ _ _ _ _ g4 hb) (by omega)
    ltB := fun h b ver n hb => by
      have : m.B.length ≤ m'.B.length := S'.lenB0
      rcases bigH _ _ _ _ hb with ⟨_, hb⟩ | ⟨_, hb⟩
      · have := S.ltB _ _ _ _ hb; omega
      · exact S'.ltB _ _ _ _ hb
    pa := S.pa.trans pre
    pb := S.pb.trans preb
    na := fun i j h1 h2 => by
      have := S.lenA0
      rcases caseA i j h1 with ⟨g1, g2, _⟩ | ⟨p, g1, ⟨g2, g3, _⟩ | ⟨g2, g3⟩⟩
      · exact S.na i j g2 h2
      · exact S.na i j g3 h2
      · have := newA i p j g2 g3 g1
        omega
    nb := fun h b ver n hb => by
      rcases bigH _ _ _ _ hb with ⟨_, hb⟩ | ⟨_, hb⟩
      · exact S.nb _ _ _ _ hb
      · rcases S'.nb _ _ _ _ hb with ⟨h', v1, n1, hx⟩ | hge
        · obtain ⟨h0, _, k2⟩ := βren_inv hx
          exact S.nb _ _ _ _ k2
        · have := S.lenB0
          simp only at hge
          right; omega
    fa := fun j hj hn => by
      have := S.lenA0
      rw [S'.fa j (by show j < m.A.length; omega) (fun q hq => by
        obtain ⟨i0, _, k2⟩ := αren_inv hlα hq
        exact S.not_old hj hn i0 k2)]
      exact S.fa j hj hn
    fb := fun b hb hn => by
      have := S.lenB0
      rw [S'.fb b (by show b < m.B.length; omega) (fun h ver n hh => by
        obtain ⟨h0, _, k2⟩ := βren_inv hh
        rcases S.nb _ _ _ _ k2 with ⟨h', ver', n', hb'⟩ | hge
        · exact hn _ _ _ hb'
        · omega)]
      exact S.fb b hb hn
    lenA0 := Nat.le_trans S.lenA0 S'.lenA0
    lenB0 := Nat.le_trans S.lenB0 S'.lenB0
    la0 := S'.la0.trans S.la0
    lb0 := S'.lb0.trans S.lb0
    bla := S.bla
    blb := S.blb
    hpa := S.hpa
    bα := S.bα
    hph := S.hph }
end Go.Proofs.YtpdgbhjhodhkiaaGreatDoor.AI
