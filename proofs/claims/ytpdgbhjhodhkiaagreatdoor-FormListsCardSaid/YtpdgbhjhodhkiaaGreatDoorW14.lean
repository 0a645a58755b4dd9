/- Typed values: calls that change the memory, by themselves. -/
import Derived.Test.YtpdgbhjhodhkiaaGreatDoorW13
set_option linter.unnecessarySimpa false
set_option linter.unusedVariables false
set_option linter.unusedSimpArgs false
namespace Go.Proofs.YtpdgbhjhodhkiaaGreatDoor.AI
open Go
variable {T : Nat → Type} {C : Cod T} {R : Type} {P : Program} {cfg : Cfg} {wc : WCfg T} {I : WI T R}
variable {bs : Base} {α α' : List Nat} {β β' : Bt} {wm wm' : WM T} {m m' : Mem}

/-! ### What a call leaves, tidied -/
def pack2 (ia ih : List Nat) (x : List (W T) × WM T) : Option (List (W T) × WM T) :=
  if (nodupB ia && nodupB ih && allLt ia x.2.A.length && allLt ih x.2.H.length && startsB ia x.2.pa && startsB ih x.2.ph && Nat.ble x.2.la x.2.pa && Nat.ble x.2.lh x.2.ph) = true then
    some (x.1.map (renFU (posOf ia) (posOf ih)), { A := pickA ia ih x.2, H := pickH ia ih x.2, la := x.2.la, lh := x.2.lh, pa := x.2.pa, ph := x.2.ph })
  else none
theorem pack2_sound {ia ih : List Nat} {ws ws' : List (W T)} (h : pack2 ia ih (ws, wm) = some (ws', wm')) (S : WSim bs C α β wm m) :
    WSim bs C (αren α ia) (βren β ih) wm' m ∧ ∀ {vs}, RepL C α β ws vs → RepL C (αren α ia) (βren β ih) ws' vs := by
  unfold pack2 at h
  simp only at h
  split at h
  · rename_i hc
    simp only [Bool.and_eq_true] at hc
    obtain ⟨⟨⟨⟨⟨⟨⟨na, nh⟩, lA⟩, lH⟩, sA⟩, sH⟩, hla⟩, hlh⟩ := hc
    have hla : wm.la ≤ wm.pa := by simpa using hla
    have hlh : wm.lh ≤ wm.ph := by simpa using hlh
    injection h with h
    simp only [Prod.mk.injEq] at h
    obtain ⟨rfl, rfl⟩ := h
    have hlA : ∀ (p i : Nat), ia[p]? = some i → i < wm.A.length := fun p i => allLt_get lA
    have hlH : ∀ (p i : Nat), ih[p]? = some i → i < wm.H.length := fun p i => allLt_get lH
    have hlα : ∀ (p i : Nat), ia[p]? = some i → i < α.length := fun p i hp => by rw [S.lenA]; exact hlA p i hp
    have N : Ren (posOf ia) (posOf ih) α (αren α ia) β (βren β ih) := ren_sel
    have hge : ∀ (p i : Nat), ia[p]? = some i → wm.pa ≤ p → wm.pa ≤ i := by
      intro p i hp hpp
      apply Nat.le_of_not_lt
      intro hlt
      have := nodupB_inj na (startsB_get sA hlt) hp
      omega
    have hgeh : ∀ (p i : Nat), ih[p]? = some i → wm.ph ≤ p → wm.ph ≤ i := by
      intro p i hp hpp
      apply Nat.le_of_not_lt
      intro hlt
      have := nodupB_inj nh (startsB_get sH hlt) hp
      omega
    refine ⟨?_, fun hr => renFU_repL N hr⟩
    exact { S with
      lenA := by simp [αren, pickA]
      lenH := by simp [βren, pickH]
      A := fun p j ws h1 h2 => by
        obtain ⟨i, g1, g2⟩ := αren_inv hlα h1
        obtain ⟨i', ws0, g3, g4, rfl⟩ := pickA_get hlA h2
        rw [g1] at g3; injection g3 with g3; subst g3
        obtain ⟨vs, g5, g6⟩ := S.A i j ws0 g2 g4
        exact ⟨vs, g5, renFU_repL N g6⟩
      injA := fun p p' j h1 h2 => by
        obtain ⟨i, g1, g2⟩ := αren_inv hlα h1
        obtain ⟨i', g3, g4⟩ := αren_inv hlα h2
        have := S.injA i i' j g2 g4
        subst this
        exact nodupB_inj na g1 g3
      la := fun p j h1 h2 => by
        obtain ⟨i, g1, g2⟩ := αren_inv hlα h1
        refine S.la i j g2 ?_
        by_cases hp : p < wm.pa
        · have := startsB_get sA hp
          rw [g1] at this; injection this with this; subst this
          exact h2
        · have := hge p i g1 (by omega)
          omega
      H := fun p e he => by
        obtain ⟨i, e0, g1, g2, rfl⟩ := pickH_get hlH he
        exact renFE_ok N (posOf_inv nh g1) (S.H i e0 g2)
      injH := fun p p' e e' b ver n ver' n' h1 h2 l1 l2 b1 b2 => by
        obtain ⟨i, e0, g1, g2, rfl⟩ := pickH_get hlH h1
        obtain ⟨i', e0', g1', g2', rfl⟩ := pickH_get hlH h2
        obtain ⟨h0, k1, k2⟩ := βren_inv b1
        obtain ⟨h0', k1', k2'⟩ := βren_inv b2
        rw [g1] at k1; injection k1 with k1; subst k1
        rw [g1'] at k1'; injection k1' with k1'; subst k1'
        have := S.injH _ _ _ _ _ _ _ _ _ g2 g2' (by rw [← renFE_live]; exact l1) (by rw [← renFE_live]; exact l2) k2 k2'
        subst this
        exact nodupB_inj nh g1 g1'
      lb := fun p e b ver n he l hb hl => by
        obtain ⟨i, e0, g1, g2, rfl⟩ := pickH_get hlH he
        obtain ⟨h0, k1, k2⟩ := βren_inv hb
        rw [g1] at k1; injection k1 with k1; subst k1
        refine S.lb _ _ _ _ _ g2 (by rw [← renFE_live]; exact l) k2 ?_
        by_cases hp : p < wm.ph
        · have := startsB_get sH hp
          rw [g1] at this; injection this with this; subst this
          exact hl
        · have := hgeh p i g1 (by omega)
          omega
      ltB := fun p b ver n hb => by
        obtain ⟨h0, _, k2⟩ := βren_inv hb
        exact S.ltB _ _ _ _ k2
      pa := by
        have hp := S.hpa
        have : (αren α ia).take bs.α.length = bs.α := by
          apply List.ext_getElem?
          intro i
          rw [List.getElem?_take]
          split
          · rename_i hi
            have h2 : bs.α[i]? = some bs.α[i] := List.getElem?_eq_getElem hi
            rw [αren_get (startsB_get sA (by omega)) (get_pre S.pa h2), h2]
          · rename_i hi
            rw [List.getElem?_eq_none (by omega)]
        rw [← this]
        exact List.take_prefix _ _
      pb := by
        have hp := S.hph
        have : (βren β ih).take bs.β.length = bs.β := by
          apply List.ext_getElem?
          intro i
          rw [List.getElem?_take]
          split
          · rename_i hi
            have h2 : bs.β[i]? = some bs.β[i] := List.getElem?_eq_getElem hi
            rw [βren_getp (startsB_get sH (by omega)) (get_pre S.pb h2), h2]
          · rename_i hi
            rw [List.getElem?_eq_none (by omega)]
        rw [← this]
        exact List.take_prefix _ _
      na := fun p j h1 h2 => by
        obtain ⟨i, g1, g2⟩ := αren_inv hlα h1
        have hp := S.hpa
        exact S.na i j g2 (by have := hge p i g1 (by omega); omega)
      nb := fun p b ver n hb => by
        obtain ⟨h0, _, k2⟩ := βren_inv hb
        exact S.nb _ _ _ _ k2
      fa := S.fa
      fb := S.fb
      hpa := S.hpa
      hph := S.hph }
  · cases h

/-! ### What is reached -/
mutual
def W.as : W T → List Nat
  | .ptr i _ => [i]
  | .fn _ ws => asL ws
  | .ifc _ w => W.as w
  | .agg ws => asL ws
  | .tup ws => asL ws
  | .undef | .bool _ | .int _ _ | .str _ | .nilp | .nilsl | .row _ _ _ | .relem _ _ _ | .own _ _ | .view _ _ _ _ | .oelem _ _ _ _ | .nilm | .map _ | .nilf | .yld _ | .nili => []
def asL : List (W T) → List Nat
  | [] => []
  | w :: ws => W.as w ++ asL ws
end
def addNew (n : Nat) : List Nat → List Nat → List Nat
  | acc, [] => acc
  | acc, x :: l => if (posOf acc x).isSome || !(Nat.blt x n) then addNew n acc l else addNew n (acc ++ [x]) l
def liveAt (wm : WM T) (h : Nat) : Bool := match wm.H[h]? with | some e => e.live | none => false
def entVals : En T → List (W T)
  | .loop _ _ tm _ _ _ _ => tm
  | _ => []
/-- Further blocks and rows that are reached from the values ws. -/
def reach (wm : WM T) : Nat → List Nat → List Nat → List (W T) → List Nat × List Nat
  | 0, ia, ih, _ => (ia, ih)
  | n + 1, ia, ih, ws =>
    let ia' := addNew wm.A.length ia (asL ws)
    let ih' := addNew wm.H.length ih ((hsL ws).filter (liveAt wm))
    if Nat.beq ia'.length ia.length && Nat.beq ih'.length ih.length then (ia, ih) else
    reach wm n ia' ih' ((ia'.drop ia.length).flatMap (fun i => (wm.A[i]?).getD []) ++ (ih'.drop ih.length).flatMap fun h => match wm.H[h]? with | some e => entVals e | none => [])
/-- A call's outcome, tidied: what was there stays in its place. -/
def tidyW (x : W T × WM T) : Option (W T × WM T) :=
  let ia := List.range x.2.pa
  let ih := List.range x.2.ph
  let r := reach x.2 20 ia ih (x.1 :: (ia.flatMap (fun i => (x.2.A[i]?).getD []) ++ ih.flatMap fun h => match x.2.H[h]? with | some e => entVals e | none => []))
  (pack2 r.1 r.2 ([x.1], x.2)).bind fun y => match y.1 with | [w] => some (w, y.2) | _ => none
theorem tidyW_sound {w w' : W T} (h : tidyW (w, wm) = some (w', wm')) (S : WSim bs C α β wm m) : ∃ α' β', WSim bs C α' β' wm' m ∧ ∀ {v}, Rep C α β w v → Rep C α' β' w' v := by
  unfold tidyW at h
  obtain ⟨⟨ws, wm1⟩, h1, h2⟩ := Option.bind_eq_some_iff.1 h
  simp only at h2
  split at h2
  · rename_i w1
    injection h2 with h2
    simp only [Prod.mk.injEq] at h2
    obtain ⟨rfl, rfl⟩ := h2
    obtain ⟨S1, r1⟩ := pack2_sound h1 S
    refine ⟨_, _, S1, fun {v} hr => ?_⟩
    exact (RepL.cons_iff.1 (r1 (RepL.cons hr RepL.nil))).1
  · cases h2

/-! ### A call by itself -/
def HeapSaid (cfg : Cfg) (C : Cod T) (f : FuncId) (ws : List (W T)) (wm : WM T) (w : W T) (wm' : WM T) : Prop :=
  ∀ {α β m vs}, WSim ⟨m, α, β⟩ C α β wm m → RepL C α β ws vs → ∃ v m' α' β', callW cfg (.fn f) vs m = some (v, m') ∧ WSim ⟨m, α, β⟩ C α' β' wm' m' ∧ Rep C α' β' w v
def heapWK (cfg : Cfg) (wc : WCfg T) (I : WI T R) (f : FuncId) (ws : List (W T)) (wm : WM T) (k : W T × WM T → Option R) : Option R :=
  bodyWK cfg wc I f ws wm fun x => opK (tidyW x) k
theorem heapWK_sound (ok : CodOk wc.C) (io : IOk cfg wc.C I) {f : FuncId} {ws : List (W T)} {wm : WM T} {k : W T × WM T → Option R} {r : R} (h : heapWK cfg wc I f ws wm k = some r) : ∃ w wm', k (w, wm') = some r ∧ HeapSaid cfg wc.C f ws wm w wm' := by
  unfold heapWK at h
  obtain ⟨w, wm1, h1, h2⟩ := bodyWK_sound ok io h
  obtain ⟨⟨w2, wm2⟩, h3, h4⟩ := opK_some h1
  refine ⟨w2, wm2, h4, fun {α β m vs} S hr => ?_⟩
  obtain ⟨v, m', α1, β1, g1, _, _, g2, g3⟩ := h2 S hr
  obtain ⟨α2, β2, S2, r2⟩ := tidyW_sound h3 g2
  exact ⟨v, m', α2, β2, g1, S2, r2 g3⟩
theorem HeapSaid.out {f : FuncId} {ws : List (W T)} {w w' : W T} (h : HeapSaid cfg C f ws wm w wm') (hw : ∀ {α β v}, Rep C α β w v → Rep C α β w' v) : HeapSaid cfg C f ws wm w' wm' := fun S hr => by
  obtain ⟨v, m', α', β', h1, h2, h3⟩ := h S hr
  exact ⟨v, m', α', β', h1, h2, hw h3⟩

/-! ### A call's own part of the memory -/
structure Win (T : Nat → Type) where
  ia : List Nat
  ih : List Nat
  ws : List (W T)
  wm : WM T
  big : WM T
/-- Arguments in their form: '0 ..' a datum of that kind, '100 ..' a row that may grow (nil too), else as it is. -/
def canA (C : Cod T) : List Nat → List (W T) → Option (List (W T))
  | [], [] => some []
  | k :: ks, w :: ws => (canA C ks ws).bind fun l => if Nat.blt k 90 then (inV C k w).map fun x => outV C k x :: l else some (w :: l)
  | _, _ => none
theorem canA_sound (ok : CodOk C) : ∀ {ks : List Nat} {ws ws' : List (W T)}, canA C ks ws = some ws' → ∀ {vs}, RepL C α β ws vs → RepL C α β ws' vs
  | [], [], ws', h, vs, hr => by
    simp only [canA, Option.some.injEq] at h
    subst h
    exact hr
  | k :: ks, w :: ws, ws', h, vs, hr => by
    simp only [canA] at h
    obtain ⟨l, h1, h2⟩ := Option.bind_eq_some_iff.1 h
    simp only [RepL] at hr
    obtain ⟨v, vs', rfl, r1, r2⟩ := hr
    split at h2
    · obtain ⟨x, h3, rfl⟩ := Option.map_eq_some_iff.1 h2
      exact RepL.cons (outV_rep ok (inV_rep ok h3 r1)) (canA_sound ok h1 r2)
    · injection h2 with h2
      subst h2
      exact RepL.cons r1 (canA_sound ok h1 r2)
  | [], _ :: _, _, h, _, _ => by simp [canA] at h
  | _ :: _, [], _, h, _, _ => by simp [canA] at h
def softT : Nat → List Nat → List (W T) → List (Nat × Nat)
  | i, k :: ks, w :: ws => (match w with | .nilsl => if Nat.ble 100 k then [(i, k - 100)] else [] | _ => []) ++ softT (i + 1) ks ws
  | _, _, _ => []
def softA (ia : List Nat) (st : WM T) : List (Nat × Nat × Nat) → List (Nat × Nat × Nat)
  | [] => []
  | (p, j, k) :: l =>
    (match ia[p]? with
    | some i => match st.A[i]? with
      | some ws => match ws[j]? with
        | some .nilsl => [(i, j, k)]
        | _ => []
      | none => []
    | none => []) ++ softA ia st l
theorem matT_pre : ∀ {l : List (Nat × Nat)} {st st' : WSt T}, matT l st = some st' → ∀ {bs α β vst}, SSim bs C α β st vst → ∃ β', β <+: β' ∧ SSim bs C α β' st' vst
  | [], st, st', h, bs, α, β, vst, S => by
    simp only [matT, Option.some.injEq] at h
    subst h
    exact ⟨β, List.prefix_refl _, S⟩
  | (t, k) :: l, st, st', h, bs, α, β, vst, S => by
    simp only [matT] at h
    split at h
    · rename_i ht
      obtain ⟨β', h1, h2⟩ := matT_pre h (β := β ++ [none]) (α := α) (bs := bs) (vst := vst) ⟨by
        obtain ⟨v, h1, h2⟩ := S.tm.get ht
        have := (S.tm.ext (List.prefix_refl α) (pre_app β [none])).set t (w := .own k st.mem.H.length) (v := v) (by
          simp only [Rep] at h2 ⊢
          exact .inl ⟨by rw [← S.mem.lenH]; simp, h2⟩)
        rw [set_self h1] at this
        exact this, S.mem.pushN (by simp only [EnOk]; exact .inl ⟨by simp, by first | rfl | trivial⟩), S.df.ext (List.prefix_refl _) (pre_app _ _), S.rd⟩
      exact ⟨β', (pre_app _ _).trans h1, h2⟩
    · exact matT_pre h S
    · cases h
theorem matA_pre : ∀ {l : List (Nat × Nat × Nat)} {st st' : WSt T}, matA l st = some st' → ∀ {bs α β vst}, SSim bs C α β st vst → ∃ β', β <+: β' ∧ SSim bs C α β' st' vst
  | [], st, st', h, bs, α, β, vst, S => by
    simp only [matA, Option.some.injEq] at h
    subst h
    exact ⟨β, List.prefix_refl _, S⟩
  | (i, j, k) :: l, st, st', h, bs, α, β, vst, S => by
    simp only [matA] at h
    split at h
    · rename_i ws hws
      split at h
      · rename_i hj
        have S1 := S.mem.pushN (e := .rows k []) (by simp only [EnOk]; exact .inl ⟨by simp, by first | rfl | trivial⟩)
        have S2 := S1.reA (i := i) (ws := ws) (ws' := ws.set j (.own k st.mem.H.length)) hws (fun vs hr => by
          obtain ⟨v, h1, h2⟩ := hr.get hj
          have := hr.set j (w := .own k st.mem.H.length) (v := v) (by
            simp only [Rep] at h2 ⊢
            exact .inl ⟨by rw [← S.mem.lenH]; simp, h2⟩)
          rw [set_self h1] at this
          exact this)
        obtain ⟨β', g1, g2⟩ := matA_pre h (β := β ++ [none]) (vst := vst) ⟨S.tm.ext (List.prefix_refl _) (pre_app _ _), S2, S.df.ext (List.prefix_refl _) (pre_app _ _), S.rd⟩
        exact ⟨β', (pre_app _ _).trans g1, g2⟩
      · exact matA_pre h S
      · cases h
    · cases h
def winW (C : Cod T) (ks : List Nat) (ma : List (Nat × Nat × Nat)) (ws : List (W T)) (wm : WM T) : Option (Win T) :=
  (canA C ks ws).bind fun ws1 =>
  (matT (softT 0 ks ws1) { tm := ws1, mem := wm, df := [], rd := false }).bind fun st1 =>
  (matA (softA (reach st1.mem 20 [] [] st1.tm).1 st1.mem ma) st1).bind fun st2 =>
  let r := reach st2.mem 20 [] [] st2.tm
  if selOk r.1 r.2 st2.mem = true then (renFL (posOf r.1) (posOf r.2) st2.tm).map fun ws2 => ⟨r.1, r.2, ws2, selM r.1 r.2 st2.mem, st2.mem⟩ else none
theorem winW_sound (ok : CodOk C) {ks : List Nat} {ma : List (Nat × Nat × Nat)} {ws : List (W T)} {L : Win T} (h : winW C ks ma ws wm = some L) {vs : List V} (S : WSim bs C α β wm m) (hr : RepL C α β ws vs) :
    ∃ β1, β <+: β1 ∧ WSim bs C α β1 L.big m ∧ selOk L.ia L.ih L.big = true ∧ L.wm = selM L.ia L.ih L.big ∧ RepL C (αren α L.ia) (βren β1 L.ih) L.ws vs := by
  unfold winW at h
  obtain ⟨ws1, h1, h⟩ := Option.bind_eq_some_iff.1 h
  obtain ⟨st1, h2, h⟩ := Option.bind_eq_some_iff.1 h
  obtain ⟨st2, h3, h⟩ := Option.bind_eq_some_iff.1 h
  simp only at h
  split at h
  · rename_i hs
    obtain ⟨ws2, h4, rfl⟩ := Option.map_eq_some_iff.1 h
    have S0 : SSim bs C α β { tm := ws1, mem := wm, df := [], rd := false } { tm := vs, mem := m, df := [], rd := false } := ⟨canA_sound ok h1 hr, S, DfR.nil, rfl⟩
    obtain ⟨β1, p1, S1⟩ := matT_pre h2 S0
    obtain ⟨β2, p2, S2⟩ := matA_pre h3 S1
    exact ⟨β2, p1.trans p2, S2.mem, hs, rfl, renFL_rep ren_sel h4 S2.tm⟩
  · cases h
def backW (L : Win T) (x : W T × WM T) : Option (W T × WM T) :=
  if backOk L.ia L.ih x.2 = true then (renF (backF L.ia L.big.A.length) (backF L.ih L.big.H.length) x.1).map fun w => (w, backM L.ia L.ih L.big x.2) else none
theorem heap_call (ok : CodOk C) {ks : List Nat} {ma : List (Nat × Nat × Nat)} {f : FuncId} {ws : List (W T)} {L : Win T} (h : winW C ks ma ws wm = some L) {w w2 : W T} {wl wm2 : WM T}
    (hs : HeapSaid cfg C f L.ws L.wm w wl) (hb : backW L (w, wl) = some (w2, wm2)) : CallSaid C ws wm wm2 w2 (callW cfg (.fn f)) := by
  intro bs α β m vs S hr
  obtain ⟨β1, p1, S1, hsel, e, hr1⟩ := winW_sound ok h S hr
  unfold backW at hb
  simp only at hb
  split at hb
  · rename_i hbo
    obtain ⟨w3, h3, h4⟩ := Option.map_eq_some_iff.1 hb
    simp only [Prod.mk.injEq] at h4
    obtain ⟨rfl, rfl⟩ := h4
    rw [e] at hs
    obtain ⟨v, m', α', β', g1, g2, g3⟩ := hs (sel_sound hsel S1) hr1
    obtain ⟨k1, k2⟩ := back_sound hsel hbo S1 g2
    exact ⟨v, m', _, _, g1, pre_app _ _, p1.trans (pre_app _ _), k1, renF_rep k2 h3 g3⟩
  · cases hb

/-- A call's answers in their form. -/
def canR (C : Cod T) (rs : List Nat) (w : W T) : Option (W T) :=
  match rs with
  | [k] => if Nat.blt k 90 then (inV C k w).map fun x => outV C k x else some w
  | _ => match w with
    | .tup ws => (canA C rs ws).map fun l => .tup l
    | _ => none
theorem canR_sound (ok : CodOk C) {rs : List Nat} {w w' : W T} (h : canR C rs w = some w') {α : List Nat} {β : Bt} {v : V} (hr : Rep C α β w v) : Rep C α β w' v := by
  unfold canR at h
  split at h
  · split at h
    · obtain ⟨x, h3, rfl⟩ := Option.map_eq_some_iff.1 h
      exact outV_rep ok (inV_rep ok h3 hr)
    · injection h with h
      subst h
      exact hr
  · split at h
    · obtain ⟨l, h3, rfl⟩ := Option.map_eq_some_iff.1 h
      simp only [Rep] at hr ⊢
      obtain ⟨vs, h1, h2⟩ := hr
      exact ⟨vs, h1, canA_sound ok h3 h2⟩
    · cases h
theorem heap_of (ok : CodOk wc.C) (io : IOk cfg wc.C I) {rs : List Nat} {f : FuncId} {ws : List (W T)} {wm : WM T} {k : W T × WM T → Option R} {r : R} (h : (heapWK cfg wc I f ws wm fun x => opK (canR wc.C rs x.1) fun w => k (w, x.2)) = some r) :
    ∃ w wm', k (w, wm') = some r ∧ HeapSaid cfg wc.C f ws wm w wm' := by
  obtain ⟨w, wm', h1, h2⟩ := heapWK_sound ok io h
  obtain ⟨w2, h3, h4⟩ := opK_some h1
  exact ⟨w2, wm', h4, h2.out fun hr => canR_sound ok h3 hr⟩

/-! ### Places of code that are walked once -/
def tidyC (na : Nat) (kill : List Nat) (st : WSt T) : Option (WSt T) :=
  if (st.df.isEmpty && Nat.ble st.mem.pa na) = true then
    let tm := killT kill st.tm
    let ia := List.range na
    let ih := List.range st.mem.ph
    let r := reach st.mem 20 ia ih (tm ++ (ia.flatMap (fun i => (st.mem.A[i]?).getD []) ++ ih.flatMap fun h => match st.mem.H[h]? with | some e => entVals e | none => []))
    if startsB r.1 na = true then (pack2 r.1 r.2 (tm, st.mem)).map fun y => { tm := y.1, mem := y.2, df := [], rd := st.rd } else none
  else none
theorem tidyC_sound {na : Nat} {kill : List Nat} {st st' : WSt T} (h : tidyC na kill st = some st') {vst : St} (S : SSim bs C α' β' st vst) (ha : α <+: α') (hn : α.length = na) : ∃ α1 β1, α <+: α1 ∧ SSim bs C α1 β1 st' vst := by
  unfold tidyC at h
  split at h
  · rename_i hc
    simp only [Bool.and_eq_true] at hc
    simp only at h
    split at h
    · rename_i hs
      obtain ⟨⟨tm, wm1⟩, h1, rfl⟩ := Option.map_eq_some_iff.1 h
      obtain ⟨S1, r1⟩ := pack2_sound h1 S.mem
      refine ⟨_, _, ?_, r1 (killT_rep S.tm), S1, ?_, S.rd⟩
      · have : (αren α' (reach st.mem 20 (List.range na) (List.range st.mem.ph) (killT kill st.tm ++ ((List.range na).flatMap (fun i => (st.mem.A[i]?).getD []) ++ (List.range st.mem.ph).flatMap fun h => match st.mem.H[h]? with | some e => entVals e | none => []))).1).take α.length = α := by
          apply List.ext_getElem?
          intro i
          rw [List.getElem?_take]
          split
          · rename_i hi
            have h2 : α[i]? = some α[i] := List.getElem?_eq_getElem hi
            rw [αren_get (startsB_get hs (by omega)) (get_pre ha h2), h2]
          · rename_i hi
            rw [List.getElem?_eq_none (by omega)]
        rw [← this]
        exact List.take_prefix _ _
      · have hd := S.df
        have e : st.df = [] := by simpa using hc.1
        rw [e] at hd
        generalize vst.df = l at hd ⊢
        cases hd
        exact DfR.nil
    · cases h
  · cases h
def cutWK (cfg : Cfg) (wc : WCfg T) (I : WI T R) (c : Code) (p : List Nat) (kill : List Nat) (st : WSt T) (k : Ex × WSt T → Option R) : Option R :=
  execWK cfg wc I c p st fun x => opK (tidyC st.mem.A.length kill x.2) fun st2 => k (x.1, st2)
theorem cutWK_sound (ok : CodOk wc.C) (io : IOk cfg wc.C I) {c : Code} {p kill : List Nat} {st : WSt T} {k : Ex × WSt T → Option R} {r : R} (h : cutWK cfg wc I c p kill st k = some r) : ∃ x, k x = some r ∧ LoopSaid cfg wc.C c st x := by
  unfold cutWK at h
  obtain ⟨x, h1, h2⟩ := execWK_sound ok io c _ h
  obtain ⟨st2, h3, h4⟩ := opK_some h1
  refine ⟨_, h4, fun {bs α β vst} S => ?_⟩
  obtain ⟨vx, α1, β1, g1, g2, S1⟩ := h2 S
  obtain ⟨α2, β2, g3, S2⟩ := tidyC_sound h3 S1 g2 S.mem.lenA
  exact ⟨vx, α2, β2, g1, g3, S2⟩

/-- What a place's claim comes to. -/
theorem hand_cut {O : Type} {c c0 : Code} {q : Prep} {st : WSt T} {k : Ex × WSt T → Option R} {r : R} {s : WSt T → WSt T} {L : WSt T → Option O} {E : WSt T → O → Ex × WSt T}
    (h : (opK (prepW q st) fun st' => opK (chk2 c c0 st' (s st')) fun _ => opK (L st') fun o => k (E st' o)) = some r)
    (hs : ∀ st' o, L st' = some o → LoopSaid cfg C c0 (s st') (E st' o)) : ∃ x, k x = some r ∧ LoopSaid cfg C c st x := by
  obtain ⟨st', h1, g1⟩ := opK_some h
  obtain ⟨u, h2, g2⟩ := opK_some g1
  obtain ⟨o, h3, g3⟩ := opK_some g2
  obtain ⟨e, h4⟩ := chk2_some h2
  subst e
  have h5 : LoopSaid cfg C c (s st') (E st' o) := hs st' o h3
  rw [← h4] at h5
  exact ⟨_, g3, loop_prep h1 h5⟩

/-- One round of a loop by itself; then the loop in another form. -/
theorem hand_peel {O : Type} {c c0 : Code} {q : Prep} {st : WSt T} {k : Ex × WSt T → Option R} {r : R} {s : WSt T → WSt T} {L : WSt T → Option O} {E : WSt T → O → Ex × WSt T} {J : Code → WSt T → (Ex × WSt T → Option R) → Option R}
    (h : (opK (prepW q st) fun st' => opK (chk2 c c0 st' (s st')) fun _ => opK (L st') fun o => match (E st' o).1 with | .normal => J c (E st' o).2 k | _ => k (E st' o)) = some r)
    (hs : ∀ st' o, L st' = some o → RoundSaid cfg C c0 (s st') (E st' o))
    (hJ : ∀ {st k r}, J c st k = some r → ∃ x, k x = some r ∧ LoopSaid cfg C (.loop c) st x) : ∃ x, k x = some r ∧ LoopSaid cfg C (.loop c) st x := by
  obtain ⟨st', h1, g1⟩ := opK_some h
  obtain ⟨u, h2, g2⟩ := opK_some g1
  obtain ⟨o, h3, g3⟩ := opK_some g2
  obtain ⟨e, h4⟩ := chk2_some h2
  subst e
  have h5 : RoundSaid cfg C c (s st') (E st' o) := hs st' o h3
  rw [← h4] at h5
  generalize E st' o = x at h5 g3
  obtain ⟨ex, s2⟩ := x
  cases ex with
  | normal =>
    obtain ⟨x, k1, k2⟩ := hJ g3
    exact ⟨x, k1, loop_prep h1 (loop_more h5 k2)⟩
  | exit id => exact ⟨_, g3, loop_prep h1 (loop_end h5 (fun h => by cases h))⟩
  | ret => exact ⟨_, g3, loop_prep h1 (loop_end h5 (fun h => by cases h))⟩

/-! ### Forms -/
def En.sk2 : En T → List Nat
  | .dead => [0]
  | .rows k _ => [1, k]
  | .map a b _ => [2, a, b]
  | .loop s p tm _ _ _ pt => 3 :: (match s with | .ready => 0 | .busy => 1 | .done => 2 | .exhausted => 3) :: (match p with | none => 0 | some (.exit i) => 2 + i | some _ => 1) :: (pt ++ skL tm)
def skP (ws : List (W T)) (wm : WM T) : Nat := (skL ws ++ wm.A.flatMap skL ++ wm.H.flatMap En.sk2 ++ [wm.la, wm.lh, wm.pa, wm.ph]).foldl (fun a x => (a * 1000003 + x + 1) % 2305843009213693951) 7
open Classical in
noncomputable def chkP (ws ws' : List (W T)) (wm wm' : WM T) : Option Unit := if ws = ws' ∧ wm = wm' then some () else none
theorem chkP_some {ws ws' : List (W T)} {wm wm' : WM T} {u : Unit} (h : chkP ws ws' wm wm' = some u) : ws = ws' ∧ wm = wm' := by
  unfold chkP at h
  split at h
  · assumption
  · cases h
theorem chkP_eq (ws : List (W T)) (wm : WM T) : chkP ws ws wm wm = some () := by unfold chkP; rw [if_pos ⟨rfl, rfl⟩]
/-- What a call's claim comes to. -/
theorem hand_heap {O : Type} (ok : CodOk C) {f : FuncId} {ks : List Nat} {ma : List (Nat × Nat × Nat)} {ws : List (W T)} {k : W T × WM T → Option R} {r : R} {L : Win T} (hL : winW C ks ma ws wm = some L) {s : List (W T) × WM T} {F : Option O} {E : O → List (W T) × WM T}
    (h : (opK (chkP L.ws s.1 L.wm s.2) fun _ => opK F fun o => match (E o).1 with | [w] => opK (backW L (w, (E o).2)) k | _ => none) = some r)
    (hs : ∀ o w, F = some o → (E o).1 = [w] → HeapSaid cfg C f s.1 s.2 w (E o).2) : ∃ w wm', k (w, wm') = some r ∧ CallSaid C ws wm wm' w (callW cfg (.fn f)) := by
  obtain ⟨u, h2, g2⟩ := opK_some h
  obtain ⟨o, h3, g3⟩ := opK_some g2
  obtain ⟨e1, e2⟩ := chkP_some h2
  split at g3
  · rename_i w hw
    obtain ⟨⟨w2, wm2⟩, h4, g4⟩ := opK_some g3
    have h5 : HeapSaid cfg C f s.1 s.2 w (E o).2 := hs o w h3 hw
    rw [← e1, ← e2] at h5
    exact ⟨w2, wm2, g4, heap_call ok hL h5 h4⟩
  · cases g3
def En.toT : En T → List (W T) | .loop _ _ tm _ _ _ _ => tm | _ => []
def W.toD (C : Cod T) (k : Nat) [Inhabited (T k)] (w : W T) : T k := (inV C k w).getD default
def rfPs : Code → List Tmp | .rangeFunc _ ps _ _ => ps.toList | _ => []
def rfAs : Code → Code | .rangeFunc _ _ a _ => a | _ => .skip
def rfBo : Code → Code | .rangeFunc _ _ _ b => b | _ => .skip
end Go.Proofs.YtpdgbhjhodhkiaaGreatDoor.AI
