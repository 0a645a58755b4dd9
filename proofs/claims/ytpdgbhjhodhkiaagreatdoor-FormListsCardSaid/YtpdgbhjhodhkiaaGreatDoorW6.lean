/- Typed values: maps, builtins, operations. -/
import Derived.Test.YtpdgbhjhodhkiaaGreatDoorW5
set_option linter.unusedVariables false
set_option linter.unusedSimpArgs false
namespace Go.Proofs.YtpdgbhjhodhkiaaGreatDoor.AI
open Go
variable {T : Nat → Type} {C : Cod T} {R : Type} {P : Program}

section
variable {X Y : Type}
def mget (q : X → X → Bool) : List (X × Y) → X → Option Y
  | [], _ => none
  | (a, y) :: es, x => bif q x a then some y else mget q es x
def mset (q : X → X → Bool) : List (X × Y) → X → Y → List (X × Y)
  | [], x, y => [(x, y)]
  | (a, z) :: es, x, y => bif q x a then (x, y) :: es else (a, z) :: mset q es x y
def mdel (q : X → X → Bool) : List (X × Y) → X → List (X × Y)
  | [], _ => []
  | (a, z) :: es, x => bif q x a then es else (a, z) :: mdel q es x
end
theorem find_rep (ok : CodOk C) {kk kv : Nat} {d : TypeDesc} (hk : C.kok P d kk = true) {x : T kk} {u : V} (hx : VR C kk x u) : ∀ {es : List (T kk × T kv)} {es' : List (V × V)} (i : Nat), MapR C kk kv es es' →
    (findV P d u es' i = some none ∧ mget (C.keq kk) es x = none ∧ (∀ y v, VR C kv y v → MapR C kk kv (mset (C.keq kk) es x y) (es' ++ [(u, v)])) ∧ mdel (C.keq kk) es x = es) ∨
    (∃ j v y, findV P d u es' i = some (some (i + j, v)) ∧ mget (C.keq kk) es x = some y ∧ VR C kv y v ∧ (∀ y' v', VR C kv y' v' → MapR C kk kv (mset (C.keq kk) es x y') (es'.modify j fun _ => (u, v'))) ∧ MapR C kk kv (mdel (C.keq kk) es x) (es'.eraseIdx j))
  | [], es', i, h => by
    simp only [MapR] at h
    subst h
    exact .inl ⟨rfl, rfl, fun y v hy => ⟨u, v, [], rfl, hx, hy, rfl⟩, rfl⟩
  | (a, z) :: es, es', i, h => by
    simp only [MapR] at h
    obtain ⟨ua, vz, es1, rfl, ha, hz, h⟩ := h
    obtain ⟨cx, hx1, hx2⟩ := hx
    obtain ⟨ca, ha1, ha2⟩ := ha
    have hq := (ok.key P d kk x a cx ca hk hx1 ha1).1
    rw [← hx2, ← ha2] at hq
    cases hb : C.keq kk x a with
    | true =>
      right
      refine ⟨0, vz, z, ?_, by simp only [mget, hb, cond_true], hz, fun y' v' hy => ?_, ?_⟩
      · simp only [findV, hq, hb, Nat.add_zero]
      · simp only [mset, hb, cond_true]
        exact ⟨u, v', es1, by simp [List.modify], ⟨cx, hx1, hx2⟩, hy, h⟩
      · simp only [mdel, hb, cond_true, List.eraseIdx_cons_zero]
        exact h
    | false =>
      rcases find_rep ok hk ⟨cx, hx1, hx2⟩ (i + 1) h with ⟨h1, h2, h3, h4⟩ | ⟨j, v, y, h1, h2, h3, h4, h5⟩
      · left
        refine ⟨by simp only [findV, hq, hb]; exact h1, by simp only [mget, hb, cond_false]; exact h2, fun y v hy => ?_, by simp only [mdel, hb, cond_false, h4]⟩
        simp only [mset, hb, cond_false]
        exact ⟨ua, vz, es1 ++ [(u, v)], rfl, ⟨ca, ha1, ha2⟩, hz, h3 y v hy⟩
      · right
        refine ⟨j + 1, v, y, ?_, by simp only [mget, hb, cond_false]; exact h2, h3, fun y' v' hy => ?_, ?_⟩
        · simp only [findV, hq, hb]
          rw [h1, show i + 1 + j = i + (j + 1) by omega]
        · simp only [mset, hb, cond_false]
          exact ⟨ua, vz, es1.modify j fun _ => (u, v'), by simp [List.modify], ⟨ca, ha1, ha2⟩, hz, h4 y' v' hy⟩
        · simp only [mdel, hb, cond_false, List.eraseIdx_cons_succ]
          exact ⟨ua, vz, es1.eraseIdx j, rfl, ⟨ca, ha1, ha2⟩, hz, h5⟩
def keyOkW (P : Program) : TypeDesc → W T → Bool
  | .int k, .int k' _ => k == k'
  | .string, .str _ => true
  | .bool, .bool _ => true
  | _, _ => false
theorem keyOkW_sound {d : TypeDesc} {w : W T} (h : keyOkW P d w = true) {α β v} (hr : Rep C α β w v) : keyOk P d v = true := by
  unfold keyOkW at h
  split at h
  · simp only [Rep] at hr; subst hr; exact h
  · simp only [Rep] at hr; subst hr; rfl
  · simp only [Rep] at hr; subst hr; rfl
  · cases h
def lookWK (wc : WCfg T) (P : Program) (wm : WM T) (t : TypeId) (x key : W T) (ok : Bool) (k : W T → Option R) : Option R :=
  match P.underlying t with
  | some (.map kt et) =>
    match P.underlying kt, zeroW (T := T) P et, x with
    | some d, some z, .nilm => if keyOkW P d key = true then k (if ok then .tup [z, .bool false] else z) else none
    | some d, some z, .map h =>
      match wm.H[h]? with
      | some (.map kk kv es) =>
        if wc.C.kok P d kk = true then
          opK (inV wc.C kk key) fun xk => opK (inV wc.C kv z) fun zy =>
            k (if ok then .tup [outV wc.C kv ((mget (wc.C.keq kk) es xk).getD zy), .bool (mget (wc.C.keq kk) es xk).isSome] else outV wc.C kv ((mget (wc.C.keq kk) es xk).getD zy))
        else none
      | _ => none
    | _, _, _ => none
  | _ => none
theorem lookWK_sound {wc : WCfg T} (okc : CodOk wc.C) {wm : WM T} {t : TypeId} {x key : W T} {ok : Bool} {k : W T → Option R} {r : R} (h : lookWK wc P wm t x key ok k = some r) :
    ∃ w, k w = some r ∧ ∀ {bs α β m vx vk}, WSim bs wc.C α β wm m → Rep wc.C α β x vx → Rep wc.C α β key vk → ∃ u, lookupV P m t vx vk ok = some u ∧ Rep wc.C α β w u := by
  unfold lookWK at h
  split at h
  · rename_i kt et hu
    split at h
    · rename_i d z hd hz
      split at h
      · rename_i hk
        refine ⟨_, h, fun {bs α β m vx vk} S hx hk' => ?_⟩
        simp only [Rep] at hx
        subst hx
        obtain ⟨vz, h1, h2⟩ := zeroW_sound (C := wc.C) hz (α := α) (β := β)
        have h3 := keyOkW_sound hk hk'
        refine ⟨if ok then .tup [vz, .bool false] else vz, ?_, ?_⟩
        · simp only [lookupV, hu, hd, h1, findV]
          rw [if_neg (by rw [h3]; simp)]
        · cases ok
          · exact h2
          · simp only [if_true, Rep]
            exact ⟨_, rfl, RepL.cons h2 (RepL.cons (by simp only [Rep]) RepL.nil)⟩
      · cases h
    · rename_i d z hh hd hz
      split at h
      · rename_i kk kv es he
        split at h
        · rename_i hok
          obtain ⟨xk, h1, h⟩ := opK_some h
          obtain ⟨zy, h2, h⟩ := opK_some h
          refine ⟨_, h, fun {bs α β m vx vk} S hx hk' => ?_⟩
          simp only [Rep] at hx
          obtain ⟨b, ver, n, hb, rfl⟩ := hx
          obtain ⟨vz, h3, h4⟩ := zeroW_sound (C := wc.C) hz (α := α) (β := β)
          have hvz := inV_rep okc h2 h4
          have hvk := inV_rep okc h1 hk'
          have hE := S.H _ _ he
          simp only [EnOk] at hE
          obtain ⟨b', ver', n', es', hb', hB, hM⟩ := hE
          rw [hb] at hb'
          injection hb' with hb'; injection hb' with hb'
          simp only [Prod.mk.injEq] at hb'
          obtain ⟨rfl, rfl, rfl⟩ := hb'
          have hko : keyOk P d vk = true := by
            obtain ⟨cx, hx1, hx2⟩ := hvk
            rw [hx2]; exact (okc.key P d kk xk xk cx cx hok hx1 hx1).2
          rcases find_rep okc hok hvk 0 hM with ⟨f1, f2, _, _⟩ | ⟨j, v, y, f1, f2, f3, _, _⟩
          · refine ⟨if ok then .tup [vz, .bool false] else vz, ?_, ?_⟩
            · simp only [lookupV, hu, hd, h3, hB, f1]
              rw [if_neg (by rw [hko]; simp)]
            · rw [f2]
              cases ok
              · exact outV_rep okc hvz
              · simp only [if_true, Rep]
                exact ⟨_, rfl, RepL.cons (outV_rep okc hvz) (RepL.cons (by simp only [Rep]; rfl) RepL.nil)⟩
          · refine ⟨if ok then .tup [v, .bool true] else v, ?_, ?_⟩
            · simp only [lookupV, hu, hd, h3, hB, f1]
              rw [if_neg (by rw [hko]; simp)]
            · rw [f2]
              cases ok
              · exact outV_rep okc f3
              · simp only [if_true, Rep]
                exact ⟨_, rfl, RepL.cons (outV_rep okc f3) (RepL.cons (by simp only [Rep]; rfl) RepL.nil)⟩
        · cases h
      · cases h
    · cases h
  · cases h
def updWK (wc : WCfg T) (P : Program) (wm : WM T) (t : TypeId) (x key v : W T) (k : WM T → Option R) : Option R :=
  match P.underlying t, x with
  | some (.map kt _), .map h =>
    match P.underlying kt, wm.H[h]? with
    | some d, some (.map kk kv es) =>
      if wc.C.kok P d kk = true ∧ wm.lh ≤ h then
        opK (inV wc.C kk key) fun xk => opK (inV wc.C kv v) fun y => k { wm with H := wm.H.set h (.map kk kv (mset (wc.C.keq kk) es xk y)) }
      else none
    | _, _ => none
  | _, _ => none
theorem updWK_sound {wc : WCfg T} (okc : CodOk wc.C) {wm : WM T} {t : TypeId} {x key v : W T} {k : WM T → Option R} {r : R} (h : updWK wc P wm t x key v k = some r) :
    ∃ wm', k wm' = some r ∧ ∀ {bs α β m vx vk vv}, WSim bs wc.C α β wm m → Rep wc.C α β x vx → Rep wc.C α β key vk → Rep wc.C α β v vv → ∃ m', updateV P m t vx vk vv = some m' ∧ WSim bs wc.C α β wm' m' := by
  unfold updWK at h
  split at h
  · rename_i kt et hh hu
    split at h
    · rename_i d kk kv es hd he
      split at h
      · rename_i hok
        obtain ⟨xk, h1, h⟩ := opK_some h
        obtain ⟨y, h2, h⟩ := opK_some h
        refine ⟨_, h, fun {bs α β m vx vk vv} S hx hk' hv => ?_⟩
        simp only [Rep] at hx
        obtain ⟨b, ver, n, hb, rfl⟩ := hx
        have hvv := inV_rep okc h2 hv
        have hvk := inV_rep okc h1 hk'
        have hE := S.H _ _ he
        simp only [EnOk] at hE
        obtain ⟨b', ver', n', es', hb', hB, hM⟩ := hE
        have hb0 := hb
        rw [hb] at hb'
        injection hb' with hb'; injection hb' with hb'
        simp only [Prod.mk.injEq] at hb'
        obtain ⟨rfl, rfl, rfl⟩ := hb'
        have hlb := S.lb _ _ _ _ _ he rfl hb0 hok.2
        have hko : keyOk P d vk = true := by
          obtain ⟨cx, hx1, hx2⟩ := hvk
          rw [hx2]; exact (okc.key P d kk xk xk cx cx hok.1 hx1 hx1).2
        rcases find_rep okc hok.1 hvk 0 hM with ⟨f1, f2, f3, _⟩ | ⟨j, v', y', f1, f2, _, f3, _⟩
        · refine ⟨_, ?_, S.setB (hi' := max m.hi (V.maxA vv)) he rfl hb0 (bb := .map (es' ++ [(vk, vv)])) ?_⟩
          · simp only [updateV, hu, hd, hB, f1]
            rw [if_pos ⟨hlb, hko⟩]
          · simp only [EnOk]
            exact ⟨b, ver, n, _, hb0, by simp [S.ltB _ _ _ _ hb0], f3 _ _ hvv⟩
        · rw [Nat.zero_add] at f1
          refine ⟨_, ?_, S.setB (hi' := max m.hi (V.maxA vv)) he rfl hb0 (bb := .map (es'.modify j fun _ => (vk, vv))) ?_⟩
          · simp only [updateV, hu, hd, hB, f1]
            rw [if_pos ⟨hlb, hko⟩]
          · simp only [EnOk]
            exact ⟨b, ver, n, _, hb0, by simp [S.ltB _ _ _ _ hb0], f3 _ _ hvv⟩
      · cases h
    · cases h
  · cases h
def delWK (wc : WCfg T) (P : Program) (wm : WM T) (t : TypeId) (x key : W T) (k : WM T → Option R) : Option R :=
  match P.underlying t, x with
  | some (.map kt _), .map h =>
    match P.underlying kt, wm.H[h]? with
    | some d, some (.map kk kv es) =>
      if wc.C.kok P d kk = true ∧ wm.lh ≤ h then
        opK (inV wc.C kk key) fun xk => k { wm with H := wm.H.set h (.map kk kv (mdel (wc.C.keq kk) es xk)) }
      else none
    | _, _ => none
  | _, _ => none
theorem delWK_sound {wc : WCfg T} (okc : CodOk wc.C) {wm : WM T} {t : TypeId} {x key : W T} {k : WM T → Option R} {r : R} (h : delWK wc P wm t x key k = some r) :
    ∃ wm', k wm' = some r ∧ ∀ {bs α β m vx vk}, WSim bs wc.C α β wm m → Rep wc.C α β x vx → Rep wc.C α β key vk → ∃ m', deleteV P m t vx vk = some m' ∧ WSim bs wc.C α β wm' m' := by
  unfold delWK at h
  split at h
  · rename_i kt et hh hu
    split at h
    · rename_i d kk kv es hd he
      split at h
      · rename_i hok
        obtain ⟨xk, h1, h⟩ := opK_some h
        refine ⟨_, h, fun {bs α β m vx vk} S hx hk' => ?_⟩
        simp only [Rep] at hx
        obtain ⟨b, ver, n, hb, rfl⟩ := hx
        have hvk := inV_rep okc h1 hk'
        have hE := S.H _ _ he
        simp only [EnOk] at hE
        obtain ⟨b', ver', n', es', hb', hB, hM⟩ := hE
        have hb0 := hb
        rw [hb] at hb'
        injection hb' with hb'; injection hb' with hb'
        simp only [Prod.mk.injEq] at hb'
        obtain ⟨rfl, rfl, rfl⟩ := hb'
        have hlb := S.lb _ _ _ _ _ he rfl hb0 hok.2
        have hko : keyOk P d vk = true := by
          obtain ⟨cx, hx1, hx2⟩ := hvk
          rw [hx2]; exact (okc.key P d kk xk xk cx cx hok.1 hx1 hx1).2
        rcases find_rep okc hok.1 hvk 0 hM with ⟨f1, f2, _, f4⟩ | ⟨j, v', y', f1, f2, _, _, f4⟩
        · refine ⟨m, ?_, ?_⟩
          · simp only [deleteV, hu, hd, hB, f1]
            rw [if_pos ⟨hlb, hko⟩]
          · rw [f4]
            have := S.setB (hi' := m.hi) he rfl hb0 (bb := .map es') (e' := .map kk kv es) (by rw [set_self hB]; exact S.H _ _ he)
            rw [set_self hB] at this
            exact this
        · rw [Nat.zero_add] at f1
          refine ⟨_, ?_, S.setB (hi' := m.hi) he rfl hb0 (bb := .map (es'.eraseIdx j)) ?_⟩
          · simp only [deleteV, hu, hd, hB, f1]
            rw [if_pos ⟨hlb, hko⟩]
          · simp only [EnOk]
            exact ⟨b, ver, n, _, hb0, by simp [S.ltB _ _ _ _ hb0], f4⟩
      · cases h
    · cases h
  · cases h
def makeMapW (wc : WCfg T) (P : Program) (wm : WM T) (t : TypeId) : Option (W T × WM T) :=
  match P.underlying t with
  | some (.map kt et) =>
    match wc.kd kt, wc.kd et with
    | some kk, some kv => some (.map wm.H.length, { wm with H := wm.H ++ [.map kk kv []] })
    | _, _ => none
  | _ => none

/-! ### Builtins -/
def lenW (P : Program) (wm : WM T) (t : TypeId) (x : W T) : Option (W T) :=
  match P.underlying t, x with
  | some .string, .str s => some (.int .i64 s.length)
  | some (.array n _), _ => some (.int .i64 n)
  | some (.slice _), .nilsl => some (.int .i64 0)
  | some (.slice _), .row _ l _ => some (.int .i64 l.length)
  | some (.slice _), .own _ h =>
    match wm.H[h]? with
    | some (.rows _ l) => some (.int .i64 l.length)
    | _ => none
  | some (.slice _), .view _ _ _ n => some (.int .i64 n)
  | some (.map _ _), .nilm => some (.int .i64 0)
  | some (.map _ _), .map h =>
    match wm.H[h]? with
    | some (.map _ _ es) => some (.int .i64 es.length)
    | _ => none
  | _, _ => none
theorem MapR.length {kk kv : Nat} : ∀ {es : List (T kk × T kv)} {es' : List (V × V)}, MapR C kk kv es es' → es.length = es'.length
  | [], es', h => by simp only [MapR] at h; subst h; rfl
  | (a, z) :: es, es', h => by
    simp only [MapR] at h
    obtain ⟨_, _, es1, rfl, _, _, h⟩ := h
    simp [MapR.length h]
theorem lenW_sound {wm : WM T} {t : TypeId} {x w : W T} (h : lenW P wm t x = some w) {bs α β m v} (S : WSim bs C α β wm m) (hr : Rep C α β x v) : ∃ u, lenV P m t v = some u ∧ Rep C α β w u := by
  unfold lenW at h
  split at h
  · rename_i s hu
    injection h with h; subst h
    simp only [Rep] at hr; subst hr
    exact ⟨.int .i64 s.length, by simp only [lenV, hu, size_mk], by simp only [Rep]⟩
  · rename_i n e hu
    injection h with h; subst h
    exact ⟨.int .i64 n, by simp only [lenV, hu], by simp only [Rep]⟩
  · rename_i e hu
    injection h with h; subst h
    simp only [Rep] at hr; subst hr
    exact ⟨.int .i64 0, by simp only [lenV, hu]; rfl, by simp only [Rep]⟩
  · rename_i e kk l full hu
    injection h with h; subst h
    simp only [Rep] at hr; obtain ⟨cs, fl, rfl, _, _⟩ := hr
    exact ⟨.int .i64 l.length, by simp only [lenV, hu], by simp only [Rep]⟩
  · rename_i e kk hh hu
    split at h
    · rename_i k' l he
      injection h with h; subst h
      simp only [Rep] at hr
      refine ⟨.int .i64 l.length, ?_, by simp only [Rep]⟩
      rcases S.rows he with ⟨hb', rfl⟩ | ⟨b', ver', cs, hb', hB, hcr⟩
      · rcases hr with ⟨_, rfl⟩ | ⟨b, ver, nn, hb, rfl⟩
        · simp only [lenV, hu]; rfl
        · rw [hb] at hb'; cases hb'
      · rcases hr with ⟨hb, _⟩ | ⟨b, ver, nn, hb, rfl⟩
        · rw [hb] at hb'; cases hb'
        · rw [hb] at hb'
          injection hb' with hb'; injection hb' with hb'
          simp only [Prod.mk.injEq] at hb'
          obtain ⟨rfl, rfl, rfl⟩ := hb'
          simp only [lenV, hu]
    · cases h
  · rename_i e kk hh off n hu
    injection h with h; subst h
    simp only [Rep] at hr
    refine ⟨.int .i64 n, ?_, by simp only [Rep]⟩
    rcases hr with ⟨_, _, rfl, _, rfl⟩ | ⟨_, _, _, _, rfl⟩ <;> simp only [lenV, hu]
  · rename_i kt et hu
    injection h with h; subst h
    simp only [Rep] at hr; subst hr
    exact ⟨.int .i64 0, by simp only [lenV, hu], by simp only [Rep]⟩
  · rename_i kt et hh hu
    split at h
    · rename_i kk kv es he
      injection h with h; subst h
      simp only [Rep] at hr
      obtain ⟨b, ver, n, hb, rfl⟩ := hr
      have hE := S.H _ _ he
      simp only [EnOk] at hE
      obtain ⟨b', ver', n', es', hb', hB, hM⟩ := hE
      rw [hb] at hb'
      injection hb' with hb'; injection hb' with hb'
      simp only [Prod.mk.injEq] at hb'
      obtain ⟨rfl, rfl, rfl⟩ := hb'
      exact ⟨.int .i64 es.length, by simp only [lenV, hu, hB, hM.length], by simp only [Rep]⟩
    · cases h
  · cases h
def capW (P : Program) (t : TypeId) (x : W T) : Option (W T) :=
  match P.underlying t, x with
  | some (.slice _), .nilsl => some (.int .i64 0)
  | some (.slice _), .row _ l true => some (.int .i64 l.length)
  | _, _ => none
theorem capW_sound {t : TypeId} {x w : W T} (h : capW P t x = some w) {α β v} (hr : Rep C α β x v) : ∃ u, capV P t v = some u ∧ Rep C α β w u := by
  unfold capW at h
  split at h
  · rename_i e hu
    injection h with h; subst h
    simp only [Rep] at hr; subst hr
    exact ⟨.int .i64 0, by simp only [capV, hu]; rfl, by simp only [Rep]⟩
  · rename_i e kk l hu
    injection h with h; subst h
    simp only [Rep] at hr; obtain ⟨cs, fl, rfl, hf, _⟩ := hr
    have hf := hf (by first | rfl | trivial)
    subst hf
    exact ⟨.int .i64 l.length, by simp only [capV, hu], by simp only [Rep]⟩
  · cases h
def maxW : W T → W T → Option (W T)
  | .int k x, .int _ y => some (.int k (max x y))
  | _, _ => none
def minW : W T → W T → Option (W T)
  | .int k x, .int _ y => some (.int k (min x y))
  | _, _ => none
def foldW (f : W T → W T → Option (W T)) : W T → List (W T) → Option (W T)
  | x, [] => some x
  | x, y :: r => (f x y).bind fun z => foldW f z r
theorem foldW_sound {f : W T → W T → Option (W T)} {g : V → V → Option V} (hf : ∀ {x y w}, f x y = some w → ∀ {α β vx vy}, Rep C α β x vx → Rep C α β y vy → ∃ u, g vx vy = some u ∧ Rep C α β w u) :
    ∀ {l : List (W T)} {x w : W T}, foldW f x l = some w → ∀ {α β vx vl}, Rep C α β x vx → RepL C α β l vl → ∃ u, foldV g vx vl = some u ∧ Rep C α β w u
  | [], x, w, h, α, β, vx, vl, hx, hl => by
    simp only [foldW, Option.some.injEq] at h
    subst h
    simp only [RepL] at hl
    subst hl
    exact ⟨vx, rfl, hx⟩
  | y :: l, x, w, h, α, β, vx, vl, hx, hl => by
    simp only [foldW] at h
    obtain ⟨z, h1, h2⟩ := Option.bind_eq_some_iff.1 h
    simp only [RepL] at hl
    obtain ⟨vy, vl', rfl, hy, hl⟩ := hl
    obtain ⟨u, h3, h4⟩ := hf h1 hx hy
    obtain ⟨u', h5, h6⟩ := foldW_sound hf h2 h4 hl
    exact ⟨u', by simp only [foldV, h3, Option.bind_some]; exact h5, h6⟩
theorem maxW_sound {x y w : W T} (h : maxW x y = some w) {α β vx vy} (hx : Rep C α β x vx) (hy : Rep C α β y vy) : ∃ u, maxV vx vy = some u ∧ Rep C α β w u := by
  unfold maxW at h
  split at h
  · rename_i k a _ b
    injection h with h; subst h
    simp only [Rep] at hx hy; subst hx hy
    refine ⟨_, rfl, ?_⟩
    simp only [Rep]
    split <;> (congr 1; omega)
  · cases h
theorem minW_sound {x y w : W T} (h : minW x y = some w) {α β vx vy} (hx : Rep C α β x vx) (hy : Rep C α β y vy) : ∃ u, minV vx vy = some u ∧ Rep C α β w u := by
  unfold minW at h
  split at h
  · rename_i k a _ b
    injection h with h; subst h
    simp only [Rep] at hx hy; subst hx hy
    refine ⟨_, rfl, ?_⟩
    simp only [Rep]
    split <;> (congr 1; omega)
  · cases h
def builtinWK (wc : WCfg T) (P : Program) (wm : WM T) (b : Builtin) (ts : List TypeId) (args : List (W T)) (k : W T × WM T → Option R) : Option R :=
  match b, ts, args with
  | .append, [t, u], [s, x] =>
    match P.underlying u with
    | some (.slice _) => appendWK wc P wm t s x k
    | some .string => appendWK wc P wm t s x k
    | some (.int _) => appendMakeWK wc P wm t s x k
    | _ => none
  | .len, t :: _, x :: _ => opK (lenW P wm t x) fun w => k (w, wm)
  | .cap, t :: _, x :: _ => opK (capW P t x) fun w => k (w, wm)
  | .max, _, x :: r => opK (foldW maxW x r) fun w => k (w, wm)
  | .min, _, x :: r => opK (foldW minW x r) fun w => k (w, wm)
  | .delete, t :: _, [x, key] => delWK wc P wm t x key fun wm' => k (.tup [], wm')
  | _, _, _ => none
theorem goes_val {wm : WM T} {w : W T} {bs α β m} {o : Option V} (S : WSim bs C α β wm m) (h : ∃ u, o = some u ∧ Rep C α β w u) : Goes C wm wm w bs α β (o.map (·, m)) := by
  obtain ⟨u, rfl, h⟩ := h
  exact ⟨u, m, α, β, rfl, List.prefix_refl _, List.prefix_refl _, S, h⟩
theorem goes_mem {wm wm' : WM T} {bs α β} {o : Option Mem} (h : ∃ m', o = some m' ∧ WSim bs C α β wm' m') : Goes C wm wm' (.tup []) bs α β (o.map (V.tup [], ·)) := by
  obtain ⟨m', rfl, h⟩ := h
  exact ⟨.tup [], m', α, β, rfl, List.prefix_refl _, List.prefix_refl _, h, by simp only [Rep]; exact ⟨[], rfl, RepL.nil⟩⟩
theorem builtinWK_sound {wc : WCfg T} (ok : CodOk wc.C) {wm : WM T} {b : Builtin} {ts : List TypeId} {args : List (W T)} {k : W T × WM T → Option R} {r : R} (h : builtinWK wc P wm b ts args k = some r) :
    ∃ w wm', k (w, wm') = some r ∧ ∀ {bs α β m vs}, WSim bs wc.C α β wm m → RepL wc.C α β args vs → Goes wc.C wm wm' w bs α β (builtinV P m b ts vs) := by
  unfold builtinWK at h
  split at h
  · rename_i t u s x
    have two : ∀ {α β vs}, RepL wc.C α β [s, x] vs → ∃ v1 v2, vs = [v1, v2] ∧ Rep wc.C α β s v1 ∧ Rep wc.C α β x v2 := by
      intro α β vs h
      simp only [RepL] at h
      obtain ⟨v1, vs1, rfl, h1, v2, vs2, rfl, h2, rfl⟩ := h
      exact ⟨v1, v2, rfl, h1, h2⟩
    split at h
    · rename_i e hu
      obtain ⟨w, wm', h1, h2⟩ := appendWK_sound ok h
      refine ⟨w, wm', h1, fun S hr => ?_⟩
      obtain ⟨v1, v2, rfl, h3, h4⟩ := two hr
      simp only [builtinV, hu]
      exact h2 S h3 h4
    · rename_i hu
      obtain ⟨w, wm', h1, h2⟩ := appendWK_sound ok h
      refine ⟨w, wm', h1, fun S hr => ?_⟩
      obtain ⟨v1, v2, rfl, h3, h4⟩ := two hr
      simp only [builtinV, hu]
      exact h2 S h3 h4
    · rename_i e hu
      obtain ⟨w, wm', h1, h2⟩ := appendMakeWK_sound ok h
      refine ⟨w, wm', h1, fun S hr => ?_⟩
      obtain ⟨v1, v2, rfl, h3, h4⟩ := two hr
      simp only [builtinV, hu]
      exact h2 S h3 h4
    · cases h
  · rename_i t ts x xs
    obtain ⟨w, h1, h2⟩ := opK_some h
    refine ⟨w, wm, h2, fun S hr => ?_⟩
    simp only [RepL] at hr
    obtain ⟨v1, vs1, rfl, h3, h4⟩ := hr
    exact goes_val S (lenW_sound h1 S h3)
  · rename_i t ts x xs
    obtain ⟨w, h1, h2⟩ := opK_some h
    refine ⟨w, wm, h2, fun S hr => ?_⟩
    simp only [RepL] at hr
    obtain ⟨v1, vs1, rfl, h3, h4⟩ := hr
    exact goes_val S (capW_sound h1 h3)
  · rename_i x xs
    obtain ⟨w, h1, h2⟩ := opK_some h
    refine ⟨w, wm, h2, fun S hr => ?_⟩
    simp only [RepL] at hr
    obtain ⟨v1, vs1, rfl, h3, h4⟩ := hr
    exact goes_val S (foldW_sound (g := maxV) (fun h _ _ _ _ hx hy => maxW_sound h hx hy) h1 h3 h4)
  · rename_i x xs
    obtain ⟨w, h1, h2⟩ := opK_some h
    refine ⟨w, wm, h2, fun S hr => ?_⟩
    simp only [RepL] at hr
    obtain ⟨v1, vs1, rfl, h3, h4⟩ := hr
    exact goes_val S (foldW_sound (g := minV) (fun h _ _ _ _ hx hy => minW_sound h hx hy) h1 h3 h4)
  · rename_i t ts x key
    obtain ⟨wm', h1, h2⟩ := delWK_sound ok h
    refine ⟨_, wm', h1, fun S hr => ?_⟩
    simp only [RepL] at hr
    obtain ⟨v1, vs1, rfl, h3, v2, vs2, rfl, h4, rfl⟩ := hr
    exact goes_mem (h2 S h3 h4)
  · cases h
end Go.Proofs.YtpdgbhjhodhkiaaGreatDoor.AI
