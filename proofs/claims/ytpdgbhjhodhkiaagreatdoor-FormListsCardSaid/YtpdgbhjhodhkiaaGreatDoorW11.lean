/- Typed values: what is no longer needed; rounds of loops. -/
import Derived.Test.YtpdgbhjhodhkiaaGreatDoorW10
set_option linter.unnecessarySimpa false
set_option linter.unusedVariables false
set_option linter.unusedSimpArgs false
namespace Go.Proofs.YtpdgbhjhodhkiaaGreatDoor.AI
open Go
variable {T : Nat → Type} {C : Cod T} {R : Type} {P : Program} {cfg : Cfg} {wc : WCfg T} {I : WI T R}
variable {bs : Base} {α α' : List Nat} {β β' : Bt} {wm wm' : WM T} {m m' : Mem}

/-! ### Rows get new numbers -/
def posOf : List Nat → Nat → Option Nat
  | [], _ => none
  | x :: l, h => if Nat.beq x h = true then some 0 else (posOf l h).map (· + 1)
theorem posOf_some : ∀ {l : List Nat} {h p : Nat}, posOf l h = some p → l[p]? = some h
  | [], h, p, k => by simp [posOf] at k
  | x :: l, h, p, k => by
    simp only [posOf] at k
    split at k
    · rename_i e
      injection k with k
      subst k
      rw [Nat.beq_eq] at e
      simp [e]
    · obtain ⟨q, h1, rfl⟩ := Option.map_eq_some_iff.1 k
      simpa using posOf_some h1
mutual
def renW (ih : List Nat) : W T → Option (W T)
  | .own k h => (posOf ih h).map fun p => .own k p
  | .view k h off len => (posOf ih h).map fun p => .view k p off len
  | .oelem k h i off => (posOf ih h).map fun p => .oelem k p i off
  | .map h => (posOf ih h).map fun p => .map p
  | .yld h => (posOf ih h).map fun p => .yld p
  | .fn f ws => (renWL ih ws).map fun l => .fn f l
  | .ifc t w => (renW ih w).map fun x => .ifc t x
  | .agg ws => (renWL ih ws).map fun l => .agg l
  | .tup ws => (renWL ih ws).map fun l => .tup l
  | w => some w
def renWL (ih : List Nat) : List (W T) → Option (List (W T))
  | [] => some []
  | w :: ws =>
    match renW ih w, renWL ih ws with
    | some x, some l => some (x :: l)
    | _, _ => none
end
def renU (ih : List Nat) (w : W T) : W T := (renW ih w).getD .undef
def βren (β : Bt) (ih : List Nat) : Bt := ih.map fun h => (β[h]?).getD none
theorem βren_get {ih : List Nat} {h p : Nat} {x : Option (Nat × Nat × Nat)} (hp : posOf ih h = some p) (hb : β[h]? = some x) : (βren β ih)[p]? = some x := by
  unfold βren
  rw [List.getElem?_map, posOf_some hp]
  simp [hb]
mutual
theorem renW_rep {ih : List Nat} : ∀ {w w' : W T} {v : V}, renW ih w = some w' → Rep C α β w v → Rep C α (βren β ih) w' v
  | .own k h, w', v, hw, hr => by
    simp only [renW] at hw
    obtain ⟨p, hp, rfl⟩ := Option.map_eq_some_iff.1 hw
    simp only [Rep] at hr ⊢
    rcases hr with ⟨h1, h2⟩ | ⟨b, ver, n, h1, h2⟩
    · exact .inl ⟨βren_get hp h1, h2⟩
    · exact .inr ⟨b, ver, n, βren_get hp h1, h2⟩
  | .view k h off len, w', v, hw, hr => by
    simp only [renW] at hw
    obtain ⟨p, hp, rfl⟩ := Option.map_eq_some_iff.1 hw
    simp only [Rep] at hr ⊢
    rcases hr with ⟨h1, h2⟩ | ⟨b, ver, n, h1, h2⟩
    · exact .inl ⟨βren_get hp h1, h2⟩
    · exact .inr ⟨b, ver, n, βren_get hp h1, h2⟩
  | .oelem k h i off, w', v, hw, hr => by
    simp only [renW] at hw
    obtain ⟨p, hp, rfl⟩ := Option.map_eq_some_iff.1 hw
    simp only [Rep] at hr ⊢
    obtain ⟨b, ver, n, h1, h2⟩ := hr
    exact ⟨b, ver, n, βren_get hp h1, h2⟩
  | .map h, w', v, hw, hr => by
    simp only [renW] at hw
    obtain ⟨p, hp, rfl⟩ := Option.map_eq_some_iff.1 hw
    simp only [Rep] at hr ⊢
    obtain ⟨b, ver, n, h1, h2⟩ := hr
    exact ⟨b, ver, n, βren_get hp h1, h2⟩
  | .yld h, w', v, hw, hr => by
    simp only [renW] at hw
    obtain ⟨p, hp, rfl⟩ := Option.map_eq_some_iff.1 hw
    simp only [Rep] at hr ⊢
    obtain ⟨b, ver, n, h1, h2⟩ := hr
    exact ⟨b, ver, n, βren_get hp h1, h2⟩
  | .fn f ws, w', v, hw, hr => by
    simp only [renW] at hw
    obtain ⟨l, hl, rfl⟩ := Option.map_eq_some_iff.1 hw
    simp only [Rep] at hr ⊢
    obtain ⟨vs, h1, h2⟩ := hr
    exact ⟨vs, h1, renWL_rep hl h2⟩
  | .ifc t w, w', v, hw, hr => by
    simp only [renW] at hw
    obtain ⟨l, hl, rfl⟩ := Option.map_eq_some_iff.1 hw
    simp only [Rep] at hr ⊢
    obtain ⟨u, h1, h2⟩ := hr
    exact ⟨u, h1, renW_rep hl h2⟩
  | .agg ws, w', v, hw, hr => by
    simp only [renW] at hw
    obtain ⟨l, hl, rfl⟩ := Option.map_eq_some_iff.1 hw
    simp only [Rep] at hr ⊢
    obtain ⟨vs, h1, h2⟩ := hr
    exact ⟨vs, h1, renWL_rep hl h2⟩
  | .tup ws, w', v, hw, hr => by
    simp only [renW] at hw
    obtain ⟨l, hl, rfl⟩ := Option.map_eq_some_iff.1 hw
    simp only [Rep] at hr ⊢
    obtain ⟨vs, h1, h2⟩ := hr
    exact ⟨vs, h1, renWL_rep hl h2⟩
  | .undef, w', v, hw, hr | .bool _, w', v, hw, hr | .int _ _, w', v, hw, hr | .str _, w', v, hw, hr | .nilp, w', v, hw, hr | .ptr _ _, w', v, hw, hr | .nilsl, w', v, hw, hr | .row _ _ _, w', v, hw, hr
  | .relem _ _ _, w', v, hw, hr | .nilm, w', v, hw, hr | .nilf, w', v, hw, hr | .nili, w', v, hw, hr => by
    simp only [renW, Option.some.injEq] at hw
    subst hw
    simpa only [Rep] using hr
theorem renWL_rep {ih : List Nat} : ∀ {ws ws' : List (W T)} {vs : List V}, renWL ih ws = some ws' → RepL C α β ws vs → RepL C α (βren β ih) ws' vs
  | [], ws', vs, hw, hr => by
    simp only [renWL, Option.some.injEq] at hw
    subst hw
    simpa only [RepL] using hr
  | w :: ws, ws', vs, hw, hr => by
    simp only [renWL] at hw
    split at hw
    · rename_i x l hx hl
      injection hw with hw
      subst hw
      simp only [RepL] at hr
      obtain ⟨v, vs', rfl, h1, h2⟩ := hr
      exact RepL.cons (renW_rep hx h1) (renWL_rep hl h2)
    · cases hw
end
theorem renU_rep {ih : List Nat} {w : W T} {v : V} (h : Rep C α β w v) : Rep C α (βren β ih) (renU ih w) v := by
  unfold renU
  cases hw : renW ih w with
  | none => simp only [Option.getD_none, Rep]
  | some x => exact renW_rep hw h
theorem renU_repL {ih : List Nat} {ws : List (W T)} {vs : List V} (h : RepL C α β ws vs) : RepL C α (βren β ih) (ws.map (renU ih)) vs := by
  induction ws generalizing vs with
  | nil => simpa only [List.map_nil, RepL] using h
  | cons w ws ihh =>
    simp only [RepL] at h
    obtain ⟨v, vs', rfl, h1, h2⟩ := h
    exact RepL.cons (renU_rep h1) (ihh h2)
def renE (ih : List Nat) : En T → En T
  | .loop s pend tm ps as bo pt => .loop s pend (tm.map (renU ih)) ps as bo pt
  | e => e
def nodupB : List Nat → Bool
  | [] => true
  | x :: l => !(posOf l x).isSome && nodupB l
theorem posOf_mem : ∀ {l : List Nat} {h p : Nat}, l[p]? = some h → (posOf l h).isSome = true
  | [], h, p, k => by simp at k
  | x :: l, h, p, k => by
    simp only [posOf]
    split
    · rfl
    · rename_i hne
      cases p with
      | zero => simp at k; subst k; simp at hne
      | succ p => simpa using posOf_mem (l := l) (by simpa using k)
theorem nodupB_inj : ∀ {l : List Nat} {p q x : Nat}, nodupB l = true → l[p]? = some x → l[q]? = some x → p = q
  | [], p, q, x, _, h, _ => by simp at h
  | y :: l, p, q, x, hn, h1, h2 => by
    simp only [nodupB, Bool.and_eq_true, Bool.not_eq_true'] at hn
    cases p with
    | zero =>
      cases q with
      | zero => rfl
      | succ q =>
        simp at h1 h2
        subst h1
        have := posOf_mem h2
        rw [hn.1] at this
        cases this
    | succ p =>
      cases q with
      | zero =>
        simp at h1 h2
        subst h2
        have := posOf_mem h1
        rw [hn.1] at this
        cases this
      | succ q =>
        simp at h1 h2
        rw [nodupB_inj hn.2 h1 h2]
/-- A list of numbers that begins with 0, 1, .. -/
def startsB (ih : List Nat) : Nat → Bool
  | 0 => true
  | n + 1 => startsB ih n && (match ih[n]? with | some x => Nat.beq x n | none => false)
theorem startsB_get {ih : List Nat} : ∀ {n i : Nat}, startsB ih n = true → i < n → ih[i]? = some i
  | 0, i, _, h => by omega
  | n + 1, i, h, hi => by
    simp only [startsB, Bool.and_eq_true] at h
    by_cases he : i = n
    · subst he
      have h2 := h.2
      split at h2
      · rename_i x hx
        rw [Nat.beq_eq] at h2
        rw [hx, h2]
      · cases h2
    · exact startsB_get h.1 (by omega)
def compact (ih : List Nat) (st : WSt T) : Option (WSt T) :=
  if (nodupB ih && startsB ih st.mem.ph && Nat.ble st.mem.lh st.mem.ph && ih.all fun h => Nat.blt h st.mem.H.length) = true then
    some { tm := st.tm.map (renU ih), mem := { st.mem with A := st.mem.A.map (List.map (renU ih)), H := ih.map fun h => renE ih (st.mem.H.getD h .dead) }, df := st.df.map fun (t, x, y) => (t, renU ih x, renU ih y), rd := st.rd }
  else none
theorem renE_live {ih : List Nat} {e : En T} : (renE ih e).live = e.live := by cases e <;> rfl
theorem compact_sound {ih : List Nat} {st st' : WSt T} (h : compact ih st = some st') {vst : St} (S : SSim bs C α β st vst) : SSim bs C α (βren β ih) st' vst := by
  unfold compact at h
  split at h
  · rename_i hc
    simp only [Bool.and_eq_true] at hc
    obtain ⟨⟨⟨hnd, hst⟩, hlp⟩, hlt⟩ := hc
    injection h with h
    subst h
    have hlp : st.mem.lh ≤ st.mem.ph := by simpa using hlp
    have M := S.mem
    have inv : ∀ {h b ver n : Nat}, (βren β ih)[h]? = some (some (b, ver, n)) → ∃ h0, ih[h]? = some h0 ∧ β[h0]? = some (some (b, ver, n)) := by
      intro h b ver n hb
      unfold βren at hb
      rw [List.getElem?_map] at hb
      obtain ⟨h0, h1, h2⟩ := Option.map_eq_some_iff.1 hb
      refine ⟨h0, h1, ?_⟩
      cases hx : β[h0]? with
      | none => rw [hx] at h2; cases h2
      | some y => rw [hx] at h2; simp at h2; rw [h2]
    have ent : ∀ {h : Nat} {e : En T}, (ih.map fun h => renE ih (st.mem.H.getD h .dead))[h]? = some e → ∃ h0 e0, ih[h]? = some h0 ∧ st.mem.H[h0]? = some e0 ∧ e = renE ih e0 := by
      intro h e he
      rw [List.getElem?_map] at he
      obtain ⟨h0, h1, h2⟩ := Option.map_eq_some_iff.1 he
      have hl : h0 < st.mem.H.length := by
        have := List.all_eq_true.1 hlt h0 (List.mem_of_getElem? h1)
        simpa using this
      refine ⟨h0, st.mem.H[h0], h1, List.getElem?_eq_getElem hl, ?_⟩
      rw [← h2, List.getD_eq_getElem?_getD, List.getElem?_eq_getElem hl]
      rfl
    refine ⟨renU_repL S.tm, ?_, ?_, S.rd⟩
    · exact { M with
        lenA := by simpa using M.lenA
        lenH := by simp [βren]
        A := fun i j ws h1 h2 => by
          simp only [List.getElem?_map] at h2
          obtain ⟨ws0, h3, rfl⟩ := Option.map_eq_some_iff.1 h2
          obtain ⟨vs, h4, h5⟩ := M.A i j ws0 h1 h3
          exact ⟨vs, h4, renU_repL h5⟩
        la := M.la
        H := fun h e he => by
          obtain ⟨h0, e0, h1, h2, rfl⟩ := ent he
          have k := M.H h0 e0 h2
          have get : ∀ {x}, β[h0]? = some x → (βren β ih)[h]? = some x := fun hb => by
            unfold βren
            rw [List.getElem?_map, h1]
            simp [hb]
          cases e0 with
          | dead => trivial
          | rows kk l =>
            simp only [EnOk, renE] at k ⊢
            rcases k with ⟨k1, k2⟩ | ⟨b, ver, cs, k1, k2, k3⟩
            · exact .inl ⟨get k1, k2⟩
            · exact .inr ⟨b, ver, cs, get k1, k2, k3⟩
          | map kk kv es =>
            simp only [EnOk, renE] at k ⊢
            obtain ⟨b, ver, n, es', k1, k2, k3⟩ := k
            exact ⟨b, ver, n, es', get k1, k2, k3⟩
          | loop s pend tm ps as bo pt =>
            simp only [EnOk, renE] at k ⊢
            obtain ⟨b, ver, n, tm', k1, k2, k3⟩ := k
            exact ⟨b, ver, n, tm', get k1, k2, renU_repL k3⟩
        injH := fun h1 h2 e1 e2 b v1 n1 v2 n2 g1 g2 l1 l2 b1 b2 => by
          obtain ⟨p1, x1, q1, r1, rfl⟩ := ent g1
          obtain ⟨p2, x2, q2, r2, rfl⟩ := ent g2
          obtain ⟨p1', q1', s1⟩ := inv b1
          obtain ⟨p2', q2', s2⟩ := inv b2
          rw [q1] at q1'; injection q1' with q1'; subst q1'
          rw [q2] at q2'; injection q2' with q2'; subst q2'
          have := M.injH _ _ _ _ _ _ _ _ _ r1 r2 (by rw [← renE_live]; exact l1) (by rw [← renE_live]; exact l2) s1 s2
          subst this
          exact nodupB_inj hnd q1 q2
        lb := fun h e b ver n g l hb hlh => by
          obtain ⟨p1, x1, q1, r1, rfl⟩ := ent g
          obtain ⟨p1', q1', s1⟩ := inv hb
          rw [q1] at q1'; injection q1' with q1'; subst q1'
          refine M.lb _ _ _ _ _ r1 (by rw [← renE_live]; exact l) s1 ?_
          by_cases hp : h < st.mem.ph
          · have := startsB_get hst hp
            rw [q1] at this; injection this with this; subst this
            exact hlh
          · by_cases hq : p1 < st.mem.ph
            · have := startsB_get hst hq
              have := nodupB_inj hnd q1 this
              omega
            · omega
        ltB := fun h b ver n hb => by
          obtain ⟨h0, _, h2⟩ := inv hb
          exact M.ltB _ _ _ _ h2
        pb := by
          have hp := M.hph
          have : (βren β ih).take bs.β.length = bs.β := by
            apply List.ext_getElem?
            intro i
            rw [List.getElem?_take]
            split
            · rename_i hi
              have h1 := startsB_get hst (i := i) (by omega)
              unfold βren
              rw [List.getElem?_map, h1]
              have h2 : bs.β[i]? = some bs.β[i] := List.getElem?_eq_getElem hi
              have h3 := get_pre M.pb h2
              simp [h3, h2]
            · rename_i hi
              rw [List.getElem?_eq_none (by omega)]
          rw [← this]
          exact List.take_prefix _ _
        nb := fun h b ver n hb => by
          obtain ⟨h0, _, h2⟩ := inv hb
          exact M.nb _ _ _ _ h2
        fb := M.fb
        lenB0 := M.lenB0
        lb0 := M.lb0
        blb := M.blb
        hpa := M.hpa
        hph := M.hph }
    · have hd := S.df
      generalize st.df = l at hd
      generalize vst.df = l' at hd
      induction hd with
      | nil => exact DfR.nil
      | cons h1 h2 _ ihh => exact DfR.cons (renU_rep h1) (renU_rep h2) ihh
  · cases h

/-! ### What is met -/
mutual
def W.hs : W T → List Nat
  | .own _ h => [h]
  | .view _ h _ _ => [h]
  | .oelem _ h _ _ => [h]
  | .map h => [h]
  | .yld h => [h]
  | .fn _ ws => hsL ws
  | .ifc _ w => W.hs w
  | .agg ws => hsL ws
  | .tup ws => hsL ws
  | _ => []
def hsL : List (W T) → List Nat
  | [] => []
  | w :: ws => W.hs w ++ hsL ws
end
def En.isLoop : En T → Bool
  | .loop _ _ _ _ _ _ _ => true
  | _ => false
def addH (H : List (En T)) (ih : List Nat) (h : Nat) : List Nat :=
  match H[h]? with
  | some .dead => ih
  | some _ => if (posOf ih h).isSome = true then ih else ih ++ [h]
  | none => ih
def addHs (H : List (En T)) : List Nat → List Nat → List Nat
  | ih, [] => ih
  | ih, h :: hs => addHs H (addH H ih h) hs
def loopHs (H : List (En T)) : List Nat := (List.range H.length).filter fun h => match H[h]? with | some e => e.isLoop | none => false
def loopTms (H : List (En T)) : List Nat := H.flatMap fun | .loop _ _ tm _ _ _ _ => hsL tm | _ => []
def dfHs (df : List (TypeId × W T × W T)) : List Nat := df.flatMap fun (_, x, y) => W.hs x ++ W.hs y
def roots (st : WSt T) : List Nat :=
  addHs st.mem.H (List.range st.mem.ph) (loopHs st.mem.H ++ loopTms st.mem.H ++ hsL st.tm ++ st.mem.A.flatMap hsL ++ dfHs st.df)

/-! ### Behind a round, and ahead of a loop -/
def resetW : List (W T) → List (W T) → List (W T)
  | e :: es, c :: cs => (match e with | .undef => .undef | .tup [] => .undef | _ => c) :: resetW es cs
  | _, cs => cs
theorem resetW_rep : ∀ {es cs : List (W T)} {ves vcs : List V}, RepL C α β es ves → RepL C α' β' cs vcs → RepL C α' β' (resetW es cs) (resetTm ves vcs)
  | [], cs, ves, vcs, he, hc => by
    simp only [RepL] at he; subst he
    simp only [resetW, resetTm]; exact hc
  | e :: es, [], ves, vcs, he, hc => by
    simp only [RepL] at hc; subst hc
    simp only [resetW]
    unfold resetTm
    split
    · rename_i heq; cases heq
    · exact RepL.nil
  | e :: es, c :: cs, ves, vcs, he, hc => by
    simp only [RepL] at he hc
    obtain ⟨v, ves', rfl, h1, h2⟩ := he
    obtain ⟨u, vcs', rfl, h3, h4⟩ := hc
    simp only [resetW, resetTm]
    refine RepL.cons ?_ (resetW_rep h2 h4)
    split
    · simp only [Rep]
    · simp only [Rep]
    · rename_i hn1 hn2
      split
      · rename_i hv
        exfalso
        cases e <;> simp only [Rep] at h1
        all_goals first
          | exact hn1 rfl
          | (cases h1; done)
          | (obtain ⟨_, h1, _⟩ := h1; cases h1; done)
          | (obtain ⟨_, _, h1⟩ := h1; cases h1; done)
          | (obtain ⟨_, _, h1, _⟩ := h1; cases h1; done)
          | (obtain ⟨_, _, _, _, h1⟩ := h1; cases h1; done)
          | (rcases h1 with ⟨_, h1⟩ | ⟨_, _, _, _, h1⟩ <;> cases h1; done)
          | (rcases h1 with ⟨_, _, _, _, h1⟩ | ⟨_, _, _, _, h1⟩ <;> cases h1; done)
      · rename_i hv
        exfalso
        cases e <;> simp only [Rep] at h1
        all_goals first
          | exact hn1 rfl
          | (cases h1; done)
          | (obtain ⟨_, h1, hx⟩ := h1; cases h1; rename_i ws; cases ws with | nil => exact hn2 rfl | cons a b => simp [RepL] at hx)
          | (obtain ⟨_, h1, _⟩ := h1; cases h1; done)
          | (obtain ⟨_, _, h1⟩ := h1; cases h1; done)
          | (obtain ⟨_, _, h1, _⟩ := h1; cases h1; done)
          | (obtain ⟨_, _, _, _, h1⟩ := h1; cases h1; done)
          | (rcases h1 with ⟨_, h1⟩ | ⟨_, _, _, _, h1⟩ <;> cases h1; done)
          | (rcases h1 with ⟨_, _, _, _, h1⟩ | ⟨_, _, _, _, h1⟩ <;> cases h1; done)
      · exact h3
def dfLow (n : Nat) : List (TypeId × W T × W T) → Bool
  | [] => true
  | (_, x, y) :: l => W.low n x && W.low n y && dfLow n l
theorem DfR.low {n : Nat} {l : List (TypeId × W T × W T)} {l' : List (TypeId × V × V)} (h : DfR C α β l l') (hl : dfLow n l = true) : DfR C (α.take n) β l l' := by
  induction h with
  | nil => exact DfR.nil
  | cons h1 h2 _ ih =>
    simp only [dfLow, Bool.and_eq_true] at hl
    exact DfR.cons (h1.low hl.1.1) (h2.low hl.1.2) (ih hl.2)
/-- 'tm', 'na': temps and number of variables ahead of the round. -/
def gcW (tm : List (W T)) (na : Nat) (st : WSt T) : Option (WSt T) :=
  if (lowL na (resetW tm st.tm) && (st.mem.A.take na).all (lowL na) && st.mem.H.all (En.low na) && dfLow na st.df && Nat.ble st.mem.pa na) = true then
    some { st with tm := resetW tm st.tm, mem := { st.mem with A := st.mem.A.take na } }
  else none
theorem gcW_sound {st st1 st2 : WSt T} (h : gcW st.tm st.mem.A.length st1 = some st2) {vst vst1 : St} (S : SSim bs C α β st vst) (S1 : SSim bs C α' β' st1 vst1) (ha : α <+: α') : SSim bs C α β' st2 (gcSt vst vst1) := by
  unfold gcW at h
  split at h
  · rename_i hc
    simp only [Bool.and_eq_true] at hc
    obtain ⟨⟨⟨⟨h1, h2⟩, h3⟩, h4⟩, h5⟩ := hc
    have h5 : st1.mem.pa ≤ st.mem.A.length := by simpa using h5
    injection h with h
    subst h
    have ht : α'.take st.mem.A.length = α := by rw [← S.mem.lenA]; exact take_pre ha
    have D := S1.mem.dropA h5 h2 h3
    rw [ht] at D
    have hr := (resetW_rep S.tm S1.tm).low h1
    rw [ht] at hr
    have hd := S1.df.low h4
    rw [ht] at hd
    refine ⟨hr, ?_, hd, S1.rd⟩
    show WSim bs C α β' _ (gcSt vst vst1).mem
    unfold gcSt
    simp only
    split
    · rename_i hcond
      have hle : vst.mem.A.length ≤ vst1.mem.A.length ∨ vst1.mem.A.length < vst.mem.A.length := by omega
      by_cases hle : vst.mem.A.length ≤ vst1.mem.A.length
      · exact D.truncA S.mem.lenA0 (fun i j hij => S.mem.ltA hij) hle
      · have e : vst1.mem.A.take vst.mem.A.length = vst1.mem.A := List.take_of_length_le (by omega)
        rw [e]
        exact D
    · exact D
  · cases h
theorem set_undef_rep {ws : List (W T)} {vs : List V} (h : RepL C α β ws vs) (t : Nat) : RepL C α β (ws.set t .undef) vs := by
  induction ws generalizing vs t with
  | nil => simpa using h
  | cons w ws ih =>
    simp only [RepL] at h
    obtain ⟨v, vs', rfl, h1, h2⟩ := h
    cases t with
    | zero => exact RepL.cons (by simp only [Rep]) h2
    | succ t => exact RepL.cons h1 (ih h2 t)
def killT : List Nat → List (W T) → List (W T)
  | [], tm => tm
  | t :: l, tm => killT l (tm.set t .undef)
theorem killT_rep : ∀ {l : List Nat} {ws : List (W T)} {vs : List V}, RepL C α β ws vs → RepL C α β (killT l ws) vs
  | [], ws, vs, h => h
  | t :: l, ws, vs, h => killT_rep (l := l) (set_undef_rep h t)
/-- A variable's cells, seen otherwise. -/
theorem WSim.reA (S : WSim bs C α β wm m) {i : Nat} {ws ws' : List (W T)} (h : wm.A[i]? = some ws) (hr : ∀ vs, RepL C α β ws vs → RepL C α β ws' vs) : WSim bs C α β { wm with A := wm.A.set i ws' } m := by
  have hi : i < α.length := by rw [S.lenA]; exact (List.getElem?_eq_some_iff.1 h).1
  obtain ⟨vs, h1, h2⟩ := S.A i _ ws (List.getElem?_eq_getElem hi) h
  have := S.setA (List.getElem?_eq_getElem hi) (hr vs h2) m.hi
  rw [set_self h1] at this
  exact this
def matT : List (Nat × Nat) → WSt T → Option (WSt T)
  | [], st => some st
  | (t, k) :: l, st =>
    match st.tm[t]? with
    | some .nilsl => matT l { st with tm := st.tm.set t (.own k st.mem.H.length), mem := { st.mem with H := st.mem.H ++ [.rows k []] } }
    | some (.own _ _) => matT l st
    | _ => none
theorem matT_sound : ∀ {l : List (Nat × Nat)} {st st' : WSt T}, matT l st = some st' → ∀ {bs α β vst}, SSim bs C α β st vst → ∃ β', SSim bs C α β' st' vst
  | [], st, st', h, bs, α, β, vst, S => by
    simp only [matT, Option.some.injEq] at h
    subst h
    exact ⟨β, S⟩
  | (t, k) :: l, st, st', h, bs, α, β, vst, S => by
    simp only [matT] at h
    split at h
    · rename_i ht
      refine matT_sound h (β := β ++ [none]) ⟨?_, S.mem.pushN (by simp only [EnOk]; exact .inl ⟨by simp, by first | rfl | trivial⟩), S.df.ext (List.prefix_refl _) (pre_app _ _), S.rd⟩
      obtain ⟨v, h1, h2⟩ := S.tm.get ht
      have := (S.tm.ext (List.prefix_refl α) (pre_app β [none])).set t (w := .own k st.mem.H.length) (v := v) (by
        simp only [Rep] at h2 ⊢
        exact .inl ⟨by rw [← S.mem.lenH]; simp, h2⟩)
      rw [set_self h1] at this
      exact this
    · exact matT_sound h S
    · cases h
def matA : List (Nat × Nat × Nat) → WSt T → Option (WSt T)
  | [], st => some st
  | (i, j, k) :: l, st =>
    match st.mem.A[i]? with
    | some ws =>
      match ws[j]? with
      | some .nilsl => matA l { st with mem := { st.mem with A := st.mem.A.set i (ws.set j (.own k st.mem.H.length)), H := st.mem.H ++ [.rows k []] } }
      | some (.own _ _) => matA l st
      | _ => none
    | none => none
theorem matA_sound : ∀ {l : List (Nat × Nat × Nat)} {st st' : WSt T}, matA l st = some st' → ∀ {bs α β vst}, SSim bs C α β st vst → ∃ β', SSim bs C α β' st' vst
  | [], st, st', h, bs, α, β, vst, S => by
    simp only [matA, Option.some.injEq] at h
    subst h
    exact ⟨β, S⟩
  | (i, j, k) :: l, st, st', h, bs, α, β, vst, S => by
    simp only [matA] at h
    split at h
    · rename_i ws hws
      split at h
      · rename_i hj
        have S1 := S.mem.pushN (e := .rows k []) (by simp only [EnOk]; exact .inl ⟨by simp, by first | rfl | trivial⟩)
        have S2 := S1.reA (i := i) (ws := ws) (ws' := ws.set j (.own k st.mem.H.length)) hws (fun vs hr => by
          obtain ⟨v, h1, h2⟩ := hr.get hj
          have := hr.set j (w := .own k st.mem.H.length) (v := v) (by
            simp only [Rep] at h2 ⊢
            exact .inl ⟨by rw [← S.mem.lenH]; simp, h2⟩)
          rw [set_self h1] at this
          exact this)
        exact matA_sound h (β := β ++ [none]) ⟨S.tm.ext (List.prefix_refl _) (pre_app _ _), S2, S.df.ext (List.prefix_refl _) (pre_app _ _), S.rd⟩
      · exact matA_sound h S
      · cases h
    · cases h
/-- How a loop's state is brought into its form: temps to forget, nil slices that are to grow. -/
structure Prep where
  kill : List Nat
  mt : List (Nat × Nat)
  ma : List (Nat × Nat × Nat)
def prepW (q : Prep) (st : WSt T) : Option (WSt T) :=
  (matT q.mt { st with tm := killT q.kill st.tm }).bind fun st1 => (matA q.ma st1).bind fun st2 => compact (roots st2) st2
theorem prepW_sound {q : Prep} {st st' : WSt T} (h : prepW q st = some st') {bs α β vst} (S : SSim bs C α β st vst) : ∃ β', SSim bs C α β' st' vst := by
  unfold prepW at h
  obtain ⟨st1, h1, h⟩ := Option.bind_eq_some_iff.1 h
  obtain ⟨st2, h2, h3⟩ := Option.bind_eq_some_iff.1 h
  obtain ⟨β1, S1⟩ := matT_sound h1 (β := β) (vst := vst) (bs := bs) (α := α) ⟨killT_rep S.tm, S.mem, S.df, S.rd⟩
  obtain ⟨β2, S2⟩ := matA_sound h2 S1
  exact ⟨_, compact_sound h3 S2⟩

mutual
/-- The form of a value, as numbers. -/
def W.sk : W T → List Nat
  | .undef => [0]
  | .bool _ => [1]
  | .int _ _ => [2]
  | .str _ => [3]
  | .nilp => [4]
  | .ptr i o => [5, i, o]
  | .nilsl => [6]
  | .row k _ f => [7, k, if f then 1 else 0]
  | .relem k _ o => [8, k, o]
  | .own k h => [9, k, h]
  | .view k h _ _ => [10, k, h]
  | .oelem k h _ o => [11, k, h, o]
  | .nilm => [12]
  | .map h => [13, h]
  | .nilf => [14]
  | .fn f ws => 15 :: f :: skL ws
  | .yld h => [16, h]
  | .nili => [17]
  | .ifc t w => 18 :: t :: W.sk w
  | .agg ws => 19 :: skL ws
  | .tup ws => 20 :: skL ws
def skL : List (W T) → List Nat
  | [] => [99]
  | w :: ws => W.sk w ++ skL ws
end
def En.sk : En T → List Nat
  | .dead => [0]
  | .rows k _ => [1, k]
  | .map a b _ => [2, a, b]
  | .loop _ _ tm _ _ _ _ => 3 :: skL tm
def skN (st : WSt T) : Nat := (skL st.tm ++ st.mem.A.flatMap skL ++ st.mem.H.flatMap En.sk ++ [st.mem.la, st.mem.lh, st.mem.pa, st.mem.ph]).foldl (fun a x => (a * 1000003 + x + 1) % 2305843009213693951) 7
/-- A number for the form of a state, ahead of a loop. -/
def skN0 (kill : List Nat) (st : WSt T) : Nat :=
  match prepW ⟨kill, [], []⟩ st with
  | some s => skN s
  | none => 0
/-! ### Rounds -/
/-- What a round makes of a state. -/
def RoundSaid (cfg : Cfg) (C : Cod T) (c : Code) (st : WSt T) (x : Ex × WSt T) : Prop :=
  ∀ {bs α β vst}, SSim bs C α β st vst → ∃ vx β', exec cfg (callW cfg) loopW c vst = some (x.1, vx) ∧ SSim bs C α β' x.2 (gcSt vst vx)
def roundWK (cfg : Cfg) (wc : WCfg T) (I : WI T R) (c : Code) (p : List Nat) (q : Prep) (st : WSt T) (k : Ex × WSt T → Option R) : Option R :=
  execWK cfg wc I c (9 :: p) st fun x => opK (gcW st.tm st.mem.A.length x.2) fun st2 =>
    match x.1 with
    | .normal => opK (prepW q st2) fun st3 => k (.normal, st3)
    | e => opK (prepW ⟨[], [], []⟩ st2) fun st3 => k (e, st3)
theorem roundWK_sound (ok : CodOk wc.C) (io : IOk cfg wc.C I) {c : Code} {p : List Nat} {q : Prep} {st : WSt T} {k : Ex × WSt T → Option R} {r : R} (h : roundWK cfg wc I c p q st k = some r) : ∃ x, k x = some r ∧ RoundSaid cfg wc.C c st x := by
  unfold roundWK at h
  obtain ⟨⟨e, st1⟩, h1, h2⟩ := execWK_sound ok io c _ h
  obtain ⟨st2, h3, h4⟩ := opK_some h1
  have fin : ∀ {q st3}, prepW q st2 = some st3 → RoundSaid cfg wc.C c st (e, st3) := by
    intro q st3 h5 bs α β vst S
    obtain ⟨vx, α1, β1, h6, h7, S1⟩ := h2 S
    obtain ⟨β2, S2⟩ := prepW_sound h5 (gcW_sound h3 S S1 h7)
    exact ⟨vx, β2, h6, S2⟩
  cases e with
  | normal =>
    obtain ⟨st3, h5, h6⟩ := opK_some h4
    exact ⟨_, h6, fin h5⟩
  | ret =>
    obtain ⟨st3, h5, h6⟩ := opK_some h4
    exact ⟨_, h6, fin h5⟩
  | exit id =>
    obtain ⟨st3, h5, h6⟩ := opK_some h4
    exact ⟨_, h6, fin h5⟩
theorem loop_more {c : Code} {st st2 : WSt T} {x : Ex × WSt T} (h : RoundSaid cfg C c st (.normal, st2)) (h' : LoopSaid cfg C (.loop c) st2 x) : LoopSaid cfg C (.loop c) st x := by
  intro bs α β vst S
  obtain ⟨vx, β1, h1, S1⟩ := h S
  obtain ⟨vy, α2, β2, h2, h3, S2⟩ := h' S1
  refine ⟨vy, α2, β2, ?_, h3, S2⟩
  simp only [exec] at h2 ⊢
  rw [loopW_eq, h1]
  exact h2
theorem loop_end {c : Code} {st : WSt T} {x : Ex × WSt T} (h : RoundSaid cfg C c st x) (hn : x.1 ≠ .normal) : LoopSaid cfg C (.loop c) st x := by
  intro bs α β vst S
  obtain ⟨vx, β1, h1, S1⟩ := h S
  refine ⟨_, α, β1, ?_, List.prefix_refl _, S1⟩
  simp only [exec]
  rw [loopW_eq, h1]
  obtain ⟨e, st2⟩ := x
  cases e with
  | normal => exact absurd rfl hn
  | ret => rfl
  | exit id => rfl
/-- A loop that is brought into its form first. -/
theorem loop_prep {c : Code} {q : Prep} {st st1 : WSt T} {x : Ex × WSt T} (h : prepW q st = some st1) (h' : LoopSaid cfg C c st1 x) : LoopSaid cfg C c st x := by
  intro bs α β vst S
  obtain ⟨β1, S1⟩ := prepW_sound h S
  exact h' S1
end Go.Proofs.YtpdgbhjhodhkiaaGreatDoor.AI
