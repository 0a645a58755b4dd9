/- Typed values: operations, calls, regions. -/
import Derived.Test.YtpdgbhjhodhkiaaGreatDoorW6
set_option linter.unusedVariables false
set_option linter.unusedSimpArgs false
namespace Go.Proofs.YtpdgbhjhodhkiaaGreatDoor.AI
open Go
variable {T : Nat → Type} {C : Cod T} {R : Type} {P : Program}

def opWK (wc : WCfg T) (P : Program) (wm : WM T) (slot : Nat) (ρ : Operand → W T) (op : Op) (k : W T × WM T → Option R) : Option R :=
  match op with
  | .move x => k (ρ x, wm)
  | .assign x => k (ρ x, wm)
  | .pick c a b =>
    match ρ c with
    | .bool t => cnd t (k (ρ a, wm)) (k (ρ b, wm))
    | _ => none
  | .alloc _ => k (.ptr slot 0, wm)
  | .box t x =>
    match P.info? t with
    | some _ => if (wCells (ρ x)).all W.cellLike = true then k (.ptr wm.A.length 0, { wm with A := wm.A ++ [wCells (ρ x)] }) else none
    | none => none
  | .build t parts => opK (buildW P t (parts.toList.map fun (i, x) => (i, ρ x))) fun w => k (w, wm)
  | .buildSlice t len parts => opK (buildSliceWK wc P t len (parts.toList.map fun (i, x) => (i, ρ x))) fun w => k (w, wm)
  | .load t p => loadWK wc.C P wm t (ρ p) fun w => k (w, wm)
  | .store t p x => storeWK wc.C P wm t (ρ p) (ρ x) fun wm' => k (.tup [], wm')
  | .nilCheck x =>
    match ρ x with
    | .ptr i o => k (.ptr i o, wm)
    | .relem kk y o => k (.relem kk y o, wm)
    | .oelem kk h i o => k (.oelem kk h i o, wm)
    | .fn f c => k (.fn f c, wm)
    | .yld l => k (.yld l, wm)
    | _ => none
  | .binOp op t x y _ => binWK P op t (isConstO x || isConstO y) (ρ x) (ρ y) fun w => k (w, wm)
  | .unOp op _ x => unWK op (ρ x) fun w => k (w, wm)
  | .convert s d x => convWK wc P wm s d (ρ x) fun w => k (w, wm)
  | .makeInterface t x =>
    match P.underlying t with
    | some (.interface _) => none
    | some _ => k (.ifc t (ρ x), wm)
    | none => none
  | .makeFunc (.func f) first cap => if first.size = 0 then k (.fn f (cap.toList.map ρ), wm) else none
  | .makeMap t none => opK (makeMapW wc P wm t) k
  | .makeSlice t l c => makeSliceWK wc P wm t (ρ l) (ρ c) k
  | .slice t x lo hi mx => sliceWK wc.C P wm t (ρ x) (lo.map ρ) (hi.map ρ) (mx.map ρ) fun w => k (w, wm)
  | .fieldAddr s x f => opK (fieldAddrW P s (ρ x) f) fun w => k (w, wm)
  | .field t x f => opK (fieldW P t (ρ x) f) fun w => k (w, wm)
  | .indexAddr t x ix => indexAddrWK wc.C P wm t (ρ x) (ρ ix) fun w => k (w, wm)
  | .index t x ix => indexWK wc P t (ρ x) (ρ ix) fun w => k (w, wm)
  | .lookup t x kk ok => lookWK wc P wm t (ρ x) (ρ kk) ok fun w => k (w, wm)
  | .mapUpdate t x kk v => updWK wc P wm t (ρ x) (ρ kk) (ρ v) fun wm' => k (.tup [], wm')
  | .insert t x kk v => updWK wc P wm t (ρ x) (ρ kk) (ρ v) fun wm' => k (.tup [], wm')
  | .extract x i =>
    match ρ x with
    | .tup vs => opK vs[i]? fun w => k (w, wm)
    | _ => none
  | _ => none
theorem prep_map {ρw : Operand → W T} {ρv : Operand → V} {α β} (h : ∀ o, Rep C α β (ρw o) (ρv o)) (l : List (Nat × Operand)) : PRep C α β (l.map fun (i, x) => (i, ρw x)) (l.map fun (i, x) => (i, ρv x)) := by
  induction l with
  | nil => exact PRep.nil
  | cons a l ih => obtain ⟨i, x⟩ := a; exact PRep.cons (h x) ih
theorem repL_map {ρw : Operand → W T} {ρv : Operand → V} {α β} (h : ∀ o, Rep C α β (ρw o) (ρv o)) (l : List Operand) : RepL C α β (l.map ρw) (l.map ρv) := by
  induction l with
  | nil => exact RepL.nil
  | cons a l ih => exact RepL.cons (h a) ih
theorem repO_map {ρw : Operand → W T} {ρv : Operand → V} {α β} (h : ∀ o, Rep C α β (ρw o) (ρv o)) (l : Option Operand) : RepO C α β (l.map ρw) (l.map ρv) := by
  cases l with
  | none => exact RepO.none
  | some a => exact RepO.some (h a)
def isAlloc' (op : Op) : Bool := match op with | .alloc _ => true | _ => false
theorem opQ_same {draw : Bool} {m : Mem} {slot : Nat} {ρ : Operand → V} {op : Op} (h : ∀ t l p, op ≠ .buildSlice t l p) : opQ P draw m slot ρ op = opV P m slot ρ op := by
  unfold opQ
  split
  · exact absurd rfl (h _ _ _)
  · rfl
theorem opWK_sound {wc : WCfg T} (ok : CodOk wc.C) {draw : Bool} {wm : WM T} {slot : Nat} {ρ : Operand → W T} {op : Op} {k : W T × WM T → Option R} {r : R} (h : opWK wc P wm slot ρ op k = some r) :
    ∃ w wm', k (w, wm') = some r ∧ ∀ {bs α β m ρv slotv}, WSim bs wc.C α β wm m → (∀ o, Rep wc.C α β (ρ o) (ρv o)) → (isAlloc' op = true → α[slot]? = some slotv) → Goes wc.C wm wm' w bs α β (opQ P draw m slotv ρv op) := by
  have same : ∀ {bs α β m ρv slotv w wm'}, (∀ t l p, op ≠ .buildSlice t l p) → Goes wc.C wm wm' w bs α β (opV P m slotv ρv op) → Goes wc.C wm wm' w bs α β (opQ P draw m slotv ρv op) := by
    intro bs α β m ρv slotv w wm' hne hg
    rw [opQ_same hne]; exact hg
  unfold opWK at h
  split at h
  · rename_i x
    refine ⟨_, _, h, fun S hρ _ => same (fun _ _ _ e => by cases e) ⟨_, _, _, _, rfl, List.prefix_refl _, List.prefix_refl _, S, hρ x⟩⟩
  · rename_i x
    refine ⟨_, _, h, fun S hρ _ => same (fun _ _ _ e => by cases e) ⟨_, _, _, _, rfl, List.prefix_refl _, List.prefix_refl _, S, hρ x⟩⟩
  · rename_i c a b
    split at h
    · rename_i t hc
      rcases cond_cases h with ⟨rfl, h⟩ | ⟨rfl, h⟩
      · refine ⟨_, _, h, fun {bs α β m ρv slotv} S hρ _ => same (fun _ _ _ e => by cases e) ⟨ρv a, m, α, β, ?_, List.prefix_refl _, List.prefix_refl _, S, hρ a⟩⟩
        have := hρ c
        rw [hc] at this
        simp only [Rep] at this
        simp only [opV, this]
        rfl
      · refine ⟨_, _, h, fun {bs α β m ρv slotv} S hρ _ => same (fun _ _ _ e => by cases e) ⟨ρv b, m, α, β, ?_, List.prefix_refl _, List.prefix_refl _, S, hρ b⟩⟩
        have := hρ c
        rw [hc] at this
        simp only [Rep] at this
        simp only [opV, this]
        rfl
    · cases h
  · refine ⟨_, _, h, fun S hρ hs => same (fun _ _ _ e => by cases e) ⟨_, _, _, _, rfl, List.prefix_refl _, List.prefix_refl _, S, ?_⟩⟩
    simp only [Rep]
    exact ⟨_, hs rfl, rfl⟩
  · rename_i t x
    split at h
    · rename_i i hi
      split at h
      · rename_i hc
        refine ⟨_, _, h, fun {bs α β m ρv slotv} S hρ _ => same (fun _ _ _ e => by cases e) ?_⟩
        obtain ⟨h1, h2⟩ := rep_cells (hρ x) hc
        refine ⟨.ptr m.A.length 0, _, α ++ [m.A.length], β, ?_, pre_app _ _, List.prefix_refl _, S.pushA h1 (max m.hi (maxAL (cellsOf (ρv x)))), ?_⟩
        · simp only [opV, hi]
          rw [if_pos h2]
        · simp only [Rep]
          exact ⟨m.A.length, by rw [← S.lenA]; simp, rfl⟩
      · cases h
    · cases h
  · rename_i t parts
    obtain ⟨w, h1, h2⟩ := opK_some h
    exact ⟨_, _, h2, fun S hρ _ => same (fun _ _ _ e => by cases e) (goes_val S (buildW_sound h1 (prep_map hρ _)))⟩
  · rename_i t len parts
    obtain ⟨w, h1, h2⟩ := opK_some h
    refine ⟨_, _, h2, fun {bs α β m ρv slotv} S hρ _ => ?_⟩
    obtain ⟨sz, cs, h3, h4, h5⟩ := buildSliceWK_sound ok h1 (prep_map hρ _)
    refine ⟨.ro cs len true, m, α, β, ?_, List.prefix_refl _, List.prefix_refl _, S, h5⟩
    cases draw
    · simp only [opQ, opV, h3, h4, if_true]
    · simp only [opQ, h3, h4, if_true]
  · rename_i t p
    obtain ⟨w, h1, h2⟩ := loadWK_sound ok h
    exact ⟨_, _, h1, fun S hρ _ => same (fun _ _ _ e => by cases e) (goes_val S (h2 S (hρ p)))⟩
  · rename_i t p x
    obtain ⟨wm', h1, h2⟩ := storeWK_sound ok h
    exact ⟨_, _, h1, fun S hρ _ => same (fun _ _ _ e => by cases e) (goes_mem (h2 S (hρ p) (hρ x)))⟩
  · rename_i x
    have go : ∀ {w : W T}, ρ x = w → k (w, wm) = some r → (∀ {α β v}, Rep wc.C α β w v → ∀ m, opV P m 0 (fun _ => v) (.nilCheck x) = some (v, m)) →
      ∃ w wm', k (w, wm') = some r ∧ ∀ {bs α β m ρv slotv}, WSim bs wc.C α β wm m → (∀ o, Rep wc.C α β (ρ o) (ρv o)) → (isAlloc' (.nilCheck x) = true → α[slot]? = some slotv) → Goes wc.C wm wm' w bs α β (opQ P draw m slotv ρv (.nilCheck x)) := by
      intro w hw hk hv
      refine ⟨w, wm, hk, fun {bs α β m ρv slotv} S hρ _ => same (fun _ _ _ e => by cases e) ?_⟩
      have h1 := hρ x
      rw [hw] at h1
      exact ⟨ρv x, m, α, β, hv h1 m, List.prefix_refl _, List.prefix_refl _, S, h1⟩
    split at h
    · rename_i i o hw
      exact go hw h (fun hr m => by simp only [Rep] at hr; obtain ⟨_, _, rfl⟩ := hr; rfl)
    · rename_i i o hw
      exact go hw h (fun hr m => by simp only [Rep] at hr; obtain ⟨_, _, rfl, _⟩ := hr; rfl)
    · rename_i i o hw
      exact go hw h (fun hr m => by simp only [Rep] at hr; obtain ⟨_, _, _, _, rfl⟩ := hr; rfl)
    · rename_i i o hw
      exact go hw h (fun hr m => by simp only [Rep] at hr; obtain ⟨_, rfl, _⟩ := hr; rfl)
    · rename_i i hw
      exact go hw h (fun hr m => by simp only [Rep] at hr; obtain ⟨_, _, _, _, rfl⟩ := hr; rfl)
    · cases h
  · rename_i op t x y _
    obtain ⟨w, h1, h2⟩ := binWK_sound (C := wc.C) h
    exact ⟨_, _, h1, fun S hρ _ => same (fun _ _ _ e => by cases e) (goes_val S (h2 (hρ x) (hρ y)))⟩
  · rename_i op _ x
    obtain ⟨w, h1, h2⟩ := unWK_sound (C := wc.C) h
    exact ⟨_, _, h1, fun S hρ _ => same (fun _ _ _ e => by cases e) (goes_val S (h2 (hρ x)))⟩
  · rename_i s d x
    obtain ⟨w, h1, h2⟩ := convWK_sound ok h
    exact ⟨_, _, h1, fun S hρ _ => same (fun _ _ _ e => by cases e) (goes_val S (h2 S (hρ x)))⟩
  · rename_i t x
    split at h
    · cases h
    · rename_i d hd hu
      refine ⟨_, _, h, fun {bs α β m ρv slotv} S hρ _ => same (fun _ _ _ e => by cases e) ⟨.ifc t (ρv x), m, α, β, ?_, List.prefix_refl _, List.prefix_refl _, S, ?_⟩⟩
      · simp only [opV]
        split
        · rename_i hx; rw [hu] at hx; injection hx with hx; exact absurd hx (hd _)
        · rfl
        · rename_i hx; rw [hu] at hx; cases hx
      · simp only [Rep]; exact ⟨_, rfl, hρ x⟩
    · cases h
  · rename_i f first cap
    split at h
    · rename_i h0
      refine ⟨_, _, h, fun {bs α β m ρv slotv} S hρ _ => same (fun _ _ _ e => by cases e) ⟨.fn f (cap.toList.map ρv), m, α, β, ?_, List.prefix_refl _, List.prefix_refl _, S, ?_⟩⟩
      · simp only [opV]
        rw [if_pos h0]
      · simp only [Rep]; exact ⟨_, rfl, repL_map hρ _⟩
    · cases h
  · rename_i t
    obtain ⟨x, h1, h2⟩ := opK_some h
    unfold makeMapW at h1
    split at h1
    · rename_i kt et hu
      split at h1
      · rename_i kk kv _ _
        injection h1 with h1
        subst h1
        refine ⟨_, _, h2, fun {bs α β m ρv slotv} S hρ _ => same (fun _ _ _ e => by cases e) ?_⟩
        refine ⟨.map m.B.length, _, α, β ++ [some (m.B.length, 0, 0)], ?_, List.prefix_refl _, pre_app _ _, S.pushB (hi' := m.hi) (bb := .map []) ?_, ?_⟩
        · simp only [opV, hu]
        · simp only [EnOk]
          exact ⟨m.B.length, 0, 0, [], by simp, by simp, rfl⟩
        · simp only [Rep]
          exact ⟨m.B.length, 0, 0, by rw [← S.lenH]; simp, rfl⟩
      · cases h1
    · cases h1
  · rename_i t l c
    obtain ⟨w, wm', h1, h2⟩ := makeSliceWK_sound ok h
    exact ⟨_, _, h1, fun S hρ _ => same (fun _ _ _ e => by cases e) (h2 S (hρ l) (hρ c))⟩
  · rename_i t x lo hi mx
    obtain ⟨w, h1, h2⟩ := sliceWK_sound ok h
    exact ⟨_, _, h1, fun S hρ _ => same (fun _ _ _ e => by cases e) (goes_val S (h2 S (hρ x) (repO_map hρ _) (repO_map hρ _) (repO_map hρ _)))⟩
  · rename_i s x f
    obtain ⟨w, h1, h2⟩ := opK_some h
    exact ⟨_, _, h2, fun S hρ _ => same (fun _ _ _ e => by cases e) (goes_val S (fieldAddrW_sound h1 (hρ x)))⟩
  · rename_i t x f
    obtain ⟨w, h1, h2⟩ := opK_some h
    exact ⟨_, _, h2, fun S hρ _ => same (fun _ _ _ e => by cases e) (goes_val S (fieldW_sound h1 (hρ x)))⟩
  · rename_i t x ix
    obtain ⟨w, h1, h2⟩ := indexAddrWK_sound ok h
    exact ⟨_, _, h1, fun S hρ _ => same (fun _ _ _ e => by cases e) (goes_val S (h2 S (hρ x) (hρ ix)))⟩
  · rename_i t x ix
    obtain ⟨w, h1, h2⟩ := indexWK_sound ok h
    exact ⟨_, _, h1, fun S hρ _ => same (fun _ _ _ e => by cases e) (goes_val S (h2 (hρ x) (hρ ix)))⟩
  · rename_i t x kk b
    obtain ⟨w, h1, h2⟩ := lookWK_sound ok h
    exact ⟨_, _, h1, fun S hρ _ => same (fun _ _ _ e => by cases e) (goes_val S (h2 S (hρ x) (hρ kk)))⟩
  · rename_i t x kk v
    obtain ⟨wm', h1, h2⟩ := updWK_sound ok h
    exact ⟨_, _, h1, fun S hρ _ => same (fun _ _ _ e => by cases e) (goes_mem (h2 S (hρ x) (hρ kk) (hρ v)))⟩
  · rename_i t x kk v
    obtain ⟨wm', h1, h2⟩ := updWK_sound ok h
    exact ⟨_, _, h1, fun S hρ _ => same (fun _ _ _ e => by cases e) (goes_mem (h2 S (hρ x) (hρ kk) (hρ v)))⟩
  · rename_i x i
    split at h
    · rename_i vs hx
      obtain ⟨w, h1, h2⟩ := opK_some h
      refine ⟨_, _, h2, fun {bs α β m ρv slotv} S hρ _ => same (fun _ _ _ e => by cases e) ?_⟩
      have hr := hρ x
      rw [hx] at hr
      simp only [Rep] at hr
      obtain ⟨us, h3, h4⟩ := hr
      simp only [opV, h3]
      exact goes_val S (h4.get h1)
    · cases h
  · cases h
end Go.Proofs.YtpdgbhjhodhkiaaGreatDoor.AI
