/- Operations that neither call nor append. -/
import Derived.Test.YtpdgbhjhodhkiaaGreatDoorS5
set_option linter.unusedVariables false
set_option linter.unusedSimpArgs false
namespace Go.Proofs.YtpdgbhjhodhkiaaGreatDoor.AI
open Go
variable {kp : Kp}

section
variable {P : Program} {cx : Cx} {m : Mem} {w : World}

/-! ### Constants and operands -/
theorem ofConst0_rel (v : Value) : VRel cx w (ofConst0 v) v := by
  unfold ofConst0
  split <;> simp [VRel]
theorem map_ofConst0_rel : ∀ (vs : List Value), VRelL cx w (vs.map ofConst0) vs
  | [] => by simp [VRelL]
  | v :: vs => by simp only [List.map_cons, VRelL]; exact ⟨ofConst0_rel v, map_ofConst0_rel vs⟩
theorem ofConst_rel (v : Value) : VRel cx w (ofConst v) v := by
  unfold ofConst
  split
  · exact ⟨_, rfl, map_ofConst0_rel _⟩
  · exact ofConst0_rel v
theorem evalO_rel {tm : List V} {a : Act} (h : VRelL cx w tm a.tmps.toList) (o : Operand) : VRel cx w (evalO tm o) (a.eval o) := by
  cases o with
  | tmp t =>
    have := h.getD t
    simpa [evalO, Act.eval, Array.getD_eq_getD_getElem?, List.getD_eq_getElem?_getD] using this
  | const v => exact ofConst_rel v
  | global g => simp [evalO, VRel]
  | func f => simp [evalO, Act.eval, VRel, VRelL]
theorem ofConst0_maxA (v : Value) : V.maxA (ofConst0 v) = 0 := by
  unfold ofConst0
  split <;> simp [V.maxA]
theorem map_ofConst0_maxA : ∀ (vs : List Value), maxAL (vs.map ofConst0) = 0
  | [] => rfl
  | v :: vs => by simp [maxAL, ofConst0_maxA, map_ofConst0_maxA vs]
theorem ofConst0_pure (v : Value) : V.pure (ofConst0 v) = true := by
  unfold ofConst0
  split <;> simp [V.pure]
theorem map_ofConst0_pure : ∀ (vs : List Value), pureL (vs.map ofConst0) = true
  | [] => rfl
  | v :: vs => by simp [pureL, ofConst0_pure, map_ofConst0_pure vs]

/-! ### Numbers, strings, comparisons -/
theorem kwrap_rel {k : IntKind} {n : Int} : VRel cx w (.int k n) (.int k n) := by simp [VRel]
theorem kbool_rel {b : Bool} : VRel cx w (.bool b) (.bool b) := by simp [VRel]

theorem shift_sound {op : BinOp} {k yk : IntKind} {x y : Int} {v : V} (h : shiftV op k x y = some v) : ∃ cv, (Op.shift op k x yk y).run P w = .ok cv w ∧ VRel cx w v cv := by
  unfold shiftV at h
  split at h
  · cases h
  · rename_i hy
    cases op <;> simp only [Option.some.injEq] at h <;> try cases h
    all_goals
      refine ⟨_, ?_, by simp only [VRel]; rfl⟩
      simp [Op.shift, hy]
theorem int_sound {op : BinOp} {k : IntKind} {x y : Int} {v : V} (h : intV op k x y = some v) (t : TypeId) (h1 : op ≠ .shl) (h2 : op ≠ .shr) : ∃ cv, (binOp op t (.int k x) (.int k y)).run P w = .ok cv w ∧ VRel cx w v cv := by
  cases op <;> simp only [intV] at h <;> try cases h
  case quo =>
    split at h
    · cases h
    · rename_i hy
      injection h with h; subst h
      exact ⟨_, by simp [binOp, Op.intDiv, hy]; rfl, by simp [VRel]⟩
  case rem =>
    split at h
    · cases h
    · rename_i hy
      injection h with h; subst h
      exact ⟨_, by simp [binOp, Op.intDiv, hy]; rfl, by simp [VRel]⟩
  all_goals
    refine ⟨_, ?_, by simp only [VRel]; rfl⟩
    simp [binOp, Op.intArith, Op.intBits, Op.intCmp]
theorem str_sound {op : BinOp} {x y : ByteArray} {v : V} (h : strV op x y = some v) (t : TypeId) : ∃ cv, (binOp op t (.string x) (.string y)).run P w = .ok cv w ∧ VRel cx w v cv := by
  cases op <;> simp only [strV] at h <;> try cases h
  case add =>
    split at h
    · cases h
    · rename_i hy
      injection h with h; subst h
      refine ⟨_, ?_, by simp only [VRel]; rfl⟩
      have hm : IntKind.i64.max = 9223372036854775807 := by decide
      simp only [binOp, Op.stringOp, hm]
      rw [if_neg hy]
      rfl
  all_goals
    refine ⟨_, ?_, by simp only [VRel]; rfl⟩
    simp [binOp, Op.stringOp]
theorem eqlIn_sound (n : Nat) {t : TypeId} {d : TypeDesc} {lit : Bool} {x y : V} {cx' cy : Value} {b : Bool} (hd : P.underlying t = some d) (hx : VRel cx w x cx') (hy : VRel cx w y cy) (h : eqlV d lit x y = some b) :
    (Op.equalIn (n + 1) t cx' cy).run P w = .ok b w ∧ (∀ k n, cx' ≠ .int k n) ∧ (∀ s, cx' ≠ .string s) ∧ (∀ k n, cx' ≠ .float k n) ∧ (∀ k a b, cx' ≠ .complex k a b) ∧
      (cx' = .nilIface → cy = .nilIface → lit = true) ∧ (∀ a, cx' ≠ .agg a) := by
  unfold eqlV at h
  split at h <;> try cases h
  all_goals simp only [VRel] at hx hy
  case h_1 =>
    subst hx hy
    exact ⟨by simp [Op.equalIn, r_und hd], by simp⟩
  case h_2 =>
    subst hx hy
    exact ⟨by simp [Op.equalIn, r_und hd], by simp⟩
  case h_3 =>
    obtain ⟨c, _, rfl⟩ := hy
    subst hx
    exact ⟨by simp [Op.equalIn, r_und hd], by simp⟩
  case h_4 =>
    obtain ⟨c, _, rfl⟩ := hx
    subst hy
    exact ⟨by simp [Op.equalIn, r_und hd], by simp⟩
  case h_5 =>
    obtain ⟨_, _, ⟨a, rfl⟩, _⟩ := hy
    subst hx
    exact ⟨by simp [Op.equalIn, r_und hd], by simp⟩
  case h_6 =>
    obtain ⟨_, _, ⟨a, rfl⟩, _⟩ := hx
    subst hy
    exact ⟨by simp [Op.equalIn, r_und hd], by simp⟩
  case h_7 =>
    obtain ⟨_, _, rfl, _⟩ := hy
    subst hx
    exact ⟨by simp [Op.equalIn, r_und hd], by simp⟩
  case h_8 =>
    obtain ⟨_, _, rfl, _⟩ := hx
    subst hy
    exact ⟨by simp [Op.equalIn, r_und hd], by simp⟩
  case h_9 =>
    subst hx hy
    split at h
    · rename_i hl
      injection h with h
      subst h
      exact ⟨by simp [Op.equalIn, r_und hd], by simp [hl]⟩
    · cases h
  case h_10 =>
    obtain ⟨u, rfl, _⟩ := hy
    subst hx
    exact ⟨by simp [Op.equalIn, r_und hd], by simp⟩
  case h_11 =>
    obtain ⟨u, rfl, _⟩ := hx
    subst hy
    exact ⟨by simp [Op.equalIn, r_und hd], by simp⟩
  case h_12 =>
    subst hx hy
    exact ⟨by simp [Op.equalIn, r_und hd], by simp⟩
  case h_13 =>
    subst hx hy
    exact ⟨by simp [Op.equalIn, r_und hd], by simp⟩
  case h_14 =>
    obtain ⟨c, _, rfl⟩ := hy
    subst hx
    exact ⟨by simp [Op.equalIn, r_und hd], by simp⟩
  case h_15 =>
    obtain ⟨c, _, rfl⟩ := hx
    subst hy
    exact ⟨by simp [Op.equalIn, r_und hd], by simp⟩
  case h_16 =>
    subst hx hy
    exact ⟨by simp [Op.equalIn, r_und hd], by simp⟩
  case h_17 =>
    obtain ⟨arr, rfl, _⟩ := hy
    subst hx
    exact ⟨by simp [Op.equalIn, r_und hd], by simp⟩
  case h_18 =>
    obtain ⟨arr, rfl, _⟩ := hx
    subst hy
    exact ⟨by simp [Op.equalIn, r_und hd], by simp⟩

theorem eql_sound {t : TypeId} {d : TypeDesc} {lit : Bool} {x y : V} {cx' cy : Value} {b : Bool} (hd : P.underlying t = some d) (hx : VRel cx w x cx') (hy : VRel cx w y cy) (h : eqlV d lit x y = some b) :
    (Op.equal t cx' cy).run P w = .ok b w ∧ (∀ k n, cx' ≠ .int k n) ∧ (∀ s, cx' ≠ .string s) ∧ (∀ k n, cx' ≠ .float k n) ∧ (∀ k a b, cx' ≠ .complex k a b) ∧
      (cx' = .nilIface → cy = .nilIface → lit = true) ∧ (∀ a, cx' ≠ .agg a) :=
  eqlIn_sound 9999 hd hx hy h

theorem guard_in {t : TypeId} {ox oy : Operand} {a b : Value} (h : a = .nilIface → b = .nilIface → (isConstO ox || isConstO oy) = true) (ha : ∀ c, a ≠ .agg c) :
    (eqGuard .eql t ox oy a b).run P w = .ok () w ∧ (eqGuard .neq t ox oy a b).run P w = .ok () w := by
  cases a <;> try exact ⟨rfl, rfl⟩
  case nilIface =>
    cases b <;> try exact ⟨rfl, rfl⟩
    have := h rfl rfl
    simp only [isConstO, Bool.or_eq_true] at this
    cases ox <;> cases oy <;> simp at this <;> exact ⟨rfl, rfl⟩
  case agg c => exact absurd rfl (ha c)
theorem guard_same {op : BinOp} {t : TypeId} {ox oy : Operand} {a b : Value} (h : a = .nilIface → b = .nilIface → (isConstO ox || isConstO oy) = true) (ha : ∀ c, a ≠ .agg c) :
    (eqGuard op t ox oy a b).run P w = .ok () w := by
  cases op <;> first | exact (guard_in h ha).1 | exact (guard_in h ha).2 | rfl

theorem bin_sound {op : BinOp} {t : TypeId} {ox oy : Operand} {x y : V} {a b : Value} {v : V} (hx : VRel cx w x a) (hy : VRel cx w y b) (h : binV P op t (isConstO ox || isConstO oy) x y = some v) :
    ∃ cv, (do eqGuard op t ox oy a b; binOp op t a b).run P w = .ok cv w ∧ VRel cx w v cv := by
  have fin : ∀ (a b : Value), (a = .nilIface → b = .nilIface → (isConstO ox || isConstO oy) = true) → (∀ c, a ≠ .agg c) → (∃ cv, (binOp op t a b).run P w = .ok cv w ∧ VRel cx w v cv) →
      ∃ cv, (do eqGuard op t ox oy a b; binOp op t a b).run P w = .ok cv w ∧ VRel cx w v cv := fun a b h1 h2 ⟨cv, h3, h4⟩ => ⟨cv, by simp [guard_same h1 h2, h3], h4⟩
  unfold binV at h
  split at h
  · rename_i k n k' n'
    simp only [VRel] at hx hy
    subst hx hy
    refine fin _ _ (by simp) (by simp) ?_
    split at h
    · obtain ⟨cv, h1, h2⟩ := shift_sound (P := P) (w := w) (cx := cx) (yk := k') h
      exact ⟨cv, by simpa [binOp] using h1, h2⟩
    · obtain ⟨cv, h1, h2⟩ := shift_sound (P := P) (w := w) (cx := cx) (yk := k') h
      exact ⟨cv, by simpa [binOp] using h1, h2⟩
    · rename_i hs1 hs2
      split at h
      · rename_i e
        subst e
        exact int_sound h t (fun e => hs1 e) (fun e => hs2 e)
      · cases h
  · simp only [VRel] at hx hy
    subst hx hy
    exact fin _ _ (by simp) (by simp) (str_sound h t)
  · split at h
    · rename_i d hd
      cases he : eqlV d (isConstO ox || isConstO oy) x y with
      | none => simp [he] at h
      | some r =>
        simp only [he, Option.map_some] at h
        injection h with h
        subst h
        obtain ⟨h1, h2, h3, h4, h5, h6, h7⟩ := eql_sound hd hx hy he
        refine fin _ _ h6 h7 ⟨.bool r, ?_, by simp [VRel]⟩
        have : binOp .eql t a b = (do pure (.bool (← Op.equal t a b))) := by
          unfold binOp
          cases a <;> simp_all
        rw [this]
        simp [h1]
    · rename_i d hd
      cases he : eqlV d (isConstO ox || isConstO oy) x y with
      | none => simp [he] at h
      | some r =>
        simp only [he, Option.map_some] at h
        injection h with h
        subst h
        obtain ⟨h1, h2, h3, h4, h5, h6, h7⟩ := eql_sound hd hx hy he
        refine fin _ _ h6 h7 ⟨.bool (!r), ?_, by simp [VRel]⟩
        have : binOp .neq t a b = (do pure (.bool (!(← Op.equal t a b)))) := by
          unfold binOp
          cases a <;> simp_all
        rw [this]
        simp [h1]
    · cases h

theorem un_sound {op : UnOp} {x : V} {a : Value} {v : V} (hx : VRel cx w x a) (h : unV op x = some v) : ∃ cv, (Op.unary op a).run P w = .ok cv w ∧ VRel cx w v cv := by
  unfold unV at h
  split at h <;> try cases h
  · simp only [VRel] at hx
    subst hx
    exact ⟨_, by simp [Op.unary, Op.intArith]; rfl, by simp [VRel]⟩
  · simp only [VRel] at hx
    subst hx
    exact ⟨_, by simp [Op.unary]; rfl, by simp [VRel]⟩
end
end Go.Proofs.YtpdgbhjhodhkiaaGreatDoor.AI
