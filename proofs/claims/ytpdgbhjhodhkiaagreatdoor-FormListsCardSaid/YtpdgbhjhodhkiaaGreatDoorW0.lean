/- Typed values over the interpreter's values: what rows hold is data of Lean; the relation between both. -/
import Derived.Test.YtpdgbhjhodhkiaaGreatDoorS23
set_option linter.unusedVariables false
set_option linter.unusedSimpArgs false
namespace Go.Proofs.YtpdgbhjhodhkiaaGreatDoor.AI
open Go

/-- Typed values. 'row': a row that nobody writes; 'own': a row of the heap, whole; 'view': a part of it. -/
inductive W (T : Nat → Type) where
  | undef
  | bool (b : Bool)
  | int (k : IntKind) (n : Int)
  | str (s : List UInt8)
  | nilp
  | ptr (i off : Nat)
  | nilsl
  | row (k : Nat) (l : List (T k)) (full : Bool)
  | relem (k : Nat) (x : T k) (off : Nat)
  | own (k h : Nat)
  | view (k h off len : Nat)
  | oelem (k h i off : Nat)
  | nilm
  | map (h : Nat)
  | nilf
  | fn (f : FuncId) (caps : List (W T))
  | yld (h : Nat)
  | nili
  | ifc (t : TypeId) (w : W T)
  | agg (ws : List (W T))
  | tup (ws : List (W T))
  deriving Inhabited

inductive En (T : Nat → Type) where
  | dead
  | rows (k : Nat) (l : List (T k))
  | map (kk kv : Nat) (es : List (T kk × T kv))
  | loop (st : LoopState) (pend : Option Code) (tm : List (W T)) (ps : List Tmp) (assign body : Code) (pt : List Nat)

structure WM (T : Nat → Type) where
  A : List (List (W T))
  H : List (En T)
  la : Nat
  lh : Nat
  pa : Nat
  ph : Nat

structure WSt (T : Nat → Type) where
  tm : List (W T)
  mem : WM T
  df : List (TypeId × W T × W T)
  rd : Bool

/-- How data lie in cells. -/
structure Cod (T : Nat → Type) where
  size : Nat → Nat
  isAgg : Nat → Bool
  out : (k : Nat) → T k → List (W T)
  inn : (k : Nat) → List (W T) → Option (T k)
  CR : (k : Nat) → T k → List V → Prop
  keq : (k : Nat) → T k → T k → Bool
  kok : Program → TypeDesc → Nat → Bool
  bytes : (k : Nat) → List UInt8 → Option (List (T k))
  unbytes : (k : Nat) → List (T k) → Option (List UInt8)

section
variable {T : Nat → Type}

def CRL (C : Cod T) (k : Nat) : List (T k) → List V → Prop
  | [], cs => cs = []
  | x :: l, cs => ∃ c1 c2, cs = c1 ++ c2 ∧ C.CR k x c1 ∧ CRL C k l c2

abbrev Bt := List (Option (Nat × Nat × Nat))

mutual
def Rep (C : Cod T) (α : List Nat) (β : Bt) : W T → V → Prop
  | .undef, _ => True
  | .bool b, v => v = .bool b
  | .int k n, v => v = .int k n
  | .str s, v => v = .str ⟨s.toArray⟩
  | .nilp, v => v = .nilp
  | .ptr i off, v => ∃ j, α[i]? = some j ∧ v = .ptr j off
  | .nilsl, v => v = .ro [] 0 true
  | .row k l full, v => ∃ cs fl, v = .ro cs l.length fl ∧ (full = true → fl = true) ∧ CRL C k l cs
  | .relem k x off, v => ∃ cs o, v = .rp cs (o + off) ∧ C.CR k x ((cs.drop o).take (C.size k))
  | .own k h, v => (β[h]? = some none ∧ v = .ro [] 0 true) ∨ ∃ b ver n, β[h]? = some (some (b, ver, n)) ∧ v = .sl b ver 0 n
  | .view k h off len, v => (β[h]? = some none ∧ off = 0 ∧ len = 0 ∧ ∃ fl, v = .ro [] 0 fl) ∨ ∃ b ver n, β[h]? = some (some (b, ver, n)) ∧ v = .sl b ver (off * C.size k) len
  | .oelem k h i off, v => ∃ b ver n, β[h]? = some (some (b, ver, n)) ∧ v = .bptr b ver (i * C.size k + off)
  | .nilm, v => v = .nilm
  | .map h, v => ∃ b ver n, β[h]? = some (some (b, ver, n)) ∧ v = .map b
  | .nilf, v => v = .nilf
  | .fn f ws, v => ∃ vs, v = .fn f vs ∧ RepL C α β ws vs
  | .yld h, v => ∃ b ver n, β[h]? = some (some (b, ver, n)) ∧ v = .yld b
  | .nili, v => v = .nili
  | .ifc t w, v => ∃ u, v = .ifc t u ∧ Rep C α β w u
  | .agg ws, v => ∃ vs, v = .agg vs ∧ RepL C α β ws vs
  | .tup ws, v => ∃ vs, v = .tup vs ∧ RepL C α β ws vs
def RepL (C : Cod T) (α : List Nat) (β : Bt) : List (W T) → List V → Prop
  | [], vs => vs = []
  | w :: ws, vs => ∃ v vs', vs = v :: vs' ∧ Rep C α β w v ∧ RepL C α β ws vs'
end

structure CodOk (C : Cod T) : Prop where
  pos : ∀ k, 0 < C.size k
  len : ∀ k x cs, C.CR k x cs → cs.length = C.size k
  pure : ∀ k x cs, C.CR k x cs → pureL cs = true
  cell : ∀ k x cs, C.CR k x cs → cs.all V.cellLike = true
  one : ∀ k, C.isAgg k = false → C.size k = 1
  out : ∀ k x cs, C.CR k x cs → ∀ α β, RepL C α β (C.out k x) cs
  inn : ∀ k ws x, C.inn k ws = some x → ∀ α β cs, RepL C α β ws cs → C.CR k x cs
  key : ∀ (P : Program) (d : TypeDesc) k x y cx cy, C.kok P d k = true → C.CR k x cx → C.CR k y cy →
    keyEq P d (if C.isAgg k then .agg cx else cx.headD .undef) (if C.isAgg k then .agg cy else cy.headD .undef) = some (C.keq k x y) ∧ keyOk P d (if C.isAgg k then .agg cx else cx.headD .undef) = true
  bytes : ∀ k s l, C.bytes k s = some l → l.length = s.length ∧ CRL C k l (s.map fun b => .int .u8 b.toNat) ∧ C.size k = 1
  unbytes : ∀ k l s cs, C.unbytes k l = some s → CRL C k l cs → u8sOf cs = some (s.map fun b => (b.toNat : Int)) ∧ C.size k = 1

variable {C : Cod T} {α α' : List Nat} {β β' : Bt}

theorem get_pre {X : Type} {l l' : List X} (h : l <+: l') {i : Nat} {x : X} (hi : l[i]? = some x) : l'[i]? = some x := by
  obtain ⟨r, rfl⟩ := h
  rw [List.getElem?_append_left (List.getElem?_eq_some_iff.1 hi).1]
  exact hi

mutual
theorem Rep.ext (ha : α <+: α') (hb : β <+: β') : ∀ {w : W T} {v : V}, Rep C α β w v → Rep C α' β' w v
  | .undef, _, _ => trivial
  | .bool _, _, h | .int _ _, _, h | .str _, _, h | .nilp, _, h | .nilsl, _, h | .nilm, _, h | .nilf, _, h | .nili, _, h => by simpa only [Rep] using h
  | .row _ _ _, _, h | .relem _ _ _, _, h => by simpa only [Rep] using h
  | .ptr _ _, _, h => by
    simp only [Rep] at h ⊢
    obtain ⟨j, h1, h2⟩ := h
    exact ⟨j, get_pre ha h1, h2⟩
  | .own _ _, _, h => by
    simp only [Rep] at h ⊢
    rcases h with ⟨h1, h2⟩ | ⟨b, ver, n, h1, h2⟩
    · exact .inl ⟨get_pre hb h1, h2⟩
    · exact .inr ⟨b, ver, n, get_pre hb h1, h2⟩
  | .view _ _ _ _, _, h => by
    simp only [Rep] at h ⊢
    rcases h with ⟨h1, h2⟩ | ⟨b, ver, n, h1, h2⟩
    · exact .inl ⟨get_pre hb h1, h2⟩
    · exact .inr ⟨b, ver, n, get_pre hb h1, h2⟩
  | .oelem _ _ _ _, _, h => by
    simp only [Rep] at h ⊢
    obtain ⟨b, ver, n, h1, h2⟩ := h
    exact ⟨b, ver, n, get_pre hb h1, h2⟩
  | .map _, _, h => by
    simp only [Rep] at h ⊢
    obtain ⟨b, ver, n, h1, h2⟩ := h
    exact ⟨b, ver, n, get_pre hb h1, h2⟩
  | .yld _, _, h => by
    simp only [Rep] at h ⊢
    obtain ⟨b, ver, n, h1, h2⟩ := h
    exact ⟨b, ver, n, get_pre hb h1, h2⟩
  | .fn _ _, _, h => by
    simp only [Rep] at h ⊢
    obtain ⟨vs, h1, h2⟩ := h
    exact ⟨vs, h1, RepL.ext ha hb h2⟩
  | .ifc _ _, _, h => by
    simp only [Rep] at h ⊢
    obtain ⟨u, h1, h2⟩ := h
    exact ⟨u, h1, Rep.ext ha hb h2⟩
  | .agg _, _, h => by
    simp only [Rep] at h ⊢
    obtain ⟨vs, h1, h2⟩ := h
    exact ⟨vs, h1, RepL.ext ha hb h2⟩
  | .tup _, _, h => by
    simp only [Rep] at h ⊢
    obtain ⟨vs, h1, h2⟩ := h
    exact ⟨vs, h1, RepL.ext ha hb h2⟩
theorem RepL.ext (ha : α <+: α') (hb : β <+: β') : ∀ {ws : List (W T)} {vs : List V}, RepL C α β ws vs → RepL C α' β' ws vs
  | [], _, h => by simpa only [RepL] using h
  | _ :: _, _, h => by
    simp only [RepL] at h ⊢
    obtain ⟨v, vs', h1, h2, h3⟩ := h
    exact ⟨v, vs', h1, Rep.ext ha hb h2, RepL.ext ha hb h3⟩
end

theorem RepL.nil_iff {vs : List V} : RepL C α β [] vs ↔ vs = [] := by simp only [RepL]
theorem RepL.cons_iff {w : W T} {ws : List (W T)} {v : V} {vs : List V} : RepL C α β (w :: ws) (v :: vs) ↔ Rep C α β w v ∧ RepL C α β ws vs := by
  simp only [RepL, List.cons.injEq]
  constructor
  · rintro ⟨v', vs', ⟨rfl, rfl⟩, h⟩; exact h
  · intro h; exact ⟨v, vs, ⟨rfl, rfl⟩, h⟩
theorem RepL.cons {w : W T} {ws : List (W T)} {v : V} {vs : List V} (h : Rep C α β w v) (h' : RepL C α β ws vs) : RepL C α β (w :: ws) (v :: vs) := RepL.cons_iff.2 ⟨h, h'⟩
theorem RepL.nil : RepL C α β [] [] := by simp only [RepL]
theorem RepL.length : ∀ {ws : List (W T)} {vs : List V}, RepL C α β ws vs → ws.length = vs.length
  | [], vs, h => by simp only [RepL] at h; subst h; rfl
  | w :: ws, vs, h => by
    simp only [RepL] at h
    obtain ⟨v, vs', rfl, h2, h3⟩ := h
    simp [h3.length]
theorem RepL.get : ∀ {ws : List (W T)} {vs : List V}, RepL C α β ws vs → ∀ {i : Nat} {w : W T}, ws[i]? = some w → ∃ v, vs[i]? = some v ∧ Rep C α β w v
  | [], vs, h, i, w, hi => by simp at hi
  | w :: ws, vs, h, i, w', hi => by
    simp only [RepL] at h
    obtain ⟨v, vs', rfl, h2, h3⟩ := h
    cases i with
    | zero => simp at hi; subst hi; exact ⟨v, rfl, h2⟩
    | succ i => simpa using h3.get (i := i) (by simpa using hi)
theorem RepL.of_get : ∀ {ws : List (W T)} {vs : List V}, ws.length = vs.length → (∀ (i : Nat) (w : W T) (v : V), ws[i]? = some w → vs[i]? = some v → Rep C α β w v) → RepL C α β ws vs
  | [], [], _, _ => RepL.nil
  | [], _ :: _, h, _ => by simp at h
  | _ :: _, [], h, _ => by simp at h
  | w :: ws, v :: vs, h, k => RepL.cons (k 0 w v rfl rfl) (RepL.of_get (by simpa using h) fun i w' v' h1 h2 => k (i + 1) w' v' (by simpa using h1) (by simpa using h2))
theorem RepL.get2 {ws : List (W T)} {vs : List V} (h : RepL C α β ws vs) {i : Nat} {w : W T} {v : V} (h1 : ws[i]? = some w) (h2 : vs[i]? = some v) : Rep C α β w v := by
  obtain ⟨v', h3, h4⟩ := h.get h1
  rw [h2] at h3
  injection h3 with h3
  subst h3
  exact h4
theorem RepL.append {ws ws' : List (W T)} {vs vs' : List V} (h : RepL C α β ws vs) (h' : RepL C α β ws' vs') : RepL C α β (ws ++ ws') (vs ++ vs') := by
  induction ws generalizing vs with
  | nil => simp only [RepL] at h; subst h; exact h'
  | cons w ws ih =>
    simp only [RepL] at h
    obtain ⟨v, vs1, rfl, h2, h3⟩ := h
    exact RepL.cons h2 (ih h3)
theorem RepL.take {ws : List (W T)} {vs : List V} (h : RepL C α β ws vs) (n : Nat) : RepL C α β (ws.take n) (vs.take n) := by
  induction ws generalizing vs n with
  | nil => simp only [RepL] at h; subst h; simp [RepL]
  | cons w ws ih =>
    simp only [RepL] at h
    obtain ⟨v, vs1, rfl, h2, h3⟩ := h
    cases n with
    | zero => exact RepL.nil
    | succ n => exact RepL.cons h2 (ih h3 n)
theorem RepL.drop {ws : List (W T)} {vs : List V} (h : RepL C α β ws vs) (n : Nat) : RepL C α β (ws.drop n) (vs.drop n) := by
  induction ws generalizing vs n with
  | nil => simp only [RepL] at h; subst h; simp [RepL]
  | cons w ws ih =>
    simp only [RepL] at h
    obtain ⟨v, vs1, rfl, h2, h3⟩ := h
    cases n with
    | zero => exact RepL.cons h2 h3
    | succ n => exact ih h3 n
theorem RepL.set {ws : List (W T)} {vs : List V} (h : RepL C α β ws vs) (n : Nat) {w : W T} {v : V} (hw : Rep C α β w v) : RepL C α β (ws.set n w) (vs.set n v) := by
  induction ws generalizing vs n with
  | nil => simp only [RepL] at h; subst h; simp [RepL]
  | cons w' ws ih =>
    simp only [RepL] at h
    obtain ⟨v', vs1, rfl, h2, h3⟩ := h
    cases n with
    | zero => exact RepL.cons hw h3
    | succ n => exact RepL.cons h2 (ih h3 n)
theorem RepL.replicate (n : Nat) {w : W T} {v : V} (h : Rep C α β w v) : RepL C α β (List.replicate n w) (List.replicate n v) := by
  induction n with
  | zero => exact RepL.nil
  | succ n ih => exact RepL.cons h ih

/-! ### Rows -/
theorem CRL.length (ok : CodOk C) {k : Nat} : ∀ {l : List (T k)} {cs : List V}, CRL C k l cs → cs.length = l.length * C.size k
  | [], cs, h => by simp only [CRL] at h; subst h; simp
  | x :: l, cs, h => by
    simp only [CRL] at h
    obtain ⟨c1, c2, rfl, h1, h2⟩ := h
    rw [List.length_append, ok.len _ _ _ h1, CRL.length ok h2, List.length_cons, Nat.succ_mul, Nat.add_comm]
theorem CRL.append {k : Nat} : ∀ {l l' : List (T k)} {cs cs' : List V}, CRL C k l cs → CRL C k l' cs' → CRL C k (l ++ l') (cs ++ cs')
  | [], l', cs, cs', h, h' => by simp only [CRL] at h; subst h; exact h'
  | x :: l, l', cs, cs', h, h' => by
    simp only [CRL] at h
    obtain ⟨c1, c2, rfl, h1, h2⟩ := h
    simp only [List.cons_append, CRL]
    exact ⟨c1, c2 ++ cs', by rw [List.append_assoc], h1, CRL.append h2 h'⟩
theorem CRL.one {k : Nat} {x : T k} {cs : List V} (h : C.CR k x cs) : CRL C k [x] cs := ⟨cs, [], by simp, h, rfl⟩
theorem CRL.pure (ok : CodOk C) {k : Nat} : ∀ {l : List (T k)} {cs : List V}, CRL C k l cs → pureL cs = true
  | [], cs, h => by simp only [CRL] at h; subst h; rfl
  | x :: l, cs, h => by
    simp only [CRL] at h
    obtain ⟨c1, c2, rfl, h1, h2⟩ := h
    have e1 := ok.pure _ _ _ h1
    have e2 := CRL.pure ok h2
    clear h1 h2
    induction c1 with
    | nil => exact e2
    | cons a c1 ih =>
      simp only [pureL, Bool.and_eq_true, List.cons_append] at e1 ⊢
      exact ⟨e1.1, ih e1.2⟩
theorem CRL.cell (ok : CodOk C) {k : Nat} : ∀ {l : List (T k)} {cs : List V}, CRL C k l cs → cs.all V.cellLike = true
  | [], cs, h => by simp only [CRL] at h; subst h; rfl
  | x :: l, cs, h => by
    simp only [CRL] at h
    obtain ⟨c1, c2, rfl, h1, h2⟩ := h
    rw [List.all_append, ok.cell _ _ _ h1, CRL.cell ok h2]
    rfl
theorem CRL.drop (ok : CodOk C) {k : Nat} : ∀ {l : List (T k)} {cs : List V} (n : Nat), CRL C k l cs → CRL C k (l.drop n) (cs.drop (n * C.size k))
  | l, cs, 0, h => by simpa using h
  | [], cs, n + 1, h => by simp only [CRL] at h; subst h; simp [CRL]
  | x :: l, cs, n + 1, h => by
    simp only [CRL] at h
    obtain ⟨c1, c2, rfl, h1, h2⟩ := h
    have e := ok.len _ _ _ h1
    rw [List.drop_succ_cons, show (n + 1) * C.size k = c1.length + n * C.size k by rw [e, Nat.succ_mul, Nat.add_comm], List.drop_append]
    rw [List.drop_eq_nil_of_le (Nat.le_add_right _ _), List.nil_append, Nat.add_sub_cancel_left]
    exact CRL.drop ok n h2
theorem CRL.take (ok : CodOk C) {k : Nat} : ∀ {l : List (T k)} {cs : List V} (n : Nat), CRL C k l cs → CRL C k (l.take n) (cs.take (n * C.size k))
  | l, cs, 0, h => by simp [CRL]
  | [], cs, n + 1, h => by simp only [CRL] at h; subst h; simp [CRL]
  | x :: l, cs, n + 1, h => by
    simp only [CRL] at h
    obtain ⟨c1, c2, rfl, h1, h2⟩ := h
    have e := ok.len _ _ _ h1
    rw [List.take_succ_cons, show (n + 1) * C.size k = c1.length + n * C.size k by rw [e, Nat.succ_mul, Nat.add_comm], List.take_length_add_append]
    exact ⟨c1, _, rfl, h1, CRL.take ok n h2⟩
theorem CRL.get (ok : CodOk C) {k : Nat} {l : List (T k)} {cs : List V} (h : CRL C k l cs) {i : Nat} {x : T k} (hi : l[i]? = some x) : C.CR k x ((cs.drop (i * C.size k)).take (C.size k)) := by
  have h1 := (h.drop ok i).take ok 1
  have e : (l.drop i).take 1 = [x] := by
    obtain ⟨hl, hx⟩ := List.getElem?_eq_some_iff.1 hi
    rw [List.drop_eq_getElem_cons hl, List.take_succ_cons, List.take_zero, hx]
  rw [e, Nat.one_mul] at h1
  simp only [CRL] at h1
  obtain ⟨c1, c2, h2, h3, h4⟩ := h1
  rw [h2, h4, List.append_nil]
  exact h3
theorem CRL.set (ok : CodOk C) {k : Nat} {l : List (T k)} {cs c : List V} (h : CRL C k l cs) {i : Nat} {x : T k} (hi : i < l.length) (hx : C.CR k x c) : CRL C k (l.set i x) (splice cs (i * C.size k) c) := by
  have e : l.set i x = l.take i ++ [x] ++ l.drop (i + 1) := by
    rw [List.set_eq_take_append_cons_drop, if_pos hi]; simp
  rw [e]
  unfold splice
  have := (h.take ok i).append (CRL.one hx) |>.append (h.drop ok (i + 1))
  rw [show (i + 1) * C.size k = i * C.size k + c.length by rw [ok.len _ _ _ hx, Nat.succ_mul]] at this
  exact this
end
end Go.Proofs.YtpdgbhjhodhkiaaGreatDoor.AI
