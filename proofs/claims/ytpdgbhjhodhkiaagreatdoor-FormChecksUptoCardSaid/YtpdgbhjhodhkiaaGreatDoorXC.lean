/- Typed values over the interpreter, first part. -/
import Derived.Test.YtpdgbhjhodhkiaaGreatDoorXB
import Derived.Laws.Strings
set_option linter.unusedVariables false
set_option linter.unusedSimpArgs false
namespace Go.Proofs.YtpdgbhjhodhkiaaGreatDoor.AI
open Go
inductive W (T : Nat → Type) where
 | undef
 | bool (b : Bool)
 | int (k : IntKind) (n : Int)
 | str (s : List UInt8)
 | nilp
 | ptr (i off : Nat)
 | nilsl
 | row (k : Nat) (l : List (T k)) (full : Bool)
 | relem (k : Nat) (x : T k) (off : Nat)
 | own (k h : Nat)
 | view (k h off len : Nat)
 | oelem (k h i off : Nat)
 | nilm
 | map (h : Nat)
 | nilf
 | fn (f : FuncId) (caps : List (W T))
 | yld (h : Nat)
 | nili
 | ifc (t : TypeId) (w : W T)
 | agg (ws : List (W T))
 | tup (ws : List (W T))
 deriving Inhabited
inductive En (T : Nat → Type) where
 | dead
 | rows (k : Nat) (l : List (T k))
 | map (kk kv : Nat) (es : List (T kk × T kv))
 | loop (st : LoopState) (pend : Option Code) (tm : List (W T)) (ps : List Tmp) (assign body : Code) (pt : List Nat)
structure WM (T : Nat → Type) where
 A : List (List (W T))
 H : List (En T)
 la : Nat
 lh : Nat
 pa : Nat
 ph : Nat
structure WSt (T : Nat → Type) where
 tm : List (W T)
 mem : WM T
 df : List (TypeId × W T × W T)
 rd : Bool
structure Cod (T : Nat → Type) where
 size : Nat → Nat
 isAgg : Nat → Bool
 out : (k : Nat) → T k → List (W T)
 inn : (k : Nat) → List (W T) → Option (T k)
 CR : (k : Nat) → T k → List V → Prop
 keq : (k : Nat) → T k → T k → Bool
 kok : Program → TypeDesc → Nat → Bool
 bytes : (k : Nat) → List UInt8 → Option (List (T k))
 unbytes : (k : Nat) → List (T k) → Option (List UInt8)
section
variable {T : Nat → Type}
def CRL (C : Cod T) (k : Nat) : List (T k) → List V → Prop
 | [], cs => cs = []
 | x :: l, cs => ∃ c1 c2, cs = c1 ++ c2 ∧ C.CR k x c1 ∧ CRL C k l c2
abbrev Bt := List (Option (Nat × Nat × Nat))
mutual
def Rep (C : Cod T) (α : List Nat) (β : Bt) : W T → V → Prop
 | .undef, _ => True
 | .bool b, v => v = .bool b
 | .int k n, v => v = .int k n
 | .str s, v => v = .str ⟨s.toArray⟩
 | .nilp, v => v = .nilp
 | .ptr i off, v => ∃ j, α[i]? = some j ∧ v = .ptr j off
 | .nilsl, v => v = .ro [] 0 true
 | .row k l full, v => ∃ cs fl, v = .ro cs l.length fl ∧ (full = true → fl = true) ∧ CRL C k l cs
 | .relem k x off, v => ∃ cs o, v = .rp cs (o + off) ∧ C.CR k x ((cs.drop o).take (C.size k))
 | .own k h, v => (β[h]? = some none ∧ v = .ro [] 0 true) ∨ ∃ b ver n, β[h]? = some (some (b, ver, n)) ∧ v = .sl b ver 0 n
 | .view k h off len, v => (β[h]? = some none ∧ off = 0 ∧ len = 0 ∧ ∃ fl, v = .ro [] 0 fl) ∨ ∃ b ver n, β[h]? = some (some (b, ver, n)) ∧ v = .sl b ver (off * C.size k) len
 | .oelem k h i off, v => ∃ b ver n, β[h]? = some (some (b, ver, n)) ∧ v = .bptr b ver (i * C.size k + off)
 | .nilm, v => v = .nilm
 | .map h, v => ∃ b ver n, β[h]? = some (some (b, ver, n)) ∧ v = .map b
 | .nilf, v => v = .nilf
 | .fn f ws, v => ∃ vs, v = .fn f vs ∧ RepL C α β ws vs
 | .yld h, v => ∃ b ver n, β[h]? = some (some (b, ver, n)) ∧ v = .yld b
 | .nili, v => v = .nili
 | .ifc t w, v => ∃ u, v = .ifc t u ∧ Rep C α β w u
 | .agg ws, v => ∃ vs, v = .agg vs ∧ RepL C α β ws vs
 | .tup ws, v => ∃ vs, v = .tup vs ∧ RepL C α β ws vs
def RepL (C : Cod T) (α : List Nat) (β : Bt) : List (W T) → List V → Prop
 | [], vs => vs = []
 | w :: ws, vs => ∃ v vs', vs = v :: vs' ∧ Rep C α β w v ∧ RepL C α β ws vs'
end
structure CodOk (C : Cod T) : Prop where
 pos : ∀ k, 0 < C.size k
 len : ∀ k x cs, C.CR k x cs → cs.length = C.size k
 pure : ∀ k x cs, C.CR k x cs → pureL cs = true
 cell : ∀ k x cs, C.CR k x cs → cs.all V.cellLike = true
 one : ∀ k, C.isAgg k = false → C.size k = 1
 out : ∀ k x cs, C.CR k x cs → ∀ α β, RepL C α β (C.out k x) cs
 inn : ∀ k ws x, C.inn k ws = some x → ∀ α β cs, RepL C α β ws cs → C.CR k x cs
 key : ∀ (P : Program) (d : TypeDesc) k x y cx cy, C.kok P d k = true → C.CR k x cx → C.CR k y cy →
  keyEq P d (if C.isAgg k then .agg cx else cx.headD .undef) (if C.isAgg k then .agg cy else cy.headD .undef) = some (C.keq k x y) ∧ keyOk P d (if C.isAgg k then .agg cx else cx.headD .undef) = true
 bytes : ∀ k s l, C.bytes k s = some l → l.length = s.length ∧ CRL C k l (s.map fun b => .int .u8 b.toNat) ∧ C.size k = 1
 unbytes : ∀ k l s cs, C.unbytes k l = some s → CRL C k l cs → u8sOf cs = some (s.map fun b => (b.toNat : Int)) ∧ C.size k = 1
variable {C : Cod T} {α α' : List Nat} {β β' : Bt}
theorem get_pre {X : Type} {l l' : List X} (h : l <+: l') {i : Nat} {x : X} (hi : l[i]? = some x) : l'[i]? = some x := by
 obtain ⟨r, rfl⟩ := h
 rw [List.getElem?_append_left (List.getElem?_eq_some_iff.1 hi).1]
 exact hi
mutual
theorem Rep.ext (ha : α <+: α') (hb : β <+: β') : ∀ {w : W T} {v : V}, Rep C α β w v → Rep C α' β' w v
 | .undef, _, _ => trivial
 | .bool _, _, h | .int _ _, _, h | .str _, _, h | .nilp, _, h | .nilsl, _, h | .nilm, _, h | .nilf, _, h | .nili, _, h => by simpa only [Rep] using h
 | .row _ _ _, _, h | .relem _ _ _, _, h => by simpa only [Rep] using h
 | .ptr _ _, _, h => by
  simp only [Rep] at h ⊢
  obtain ⟨j, h1, h2⟩ := h
  exact ⟨j, get_pre ha h1, h2⟩
 | .own _ _, _, h => by
  simp only [Rep] at h ⊢
  rcases h with ⟨h1, h2⟩ | ⟨b, ver, n, h1, h2⟩
  ·exact .inl ⟨get_pre hb h1, h2⟩
  ·exact .inr ⟨b, ver, n, get_pre hb h1, h2⟩
 | .view _ _ _ _, _, h => by
  simp only [Rep] at h ⊢
  rcases h with ⟨h1, h2⟩ | ⟨b, ver, n, h1, h2⟩
  ·exact .inl ⟨get_pre hb h1, h2⟩
  ·exact .inr ⟨b, ver, n, get_pre hb h1, h2⟩
 | .oelem _ _ _ _, _, h => by
  simp only [Rep] at h ⊢
  obtain ⟨b, ver, n, h1, h2⟩ := h
  exact ⟨b, ver, n, get_pre hb h1, h2⟩
 | .map _, _, h => by
  simp only [Rep] at h ⊢
  obtain ⟨b, ver, n, h1, h2⟩ := h
  exact ⟨b, ver, n, get_pre hb h1, h2⟩
 | .yld _, _, h => by
  simp only [Rep] at h ⊢
  obtain ⟨b, ver, n, h1, h2⟩ := h
  exact ⟨b, ver, n, get_pre hb h1, h2⟩
 | .fn _ _, _, h => by
  simp only [Rep] at h ⊢
  obtain ⟨vs, h1, h2⟩ := h
  exact ⟨vs, h1, RepL.ext ha hb h2⟩
 | .ifc _ _, _, h => by
  simp only [Rep] at h ⊢
  obtain ⟨u, h1, h2⟩ := h
  exact ⟨u, h1, Rep.ext ha hb h2⟩
 | .agg _, _, h => by
  simp only [Rep] at h ⊢
  obtain ⟨vs, h1, h2⟩ := h
  exact ⟨vs, h1, RepL.ext ha hb h2⟩
 | .tup _, _, h => by
  simp only [Rep] at h ⊢
  obtain ⟨vs, h1, h2⟩ := h
  exact ⟨vs, h1, RepL.ext ha hb h2⟩
theorem RepL.ext (ha : α <+: α') (hb : β <+: β') : ∀ {ws : List (W T)} {vs : List V}, RepL C α β ws vs → RepL C α' β' ws vs
 | [], _, h => by simpa only [RepL] using h
 | _ :: _, _, h => by
  simp only [RepL] at h ⊢
  obtain ⟨v, vs', h1, h2, h3⟩ := h
  exact ⟨v, vs', h1, Rep.ext ha hb h2, RepL.ext ha hb h3⟩
end
theorem RepL.cons_iff {w : W T} {ws : List (W T)} {v : V} {vs : List V} : RepL C α β (w :: ws) (v :: vs) ↔ Rep C α β w v ∧ RepL C α β ws vs := by
 simp only [RepL, List.cons.injEq]
 constructor
 ·rintro ⟨v', vs', ⟨rfl, rfl⟩, h⟩; exact h
 ·intro h; exact ⟨v, vs, ⟨rfl, rfl⟩, h⟩
theorem RepL.cons {w : W T} {ws : List (W T)} {v : V} {vs : List V} (h : Rep C α β w v) (h' : RepL C α β ws vs) : RepL C α β (w :: ws) (v :: vs) := RepL.cons_iff.2 ⟨h, h'⟩
theorem RepL.nil : RepL C α β [] [] := by simp only [RepL]
theorem RepL.length : ∀ {ws : List (W T)} {vs : List V}, RepL C α β ws vs → ws.length = vs.length
 | [], vs, h => by simp only [RepL] at h; subst h; rfl
 | w :: ws, vs, h => by
  simp only [RepL] at h
  obtain ⟨v, vs', rfl, h2, h3⟩ := h
  simp [h3.length]
theorem RepL.get : ∀ {ws : List (W T)} {vs : List V}, RepL C α β ws vs → ∀ {i : Nat} {w : W T}, ws[i]? = some w → ∃ v, vs[i]? = some v ∧ Rep C α β w v
 | [], vs, h, i, w, hi => by simp at hi
 | w :: ws, vs, h, i, w', hi => by
  simp only [RepL] at h
  obtain ⟨v, vs', rfl, h2, h3⟩ := h
  cases i with
  | zero => simp at hi; subst hi; exact ⟨v, rfl, h2⟩
  | succ i => simpa using h3.get (i := i) (by simpa using hi)
theorem RepL.of_get : ∀ {ws : List (W T)} {vs : List V}, ws.length = vs.length → (∀ (i : Nat) (w : W T) (v : V), ws[i]? = some w → vs[i]? = some v → Rep C α β w v) → RepL C α β ws vs
 | [], [], _, _ => RepL.nil
 | [], _ :: _, h, _ => by simp at h
 | _ :: _, [], h, _ => by simp at h
 | w :: ws, v :: vs, h, k => RepL.cons (k 0 w v rfl rfl) (RepL.of_get (by simpa using h) fun i w' v' h1 h2 => k (i + 1) w' v' (by simpa using h1) (by simpa using h2))
theorem RepL.append {ws ws' : List (W T)} {vs vs' : List V} (h : RepL C α β ws vs) (h' : RepL C α β ws' vs') : RepL C α β (ws ++ ws') (vs ++ vs') := by
 induction ws generalizing vs with
 | nil => simp only [RepL] at h; subst h; exact h'
 | cons w ws ih =>
  simp only [RepL] at h
  obtain ⟨v, vs1, rfl, h2, h3⟩ := h
  exact RepL.cons h2 (ih h3)
theorem RepL.take {ws : List (W T)} {vs : List V} (h : RepL C α β ws vs) (n : Nat) : RepL C α β (ws.take n) (vs.take n) := by
 induction ws generalizing vs n with
 | nil => simp only [RepL] at h; subst h; simp [RepL]
 | cons w ws ih =>
  simp only [RepL] at h
  obtain ⟨v, vs1, rfl, h2, h3⟩ := h
  cases n with
  | zero => exact RepL.nil
  | succ n => exact RepL.cons h2 (ih h3 n)
theorem RepL.drop {ws : List (W T)} {vs : List V} (h : RepL C α β ws vs) (n : Nat) : RepL C α β (ws.drop n) (vs.drop n) := by
 induction ws generalizing vs n with
 | nil => simp only [RepL] at h; subst h; simp [RepL]
 | cons w ws ih =>
  simp only [RepL] at h
  obtain ⟨v, vs1, rfl, h2, h3⟩ := h
  cases n with
  | zero => exact RepL.cons h2 h3
  | succ n => exact ih h3 n
theorem RepL.set {ws : List (W T)} {vs : List V} (h : RepL C α β ws vs) (n : Nat) {w : W T} {v : V} (hw : Rep C α β w v) : RepL C α β (ws.set n w) (vs.set n v) := by
 induction ws generalizing vs n with
 | nil => simp only [RepL] at h; subst h; simp [RepL]
 | cons w' ws ih =>
  simp only [RepL] at h
  obtain ⟨v', vs1, rfl, h2, h3⟩ := h
  cases n with
  | zero => exact RepL.cons hw h3
  | succ n => exact RepL.cons h2 (ih h3 n)
theorem RepL.replicate (n : Nat) {w : W T} {v : V} (h : Rep C α β w v) : RepL C α β (List.replicate n w) (List.replicate n v) := by
 induction n with
 | zero => exact RepL.nil
 | succ n ih => exact RepL.cons h ih
theorem CRL.length (ok : CodOk C) {k : Nat} : ∀ {l : List (T k)} {cs : List V}, CRL C k l cs → cs.length = l.length * C.size k
 | [], cs, h => by simp only [CRL] at h; subst h; simp
 | x :: l, cs, h => by
  simp only [CRL] at h
  obtain ⟨c1, c2, rfl, h1, h2⟩ := h
  rw [List.length_append, ok.len _ _ _ h1, CRL.length ok h2, List.length_cons, Nat.succ_mul, Nat.add_comm]
theorem CRL.append {k : Nat} : ∀ {l l' : List (T k)} {cs cs' : List V}, CRL C k l cs → CRL C k l' cs' → CRL C k (l ++ l') (cs ++ cs')
 | [], l', cs, cs', h, h' => by simp only [CRL] at h; subst h; exact h'
 | x :: l, l', cs, cs', h, h' => by
  simp only [CRL] at h
  obtain ⟨c1, c2, rfl, h1, h2⟩ := h
  simp only [List.cons_append, CRL]
  exact ⟨c1, c2 ++ cs', by rw [List.append_assoc], h1, CRL.append h2 h'⟩
theorem CRL.one {k : Nat} {x : T k} {cs : List V} (h : C.CR k x cs) : CRL C k [x] cs := ⟨cs, [], by simp, h, rfl⟩
theorem CRL.pure (ok : CodOk C) {k : Nat} : ∀ {l : List (T k)} {cs : List V}, CRL C k l cs → pureL cs = true
 | [], cs, h => by simp only [CRL] at h; subst h; rfl
 | x :: l, cs, h => by
  simp only [CRL] at h
  obtain ⟨c1, c2, rfl, h1, h2⟩ := h
  have e1 := ok.pure _ _ _ h1
  have e2 := CRL.pure ok h2
  clear h1 h2
  induction c1 with
  | nil => exact e2
  | cons a c1 ih =>
   simp only [pureL, Bool.and_eq_true, List.cons_append] at e1 ⊢
   exact ⟨e1.1, ih e1.2⟩
theorem CRL.cell (ok : CodOk C) {k : Nat} : ∀ {l : List (T k)} {cs : List V}, CRL C k l cs → cs.all V.cellLike = true
 | [], cs, h => by simp only [CRL] at h; subst h; rfl
 | x :: l, cs, h => by
  simp only [CRL] at h
  obtain ⟨c1, c2, rfl, h1, h2⟩ := h
  rw [List.all_append, ok.cell _ _ _ h1, CRL.cell ok h2]
  rfl
theorem CRL.drop (ok : CodOk C) {k : Nat} : ∀ {l : List (T k)} {cs : List V} (n : Nat), CRL C k l cs → CRL C k (l.drop n) (cs.drop (n * C.size k))
 | l, cs, 0, h => by simpa using h
 | [], cs, n + 1, h => by simp only [CRL] at h; subst h; simp [CRL]
 | x :: l, cs, n + 1, h => by
  simp only [CRL] at h
  obtain ⟨c1, c2, rfl, h1, h2⟩ := h
  have e := ok.len _ _ _ h1
  rw [List.drop_succ_cons, show (n + 1) * C.size k = c1.length + n * C.size k by rw [e, Nat.succ_mul, Nat.add_comm], List.drop_append]
  rw [List.drop_eq_nil_of_le (Nat.le_add_right _ _), List.nil_append, Nat.add_sub_cancel_left]
  exact CRL.drop ok n h2
theorem CRL.take (ok : CodOk C) {k : Nat} : ∀ {l : List (T k)} {cs : List V} (n : Nat), CRL C k l cs → CRL C k (l.take n) (cs.take (n * C.size k))
 | l, cs, 0, h => by simp [CRL]
 | [], cs, n + 1, h => by simp only [CRL] at h; subst h; simp [CRL]
 | x :: l, cs, n + 1, h => by
  simp only [CRL] at h
  obtain ⟨c1, c2, rfl, h1, h2⟩ := h
  have e := ok.len _ _ _ h1
  rw [List.take_succ_cons, show (n + 1) * C.size k = c1.length + n * C.size k by rw [e, Nat.succ_mul, Nat.add_comm], List.take_length_add_append]
  exact ⟨c1, _, rfl, h1, CRL.take ok n h2⟩
theorem CRL.get (ok : CodOk C) {k : Nat} {l : List (T k)} {cs : List V} (h : CRL C k l cs) {i : Nat} {x : T k} (hi : l[i]? = some x) : C.CR k x ((cs.drop (i * C.size k)).take (C.size k)) := by
 have h1 := (h.drop ok i).take ok 1
 have e : (l.drop i).take 1 = [x] := by
  obtain ⟨hl, hx⟩ := List.getElem?_eq_some_iff.1 hi
  rw [List.drop_eq_getElem_cons hl, List.take_succ_cons, List.take_zero, hx]
 rw [e, Nat.one_mul] at h1
 simp only [CRL] at h1
 obtain ⟨c1, c2, h2, h3, h4⟩ := h1
 rw [h2, h4, List.append_nil]
 exact h3
theorem CRL.set (ok : CodOk C) {k : Nat} {l : List (T k)} {cs c : List V} (h : CRL C k l cs) {i : Nat} {x : T k} (hi : i < l.length) (hx : C.CR k x c) : CRL C k (l.set i x) (splice cs (i * C.size k) c) := by
 have e : l.set i x = l.take i ++ [x] ++ l.drop (i + 1) := by
  rw [List.set_eq_take_append_cons_drop, if_pos hi]; simp
 rw [e]
 unfold splice
 have := (h.take ok i).append (CRL.one hx) |>.append (h.drop ok (i + 1))
 rw [show (i + 1) * C.size k = i * C.size k + c.length by rw [ok.len _ _ _ hx, Nat.succ_mul]] at this
 exact this
end
end Go.Proofs.YtpdgbhjhodhkiaaGreatDoor.AI
namespace Go.Proofs.YtpdgbhjhodhkiaaGreatDoor.AI
open Go
section
variable {R : Type}
def opK {X : Type} (o : Option X) (k : X → Option R) : Option R :=
 match o with
 | some x => k x
 | none => none
def cnd (b : Bool) (x y : Option R) : Option R := cond b x y
theorem cnd_true {x y : Option R} : cnd true x y = x := rfl
theorem cnd_false {x y : Option R} : cnd false x y = y := rfl
theorem opK_some {X : Type} {o : Option X} {k : X → Option R} {r : R} (h : opK o k = some r) : ∃ x, o = some x ∧ k x = some r := by
 cases o with
 | none => cases h
 | some x => exact ⟨x, rfl, h⟩
theorem cond_some {b : Bool} {x : Option R} {r : R} (h : cnd b x none = some r) : b = true ∧ x = some r := by
 cases b
 ·cases h
 ·exact ⟨rfl, h⟩
theorem cond_none {b : Bool} {x : Option R} {r : R} (h : cnd b none x = some r) : b = false ∧ x = some r := by
 cases b
 ·exact ⟨rfl, h⟩
 ·cases h
theorem cond_cases {b : Bool} {x y : Option R} {r : R} (h : cnd b x y = some r) : b = true ∧ x = some r ∨ b = false ∧ y = some r := by
 cases b
 ·exact .inr ⟨rfl, h⟩
 ·exact .inl ⟨rfl, h⟩
end
def idx {X : Type} (l : List X) (i : Int) : Option X := if 0 ≤ i then l[i.toNat]? else none
theorem idx_some {X : Type} {l : List X} {i : Int} {x : X} (h : idx l i = some x) : 0 ≤ i ∧ l[i.toNat]? = some x := by
 unfold idx at h
 split at h
 ·exact ⟨by assumption, h⟩
 ·cases h
def ok64 (n : Int) : Bool := decide (-9223372036854775808 ≤ n ∧ n ≤ 9223372036854775807)
theorem wrap_ok64 {n : Int} (h : ok64 n = true) : IntKind.i64.wrap n = n := by
 have := of_decide_eq_true h
 rw [IntKind.wrap_i64]; omega
def subX {X : Type} (cs : List X) (off n : Nat) : Option (List X) := if off + n ≤ cs.length then some ((cs.drop off).take n) else none
def spliceX {X : Type} (old : List X) (off : Nat) (cs : List X) : List X := old.take off ++ cs ++ old.drop (off + cs.length)
variable {T : Nat → Type}
def wConst0 : Value → W T
 | .bool b => .bool b
 | .int k n => .int k n
 | .string s => .str s.data.toList
 | .pointer none => .nilp
 | .slice none 0 0 => .nilsl
 | .map none => .nilm
 | .nilFunc => .nilf
 | .nilIface => .nili
 | _ => .undef
def wConst : Value → W T
 | .agg cs => .agg (cs.toList.map wConst0)
 | v => wConst0 v
def evalW (tm : List (W T)) : Operand → W T
 | .tmp t => tm.getD t .undef
 | .const v => wConst v
 | .func f => .fn f []
 | .global _ => .undef
def wCells : W T → List (W T)
 | .agg cs => cs
 | w => [w]
def W.cellLike : W T → Bool
 | .agg _ => false
 | .tup _ => false
 | .undef => false
 | .bool _ | .int _ _ | .str _ | .nilp | .ptr _ _ | .nilsl | .row _ _ _ | .relem _ _ _ | .own _ _ | .view _ _ _ _ | .oelem _ _ _ _ | .nilm | .map _ | .nilf | .fn _ _ | .yld _ | .nili | .ifc _ _ => true
mutual
def W.noref : W T → Bool
 | .ptr _ _ => false
 | .own _ _ => false
 | .view _ _ _ _ => false
 | .oelem _ _ _ _ => false
 | .map _ => false
 | .yld _ => false
 | .fn _ ws => norefL ws
 | .ifc _ w => W.noref w
 | .agg ws => norefL ws
 | .tup ws => norefL ws
 | .undef => false
 | .bool _ | .int _ _ | .str _ | .nilp | .nilsl | .row _ _ _ | .relem _ _ _ | .nilm | .nilf | .nili => true
def norefL : List (W T) → Bool
 | [] => true
 | w :: ws => W.noref w && norefL ws
end
mutual
def W.free : W T → Bool
 | .ptr _ _ => false
 | .own _ _ => false
 | .view _ _ _ _ => false
 | .oelem _ _ _ _ => false
 | .map _ => false
 | .yld _ => false
 | .fn _ ws => freeL ws
 | .ifc _ w => W.free w
 | .agg ws => freeL ws
 | .tup ws => freeL ws
 | .undef => true
 | .bool _ | .int _ _ | .str _ | .nilp | .nilsl | .row _ _ _ | .relem _ _ _ | .nilm | .nilf | .nili => true
def freeL : List (W T) → Bool
 | [] => true
 | w :: ws => W.free w && freeL ws
end
variable {C : Cod T} {α α' : List Nat} {β β' : Bt}
theorem rep_const0 (v : Value) : Rep C α β (wConst0 v) (ofConst0 v) := by
 unfold wConst0 ofConst0
 split <;> simp only [Rep]
theorem repL_const (l : List Value) : RepL C α β (l.map wConst0) (l.map ofConst0) := by
 induction l with
 | nil => exact RepL.nil
 | cons v l ih => exact RepL.cons (rep_const0 v) ih
theorem rep_const (v : Value) : Rep C α β (wConst v) (ofConst v) := by
 cases v with
 | agg cs => simp only [wConst, ofConst, Rep]; exact ⟨_, rfl, repL_const _⟩
 | _ => simp only [wConst, ofConst]; exact rep_const0 _
theorem rep_getD {ws : List (W T)} {vs : List V} (h : RepL C α β ws vs) (t : Nat) : Rep C α β (ws.getD t .undef) (vs.getD t .undef) := by
 rw [List.getD_eq_getElem?_getD, List.getD_eq_getElem?_getD]
 cases hw : ws[t]? with
 | none => simp only [Option.getD_none, Rep]
 | some w =>
  obtain ⟨v, h1, h2⟩ := h.get hw
  rw [h1]
  exact h2
theorem rep_eval {ws : List (W T)} {vs : List V} (h : RepL C α β ws vs) (o : Operand) : Rep C α β (evalW ws o) (evalO vs o) := by
 cases o with
 | tmp t => exact rep_getD h t
 | const v => exact rep_const v
 | func f => simp only [evalW, evalO, Rep]; exact ⟨[], rfl, RepL.nil⟩
 | global g => simp only [evalW, Rep]
theorem rep_cells {w : W T} {v : V} (h : Rep C α β w v) (hc : (wCells w).all W.cellLike = true) : RepL C α β (wCells w) (cellsOf v) ∧ (cellsOf v).all V.cellLike = true := by
 have key : ∀ {w : W T} {v : V}, Rep C α β w v → W.cellLike w = true → V.cellLike v = true ∧ cellsOf v = [v] := by
  intro w v h hc
  cases w <;> simp only [Rep, W.cellLike, Bool.false_eq_true] at h hc
  case bool => subst h; exact ⟨rfl, rfl⟩
  case int => subst h; exact ⟨rfl, rfl⟩
  case str => subst h; exact ⟨rfl, rfl⟩
  case nilp => subst h; exact ⟨rfl, rfl⟩
  case ptr => obtain ⟨j, _, rfl⟩ := h; exact ⟨rfl, rfl⟩
  case nilsl => subst h; exact ⟨rfl, rfl⟩
  case row => obtain ⟨_, _, rfl, _⟩ := h; exact ⟨rfl, rfl⟩
  case relem => obtain ⟨_, _, rfl, _⟩ := h; exact ⟨rfl, rfl⟩
  case own => rcases h with ⟨_, rfl⟩ | ⟨_, _, _, _, rfl⟩ <;> exact ⟨rfl, rfl⟩
  case view => rcases h with ⟨_, _, _, _, rfl⟩ | ⟨_, _, _, _, rfl⟩ <;> exact ⟨rfl, rfl⟩
  case oelem => obtain ⟨_, _, _, _, rfl⟩ := h; exact ⟨rfl, rfl⟩
  case nilm => subst h; exact ⟨rfl, rfl⟩
  case map => obtain ⟨_, _, _, _, rfl⟩ := h; exact ⟨rfl, rfl⟩
  case nilf => subst h; exact ⟨rfl, rfl⟩
  case fn => obtain ⟨_, rfl, _⟩ := h; exact ⟨rfl, rfl⟩
  case yld => obtain ⟨_, _, _, _, rfl⟩ := h; exact ⟨rfl, rfl⟩
  case nili => subst h; exact ⟨rfl, rfl⟩
  case ifc => obtain ⟨_, rfl, _⟩ := h; exact ⟨rfl, rfl⟩
 have keyL : ∀ {ws : List (W T)} {vs : List V}, RepL C α β ws vs → ws.all W.cellLike = true → vs.all V.cellLike = true := by
  intro ws
  induction ws with
  | nil => intro vs h _; simp only [RepL] at h; subst h; rfl
  | cons w ws ih =>
   intro vs h hc
   simp only [RepL] at h
   obtain ⟨v, vs', rfl, h1, h2⟩ := h
   simp only [List.all_cons, Bool.and_eq_true] at hc ⊢
   exact ⟨(key h1 hc.1).1, ih h2 hc.2⟩
 cases w with
 | agg ws =>
  simp only [Rep] at h
  obtain ⟨vs, rfl, h⟩ := h
  exact ⟨h, keyL h hc⟩
 | _ =>
  simp only [wCells, List.all_cons, List.all_nil, Bool.and_true] at hc
  obtain ⟨h1, h2⟩ := key h hc
  rw [h2]
  exact ⟨RepL.cons h RepL.nil, by simp [h1]⟩
mutual
theorem noref_pure : ∀ {w : W T} {v : V}, Rep C α β w v → W.noref w = true → V.pure v = true
 | .undef, _, h, hn | .ptr _ _, _, h, hn | .own _ _, _, h, hn | .view _ _ _ _, _, h, hn | .oelem _ _ _ _, _, h, hn | .map _, _, h, hn | .yld _, _, h, hn => by simp [W.noref] at hn
 | .bool _, _, h, _ | .int _ _, _, h, _ | .str _, _, h, _ | .nilp, _, h, _ | .nilsl, _, h, _ | .nilm, _, h, _ | .nilf, _, h, _ | .nili, _, h, _ => by
  simp only [Rep] at h; subst h; rfl
 | .row _ _ _, _, h, _ => by simp only [Rep] at h; obtain ⟨_, _, rfl, _⟩ := h; rfl
 | .relem _ _ _, _, h, _ => by simp only [Rep] at h; obtain ⟨_, _, rfl, _⟩ := h; rfl
 | .fn _ ws, _, h, hn => by
  simp only [Rep] at h
  obtain ⟨vs, rfl, h⟩ := h
  exact norefL_pure h (by simpa only [W.noref] using hn)
 | .ifc _ w, _, h, hn => by
  simp only [Rep] at h
  obtain ⟨u, rfl, h⟩ := h
  simp only [V.pure]
  exact noref_pure h (by simpa only [W.noref] using hn)
 | .agg ws, _, h, hn => by
  simp only [Rep] at h
  obtain ⟨vs, rfl, h⟩ := h
  exact norefL_pure h (by simpa only [W.noref] using hn)
 | .tup ws, _, h, hn => by
  simp only [Rep] at h
  obtain ⟨vs, rfl, h⟩ := h
  exact norefL_pure h (by simpa only [W.noref] using hn)
theorem norefL_pure : ∀ {ws : List (W T)} {vs : List V}, RepL C α β ws vs → norefL ws = true → pureL vs = true
 | [], _, h, _ => by simp only [RepL] at h; subst h; rfl
 | w :: ws, _, h, hn => by
  simp only [RepL] at h
  obtain ⟨v, vs', rfl, h1, h2⟩ := h
  simp only [norefL, Bool.and_eq_true] at hn
  simp only [pureL, Bool.and_eq_true]
  exact ⟨noref_pure h1 hn.1, norefL_pure h2 hn.2⟩
end
mutual
theorem noref_any : ∀ {w : W T} {v : V}, Rep C α β w v → W.noref w = true → Rep C α' β' w v
 | .undef, _, h, hn | .ptr _ _, _, h, hn | .own _ _, _, h, hn | .view _ _ _ _, _, h, hn | .oelem _ _ _ _, _, h, hn | .map _, _, h, hn | .yld _, _, h, hn => by simp [W.noref] at hn
 | .bool _, _, h, _ | .int _ _, _, h, _ | .str _, _, h, _ | .nilp, _, h, _ | .nilsl, _, h, _ | .nilm, _, h, _ | .nilf, _, h, _ | .nili, _, h, _ | .row _ _ _, _, h, _ | .relem _ _ _, _, h, _ => by simpa only [Rep] using h
 | .fn _ ws, _, h, hn => by
  simp only [Rep] at h ⊢
  obtain ⟨vs, rfl, h⟩ := h
  exact ⟨vs, rfl, norefL_any h (by simpa only [W.noref] using hn)⟩
 | .ifc _ w, _, h, hn => by
  simp only [Rep] at h ⊢
  obtain ⟨u, rfl, h⟩ := h
  exact ⟨u, rfl, noref_any h (by simpa only [W.noref] using hn)⟩
 | .agg ws, _, h, hn => by
  simp only [Rep] at h ⊢
  obtain ⟨vs, rfl, h⟩ := h
  exact ⟨vs, rfl, norefL_any h (by simpa only [W.noref] using hn)⟩
 | .tup ws, _, h, hn => by
  simp only [Rep] at h ⊢
  obtain ⟨vs, rfl, h⟩ := h
  exact ⟨vs, rfl, norefL_any h (by simpa only [W.noref] using hn)⟩
theorem norefL_any : ∀ {ws : List (W T)} {vs : List V}, RepL C α β ws vs → norefL ws = true → RepL C α' β' ws vs
 | [], _, h, _ => by simpa only [RepL] using h
 | w :: ws, _, h, hn => by
  simp only [RepL] at h ⊢
  obtain ⟨v, vs', rfl, h1, h2⟩ := h
  simp only [norefL, Bool.and_eq_true] at hn
  exact ⟨v, vs', rfl, noref_any h1 hn.1, norefL_any h2 hn.2⟩
end
mutual
theorem free_any : ∀ {w : W T} {v : V}, Rep C α β w v → W.free w = true → Rep C α' β' w v
 | .undef, _, _, _ => by simp only [Rep]
 | .ptr _ _, _, h, hn | .own _ _, _, h, hn | .view _ _ _ _, _, h, hn | .oelem _ _ _ _, _, h, hn | .map _, _, h, hn | .yld _, _, h, hn => by simp [W.free] at hn
 | .bool _, _, h, _ | .int _ _, _, h, _ | .str _, _, h, _ | .nilp, _, h, _ | .nilsl, _, h, _ | .nilm, _, h, _ | .nilf, _, h, _ | .nili, _, h, _ | .row _ _ _, _, h, _ | .relem _ _ _, _, h, _ => by simpa only [Rep] using h
 | .fn _ ws, _, h, hn => by
  simp only [Rep] at h ⊢
  obtain ⟨vs, rfl, h⟩ := h
  exact ⟨vs, rfl, freeL_any h (by simpa only [W.free] using hn)⟩
 | .ifc _ w, _, h, hn => by
  simp only [Rep] at h ⊢
  obtain ⟨u, rfl, h⟩ := h
  exact ⟨u, rfl, free_any h (by simpa only [W.free] using hn)⟩
 | .agg ws, _, h, hn => by
  simp only [Rep] at h ⊢
  obtain ⟨vs, rfl, h⟩ := h
  exact ⟨vs, rfl, freeL_any h (by simpa only [W.free] using hn)⟩
 | .tup ws, _, h, hn => by
  simp only [Rep] at h ⊢
  obtain ⟨vs, rfl, h⟩ := h
  exact ⟨vs, rfl, freeL_any h (by simpa only [W.free] using hn)⟩
theorem freeL_any : ∀ {ws : List (W T)} {vs : List V}, RepL C α β ws vs → freeL ws = true → RepL C α' β' ws vs
 | [], _, h, _ => by simpa only [RepL] using h
 | w :: ws, _, h, hn => by
  simp only [RepL] at h ⊢
  obtain ⟨v, vs', rfl, h1, h2⟩ := h
  simp only [freeL, Bool.and_eq_true] at hn
  exact ⟨v, vs', rfl, free_any h1 hn.1, freeL_any h2 hn.2⟩
end
theorem sub_rep {ws ws' : List (W T)} {vs : List V} (h : RepL C α β ws vs) {off n : Nat} (hs : subX ws off n = some ws') : ∃ vs', sub vs off n = some vs' ∧ RepL C α β ws' vs' := by
 unfold subX at hs
 split at hs
 ·rename_i hl
  injection hs with hs
  subst hs
  exact ⟨_, by unfold sub; rw [if_pos (by rw [← h.length]; exact hl)], (h.drop off).take n⟩
 ·cases hs
theorem splice_rep {ws cs : List (W T)} {vs ds : List V} (h : RepL C α β ws vs) (h' : RepL C α β cs ds) (off : Nat) : RepL C α β (spliceX ws off cs) (splice vs off ds) := by
 unfold spliceX splice
 have := ((h.take off).append h').append (h.drop (off + cs.length))
 rw [h'.length] at this ⊢
 exact this
def outV (C : Cod T) (k : Nat) (x : T k) : W T := if C.isAgg k then .agg (C.out k x) else (C.out k x).headD .undef
def inV (C : Cod T) (k : Nat) (w : W T) : Option (T k) :=
 match C.isAgg k, w with
 | true, .agg ws => C.inn k ws
 | false, w => if w.cellLike then C.inn k [w] else none
 | _, _ => none
def VR (C : Cod T) (k : Nat) (x : T k) (v : V) : Prop := ∃ cs, C.CR k x cs ∧ v = if C.isAgg k then .agg cs else cs.headD .undef
theorem VR.cells (ok : CodOk C) {k : Nat} {x : T k} {v : V} (h : VR C k x v) : C.CR k x (cellsOf v) := by
 obtain ⟨cs, h1, rfl⟩ := h
 split
 ·exact h1
 ·rename_i hn
  have hl := ok.len _ _ _ h1
  rw [ok.one k (by simpa using hn)] at hl
  match cs, hl with
  | [c], _ =>
   have hc := ok.cell _ _ _ h1
   simp only [List.all_cons, List.all_nil, Bool.and_true] at hc
   have : cellsOf c = [c] := by cases c <;> simp_all [V.cellLike, cellsOf]
   simp only [List.headD_cons, this]
   exact h1
theorem VR.pure (ok : CodOk C) {k : Nat} {x : T k} {v : V} (h : VR C k x v) : V.pure v = true := by
 obtain ⟨cs, h1, rfl⟩ := h
 have hp := ok.pure _ _ _ h1
 split
 ·exact hp
 ·rename_i hn
  have hl := ok.len _ _ _ h1
  rw [ok.one k (by simpa using hn)] at hl
  match cs, hl with
  | [c], _ => simpa [pureL] using hp
theorem outV_rep (ok : CodOk C) {k : Nat} {x : T k} {v : V} (h : VR C k x v) : Rep C α β (outV C k x) v := by
 obtain ⟨cs, h1, rfl⟩ := h
 unfold outV
 have h2 := ok.out _ _ _ h1 α β
 split
 ·simp only [Rep]
  exact ⟨_, rfl, h2⟩
 ·rename_i hn
  have hl := ok.len _ _ _ h1
  rw [ok.one k (by simpa using hn)] at hl
  match cs, hl with
  | [c], _ =>
   have := h2.length
   match hw : C.out k x, this with
   | [w], _ =>
    rw [hw] at h2
    exact (RepL.cons_iff.1 h2).1
theorem inV_rep (ok : CodOk C) {k : Nat} {w : W T} {x : T k} {v : V} (h : inV C k w = some x) (hr : Rep C α β w v) : VR C k x v := by
 unfold inV at h
 split at h
 ·rename_i ws ha
  simp only [Rep] at hr
  obtain ⟨vs, rfl, hr⟩ := hr
  exact ⟨vs, ok.inn _ _ _ h _ _ _ hr, by rw [ha]; rfl⟩
 ·rename_i ha
  split at h
  ·exact ⟨[v], ok.inn _ _ _ h α β _ (RepL.cons hr RepL.nil), by rw [ha]; rfl⟩
  ·cases h
 ·cases h
theorem inn_rep (ok : CodOk C) {k : Nat} {ws : List (W T)} {x : T k} {vs : List V} (h : C.inn k ws = some x) (hr : RepL C α β ws vs) : C.CR k x vs := ok.inn _ _ _ h _ _ _ hr
structure Base where
 m : Mem
 α : List Nat
 β : Bt
def MapR (C : Cod T) (kk kv : Nat) : List (T kk × T kv) → List (V × V) → Prop
 | [], es => es = []
 | (x, y) :: l, es => ∃ u v es', es = (u, v) :: es' ∧ VR C kk x u ∧ VR C kv y v ∧ MapR C kk kv l es'
def En.live : En T → Bool
 | .dead => false
 | _ => true
def EnOk (C : Cod T) (α : List Nat) (β : Bt) (m : Mem) (h : Nat) : En T → Prop
 | .dead => True
 | .rows k l => (β[h]? = some none ∧ l = []) ∨ ∃ b ver cs, β[h]? = some (some (b, ver, l.length)) ∧ m.B[b]? = some (.cells (C.size k) ver true false cs) ∧ CRL C k l cs
 | .map kk kv es => ∃ b ver n es', β[h]? = some (some (b, ver, n)) ∧ m.B[b]? = some (.map es') ∧ MapR C kk kv es es'
 | .loop s pend tm ps as bo pt => ∃ b ver n tm', β[h]? = some (some (b, ver, n)) ∧ m.B[b]? = some (.loop s pend tm' ps as bo) ∧ RepL C α β tm tm'
structure WSim (bs : Base) (C : Cod T) (α : List Nat) (β : Bt) (wm : WM T) (m : Mem) : Prop where
 lenA : α.length = wm.A.length
 lenH : β.length = wm.H.length
 A : ∀ (i j : Nat) ws, α[i]? = some j → wm.A[i]? = some ws → ∃ vs, m.A[j]? = some vs ∧ RepL C α β ws vs
 injA : ∀ (i i' j : Nat), α[i]? = some j → α[i']? = some j → i = i'
 la : ∀ (i j : Nat), α[i]? = some j → wm.la ≤ i → m.la ≤ j
 H : ∀ (h : Nat) e, wm.H[h]? = some e → EnOk C α β m h e
 injH : ∀ (h h' : Nat) e e' b ver n ver' n', wm.H[h]? = some e → wm.H[h']? = some e' → e.live = true → e'.live = true → β[h]? = some (some (b, ver, n)) → β[h']? = some (some (b, ver', n')) → h = h'
 lb : ∀ (h : Nat) e b ver n, wm.H[h]? = some e → e.live = true → β[h]? = some (some (b, ver, n)) → wm.lh ≤ h → m.lb ≤ b
 ltB : ∀ (h : Nat) b ver n, β[h]? = some (some (b, ver, n)) → b < m.B.length
 pa : bs.α <+: α
 pb : bs.β <+: β
 na : ∀ (i j : Nat), α[i]? = some j → bs.α.length ≤ i → bs.m.A.length ≤ j
 nb : ∀ (h : Nat) b ver n, β[h]? = some (some (b, ver, n)) → (∃ (h' : Nat) (ver' n' : Nat), bs.β[h']? = some (some (b, ver', n'))) ∨ bs.m.B.length ≤ b
 fa : ∀ (j : Nat), j < bs.m.A.length → (∀ (i : Nat), bs.α[i]? ≠ some j) → m.A[j]? = bs.m.A[j]?
 fb : ∀ (b : Nat), b < bs.m.B.length → (∀ (h : Nat) ver n, bs.β[h]? ≠ some (some (b, ver, n))) → m.B[b]? = bs.m.B[b]?
 lenA0 : bs.m.A.length ≤ m.A.length
 lenB0 : bs.m.B.length ≤ m.B.length
 la0 : m.la = bs.m.la
 lb0 : m.lb = bs.m.lb
 bla : bs.m.la ≤ bs.m.A.length
 blb : bs.m.lb ≤ bs.m.B.length
 hpa : bs.α.length = wm.pa
 bα : ∀ (i j : Nat), bs.α[i]? = some j → j < bs.m.A.length
 hph : bs.β.length = wm.ph
variable {bs : Base} {wm wm' : WM T} {m m' : Mem}
theorem WSim.ltA (S : WSim bs C α β wm m) {i j : Nat} (h : α[i]? = some j) : j < m.A.length := by
 have hi : i < wm.A.length := by rw [← S.lenA]; exact (List.getElem?_eq_some_iff.1 h).1
 obtain ⟨vs, h1, _⟩ := S.A i j _ h (List.getElem?_eq_getElem hi)
 exact (List.getElem?_eq_some_iff.1 h1).1
theorem WSim.rows (S : WSim bs C α β wm m) {h k : Nat} {l : List (T k)} (he : wm.H[h]? = some (.rows k l)) : (β[h]? = some none ∧ l = []) ∨ ∃ b ver cs, β[h]? = some (some (b, ver, l.length)) ∧ m.B[b]? = some (.cells (C.size k) ver true false cs) ∧ CRL C k l cs := by
 simpa only [EnOk] using S.H _ _ he
theorem EnOk.ext (ha : α <+: α') (hb : β <+: β') {h : Nat} {e : En T} (k : EnOk C α β m h e) : EnOk C α' β' m h e := by
 cases e with
 | dead => trivial
 | rows kk l =>
  simp only [EnOk] at k ⊢
  rcases k with ⟨k1, k2⟩ | ⟨b, ver, cs, k1, k2, k3⟩
  ·exact .inl ⟨get_pre hb k1, k2⟩
  ·exact .inr ⟨b, ver, cs, get_pre hb k1, k2, k3⟩
 | map kk kv es =>
  simp only [EnOk] at k ⊢
  obtain ⟨b, ver, n, es', k1, k2, k3⟩ := k
  exact ⟨b, ver, n, es', get_pre hb k1, k2, k3⟩
 | loop s pend tm ps as bo pt =>
  simp only [EnOk] at k ⊢
  obtain ⟨b, ver, n, tm', k1, k2, k3⟩ := k
  exact ⟨b, ver, n, tm', get_pre hb k1, k2, k3.ext ha hb⟩
end Go.Proofs.YtpdgbhjhodhkiaaGreatDoor.AI
namespace Go.Proofs.YtpdgbhjhodhkiaaGreatDoor.AI
open Go
variable {T : Nat → Type} {C : Cod T} {α α' : List Nat} {β β' : Bt} {bs : Base} {wm wm' : WM T} {m m' : Mem}
theorem EnOk.mem {h : Nat} {e : En T} (hm : e.live = true → ∀ b ver n, β[h]? = some (some (b, ver, n)) → m'.B[b]? = m.B[b]?) (k : EnOk C α β m h e) : EnOk C α β m' h e := by
 cases e with
 | dead => trivial
 | rows kk l =>
  simp only [EnOk] at k ⊢
  rcases k with k | ⟨b, ver, cs, k1, k2, k3⟩
  ·exact .inl k
  ·exact .inr ⟨b, ver, cs, k1, by rw [hm rfl _ _ _ k1]; exact k2, k3⟩
 | map kk kv es =>
  simp only [EnOk] at k ⊢
  obtain ⟨b, ver, n, es', k1, k2, k3⟩ := k
  exact ⟨b, ver, n, es', k1, by rw [hm rfl _ _ _ k1]; exact k2, k3⟩
 | loop s pend tm ps as bo pt =>
  simp only [EnOk] at k ⊢
  obtain ⟨b, ver, n, tm', k1, k2, k3⟩ := k
  exact ⟨b, ver, n, tm', k1, by rw [hm rfl _ _ _ k1]; exact k2, k3⟩
theorem get_push {X : Type} {l : List X} {x y : X} {i : Nat} (h : (l ++ [x])[i]? = some y) : (l[i]? = some y) ∨ (i = l.length ∧ y = x) := by
 by_cases hi : i < l.length
 ·rw [List.getElem?_append_left hi] at h; exact .inl h
 ·rw [List.getElem?_append_right (by omega)] at h
  by_cases h0 : i - l.length = 0
  ·rw [h0] at h; simp at h; exact .inr ⟨by omega, h.symm⟩
  ·rw [List.getElem?_eq_none (by simp; omega)] at h; cases h
theorem get_push_lt {X : Type} {l : List X} {x y : X} {i : Nat} (h : l[i]? = some y) : (l ++ [x])[i]? = some y := by
 rw [List.getElem?_append_left (List.getElem?_eq_some_iff.1 h).1]; exact h
theorem get_set_cases {X : Type} {l : List X} {x y : X} {i k : Nat} (h : (l.set k x)[i]? = some y) : (i = k ∧ y = x ∧ k < l.length) ∨ (i ≠ k ∧ l[i]? = some y) := by
 rw [List.getElem?_set] at h
 split at h
 ·rename_i e
  split at h
  ·simp at h; exact .inl ⟨e.symm, h.symm, by assumption⟩
  ·cases h
 ·rename_i e
  exact .inr ⟨fun h => e h.symm, h⟩
theorem pre_app {X : Type} (l r : List X) : l <+: l ++ r := ⟨r, rfl⟩
theorem WSim.setA (S : WSim bs C α β wm m) {i j : Nat} (hj : α[i]? = some j) {ws : List (W T)} {vs : List V} (hr : RepL C α β ws vs) (hi' : Nat) :
  WSim bs C α β { wm with A := wm.A.set i ws } { m with A := m.A.set j vs, hi := hi' } := by
 have hjl := S.ltA hj
 constructor
 ·simpa using S.lenA
 ·exact S.lenH
 ·intro i' j' ws' h1 h2
  rcases get_set_cases h2 with ⟨rfl, rfl, _⟩ | ⟨hne, h2⟩
  ·rw [hj] at h1; injection h1 with h1; subst h1
   exact ⟨vs, by simp [hjl], hr⟩
  ·obtain ⟨vs', h3, h4⟩ := S.A i' j' ws' h1 h2
   have : j' ≠ j := fun e => hne (S.injA _ _ _ (e ▸ h1) hj)
   exact ⟨vs', by simp only; rw [List.getElem?_set, if_neg (Ne.symm this)]; exact h3, h4⟩
 ·exact S.injA
 ·exact S.la
 ·intro h e he
  exact EnOk.mem (m := m) (fun _ _ _ _ _ => rfl) (S.H h e he)
 ·exact S.injH
 ·exact S.lb
 ·exact S.ltB
 ·exact S.pa
 ·exact S.pb
 ·exact S.na
 ·exact S.nb
 ·intro j' hj' hn
  simp only
  rw [List.getElem?_set, if_neg, S.fa j' hj' hn]
  rintro rfl
  by_cases hb : i < bs.α.length
  ·have : bs.α[i]? = some j := by
    obtain ⟨r, hr⟩ := S.pa
    rw [← hr, List.getElem?_append_left hb] at hj
    exact hj
   exact hn i this
  ·have := S.na i j hj (by omega)
   omega
 ·exact S.fb
 ·simpa using S.lenA0
 ·exact S.lenB0
 ·exact S.la0
 ·exact S.lb0
 ·exact S.bla
 ·exact S.blb
 ·exact S.hpa
 ·exact S.bα
 ·exact S.hph
theorem WSim.pushA (S : WSim bs C α β wm m) {ws : List (W T)} {vs : List V} (hr : RepL C α β ws vs) (hi' : Nat) :
  WSim bs C (α ++ [m.A.length]) β { wm with A := wm.A ++ [ws] } { m with A := m.A ++ [vs], hi := hi' } := by
 have pr : α <+: α ++ [m.A.length] := pre_app _ _
 constructor
 ·simp [S.lenA]
 ·exact S.lenH
 ·intro i j ws' h1 h2
  rcases get_push h1 with h1 | ⟨rfl, rfl⟩
  ·have h2' : wm.A[i]? = some ws' := by
    rcases get_push h2 with h2 | ⟨rfl, _⟩
    ·exact h2
    ·rw [List.getElem?_eq_none (by rw [S.lenA]; omega)] at h1; cases h1
   obtain ⟨vs', h3, h4⟩ := S.A i j ws' h1 h2'
   exact ⟨vs', get_push_lt h3, h4.ext pr (List.prefix_refl _)⟩
  ·have : ws' = ws := by rw [S.lenA] at h2; simp at h2; exact h2.symm
   subst this
   exact ⟨vs, by simp, hr.ext pr (List.prefix_refl _)⟩
 ·intro i i' j h1 h2
  rcases get_push h1 with h1' | ⟨rfl, rfl⟩ <;> rcases get_push h2 with h2' | ⟨rfl, e⟩
  ·exact S.injA _ _ _ h1' h2'
  ·subst e; have := S.ltA h1'; omega
  ·have := S.ltA h2'; omega
  ·rfl
 ·intro i j h1 h2
  rcases get_push h1 with h1 | ⟨rfl, rfl⟩
  ·exact S.la i j h1 h2
  ·have := S.la0; have := S.lenA0; have := S.bla; show m.la ≤ m.A.length; omega
 ·intro h e he
  exact (EnOk.mem (m := m) (fun _ _ _ _ _ => rfl) (S.H h e he)).ext pr (List.prefix_refl _)
 ·exact S.injH
 ·exact S.lb
 ·exact S.ltB
 ·exact S.pa.trans pr
 ·exact S.pb
 ·intro i j h1 h2
  rcases get_push h1 with h1 | ⟨rfl, rfl⟩
  ·exact S.na i j h1 h2
  ·exact S.lenA0
 ·exact S.nb
 ·intro j hj hn
  have := S.lenA0
  simp only
  rw [List.getElem?_append_left (by omega)]
  exact S.fa j hj hn
 ·exact S.fb
 ·have := S.lenA0; simp; omega
 ·exact S.lenB0
 ·exact S.la0
 ·exact S.lb0
 ·exact S.bla
 ·exact S.blb
 ·exact S.hpa
 ·exact S.bα
 ·exact S.hph
theorem WSim.pushB (S : WSim bs C α β wm m) {e : En T} {bb : BB} {ver n hi' : Nat}
  (hok : EnOk C α (β ++ [some (m.B.length, ver, n)]) { m with B := m.B ++ [bb], hi := hi' } β.length e) :
  WSim bs C α (β ++ [some (m.B.length, ver, n)]) { wm with H := wm.H ++ [e] } { m with B := m.B ++ [bb], hi := hi' } := by
 have pr : β <+: β ++ [some (m.B.length, ver, n)] := pre_app _ _
 have old : ∀ {h e'}, wm.H[h]? = some e' → h < β.length := fun he => by rw [S.lenH]; exact (List.getElem?_eq_some_iff.1 he).1
 constructor
 ·exact S.lenA
 ·simp [S.lenH]
 ·intro i j ws h1 h2
  obtain ⟨vs, h3, h4⟩ := S.A i j ws h1 h2
  exact ⟨vs, h3, h4.ext (List.prefix_refl _) pr⟩
 ·exact S.injA
 ·exact S.la
 ·intro h e' he
  rcases get_push he with he | ⟨rfl, rfl⟩
  ·refine EnOk.ext (List.prefix_refl _) pr (EnOk.mem (m := m) ?_ (S.H h e' he))
   intro _ b ver' n' hb
   have := S.ltB _ _ _ _ hb
   simp only
   rw [List.getElem?_append_left this]
  ·rw [← S.lenH]; exact hok
 ·intro h h' e1 e2 b v1 n1 v2 n2 g1 g2 l1 l2 b1 b2
  rcases get_push g1 with p1 | ⟨rfl, rfl⟩ <;> rcases get_push g2 with p2 | ⟨rfl, rfl⟩
  ·rw [List.getElem?_append_left (old p1)] at b1
   rw [List.getElem?_append_left (old p2)] at b2
   exact S.injH _ _ _ _ _ _ _ _ _ p1 p2 l1 l2 b1 b2
  ·rw [List.getElem?_append_left (old p1)] at b1
   rw [← S.lenH] at b2
   simp at b2
   have := S.ltB _ _ _ _ b1
   omega
  ·rw [List.getElem?_append_left (old p2)] at b2
   rw [← S.lenH] at b1
   simp at b1
   have := S.ltB _ _ _ _ b2
   omega
  ·rfl
 ·intro h e' b ver' n' he hl hb hlh
  rcases get_push he with he | ⟨rfl, rfl⟩
  ·rw [List.getElem?_append_left (old he)] at hb
   exact S.lb _ _ _ _ _ he hl hb hlh
  ·rw [← S.lenH] at hb
   simp at hb
   have := S.lb0; have := S.lenB0; have := S.blb
   simp only; omega
 ·intro h b ver' n' hb
  simp only [List.length_append, List.length_singleton]
  rcases get_push hb with hb1 | ⟨rfl, hb1⟩
  ·have := S.ltB _ _ _ _ hb1; omega
  ·injection hb1 with hb1; injection hb1 with hb1; omega
 ·exact S.pa
 ·exact S.pb.trans pr
 ·exact S.na
 ·intro h b ver' n' hb
  rcases get_push hb with hb1 | ⟨rfl, hb1⟩
  ·exact S.nb _ _ _ _ hb1
  ·injection hb1 with hb1; injection hb1 with hb1; subst hb1
   exact .inr S.lenB0
 ·exact S.fa
 ·intro b hb hn
  have := S.lenB0
  simp only
  rw [List.getElem?_append_left (by omega)]
  exact S.fb b hb hn
 ·exact S.lenA0
 ·have := S.lenB0; simp; omega
 ·exact S.la0
 ·exact S.lb0
 ·exact S.bla
 ·exact S.blb
 ·exact S.hpa
 ·exact S.bα
 ·exact S.hph
theorem WSim.pushN (S : WSim bs C α β wm m) {e : En T} (hok : EnOk C α (β ++ [none]) m β.length e) : WSim bs C α (β ++ [none]) { wm with H := wm.H ++ [e] } m := by
 have pr : β <+: β ++ [none] := pre_app _ _
 have old : ∀ {h e'}, wm.H[h]? = some e' → h < β.length := fun he => by rw [S.lenH]; exact (List.getElem?_eq_some_iff.1 he).1
 have back : ∀ {h : Nat} {x : Nat × Nat × Nat}, (β ++ [none])[h]? = some (some x) → β[h]? = some (some x) := by
  intro h x hx
  rcases get_push hx with hx | ⟨_, hx⟩
  ·exact hx
  ·cases hx
 constructor
 ·exact S.lenA
 ·simp [S.lenH]
 ·intro i j ws h1 h2
  obtain ⟨vs, h3, h4⟩ := S.A i j ws h1 h2
  exact ⟨vs, h3, h4.ext (List.prefix_refl _) pr⟩
 ·exact S.injA
 ·exact S.la
 ·intro h e' he
  rcases get_push he with he | ⟨rfl, rfl⟩
  ·exact (S.H h e' he).ext (List.prefix_refl _) pr
  ·rw [← S.lenH]; exact hok
 ·intro h h' e1 e2 b v1 n1 v2 n2 g1 g2 l1 l2 b1 b2
  have b1 := back b1
  have b2 := back b2
  have : h < β.length := (List.getElem?_eq_some_iff.1 b1).1
  have : h' < β.length := (List.getElem?_eq_some_iff.1 b2).1
  rcases get_push g1 with g1 | ⟨rfl, rfl⟩
  ·rcases get_push g2 with g2 | ⟨rfl, rfl⟩
   ·exact S.injH _ _ _ _ _ _ _ _ _ g1 g2 l1 l2 b1 b2
   ·rw [S.lenH] at *; omega
  ·rw [S.lenH] at *; omega
 ·intro h e' b ver' n' he hl hb hlh
  have hb := back hb
  have : h < β.length := (List.getElem?_eq_some_iff.1 hb).1
  rcases get_push he with he | ⟨rfl, rfl⟩
  ·exact S.lb _ _ _ _ _ he hl hb hlh
  ·rw [S.lenH] at *; omega
 ·intro h b ver' n' hb; exact S.ltB _ _ _ _ (back hb)
 ·exact S.pa
 ·exact S.pb.trans pr
 ·exact S.na
 ·intro h b ver' n' hb; exact S.nb _ _ _ _ (back hb)
 ·exact S.fa
 ·exact S.fb
 ·exact S.lenA0
 ·exact S.lenB0
 ·exact S.la0
 ·exact S.lb0
 ·exact S.bla
 ·exact S.blb
 ·exact S.hpa
 ·exact S.bα
 ·exact S.hph
theorem WSim.setB (S : WSim bs C α β wm m) {h b ver n hi' : Nat} {e e' : En T} {bb : BB} (he : wm.H[h]? = some e) (hl : e.live = true) (hb : β[h]? = some (some (b, ver, n)))
  (hok : EnOk C α β { m with B := m.B.set b bb, hi := hi' } h e') :
  WSim bs C α β { wm with H := wm.H.set h e' } { m with B := m.B.set b bb, hi := hi' } := by
 constructor
 ·exact S.lenA
 ·simpa using S.lenH
 ·exact S.A
 ·exact S.injA
 ·exact S.la
 ·intro h2 e2 h2e
  rcases get_set_cases h2e with ⟨rfl, rfl, _⟩ | ⟨hne, h2e⟩
  ·exact hok
  ·refine EnOk.mem (m := m) ?_ (S.H h2 e2 h2e)
   intro hl2 b2 ver2 n2 hb2
   have : b2 ≠ b := fun eb => hne (S.injH _ _ _ _ _ _ _ _ _ h2e he hl2 hl (eb ▸ hb2) hb)
   simp only
   rw [List.getElem?_set, if_neg (Ne.symm this)]
 ·intro h1 h2 e1 e2 b' v1 n1 v2 n2 g1 g2 l1 l2 b1 b2
  rcases get_set_cases g1 with ⟨q1, q1', _⟩ | ⟨hne1, p1⟩ <;> rcases get_set_cases g2 with ⟨q2, q2', _⟩ | ⟨hne2, p2⟩
  ·rw [q1, q2]
  ·subst q1; exact S.injH _ _ _ _ _ _ _ _ _ he p2 hl l2 b1 b2
  ·subst q2; exact S.injH _ _ _ _ _ _ _ _ _ p1 he l1 hl b1 b2
  ·exact S.injH _ _ _ _ _ _ _ _ _ p1 p2 l1 l2 b1 b2
 ·intro h1 e1 b1 v1 n1 g1 l1 hb1 hlh
  rcases get_set_cases g1 with ⟨rfl, rfl, _⟩ | ⟨hne1, g1⟩
  ·exact S.lb _ _ _ _ _ he hl hb1 hlh
  ·exact S.lb _ _ _ _ _ g1 l1 hb1 hlh
 ·intro h1 b1 v1 n1 hb1
  simpa using S.ltB _ _ _ _ hb1
 ·exact S.pa
 ·exact S.pb
 ·exact S.na
 ·exact S.nb
 ·exact S.fa
 ·intro b1 hb1 hn
  simp only
  rw [List.getElem?_set, if_neg, S.fb b1 hb1 hn]
  rintro rfl
  rcases S.nb _ _ _ _ hb with ⟨h', ver', n', hb'⟩ | hge
  ·exact hn _ _ _ hb'
  ·omega
 ·exact S.lenA0
 ·simpa using S.lenB0
 ·exact S.la0
 ·exact S.lb0
 ·exact S.bla
 ·exact S.blb
 ·exact S.hpa
 ·exact S.bα
 ·exact S.hph
theorem WSim.regrow (S : WSim bs C α β wm m) {h b ver n ver' n' hi' : Nat} {e e' : En T} {bb : BB} (he : wm.H[h]? = some e) (hl : e.live = true) (hb : β[h]? = some (some (b, ver, n))) (hlh : wm.lh ≤ h)
  (hok : EnOk C α (β ++ [some (b, ver', n')]) { m with B := m.B.set b bb, hi := hi' } β.length e') :
  WSim bs C α (β ++ [some (b, ver', n')]) { wm with H := wm.H.set h .dead ++ [e'] } { m with B := m.B.set b bb, hi := hi' } := by
 have pr : β <+: β ++ [some (b, ver', n')] := pre_app _ _
 have hbl := S.ltB _ _ _ _ hb
 have cas : ∀ {h1 e1}, (wm.H.set h .dead ++ [e'])[h1]? = some e1 → e1.live = true → (h1 ≠ h ∧ wm.H[h1]? = some e1 ∧ h1 < β.length) ∨ (h1 = β.length ∧ e1 = e') := by
  intro h1 e1 g1 l1
  rcases get_push g1 with g1 | ⟨rfl, rfl⟩
  ·rcases get_set_cases g1 with ⟨rfl, rfl, _⟩ | ⟨hne1, g1⟩
   ·cases l1
   ·exact .inl ⟨hne1, g1, by rw [S.lenH]; exact (List.getElem?_eq_some_iff.1 g1).1⟩
  ·exact .inr ⟨by simp [S.lenH], rfl⟩
 constructor
 ·exact S.lenA
 ·simp [S.lenH]
 ·intro i j ws h1 h2
  obtain ⟨vs, h3, h4⟩ := S.A i j ws h1 h2
  exact ⟨vs, h3, h4.ext (List.prefix_refl _) pr⟩
 ·exact S.injA
 ·exact S.la
 ·intro h1 e1 g1
  cases hl1 : e1.live with
  | false => cases e1 <;> first | trivial | cases hl1
  | true =>
   rcases cas g1 hl1 with ⟨hne1, g1, _⟩ | ⟨rfl, rfl⟩
   ·refine EnOk.ext (List.prefix_refl _) pr (EnOk.mem (m := m) ?_ (S.H h1 e1 g1))
    intro _ b2 ver2 n2 hb2
    have : b2 ≠ b := fun eb => hne1 (S.injH _ _ _ _ _ _ _ _ _ g1 he hl1 hl (eb ▸ hb2) hb)
    simp only
    rw [List.getElem?_set, if_neg (Ne.symm this)]
   ·exact hok
 ·intro h1 h2 e1 e2 b' v1 n1 v2 n2 g1 g2 l1 l2 b1 b2
  rcases cas g1 l1 with ⟨hne1, p1, hlt1⟩ | ⟨q1, q1'⟩ <;> rcases cas g2 l2 with ⟨hne2, p2, hlt2⟩ | ⟨q2, q2'⟩
  ·rw [List.getElem?_append_left hlt1] at b1
   rw [List.getElem?_append_left hlt2] at b2
   exact S.injH _ _ _ _ _ _ _ _ _ p1 p2 l1 l2 b1 b2
  ·rw [List.getElem?_append_left hlt1] at b1
   subst q2
   simp at b2
   obtain ⟨rfl, -, -⟩ := b2
   exact absurd (S.injH _ _ _ _ _ _ _ _ _ p1 he l1 hl b1 hb) hne1
  ·rw [List.getElem?_append_left hlt2] at b2
   subst q1
   simp at b1
   obtain ⟨rfl, -, -⟩ := b1
   exact absurd (S.injH _ _ _ _ _ _ _ _ _ p2 he l2 hl b2 hb) hne2
  ·rw [q1, q2]
 ·intro h1 e1 b1 v1 n1 g1 l1 hb1 hlh1
  rcases cas g1 l1 with ⟨hne1, g1, hlt1⟩ | ⟨rfl, rfl⟩
  ·rw [List.getElem?_append_left hlt1] at hb1
   exact S.lb _ _ _ _ _ g1 l1 hb1 hlh1
  ·simp at hb1
   obtain ⟨rfl, -, -⟩ := hb1
   exact S.lb _ _ _ _ _ he hl hb hlh
 ·intro h1 b1 v1 n1 hb1
  simp only [List.length_set]
  rcases get_push hb1 with hb2 | ⟨rfl, hb2⟩
  ·exact S.ltB _ _ _ _ hb2
  ·injection hb2 with hb2; injection hb2 with hb2; subst hb2; exact hbl
 ·exact S.pa
 ·exact S.pb.trans pr
 ·exact S.na
 ·intro h1 b1 v1 n1 hb1
  rcases get_push hb1 with hb2 | ⟨rfl, hb2⟩
  ·exact S.nb _ _ _ _ hb2
  ·injection hb2 with hb2; injection hb2 with hb2; subst hb2; exact S.nb _ _ _ _ hb
 ·exact S.fa
 ·intro b1 hb1 hn
  simp only
  rw [List.getElem?_set, if_neg, S.fb b1 hb1 hn]
  rintro rfl
  rcases S.nb _ _ _ _ hb with ⟨h', ver', n', hb'⟩ | hge
  ·exact hn _ _ _ hb'
  ·omega
 ·exact S.lenA0
 ·simpa using S.lenB0
 ·exact S.la0
 ·exact S.lb0
 ·exact S.bla
 ·exact S.blb
 ·exact S.hpa
 ·exact S.bα
 ·exact S.hph
theorem WSim.kill (S : WSim bs C α β wm m) (h : Nat) : WSim bs C α β { wm with H := wm.H.set h .dead } m := by
 have cas : ∀ {h1 : Nat} {e1 : En T}, (wm.H.set h .dead)[h1]? = some e1 → e1.live = true → wm.H[h1]? = some e1 := by
  intro h1 e1 g1 l1
  rcases get_set_cases g1 with ⟨rfl, rfl, _⟩ | ⟨hne1, g1⟩
  ·cases l1
  ·exact g1
 exact { S with
  lenH := by simpa using S.lenH
  A := S.A
  H := fun h1 e1 g1 => by
   cases hl1 : e1.live with
   | false => cases e1 <;> first | trivial | cases hl1
   | true => exact S.H _ _ (cas g1 hl1)
  injH := fun h1 h2 e1 e2 b' v1 n1 v2 n2 g1 g2 l1 l2 b1 b2 => S.injH _ _ _ _ _ _ _ _ _ (cas g1 l1) (cas g2 l2) l1 l2 b1 b2
  lb := fun h1 e1 b1 v1 n1 g1 l1 hb1 hlh1 => S.lb _ _ _ _ _ (cas g1 l1) l1 hb1 hlh1
  la := S.la
  hpa := S.hpa
  hph := S.hph }
theorem WSim.regrowN (S : WSim bs C α β wm m) {h ver n hi' : Nat} {e : En T} {bb : BB}
  (hok : EnOk C α (β ++ [some (m.B.length, ver, n)]) { m with B := m.B ++ [bb], hi := hi' } β.length e) :
  WSim bs C α (β ++ [some (m.B.length, ver, n)]) { wm with H := wm.H.set h .dead ++ [e] } { m with B := m.B ++ [bb], hi := hi' } := (S.kill h).pushB hok
theorem set_self {X : Type} {l : List X} {i : Nat} {x : X} (h : l[i]? = some x) : l.set i x = l := by
 apply List.ext_getElem?
 intro j
 rw [List.getElem?_set]
 split
 ·rename_i e
  subst e
  split
  ·exact h.symm
  ·rename_i hl
   rw [List.getElem?_eq_none (by omega)] at h
   cases h
 ·rfl
theorem WSim.renew (S : WSim bs C α β wm m) {h b ver n : Nat} {e e' : En T} {bb : BB} (he : wm.H[h]? = some e) (hl : e.live = true) (hb : β[h]? = some (some (b, ver, n))) (hlh : wm.lh ≤ h) (hB : m.B[b]? = some bb)
  (hok : EnOk C α (β ++ [some (b, ver, n)]) m β.length e') :
  WSim bs C α (β ++ [some (b, ver, n)]) { wm with H := wm.H.set h .dead ++ [e'] } m := by
 have := S.regrow (hi' := m.hi) (bb := bb) (e' := e') (ver' := ver) (n' := n) he hl hb hlh (by rw [set_self hB]; exact hok)
 rw [set_self hB] at this
 exact this
end Go.Proofs.YtpdgbhjhodhkiaaGreatDoor.AI
namespace Go.Proofs.YtpdgbhjhodhkiaaGreatDoor.AI
open Go
variable {T : Nat → Type} {C : Cod T} {R : Type} {P : Program}
structure WCfg (T : Nat → Type) where
 C : Cod T
 kd : TypeId → Option Nat
def cellsK (C : Cod T) (wm : WM T) (p : W T) (n : Nat) (k : List (W T) → Option R) : Option R :=
 match p with
 | .ptr i off => opK ((wm.A[i]?).bind fun ws => subX ws off n) k
 | .relem kk x off => if off + n ≤ C.size kk then opK (subX (C.out kk x) off n) k else none
 | .oelem kk h i off =>
  match wm.H[h]? with
  | some (.rows k' l) => if k' = kk ∧ off + n ≤ C.size k' then opK l[i]? fun x => opK (subX (C.out k' x) off n) k else none
  | _ => none
 | _ => none
theorem sub_in {cs : List V} {o off n sz : Nat} (h : off + n ≤ sz) (hz : 0 < sz) {vs : List V} (hs : sub ((cs.drop o).take sz) off n = some vs) (hl : ((cs.drop o).take sz).length = sz) : sub cs (o + off) n = some vs := by
 unfold sub at hs ⊢
 rw [if_pos (by omega)] at hs
 simp only [List.length_take, List.length_drop] at hl
 rw [if_pos (by omega)]
 injection hs with hs
 rw [← hs, ← List.drop_drop, List.drop_take, List.take_take, Nat.min_eq_left (by omega)]
theorem cellsK_sound (ok : CodOk C) {wm : WM T} {p : W T} {n : Nat} {k : List (W T) → Option R} {r : R} (h : cellsK C wm p n k = some r) :
  ∃ ws, k ws = some r ∧ ∀ {bs α β m v}, WSim bs C α β wm m → Rep C α β p v → ∃ vs, rdCells m v n = some vs ∧ RepL C α β ws vs := by
 unfold cellsK at h
 split at h
 ·rename_i i off
  obtain ⟨ws, h1, h2⟩ := opK_some h
  obtain ⟨cs, h3, h4⟩ := Option.bind_eq_some_iff.1 h1
  refine ⟨ws, h2, fun S hr => ?_⟩
  simp only [Rep] at hr
  obtain ⟨j, hj, rfl⟩ := hr
  obtain ⟨vs, h5, h6⟩ := S.A _ _ _ hj h3
  obtain ⟨vs', h7, h8⟩ := sub_rep h6 h4
  exact ⟨vs', by simp only [rdCells, h5, Option.bind_some, h7], h8⟩
 ·rename_i kk x off
  split at h
  ·rename_i hle
   obtain ⟨ws, h1, h2⟩ := opK_some h
   refine ⟨ws, h2, fun S hr => ?_⟩
   simp only [Rep] at hr
   obtain ⟨cs, o, rfl, hc⟩ := hr
   obtain ⟨vs', h7, h8⟩ := sub_rep (ok.out _ _ _ hc _ _) h1
   exact ⟨vs', by simp only [rdCells]; exact sub_in hle (ok.pos _) h7 (ok.len _ _ _ hc), h8⟩
  ·cases h
 ·rename_i kk hh i off
  split at h
  ·rename_i k' l he
   split at h
   ·rename_i hle
    obtain ⟨x, h0, h⟩ := opK_some h
    obtain ⟨ws, h1, h2⟩ := opK_some h
    refine ⟨ws, h2, fun S hr => ?_⟩
    simp only [Rep] at hr
    obtain ⟨b, ver, nn, hb, rfl⟩ := hr
    rcases S.rows he with ⟨hb', _⟩ | ⟨b', ver', cs, hb', hB, hcr⟩
    ·rw [hb] at hb'; cases hb'
    ·rw [hb] at hb'
     injection hb' with hb'; injection hb' with hb'
     simp only [Prod.mk.injEq] at hb'
     obtain ⟨rfl, rfl, rfl⟩ := hb'
     have hc := hcr.get ok h0
     obtain ⟨vs', h7, h8⟩ := sub_rep (ok.out _ _ _ hc _ _) h1
     refine ⟨vs', ?_, h8⟩
     simp only [rdCells, hB, if_true]
     rw [← hle.1]
     exact sub_in hle.2 (ok.pos _) h7 (ok.len _ _ _ hc)
   ·cases h
  ·cases h
 ·cases h
def loadWK (C : Cod T) (P : Program) (wm : WM T) (t : TypeId) (p : W T) (k : W T → Option R) : Option R :=
 match P.info? t, P.underlying t with
 | some i, some d =>
  if isAggD d then cellsK C wm p i.size fun cs => k (.agg cs)
  else cellsK C wm p 1 fun
   | [x] => k x
   | _ => none
 | _, _ => none
theorem loadWK_sound (ok : CodOk C) {wm : WM T} {t : TypeId} {p : W T} {k : W T → Option R} {r : R} (h : loadWK C P wm t p k = some r) :
  ∃ w, k w = some r ∧ ∀ {bs α β m v}, WSim bs C α β wm m → Rep C α β p v → ∃ u, loadV P m t v = some u ∧ Rep C α β w u := by
 unfold loadWK at h
 split at h
 ·rename_i i d hi hd
  split at h
  ·rename_i ha
   obtain ⟨ws, h1, h2⟩ := cellsK_sound ok h
   refine ⟨_, h1, fun S hr => ?_⟩
   obtain ⟨vs, h3, h4⟩ := h2 S hr
   refine ⟨.agg vs, by simp only [loadV, hi, hd, ha, if_true, h3, Option.map_some], ?_⟩
   simp only [Rep]
   exact ⟨_, rfl, h4⟩
  ·rename_i ha
   obtain ⟨ws, h1, h2⟩ := cellsK_sound ok h
   split at h1
   ·rename_i x
    refine ⟨x, h1, fun S hr => ?_⟩
    obtain ⟨vs, h3, h4⟩ := h2 S hr
    simp only [RepL] at h4
    obtain ⟨v, vs', rfl, h5, rfl⟩ := h4
    exact ⟨v, by simp only [loadV, hi, hd]; rw [if_neg ha, h3]; rfl, h5⟩
   ·cases h1
 ·cases h
def paddW (p : W T) (n : Nat) : Option (W T) :=
 match p with
 | .ptr i off => some (.ptr i (off + n))
 | .relem k x off => some (.relem k x (off + n))
 | .oelem k h i off => some (.oelem k h i (off + n))
 | _ => none
theorem paddW_sound {p w : W T} {n : Nat} (h : paddW p n = some w) {α β v} (hr : Rep C α β p v) : ∃ u, padd v n = some u ∧ Rep C α β w u := by
 unfold paddW at h
 split at h <;> first | (injection h with h; subst h) | cases h
 ·simp only [Rep] at hr
  obtain ⟨j, hj, rfl⟩ := hr
  exact ⟨_, rfl, by simp only [Rep]; exact ⟨j, hj, rfl⟩⟩
 ·simp only [Rep] at hr
  obtain ⟨cs, o, rfl, hc⟩ := hr
  exact ⟨_, rfl, by simp only [Rep]; exact ⟨cs, o, by rw [Nat.add_assoc], hc⟩⟩
 ·simp only [Rep] at hr
  obtain ⟨b, ver, nn, hb, rfl⟩ := hr
  exact ⟨_, rfl, by simp only [Rep]; exact ⟨b, ver, nn, hb, by rw [Nat.add_assoc]⟩⟩
def fieldAddrW (P : Program) (s : TypeId) (p : W T) (f : Nat) : Option (W T) :=
 match P.underlying s with
 | some (.struct fields) =>
  match fields[f]? with
  | some fd =>
   match sizeV P fd.type with
   | some n => if n = 0 then none else paddW p fd.offset
   | none => none
  | none => none
 | _ => none
theorem fieldAddrW_sound {s : TypeId} {p w : W T} {f : Nat} (h : fieldAddrW P s p f = some w) {α β v} (hr : Rep C α β p v) : ∃ u, fieldAddrV P s v f = some u ∧ Rep C α β w u := by
 unfold fieldAddrW at h
 split at h
 ·rename_i fields hu
  split at h
  ·rename_i fd hfd
   split at h
   ·rename_i n hn
    split at h
    ·cases h
    ·rename_i h0
     obtain ⟨u, h1, h2⟩ := paddW_sound h hr
     refine ⟨u, ?_, h2⟩
     simp only [fieldAddrV, hu, hfd, hn]
     rw [if_neg h0]
     exact h1
   ·cases h
  ·cases h
 ·cases h
def partW (P : Program) (t : TypeId) (cs : List (W T)) (off : Nat) : Option (W T) :=
 match P.info? t, P.underlying t with
 | some i, some d => if isAggD d then (subX cs off i.size).map .agg else cs[off]?
 | _, _ => none
theorem partW_sound {t : TypeId} {cs : List (W T)} {off : Nat} {w : W T} (h : partW P t cs off = some w) {α β vs} (hr : RepL C α β cs vs) : ∃ u, partV P t vs off = some u ∧ Rep C α β w u := by
 unfold partW at h
 unfold partV
 split at h
 ·rename_i i d hi hd
  simp only [hi, hd]
  split at h
  ·rename_i ha
   rw [if_pos ha]
   obtain ⟨ws, h1, rfl⟩ := Option.map_eq_some_iff.1 h
   obtain ⟨vs', h2, h3⟩ := sub_rep hr h1
   exact ⟨_, by rw [h2]; rfl, by simp only [Rep]; exact ⟨_, rfl, h3⟩⟩
  ·rename_i ha
   rw [if_neg ha]
   exact hr.get h
 ·cases h
def fieldW (P : Program) (t : TypeId) (x : W T) (f : Nat) : Option (W T) :=
 match P.underlying t, x with
 | some (.struct fields), .agg cs =>
  match fields[f]? with
  | some fd => partW P fd.type cs fd.offset
  | none => none
 | _, _ => none
theorem fieldW_sound {t : TypeId} {x w : W T} {f : Nat} (h : fieldW P t x f = some w) {α β v} (hr : Rep C α β x v) : ∃ u, fieldV P t v f = some u ∧ Rep C α β w u := by
 unfold fieldW at h
 split at h
 ·rename_i fields cs hu
  simp only [Rep] at hr
  obtain ⟨vs, rfl, hr⟩ := hr
  unfold fieldV
  simp only [hu]
  split at h
  ·rename_i fd hfd
   simp only [hfd]
   exact partW_sound h hr
  ·cases h
 ·cases h
def packN (C : Cod T) (k : Nat) : Nat → List (W T) → Option (List (T k))
 | 0, [] => some []
 | 0, _ :: _ => none
 | n + 1, cs =>
  match C.inn k (cs.take (C.size k)), packN C k n (cs.drop (C.size k)) with
  | some x, some l => some (x :: l)
  | _, _ => none
theorem packN_sound (ok : CodOk C) {k : Nat} : ∀ {n : Nat} {ws : List (W T)} {l : List (T k)}, packN C k n ws = some l → ∀ {α β vs}, RepL C α β ws vs → CRL C k l vs ∧ l.length = n
 | 0, [], l, h, α, β, vs, hr => by
  simp only [packN, Option.some.injEq] at h
  subst h
  simp only [RepL] at hr
  exact ⟨hr, rfl⟩
 | 0, _ :: _, l, h, α, β, vs, hr => by simp [packN] at h
 | n + 1, ws, l, h, α, β, vs, hr => by
  simp only [packN] at h
  split at h
  ·rename_i x l' h1 h2
   injection h with h
   subst h
   have e1 := inn_rep ok h1 (hr.take (C.size k))
   obtain ⟨e2, e3⟩ := packN_sound ok h2 (hr.drop (C.size k))
   exact ⟨⟨_, _, (List.take_append_drop _ _).symm, e1, e2⟩, by simp [e3]⟩
  ·cases h
def indexAddrWK (C : Cod T) (P : Program) (wm : WM T) (t : TypeId) (x ix : W T) (k : W T → Option R) : Option R :=
 match P.underlying t, ix with
 | some (.slice e), .int _ i =>
  match sizeV P e, x with
  | some sz, .row kk l _ => if sz = C.size kk then opK (idx l i) fun x => k (.relem kk x 0) else none
  | some sz, .own kk h =>
   match wm.H[h]? with
   | some (.rows k' l) => if sz = C.size kk ∧ k' = kk then opK (idx l i) fun _ => k (.oelem kk h i.toNat 0) else none
   | _ => none
  | some sz, .view kk h off len => if sz = C.size kk then cnd (decide (0 ≤ i ∧ i < len)) (k (.oelem kk h (off + i.toNat) 0)) none else none
  | _, _ => none
 | some (.array len e), .int _ i =>
  match sizeV P e with
  | some sz => if 0 ≤ i ∧ i < len then opK (paddW x (i.toNat * sz)) k else none
  | none => none
 | _, _ => none
theorem indexAddrWK_sound (ok : CodOk C) {wm : WM T} {t : TypeId} {x ix : W T} {k : W T → Option R} {r : R} (h : indexAddrWK C P wm t x ix k = some r) :
  ∃ w, k w = some r ∧ ∀ {bs α β m v vi}, WSim bs C α β wm m → Rep C α β x v → Rep C α β ix vi → ∃ u, indexAddrV P t v vi = some u ∧ Rep C α β w u := by
 unfold indexAddrWK at h
 split at h
 ·rename_i e kd i hu
  split at h
  ·rename_i sz kk l full hsz
   split at h
   ·rename_i hs
    obtain ⟨y, h1, h2⟩ := opK_some h
    obtain ⟨h3, h4⟩ := idx_some h1
    refine ⟨_, h2, fun S hr hi => ?_⟩
    simp only [Rep] at hr hi
    subst hi
    obtain ⟨cs, fl, rfl, hfl, hc⟩ := hr
    have hl := (List.getElem?_eq_some_iff.1 h4).1
    have hlen := hc.length ok
    have hpos := ok.pos kk
    refine ⟨.rp cs (i.toNat * sz), ?_, ?_⟩
    ·simp only [indexAddrV, hu, hsz]
     rw [if_pos]
     refine ⟨h3, by omega, ?_⟩
     rw [hlen, hs]
     exact Nat.mul_lt_mul_of_pos_right hl hpos
    ·simp only [Rep]
     exact ⟨cs, i.toNat * sz, rfl, by rw [hs]; exact hc.get ok h4⟩
   ·cases h
  ·rename_i sz kk hh hsz
   split at h
   ·rename_i k' l he
    split at h
    ·rename_i hs
     obtain ⟨y, h1, h2⟩ := opK_some h
     obtain ⟨h3, h4⟩ := idx_some h1
     have hl := (List.getElem?_eq_some_iff.1 h4).1
     refine ⟨_, h2, fun S hr hi => ?_⟩
     simp only [Rep] at hr hi
     subst hi
     rcases S.rows he with ⟨hb', hl0⟩ | ⟨b', ver', cs, hb', hB, hcr⟩
     ·subst hl0; simp at hl
     ·rcases hr with ⟨hb, _⟩ | ⟨b, ver, nn, hb, rfl⟩
      ·rw [hb] at hb'; cases hb'
      ·rw [hb] at hb'
       injection hb' with hb'; injection hb' with hb'
       simp only [Prod.mk.injEq] at hb'
       obtain ⟨rfl, rfl, rfl⟩ := hb'
       refine ⟨.bptr b ver (0 + i.toNat * sz), ?_, ?_⟩
       ·simp only [indexAddrV, hu, hsz]
        rw [if_pos ⟨h3, by omega⟩]
       ·simp only [Rep]
        exact ⟨b, ver, _, hb, by rw [hs.1]; simp⟩
    ·cases h
   ·cases h
  ·rename_i sz kk hh off len hsz
   split at h
   ·rename_i hs
    obtain ⟨h1, h2⟩ := cond_some h
    have h1 := of_decide_eq_true h1
    refine ⟨_, h2, fun S hr hi => ?_⟩
    simp only [Rep] at hr hi
    subst hi
    rcases hr with ⟨_, _, rfl, _⟩ | ⟨b, ver, nn, hb, rfl⟩
    ·simp at h1; omega
    ·refine ⟨.bptr b ver (off * C.size kk + i.toNat * sz), ?_, ?_⟩
     ·simp only [indexAddrV, hu, hsz]
      rw [if_pos h1]
     ·simp only [Rep]
      exact ⟨b, ver, _, hb, by rw [hs, Nat.add_mul]; rfl⟩
   ·cases h
  ·cases h
 ·rename_i len e kd i hu
  split at h
  ·rename_i sz hsz
   split at h
   ·rename_i hc
    obtain ⟨w, h1, h2⟩ := opK_some h
    refine ⟨w, h2, fun S hr hi => ?_⟩
    simp only [Rep] at hi
    subst hi
    obtain ⟨u, h3, h4⟩ := paddW_sound h1 hr
    exact ⟨u, by simp only [indexAddrV, hu, hsz]; rw [if_pos hc]; exact h3, h4⟩
   ·cases h
  ·cases h
 ·cases h
theorem data_mk (s : List UInt8) : (ByteArray.mk s.toArray).data.toList = s := by simp
def indexWK (wc : WCfg T) (P : Program) (t : TypeId) (x ix : W T) (k : W T → Option R) : Option R :=
 match P.underlying t, x, ix with
 | some .string, .str s, .int _ i => opK (idx s i) fun b => k (.int .u8 b.toNat)
 | some (.array len e), .agg cs, .int _ i =>
  match sizeV P e, wc.kd e, P.info? e, P.underlying e with
  | some sz, some kk, some inf, some d =>
   if sz = wc.C.size kk ∧ inf.size = sz ∧ wc.C.isAgg kk = isAggD d then
    match packN wc.C kk len cs with
    | some l => opK (idx l i) fun y => k (outV wc.C kk y)
    | none => none
   else none
  | _, _, _, _ => none
 | _, _, _ => none
theorem indexWK_sound {wc : WCfg T} (ok : CodOk wc.C) {t : TypeId} {x ix : W T} {k : W T → Option R} {r : R} (h : indexWK wc P t x ix k = some r) :
  ∃ w, k w = some r ∧ ∀ {α β v vi}, Rep wc.C α β x v → Rep wc.C α β ix vi → ∃ u, indexV P t v vi = some u ∧ Rep wc.C α β w u := by
 unfold indexWK at h
 split at h
 ·rename_i s kd i hu
  obtain ⟨b, h1, h2⟩ := opK_some h
  obtain ⟨h3, h4⟩ := idx_some h1
  refine ⟨_, h2, fun hr hi => ?_⟩
  simp only [Rep] at hr hi
  subst hr hi
  refine ⟨.int .u8 b.toNat, ?_, by simp only [Rep]⟩
  simp only [indexV, hu, byteAt]
  rw [if_pos h3, h4]
  rfl
 ·rename_i len e cs kd i hu
  split at h
  ·rename_i sz kk inf d hsz hk hinf hd
   split at h
   ·rename_i hs
    split at h
    ·rename_i l hp
     obtain ⟨y, h1, h2⟩ := opK_some h
     obtain ⟨h3, h4⟩ := idx_some h1
     have hl := (List.getElem?_eq_some_iff.1 h4).1
     refine ⟨_, h2, fun hr hi => ?_⟩
     simp only [Rep] at hr hi
     subst hi
     obtain ⟨vs, rfl, hr⟩ := hr
     obtain ⟨hc, hn⟩ := packN_sound ok hp hr
     have hg := hc.get ok h4
     have hlen := ok.len _ _ _ hg
     have hpos := ok.pos kk
     have hsub : sub vs (i.toNat * sz) sz = some ((vs.drop (i.toNat * sz)).take sz) := by
      unfold sub
      rw [if_pos]
      simp only [List.length_take, List.length_drop] at hlen
      rw [hs.1]; omega
     refine ⟨if wc.C.isAgg kk then .agg ((vs.drop (i.toNat * sz)).take sz) else ((vs.drop (i.toNat * sz)).take sz).headD .undef, ?_, ?_⟩
     ·simp only [indexV, hu, hsz]
      rw [if_pos ⟨h3, by omega⟩]
      simp only [partV, hinf, hd]
      rw [hs.2.2, hs.2.1, hsub]
      split
      ·rfl
      ·rename_i hna
       have h1' := ok.one kk (by rw [hs.2.2]; simpa using hna)
       rw [hs.1, h1'] at hsub ⊢
       unfold sub at hsub
       split at hsub
       ·rename_i hle
        rw [List.getElem?_eq_getElem (by omega), List.drop_eq_getElem_cons (by omega)]
        rfl
       ·cases hsub
     ·exact outV_rep ok ⟨_, by rw [hs.1]; exact hg, rfl⟩
    ·cases h
   ·cases h
  ·cases h
 ·cases h
end Go.Proofs.YtpdgbhjhodhkiaaGreatDoor.AI
namespace Go.Proofs.YtpdgbhjhodhkiaaGreatDoor.AI
open Go
variable {T : Nat → Type} {C : Cod T} {R : Type} {P : Program}
def scalW : V → Option (W T)
 | .bool b => some (.bool b)
 | .int k n => some (.int k n)
 | _ => none
theorem scalW_sound {v : V} {w : W T} (h : scalW v = some w) {α β} : Rep C α β w v := by
 unfold scalW at h
 split at h <;> first | (injection h with h; subst h; simp only [Rep]) | cases h
def eqlW (d : TypeDesc) (lit : Bool) (x y : W T) : Option Bool :=
 match d, x, y with
 | .bool, .bool a, .bool b => some (a == b)
 | .pointer _, .nilp, .nilp => some true
 | .pointer _, .nilp, .ptr _ _ | .pointer _, .ptr _ _, .nilp | .pointer _, .nilp, .relem _ _ _ | .pointer _, .relem _ _ _, .nilp | .pointer _, .nilp, .oelem _ _ _ _ | .pointer _, .oelem _ _ _ _, .nilp => some false
 | .interface _, .nili, .nili => if lit then some true else none
 | .interface _, .nili, .ifc _ _ | .interface _, .ifc _ _, .nili => some false
 | .map _ _, .nilm, .nilm => some true
 | .map _ _, .nilm, .map _ | .map _ _, .map _, .nilm => some false
 | .func _ _ _, .nilf, .nilf => some true
 | .func _ _ _, .nilf, .fn _ _ | .func _ _ _, .fn _ _, .nilf => some false
 | _, _, _ => none
theorem eqlW_sound {d : TypeDesc} {lit : Bool} {x y : W T} {b : Bool} (h : eqlW d lit x y = some b) {α β vx vy} (hx : Rep C α β x vx) (hy : Rep C α β y vy) :
  eqlV d lit vx vy = some b ∧ (∀ k n k' n', ¬ (vx = .int k n ∧ vy = .int k' n')) ∧ (∀ s s', ¬ (vx = .str s ∧ vy = .str s')) := by
 unfold eqlW at h
 split at h <;> first | (cases h; done) | simp only [Rep] at hx hy
 ·subst hx hy; exact ⟨h, by simp, by simp⟩
 ·subst hx hy; exact ⟨h, by simp, by simp⟩
 ·subst hx; obtain ⟨_, _, rfl⟩ := hy; exact ⟨h, by simp, by simp⟩
 ·subst hy; obtain ⟨_, _, rfl⟩ := hx; exact ⟨h, by simp, by simp⟩
 ·subst hx; obtain ⟨_, _, rfl, _⟩ := hy; exact ⟨h, by simp, by simp⟩
 ·subst hy; obtain ⟨_, _, rfl, _⟩ := hx; exact ⟨h, by simp, by simp⟩
 ·subst hx; obtain ⟨_, _, _, _, rfl⟩ := hy; exact ⟨h, by simp, by simp⟩
 ·subst hy; obtain ⟨_, _, _, _, rfl⟩ := hx; exact ⟨h, by simp, by simp⟩
 ·subst hx hy; exact ⟨h, by simp, by simp⟩
 ·subst hx; obtain ⟨_, rfl, _⟩ := hy; exact ⟨h, by simp, by simp⟩
 ·subst hy; obtain ⟨_, rfl, _⟩ := hx; exact ⟨h, by simp, by simp⟩
 ·subst hx hy; exact ⟨h, by simp, by simp⟩
 ·subst hx; obtain ⟨_, _, _, _, rfl⟩ := hy; exact ⟨h, by simp, by simp⟩
 ·subst hy; obtain ⟨_, _, _, _, rfl⟩ := hx; exact ⟨h, by simp, by simp⟩
 ·subst hx hy; exact ⟨h, by simp, by simp⟩
 ·subst hx; obtain ⟨_, rfl, _⟩ := hy; exact ⟨h, by simp, by simp⟩
 ·subst hy; obtain ⟨_, rfl, _⟩ := hx; exact ⟨h, by simp, by simp⟩
def strK (op : BinOp) (a b : List UInt8) (k : W T → Option R) : Option R :=
 match op with
 | .add => cnd (decide (((a.length + b.length : Nat) : Int) > 9223372036854775807)) none (k (.str (a ++ b)))
 | .eql => k (.bool (a == b))
 | .neq => k (.bool (!(a == b)))
 | .lss => k (.bool (Op.bytesLess a b))
 | .leq => k (.bool (Op.bytesLess a b || a == b))
 | .gtr => k (.bool (!(Op.bytesLess a b || a == b)))
 | .geq => k (.bool (!(Op.bytesLess a b)))
 | _ => none
def binWK (P : Program) (op : BinOp) (t : TypeId) (lit : Bool) (x y : W T) (k : W T → Option R) : Option R :=
 match x, y with
 | .int kd a, .int kd' b =>
  match op, kd, kd' with
  | .add, .i64, .i64 => cnd (ok64 (a + b)) (k (.int .i64 (a + b))) none
  | .sub, .i64, .i64 => cnd (ok64 (a - b)) (k (.int .i64 (a - b))) none
  | .mul, .i64, .i64 => cnd (ok64 (a * b)) (k (.int .i64 (a * b))) none
  | .quo, .i64, .i64 => cnd (decide (b = 0)) none (cnd (ok64 (a.tdiv b)) (k (.int .i64 (a.tdiv b))) none)
  | .rem, kd, kd' => if kd = kd' then cnd (decide (b = 0)) none (k (.int kd (a.tmod b))) else none
  | .shl, .i64, _ => cnd (decide (0 ≤ b)) (k (.int .i64 (IntKind.i64.wrap (a * 2 ^ (min b.toNat 64))))) none
  | .shr, kd, _ => cnd (decide (0 ≤ b)) (k (.int kd (a.fdiv (2 ^ (min b.toNat kd.bits))))) none
  | op, kd, kd' => opK ((binV P op t lit (.int kd a) (.int kd' b)).bind scalW) k
 | .str a, .str b => strK op a b k
 | x, y =>
  match op, P.underlying t with
  | .eql, some d => opK (eqlW d lit x y) fun b => k (.bool b)
  | .neq, some d => opK (eqlW d lit x y) fun b => k (.bool (!b))
  | _, _ => none
theorem toList_mk (s : List UInt8) : (ByteArray.mk s.toArray).toList = s := by rw [ByteArray.toList_eq]
theorem size_mk (s : List UInt8) : (ByteArray.mk s.toArray).size = s.length := by simp [ByteArray.size]
theorem append_mk (a b : List UInt8) : (ByteArray.mk a.toArray) ++ (ByteArray.mk b.toArray) = ⟨(a ++ b).toArray⟩ := by
 apply WideShapes.bytes_inj
 rw [ByteArray.data_append]
 simp
theorem strK_sound {op : BinOp} {a b : List UInt8} {k : W T → Option R} {r : R} (h : strK op a b k = some r) :
  ∃ w, k w = some r ∧ ∀ {α β}, ∃ u, strV op ⟨a.toArray⟩ ⟨b.toArray⟩ = some u ∧ Rep C α β w u := by
 unfold strK at h
 split at h
 ·obtain ⟨h1, h2⟩ := cond_none h
  refine ⟨_, h2, fun {α β} => ⟨.str ⟨(a ++ b).toArray⟩, ?_, by simp only [Rep]⟩⟩
  simp only [strV, size_mk]
  rw [if_neg (of_decide_eq_false h1), append_mk]
 all_goals first
  | (cases h; done)
  | exact ⟨_, h, fun {α β} => ⟨_, rfl, by simp only [Rep, toList_mk]⟩⟩
theorem binWK_sound {op : BinOp} {t : TypeId} {lit : Bool} {x y : W T} {k : W T → Option R} {r : R} (h : binWK P op t lit x y k = some r) :
  ∃ w, k w = some r ∧ ∀ {α β vx vy}, Rep C α β x vx → Rep C α β y vy → ∃ u, binV P op t lit vx vy = some u ∧ Rep C α β w u := by
 unfold binWK at h
 split at h
 ·rename_i kd a kd' b
  split at h
  ·obtain ⟨h1, h2⟩ := cond_some h
   refine ⟨_, h2, fun hx hy => ?_⟩
   simp only [Rep] at hx hy; subst hx hy
   exact ⟨_, rfl, by simp only [Rep, wrap_ok64 h1]⟩
  ·obtain ⟨h1, h2⟩ := cond_some h
   refine ⟨_, h2, fun hx hy => ?_⟩
   simp only [Rep] at hx hy; subst hx hy
   exact ⟨_, rfl, by simp only [Rep, wrap_ok64 h1]⟩
  ·obtain ⟨h1, h2⟩ := cond_some h
   refine ⟨_, h2, fun hx hy => ?_⟩
   simp only [Rep] at hx hy; subst hx hy
   exact ⟨_, rfl, by simp only [Rep, wrap_ok64 h1]⟩
  ·obtain ⟨h0, h⟩ := cond_none h
   obtain ⟨h1, h2⟩ := cond_some h
   refine ⟨_, h2, fun hx hy => ?_⟩
   simp only [Rep] at hx hy; subst hx hy
   refine ⟨.int .i64 (a.tdiv b), ?_, by simp only [Rep]⟩
   simp only [binV, if_true, intV]
   rw [if_neg (of_decide_eq_false h0), wrap_ok64 h1]
  ·split at h
   ·rename_i hk
    subst hk
    obtain ⟨h0, h2⟩ := cond_none h
    refine ⟨_, h2, fun hx hy => ?_⟩
    simp only [Rep] at hx hy; subst hx hy
    refine ⟨_, ?_, by simp only [Rep]; rfl⟩
    simp only [binV, if_true, intV]
    rw [if_neg (of_decide_eq_false h0)]
   ·cases h
  ·obtain ⟨h0, h2⟩ := cond_some h
   refine ⟨_, h2, fun hx hy => ?_⟩
   simp only [Rep] at hx hy; subst hx hy
   refine ⟨_, ?_, by simp only [Rep]; rfl⟩
   simp only [binV, shiftV]
   rw [if_neg (by have := of_decide_eq_true h0; omega)]
   rfl
  ·obtain ⟨h0, h2⟩ := cond_some h
   refine ⟨_, h2, fun hx hy => ?_⟩
   simp only [Rep] at hx hy; subst hx hy
   refine ⟨_, ?_, by simp only [Rep]; rfl⟩
   simp only [binV, shiftV]
   rw [if_neg (by have := of_decide_eq_true h0; omega)]
  ·obtain ⟨w, h1, h2⟩ := opK_some h
   obtain ⟨u, h3, h4⟩ := Option.bind_eq_some_iff.1 h1
   refine ⟨w, h2, fun hx hy => ?_⟩
   simp only [Rep] at hx hy; subst hx hy
   exact ⟨u, h3, scalW_sound h4⟩
 ·rename_i a b
  obtain ⟨w, h1, h2⟩ := strK_sound h
  refine ⟨w, h1, fun {α β vx vy} hx hy => ?_⟩
  simp only [Rep] at hx hy; subst hx hy
  obtain ⟨u, h3, h4⟩ := h2 (α := α) (β := β)
  exact ⟨u, by simp only [binV]; exact h3, h4⟩
 ·rename_i x y hni hns
  split at h
  ·rename_i d hu
   obtain ⟨b, h1, h2⟩ := opK_some h
   refine ⟨_, h2, fun {α β vx vy} hx hy => ?_⟩
   obtain ⟨h3, h4, h5⟩ := eqlW_sound h1 hx hy
   refine ⟨.bool b, ?_, by simp only [Rep]⟩
   unfold binV
   split
   ·exact absurd ⟨rfl, rfl⟩ (h4 _ _ _ _)
   ·exact absurd ⟨rfl, rfl⟩ (h5 _ _)
   ·simp only [hu, h3, Option.map_some]
  ·rename_i d hu
   obtain ⟨b, h1, h2⟩ := opK_some h
   refine ⟨_, h2, fun {α β vx vy} hx hy => ?_⟩
   obtain ⟨h3, h4, h5⟩ := eqlW_sound h1 hx hy
   refine ⟨.bool (!b), ?_, by simp only [Rep]⟩
   unfold binV
   split
   ·exact absurd ⟨rfl, rfl⟩ (h4 _ _ _ _)
   ·exact absurd ⟨rfl, rfl⟩ (h5 _ _)
   ·simp only [hu, h3, Option.map_some]
  ·cases h
def unWK (op : UnOp) (x : W T) (k : W T → Option R) : Option R :=
 match op, x with
 | .neg, .int .i64 n => cnd (ok64 (0 - n)) (k (.int .i64 (0 - n))) none
 | .not, .bool b => k (.bool !b)
 | _, _ => none
theorem unWK_sound {op : UnOp} {x : W T} {k : W T → Option R} {r : R} (h : unWK op x k = some r) :
  ∃ w, k w = some r ∧ ∀ {α β vx}, Rep C α β x vx → ∃ u, unV op vx = some u ∧ Rep C α β w u := by
 unfold unWK at h
 split at h
 ·obtain ⟨h1, h2⟩ := cond_some h
  refine ⟨_, h2, fun hx => ?_⟩
  simp only [Rep] at hx; subst hx
  exact ⟨_, rfl, by simp only [Rep, wrap_ok64 h1]⟩
 ·refine ⟨_, h, fun hx => ?_⟩
  simp only [Rep] at hx; subst hx
  exact ⟨_, rfl, by simp only [Rep]⟩
 ·cases h
def contWK (wm : WM T) (x : W T) (k : (kk : Nat) → List (T kk) → Option R) : Option R :=
 match x with
 | .row kk l _ => k kk l
 | .own kk h =>
  match wm.H[h]? with
  | some (.rows k' l) => if k' = kk then k k' l else none
  | _ => none
 | .view kk h off len =>
  match wm.H[h]? with
  | some (.rows k' l) => if k' = kk then cnd (decide (off + len ≤ l.length)) (k k' ((l.drop off).take len)) none else none
  | _ => none
 | _ => none
theorem contWK_sound (ok : CodOk C) {wm : WM T} {x : W T} {k : (kk : Nat) → List (T kk) → Option R} {r : R} (h : contWK wm x k = some r) :
  ∃ kk l, k kk l = some r ∧ ∀ {bs α β m v}, WSim bs C α β wm m → Rep C α β x v → ∃ cs, contents m (C.size kk) v = some (l.length, cs) ∧ CRL C kk l cs ∧ ((∃ c n f, v = .ro c n f) ∨ ∃ b ver o n, v = .sl b ver o n) := by
 unfold contWK at h
 split at h
 ·rename_i kk l full
  refine ⟨kk, l, h, fun S hr => ?_⟩
  simp only [Rep] at hr
  obtain ⟨cs, fl, rfl, _, hc⟩ := hr
  exact ⟨cs, by simp only [contents]; rw [if_pos (hc.length ok).symm], hc, .inl ⟨_, _, _, rfl⟩⟩
 ·rename_i kk hh
  split at h
  ·rename_i k' l he
   split at h
   ·rename_i hk
    subst hk
    refine ⟨k', l, h, fun S hr => ?_⟩
    simp only [Rep] at hr
    rcases S.rows he with ⟨hb', rfl⟩ | ⟨b', ver', cs, hb', hB, hcr⟩
    ·rcases hr with ⟨_, rfl⟩ | ⟨b, ver, nn, hb, rfl⟩
     ·exact ⟨[], by simp [contents], rfl, .inl ⟨_, _, _, rfl⟩⟩
     ·rw [hb] at hb'; cases hb'
    ·rcases hr with ⟨hb, _⟩ | ⟨b, ver, nn, hb, rfl⟩
     ·rw [hb] at hb'; cases hb'
     ·rw [hb] at hb'
      injection hb' with hb'; injection hb' with hb'
      simp only [Prod.mk.injEq] at hb'
      obtain ⟨rfl, rfl, rfl⟩ := hb'
      refine ⟨cs, ?_, hcr, .inr ⟨_, _, _, _, rfl⟩⟩
      simp only [contents, hB, and_self, if_true]
      have := hcr.length ok
      unfold sub
      rw [if_pos (by omega)]
      simp [← this]
   ·cases h
  ·cases h
 ·rename_i kk hh off len
  split at h
  ·rename_i k' l he
   split at h
   ·rename_i hk
    subst hk
    obtain ⟨h1, h2⟩ := cond_some h
    have h1 := of_decide_eq_true h1
    refine ⟨k', _, h2, fun S hr => ?_⟩
    simp only [Rep] at hr
    have hln : ((l.drop off).take len).length = len := by simp; omega
    rcases S.rows he with ⟨hb', rfl⟩ | ⟨b', ver', cs, hb', hB, hcr⟩
    ·rcases hr with ⟨_, rfl, rfl, fl, rfl⟩ | ⟨b, ver, nn, hb, rfl⟩
     ·exact ⟨[], by simp [contents], rfl, .inl ⟨_, _, _, rfl⟩⟩
     ·rw [hb] at hb'; cases hb'
    ·rcases hr with ⟨hb, _⟩ | ⟨b, ver, nn, hb, rfl⟩
     ·rw [hb] at hb'; cases hb'
     ·rw [hb] at hb'
      injection hb' with hb'; injection hb' with hb'
      simp only [Prod.mk.injEq] at hb'
      obtain ⟨rfl, rfl, rfl⟩ := hb'
      refine ⟨(cs.drop (off * C.size k')).take (len * C.size k'), ?_, (hcr.drop ok off).take ok len, .inr ⟨_, _, _, _, rfl⟩⟩
      simp only [contents, hB, and_self, if_true]
      have e := hcr.length ok
      unfold sub
      rw [if_pos]
      ·simp only [Option.map_some, hln]
      ·rw [e, ← Nat.add_mul]; exact Nat.mul_le_mul_right _ h1
   ·cases h
  ·cases h
 ·cases h
def convWK (wc : WCfg T) (P : Program) (wm : WM T) (src dst : TypeId) (x : W T) (k : W T → Option R) : Option R :=
 match P.underlying src, P.underlying dst, x with
 | some (.slice e), some .string, .nilsl =>
  match P.underlying e with
  | some (.int .u8) => k (.str [])
  | _ => none
 | some (.slice e), some .string, x =>
  match P.underlying e with
  | some (.int .u8) => contWK wm x fun kk l => opK (wc.C.unbytes kk l) fun s => k (.str s)
  | _ => none
 | some (.int _), some (.int .i64), .int _ n => cnd (ok64 n) (k (.int .i64 n)) none
 | some (.int _), some (.int kd), .int _ n => k (.int kd (kd.wrap n))
 | some .string, some .string, .str s => k (.str s)
 | some .string, some (.slice e), .str s =>
  match P.underlying e, wc.kd e with
  | some (.int .u8), some kk => cnd (decide (s.length ≤ 140737488355328)) (opK (wc.C.bytes kk s) fun l => k (.row kk l false)) none
  | _, _ => none
 | _, _, _ => none
theorem strOfNums_map (s : List UInt8) : strOfNums (s.map fun b => (b.toNat : Int)) = ⟨s.toArray⟩ := by
 unfold strOfNums
 congr 2
 rw [List.map_map]
 conv => rhs; rw [← List.map_id s]
 apply List.map_congr_left
 intro b _
 simp
theorem convWK_sound {wc : WCfg T} (ok : CodOk wc.C) {wm : WM T} {src dst : TypeId} {x : W T} {k : W T → Option R} {r : R} (h : convWK wc P wm src dst x k = some r) :
  ∃ w, k w = some r ∧ ∀ {bs α β m v}, WSim bs wc.C α β wm m → Rep wc.C α β x v → ∃ u, convV P m src dst v = some u ∧ Rep wc.C α β w u := by
 unfold convWK at h
 split at h
 ·rename_i e hs hd
  split at h
  ·rename_i he
   refine ⟨_, h, fun S hr => ?_⟩
   simp only [Rep] at hr; subst hr
   refine ⟨.str ⟨#[]⟩, ?_, by simp only [Rep]⟩
   simp only [convV, hs, hd, he, contents]
   rfl
  ·cases h
 ·rename_i e x hs hd hx
  split at h
  ·rename_i he
   obtain ⟨kk, l, h1, h2⟩ := contWK_sound ok h
   obtain ⟨s, h3, h4⟩ := opK_some h1
   refine ⟨_, h4, fun {bs α β m v} S hr => ?_⟩
   obtain ⟨cs, h5, h6, h9⟩ := h2 S hr
   obtain ⟨h7, h8⟩ := ok.unbytes _ _ _ _ h3 h6
   rw [h8] at h5
   refine ⟨.str ⟨s.toArray⟩, ?_, by simp only [Rep]⟩
   have key : ((contents m 1 v).bind fun (_, cs) => (u8sOf cs).map fun xs => V.str (strOfNums xs)) = some (.str ⟨s.toArray⟩) := by
    rw [h5]
    simp only [Option.bind_some, h7, Option.map_some, strOfNums_map]
   rcases h9 with ⟨_, _, _, rfl⟩ | ⟨_, _, _, _, rfl⟩
   ·simp only [convV, hs, hd, he]; exact key
   ·simp only [convV, hs, hd, he]; exact key
  ·cases h
 ·rename_i kd n hs hd
  obtain ⟨h1, h2⟩ := cond_some h
  refine ⟨_, h2, fun S hr => ?_⟩
  simp only [Rep] at hr; subst hr
  exact ⟨.int .i64 n, by simp only [convV, hs, hd, wrap_ok64 h1], by simp only [Rep]⟩
 ·rename_i n hn hs hd
  refine ⟨_, h, fun S hr => ?_⟩
  simp only [Rep] at hr; subst hr
  exact ⟨.int _ _, by simp only [convV, hs, hd]; rfl, by simp only [Rep]⟩
 ·rename_i s hs hd
  refine ⟨_, h, fun S hr => ?_⟩
  simp only [Rep] at hr; subst hr
  exact ⟨.str _, by simp only [convV, hs, hd]; rfl, by simp only [Rep]⟩
 ·rename_i e s hs hd
  split at h
  ·rename_i kk he hk
   obtain ⟨h1, h2⟩ := cond_some h
   obtain ⟨l, h3, h4⟩ := opK_some h2
   obtain ⟨h5, h6, h7⟩ := ok.bytes _ _ _ h3
   refine ⟨_, h4, fun S hr => ?_⟩
   simp only [Rep] at hr; subst hr
   refine ⟨.ro (s.map fun b => .int .u8 b.toNat) s.length false, ?_, ?_⟩
   ·simp only [convV, hs, hd, he, size_mk, data_mk]
    rw [if_pos (of_decide_eq_true h1)]
   ·simp only [Rep]
    exact ⟨_, _, by rw [h5], (fun h => by cases h), h6⟩
  ·cases h
 ·cases h
def boundWK (x : Option (W T)) (d : Nat) (k : Nat → Option R) : Option R :=
 match x with
 | none => k d
 | some (.int _ i) => cnd (decide (0 ≤ i)) (k i.toNat) none
 | some _ => none
inductive RepO (C : Cod T) (α : List Nat) (β : Bt) : Option (W T) → Option V → Prop
 | none : RepO C α β none none
 | some {w v} : Rep C α β w v → RepO C α β (some w) (some v)
theorem boundWK_sound {x : Option (W T)} {d : Nat} {k : Nat → Option R} {r : R} (h : boundWK x d k = some r) : ∃ n, k n = some r ∧ ∀ {α β v}, RepO C α β x v → boundV v d = some n := by
 unfold boundWK at h
 split at h
 ·exact ⟨d, h, fun hr => by cases hr; rfl⟩
 ·rename_i kd i
  obtain ⟨h1, h2⟩ := cond_some h
  refine ⟨_, h2, fun hr => ?_⟩
  cases hr with
  | some hr =>
   simp only [Rep] at hr; subst hr
   simp only [boundV]
   rw [if_pos (of_decide_eq_true h1)]
 ·cases h
def sliceWK (C : Cod T) (P : Program) (wm : WM T) (t : TypeId) (x : W T) (lo hi mx : Option (W T)) (k : W T → Option R) : Option R :=
 match P.underlying t, x, mx with
 | some .string, .str s, none => boundWK lo 0 fun l => boundWK hi s.length fun h => cnd (decide (l ≤ h ∧ h ≤ s.length)) (k (.str ((s.drop l).take (h - l)))) none
 | some (.slice e), .row kk c full, none =>
  if sizeV P e = some (C.size kk) then boundWK lo 0 fun l => boundWK hi c.length fun h => cnd (decide (l ≤ h ∧ h ≤ c.length)) (k (.row kk ((c.drop l).take (h - l)) (full && hi.isNone))) none else none
 | some (.slice e), .row kk c full, some m =>
  if sizeV P e = some (C.size kk) ∧ hi.isSome = true then boundWK lo 0 fun l => boundWK hi c.length fun h => boundWK (some m) 0 fun m' =>
   cnd (decide (l ≤ h ∧ h = m' ∧ m' ≤ c.length)) (k (.row kk ((c.drop l).take (h - l)) true)) none else none
 | some (.slice e), .own kk hd, none =>
  match wm.H[hd]? with
  | some (.rows k' c) => if sizeV P e = some (C.size kk) ∧ k' = kk then boundWK lo 0 fun l => boundWK hi c.length fun h => cnd (decide (l ≤ h ∧ h ≤ c.length)) (k (.view kk hd l (h - l))) none else none
  | _ => none
 | some (.slice e), .view kk hd off len, none =>
  match wm.H[hd]? with
  | some (.rows k' c) => if sizeV P e = some (C.size kk) ∧ k' = kk then boundWK lo 0 fun l => boundWK hi len fun h => cnd (decide (l ≤ h ∧ h ≤ len)) (k (.view kk hd (off + l) (h - l))) none else none
  | _ => none
 | some (.slice e), .nilsl, none => if (sizeV P e).isSome = true then boundWK lo 0 fun l => boundWK hi 0 fun h => cnd (decide (l = 0 ∧ h = 0)) (k .nilsl) none else none
 | _, _, _ => none
theorem extract_mk (s : List UInt8) (l h : Nat) : (ByteArray.mk s.toArray).extract l h = ⟨((s.drop l).take (h - l)).toArray⟩ := by
 apply WideShapes.bytes_inj
 rw [ByteArray.data_extract]
 simp [Array.toList_extract, List.extract]
theorem sliceWK_sound (ok : CodOk C) {wm : WM T} {t : TypeId} {x : W T} {lo hi mx : Option (W T)} {k : W T → Option R} {r : R} (h : sliceWK C P wm t x lo hi mx k = some r) :
  ∃ w, k w = some r ∧ ∀ {bs α β m v vlo vhi vmx}, WSim bs C α β wm m → Rep C α β x v → RepO C α β lo vlo → RepO C α β hi vhi → RepO C α β mx vmx → ∃ u, sliceV P m t v vlo vhi vmx = some u ∧ Rep C α β w u := by
 unfold sliceWK at h
 split at h
 ·rename_i s hu
  obtain ⟨l, h1, e1⟩ := boundWK_sound (C := C) h
  obtain ⟨hh, h2, e2⟩ := boundWK_sound (C := C) h1
  obtain ⟨h3, h4⟩ := cond_some h2
  refine ⟨_, h4, fun S hr hlo hhi hmx => ?_⟩
  simp only [Rep] at hr; subst hr
  cases hmx
  refine ⟨.str ⟨((s.drop l).take (hh - l)).toArray⟩, ?_, by simp only [Rep]⟩
  simp only [sliceV, hu, e1 hlo, size_mk, e2 hhi, of_decide_eq_true h3, and_self, if_true, extract_mk]
 ·rename_i e kk c full hu
  split at h
  ·rename_i hsz
   obtain ⟨l, h1, e1⟩ := boundWK_sound (C := C) h
   obtain ⟨hh, h2, e2⟩ := boundWK_sound (C := C) h1
   obtain ⟨h3, h4⟩ := cond_some h2
   have h3 := of_decide_eq_true h3
   refine ⟨_, h4, fun S hr hlo hhi hmx => ?_⟩
   simp only [Rep] at hr
   obtain ⟨cs, fl, rfl, hfl, hc⟩ := hr
   cases hmx
   have hlen := hc.length ok
   refine ⟨.ro ((cs.drop (l * C.size kk)).take ((hh - l) * C.size kk)) (hh - l) (fl && hh == c.length), ?_, ?_⟩
   ·simp only [sliceV, hu, hsz, e1 hlo, e2 hhi, h3, and_self, if_true]
    unfold sub
    rw [if_pos]
    ·rfl
    ·rw [hlen, ← Nat.add_mul]; exact Nat.mul_le_mul_right _ (by omega)
   ·simp only [Rep]
    have hln : ((c.drop l).take (hh - l)).length = hh - l := by simp; omega
    refine ⟨_, _, by rw [hln], ?_, (hc.drop ok l).take ok _⟩
    intro hf
    simp only [Bool.and_eq_true] at hf ⊢
    refine ⟨hfl hf.1, ?_⟩
    cases hhi with
    | none =>
     have := e2 (α := []) (β := []) RepO.none
     simp only [boundV, Option.some.injEq] at this
     simp [this]
    | some _ => cases hf.2
  ·cases h
 ·rename_i e kk c full m hu
  split at h
  ·rename_i hsz
   obtain ⟨l, h1, e1⟩ := boundWK_sound (C := C) h
   obtain ⟨hh, h2, e2⟩ := boundWK_sound (C := C) h1
   obtain ⟨mm, h2, e3⟩ := boundWK_sound (C := C) h2
   obtain ⟨h3, h4⟩ := cond_some h2
   obtain ⟨h6, rfl, h5⟩ := of_decide_eq_true h3
   refine ⟨_, h4, fun S hr hlo hhi hmx => ?_⟩
   simp only [Rep] at hr
   obtain ⟨cs, fl, rfl, hfl, hc⟩ := hr
   have hlen := hc.length ok
   cases hmx with
   | some hm =>
    have e3 := e3 (RepO.some hm)
    refine ⟨.ro ((cs.drop (l * C.size kk)).take ((hh - l) * C.size kk)) (hh - l) (hh == hh), ?_, ?_⟩
    ·simp only [sliceV, hu, hsz.1, e1 hlo, e2 hhi, e3]
     rw [if_pos ⟨h6, Nat.le_refl _, h5, by cases hhi with | none => cases hsz.2 | some _ => rfl⟩]
     unfold sub
     rw [if_pos]
     ·rfl
     ·rw [hlen, ← Nat.add_mul]; exact Nat.mul_le_mul_right _ (by omega)
    ·simp only [Rep]
     have hln : ((c.drop l).take (hh - l)).length = hh - l := by simp; omega
     exact ⟨_, _, by rw [hln], fun _ => by simp, (hc.drop ok l).take ok _⟩
  ·cases h
 ·rename_i e kk hd hu
  split at h
  ·rename_i k' c he
   split at h
   ·rename_i hsz
    obtain ⟨hsz, rfl⟩ := hsz
    obtain ⟨l, h1, e1⟩ := boundWK_sound (C := C) h
    obtain ⟨hh, h2, e2⟩ := boundWK_sound (C := C) h1
    obtain ⟨h3, h4⟩ := cond_some h2
    have h3 := of_decide_eq_true h3
    refine ⟨_, h4, fun S hr hlo hhi hmx => ?_⟩
    simp only [Rep] at hr
    cases hmx
    rcases S.rows he with ⟨hb', rfl⟩ | ⟨b', ver', cs, hb', hB, hcr⟩
    ·rcases hr with ⟨hb, rfl⟩ | ⟨b, ver, nn, hb, rfl⟩
     ·simp only [List.length_nil] at h3 e2
      have : hh = 0 := by omega
      subst this
      have : l = 0 := by omega
      subst this
      refine ⟨.ro [] 0 (true && 0 == 0), ?_, ?_⟩
      ·simp only [sliceV, hu, hsz, e1 hlo, e2 hhi]
       simp [sub]
      ·simp only [Rep]
       exact .inl ⟨hb, by first | trivial | rfl, by first | trivial | rfl, _, rfl⟩
     ·rw [hb] at hb'; cases hb'
    ·rcases hr with ⟨hb, _⟩ | ⟨b, ver, nn, hb, rfl⟩
     ·rw [hb] at hb'; cases hb'
     ·have hb0 := hb
      rw [hb] at hb'
      injection hb' with hb'; injection hb' with hb'
      simp only [Prod.mk.injEq] at hb'
      obtain ⟨rfl, rfl, rfl⟩ := hb'
      refine ⟨.sl b ver (0 + l * C.size k') (hh - l), ?_, ?_⟩
      ·simp only [sliceV, hu, hsz, e1 hlo, e2 hhi, hB]
       rw [if_pos ⟨h3.1, h3.2, by first | trivial | rfl, by first | trivial | rfl⟩]
      ·simp only [Rep]
       exact .inr ⟨b, ver, _, hb0, by rw [Nat.zero_add]⟩
   ·cases h
  ·cases h
 ·rename_i e kk hd off len hu
  split at h
  ·rename_i k' c he
   split at h
   ·rename_i hsz
    obtain ⟨hsz, rfl⟩ := hsz
    obtain ⟨l, h1, e1⟩ := boundWK_sound (C := C) h
    obtain ⟨hh, h2, e2⟩ := boundWK_sound (C := C) h1
    obtain ⟨h3, h4⟩ := cond_some h2
    have h3 := of_decide_eq_true h3
    refine ⟨_, h4, fun S hr hlo hhi hmx => ?_⟩
    simp only [Rep] at hr
    cases hmx
    rcases S.rows he with ⟨hb', rfl⟩ | ⟨b', ver', cs, hb', hB, hcr⟩
    ·rcases hr with ⟨hb, rfl, rfl, fl, rfl⟩ | ⟨b, ver, nn, hb, rfl⟩
     ·have : hh = 0 := by omega
      subst this
      have : l = 0 := by omega
      subst this
      refine ⟨.ro [] 0 (fl && 0 == 0), ?_, ?_⟩
      ·simp only [sliceV, hu, hsz, e1 hlo, e2 hhi]
       simp [sub]
      ·simp only [Rep]
       exact .inl ⟨hb, by first | trivial | rfl, by first | trivial | rfl, _, rfl⟩
     ·rw [hb] at hb'; cases hb'
    ·rcases hr with ⟨hb, _⟩ | ⟨b, ver, nn, hb, rfl⟩
     ·rw [hb] at hb'; cases hb'
     ·have hb0 := hb
      rw [hb] at hb'
      injection hb' with hb'; injection hb' with hb'
      simp only [Prod.mk.injEq] at hb'
      obtain ⟨rfl, rfl, rfl⟩ := hb'
      refine ⟨.sl b ver (off * C.size k' + l * C.size k') (hh - l), ?_, ?_⟩
      ·simp only [sliceV, hu, hsz, e1 hlo, e2 hhi, hB]
       rw [if_pos ⟨h3.1, h3.2, by first | trivial | rfl, by first | trivial | rfl⟩]
      ·simp only [Rep]
       exact .inr ⟨b, ver, _, hb0, by rw [Nat.add_mul]⟩
   ·cases h
  ·cases h
 ·rename_i e hu
  split at h
  ·rename_i hsz
   obtain ⟨sz, hsz⟩ := Option.isSome_iff_exists.1 hsz
   obtain ⟨l, h1, e1⟩ := boundWK_sound (C := C) h
   obtain ⟨hh, h2, e2⟩ := boundWK_sound (C := C) h1
   obtain ⟨h3, h4⟩ := cond_some h2
   obtain ⟨rfl, rfl⟩ := of_decide_eq_true h3
   refine ⟨_, h4, fun S hr hlo hhi hmx => ?_⟩
   simp only [Rep] at hr; subst hr
   cases hmx
   refine ⟨.ro [] 0 (true && 0 == 0), ?_, by simp [Rep]⟩
   simp only [sliceV, hu, hsz, e1 hlo, e2 hhi]
   simp [sub]
  ·cases h
 ·cases h
end Go.Proofs.YtpdgbhjhodhkiaaGreatDoor.AI
namespace Go.Proofs.YtpdgbhjhodhkiaaGreatDoor.AI
open Go
variable {T : Nat → Type} {C : Cod T} {R : Type} {P : Program}
def Goes (C : Cod T) (wm wm' : WM T) (w : W T) (bs : Base) (α : List Nat) (β : Bt) (o : Option (V × Mem)) : Prop :=
 ∃ v m' α' β', o = some (v, m') ∧ α <+: α' ∧ β <+: β' ∧ WSim bs C α' β' wm' m' ∧ Rep C α' β' w v
theorem pureL_app {a b : List V} : pureL (a ++ b) = (pureL a && pureL b) := by
 induction a with
 | nil => rfl
 | cons x a ih => simp only [List.cons_append, pureL, ih, Bool.and_assoc]
theorem splice_in {cs ds : List V} {o off sz : Nat} (h : off + ds.length ≤ sz) (hl : ((cs.drop o).take sz).length = sz) (hz : 0 < sz) : splice cs (o + off) ds = splice cs o (splice ((cs.drop o).take sz) off ds) := by
 simp only [List.length_take, List.length_drop] at hl
 unfold splice
 have e1 : (List.take off (List.take sz (List.drop o cs)) ++ ds ++ List.drop (off + ds.length) (List.take sz (List.drop o cs))).length = sz := by simp; omega
 rw [e1]
 have e2 : List.take (o + off) cs = List.take o cs ++ List.take off (List.drop o cs) := by rw [← List.take_add]
 have e3 : List.drop (o + off + ds.length) cs = List.drop (off + ds.length) (List.take sz (List.drop o cs)) ++ List.drop (o + sz) cs := by
  rw [List.drop_take, List.drop_drop, Nat.add_assoc]
  conv => lhs; rw [← List.take_append_drop (sz - (off + ds.length)) (List.drop (o + (off + ds.length)) cs), List.drop_drop]
  rw [show o + (off + ds.length) + (sz - (off + ds.length)) = o + sz by omega]
 rw [e2, e3, List.take_take, Nat.min_eq_left (by omega)]
 simp only [List.append_assoc]
def writeWK (C : Cod T) (wm : WM T) (p : W T) (cs : List (W T)) (k : WM T → Option R) : Option R :=
 match p with
 | .ptr i off =>
  match wm.A[i]? with
  | some old => if wm.la ≤ i ∧ off + cs.length ≤ old.length then k { wm with A := wm.A.set i (spliceX old off cs) } else none
  | none => none
 | .oelem kk h i off =>
  match wm.H[h]? with
  | some (.rows k' l) =>
   if k' = kk ∧ wm.lh ≤ h ∧ off + cs.length ≤ C.size k' then
    opK l[i]? fun x => opK (C.inn k' (spliceX (C.out k' x) off cs)) fun x' => k { wm with H := wm.H.set h (.rows k' (l.set i x')) }
   else none
  | _ => none
 | _ => none
theorem writeWK_sound (ok : CodOk C) {wm : WM T} {p : W T} {cs : List (W T)} {k : WM T → Option R} {r : R} (h : writeWK C wm p cs k = some r) :
  ∃ wm', k wm' = some r ∧ ∀ {bs α β m v ds}, WSim bs C α β wm m → Rep C α β p v → RepL C α β cs ds → ∃ m', wrCells m v ds = some m' ∧ WSim bs C α β wm' m' := by
 unfold writeWK at h
 split at h
 ·rename_i i off
  split at h
  ·rename_i old hold
   split at h
   ·rename_i hc
    refine ⟨_, h, fun {bs α β m v ds} S hr hrs => ?_⟩
    simp only [Rep] at hr
    obtain ⟨j, hj, rfl⟩ := hr
    obtain ⟨vs, h1, h2⟩ := S.A _ _ _ hj hold
    have hla := S.la _ _ hj hc.1
    have hlen := h2.length
    have hlen' := hrs.length
    refine ⟨_, ?_, S.setA hj (splice_rep h2 hrs off) (max m.hi (maxAL ds))⟩
    simp only [wrCells, h1]
    rw [if_pos ⟨hla, by omega⟩]
   ·cases h
  ·cases h
 ·rename_i kk hh i off
  split at h
  ·rename_i k' l he
   split at h
   ·rename_i hc
    obtain ⟨rfl, hlh, hle⟩ := hc
    obtain ⟨x, h0, h⟩ := opK_some h
    obtain ⟨x', h1, h2⟩ := opK_some h
    refine ⟨_, h2, fun {bs α β m v ds} S hr hrs => ?_⟩
    simp only [Rep] at hr
    obtain ⟨b, ver, nn, hb, rfl⟩ := hr
    have hl := (List.getElem?_eq_some_iff.1 h0).1
    rcases S.rows he with ⟨hb', _⟩ | ⟨b', ver', ccs, hb', hB, hcr⟩
    ·rw [hb] at hb'; cases hb'
    ·have hb0 := hb
     rw [hb] at hb'
     injection hb' with hb'; injection hb' with hb'
     simp only [Prod.mk.injEq] at hb'
     obtain ⟨rfl, rfl, rfl⟩ := hb'
     have hg := hcr.get ok h0
     have hgl := ok.len _ _ _ hg
     have hlen := hcr.length ok
     have hpos := ok.pos k'
     have hin := inn_rep ok h1 (splice_rep (ok.out _ _ _ hg _ _) hrs off)
     have hle' : off + ds.length ≤ C.size k' := by rw [← hrs.length]; exact hle
     have hbound : i * C.size k' + off + cs.length ≤ ccs.length := by
      rw [hlen]
      have : (i + 1) * C.size k' ≤ l.length * C.size k' := Nat.mul_le_mul_right _ hl
      rw [Nat.succ_mul] at this
      omega
     have hpu := ok.pure _ _ _ hin
     unfold splice at hpu
     simp only [pureL_app, Bool.and_eq_true] at hpu
     have hlb : m.lb ≤ b := S.lb _ _ _ _ _ he rfl hb0 hlh
     refine ⟨_, ?_, S.setB (hi' := max m.hi (maxAL ds)) he rfl hb0 (bb := .cells (C.size k') ver true false (splice ccs (i * C.size k' + off) ds)) ?_⟩
     ·simp only [wrCells, hB]
      rw [if_pos ⟨by first | trivial | rfl, hlb, by rw [← hrs.length]; omega⟩, hpu.1.2]
      rfl
     ·simp only [EnOk]
      refine .inr ⟨b, ver, _, by rw [List.length_set]; exact hb0, by rw [List.getElem?_set, if_pos rfl, if_pos (S.ltB _ _ _ _ hb0)], ?_⟩
      rw [splice_in hle' hgl hpos]
      exact hcr.set ok hl hin
   ·cases h
  ·cases h
 ·cases h
def storeWK (C : Cod T) (P : Program) (wm : WM T) (t : TypeId) (p v : W T) (k : WM T → Option R) : Option R :=
 match P.info? t with
 | some i => if (wCells v).length = i.size ∧ (wCells v).all W.cellLike = true then writeWK C wm p (wCells v) k else none
 | none => none
theorem storeWK_sound (ok : CodOk C) {wm : WM T} {t : TypeId} {p x : W T} {k : WM T → Option R} {r : R} (h : storeWK C P wm t p x k = some r) :
  ∃ wm', k wm' = some r ∧ ∀ {bs α β m v u}, WSim bs C α β wm m → Rep C α β p v → Rep C α β x u → ∃ m', storeV P m t v u = some m' ∧ WSim bs C α β wm' m' := by
 unfold storeWK at h
 split at h
 ·rename_i i hi
  split at h
  ·rename_i hc
   obtain ⟨wm', h1, h2⟩ := writeWK_sound ok h
   refine ⟨wm', h1, fun S hr hx => ?_⟩
   obtain ⟨h3, h4⟩ := rep_cells hx hc.2
   obtain ⟨m', h5, h6⟩ := h2 S hr h3
   refine ⟨m', ?_, h6⟩
   simp only [storeV, hi]
   rw [if_pos ⟨by rw [← h3.length]; exact hc.1, h4⟩]
   exact h5
  ·cases h
 ·cases h
def zeroCellsW (P : Program) (t : TypeId) : Option (List (W T)) :=
 match P.info? t with
 | some i =>
  match i.zero with
  | some z => if ((z.cells.toList.map wConst0).all (W.cellLike (T := T))) = true then some (z.cells.toList.map wConst0) else none
  | none => none
 | none => none
theorem zeroCellsW_sound {t : TypeId} {ws : List (W T)} (h : zeroCellsW P t = some ws) {α β} : ∃ vs, zeroCellsV P t = some vs ∧ RepL C α β ws vs ∧ ws.all W.cellLike = true ∧ vs.all V.cellLike = true := by
 unfold zeroCellsW at h
 split at h
 ·rename_i i hi
  split at h
  ·rename_i z hz
   split at h
   ·rename_i hc
    injection h with h
    subst h
    have hr : RepL C α β (z.cells.toList.map wConst0) (z.cells.toList.map ofConst0) := repL_const _
    have hv : (z.cells.toList.map ofConst0).all V.cellLike = true := (rep_cells (w := .agg (z.cells.toList.map wConst0)) (v := .agg (z.cells.toList.map ofConst0)) (by simp only [Rep]; exact ⟨_, rfl, hr⟩) hc).2
    refine ⟨_, ?_, hr, hc, hv⟩
    simp only [zeroCellsV, hi, hz]
    rw [if_pos hv]
   ·cases h
  ·cases h
 ·cases h
def zeroW (P : Program) (t : TypeId) : Option (W T) :=
 match P.info? t with
 | some i => i.zero.map wConst
 | none => none
theorem zeroW_sound {t : TypeId} {w : W T} (h : zeroW P t = some w) {α β} : ∃ v, zeroV P t = some v ∧ Rep C α β w v := by
 unfold zeroW at h
 split at h
 ·rename_i i hi
  obtain ⟨z, h1, rfl⟩ := Option.map_eq_some_iff.1 h
  exact ⟨_, by simp only [zeroV, hi, h1]; rfl, rep_const z⟩
 ·cases h
def fillW (place : Nat → Option (Nat × Nat)) (cells : List (W T)) : List (Nat × W T) → Option (List (W T))
 | [] => some cells
 | (i, v) :: rest =>
  match place i with
  | none => none
  | some (off, size) => if (wCells v).length = size ∧ off + size ≤ cells.length ∧ (wCells v).all W.cellLike = true then fillW place (spliceX cells off (wCells v)) rest else none
inductive PRep (C : Cod T) (α : List Nat) (β : Bt) : List (Nat × W T) → List (Nat × V) → Prop
 | nil : PRep C α β [] []
 | cons {i w v ps qs} : Rep C α β w v → PRep C α β ps qs → PRep C α β ((i, w) :: ps) ((i, v) :: qs)
theorem fillW_sound {place : Nat → Option (Nat × Nat)} : ∀ {ps : List (Nat × W T)} {cells ws : List (W T)}, fillW place cells ps = some ws → ∀ {α β vs qs}, RepL C α β cells vs → PRep C α β ps qs → ∃ us, fillV place vs qs = some us ∧ RepL C α β ws us
 | [], cells, ws, h, α, β, vs, qs, hr, hp => by
  cases hp
  simp only [fillW, Option.some.injEq] at h
  subst h
  exact ⟨vs, rfl, hr⟩
 | (i, w) :: ps, cells, ws, h, α, β, vs, qs, hr, hp => by
  cases hp with
  | cons hw hp =>
   simp only [fillW] at h
   split at h
   ·cases h
   ·rename_i off size hpl
    split at h
    ·rename_i hc
     obtain ⟨h3, h4⟩ := rep_cells hw hc.2.2
     obtain ⟨us, h5, h6⟩ := fillW_sound h (splice_rep hr h3 off) hp
     refine ⟨us, ?_, h6⟩
     simp only [fillV, hpl]
     rw [if_pos ⟨by rw [← h3.length]; exact hc.1, by rw [← hr.length]; exact hc.2.1, h4⟩]
     exact h5
    ·cases h
def buildW (P : Program) (t : TypeId) (parts : List (Nat × W T)) : Option (W T) :=
 match zeroW P t, P.underlying t with
 | some (.agg z), some (.struct fields) => if fields.toList.all (fun f => (sizeV P f.type).isSome) = true then (fillW (fieldPlaceV P fields) z parts).map .agg else none
 | some (.agg z), some (.array _ e) =>
  match sizeV P e with
  | some sz => (fillW (fun i => some (i * sz, sz)) z parts).map .agg
  | none => none
 | _, _ => none
theorem buildW_sound {t : TypeId} {ps : List (Nat × W T)} {w : W T} (h : buildW P t ps = some w) {α β qs} (hp : PRep C α β ps qs) : ∃ v, buildV P t qs = some v ∧ Rep C α β w v := by
 unfold buildW at h
 split at h
 ·rename_i z fields hz hu
  split at h
  ·rename_i hf
   obtain ⟨ws, h1, rfl⟩ := Option.map_eq_some_iff.1 h
   obtain ⟨v, h2, h3⟩ := zeroW_sound (C := C) hz (α := α) (β := β)
   simp only [Rep] at h3
   obtain ⟨vs, rfl, h3⟩ := h3
   obtain ⟨us, h4, h5⟩ := fillW_sound h1 h3 hp
   refine ⟨.agg us, ?_, by simp only [Rep]; exact ⟨_, rfl, h5⟩⟩
   simp only [buildV, h2, hu]
   rw [if_pos hf, h4]
   rfl
  ·cases h
 ·rename_i z n e hz hu
  split at h
  ·rename_i sz hsz
   obtain ⟨ws, h1, rfl⟩ := Option.map_eq_some_iff.1 h
   obtain ⟨v, h2, h3⟩ := zeroW_sound (C := C) hz (α := α) (β := β)
   simp only [Rep] at h3
   obtain ⟨vs, rfl, h3⟩ := h3
   obtain ⟨us, h4, h5⟩ := fillW_sound h1 h3 hp
   refine ⟨.agg us, ?_, by simp only [Rep]; exact ⟨_, rfl, h5⟩⟩
   simp only [buildV, h2, hu, hsz, h4]
   rfl
  ·cases h
 ·cases h
def replW (n : Nat) (z : List (W T)) : List (W T) :=
 match n with
 | 0 => []
 | n + 1 => z ++ replW n z
theorem replW_rep {z : List (W T)} {vz : List V} {α β} (h : RepL C α β z vz) : ∀ n, RepL C α β (replW n z) (repl n vz)
 | 0 => RepL.nil
 | n + 1 => h.append (replW_rep h n)
def buildSliceWK (wc : WCfg T) (P : Program) (t : TypeId) (len : Nat) (parts : List (Nat × W T)) : Option (W T) :=
 match P.underlying t with
 | some (.slice e) =>
  match sizeV P e, zeroCellsW P e, wc.kd e with
  | some sz, some z, some kk =>
   if z.length = sz ∧ sz = wc.C.size kk ∧ len * sz ≤ 16777216 then
    match fillW (fun i => some (i * sz, sz)) (replW len z) parts with
    | some ws => if ws.all W.cellLike = true then (packN wc.C kk len ws).map fun l => if len = 0 then .nilsl else .row kk l true else none
    | none => none
   else none
  | _, _, _ => none
 | _ => none
theorem buildSliceWK_sound {wc : WCfg T} (ok : CodOk wc.C) {t : TypeId} {len : Nat} {ps : List (Nat × W T)} {w : W T} (h : buildSliceWK wc P t len ps = some w) {α β qs} (hp : PRep wc.C α β ps qs) :
  ∃ sz cs, buildSliceCells P t len qs = some (sz, cs) ∧ pureL cs = true ∧ Rep wc.C α β w (.ro cs len true) := by
 unfold buildSliceWK at h
 split at h
 ·rename_i e hu
  split at h
  ·rename_i sz z kk hsz hz hk
   split at h
   ·rename_i hc
    split at h
    ·rename_i ws hf
     split at h
     ·rename_i hcl
      obtain ⟨l, h1, rfl⟩ := Option.map_eq_some_iff.1 h
      obtain ⟨vz, h2, h3, _, _⟩ := zeroCellsW_sound (C := wc.C) hz (α := α) (β := β)
      obtain ⟨us, h4, h5⟩ := fillW_sound hf (replW_rep h3 len) hp
      obtain ⟨h6, h7⟩ := packN_sound ok h1 h5
      have hv : us.all V.cellLike = true := (rep_cells (w := .agg ws) (v := .agg us) (by simp only [Rep]; exact ⟨_, rfl, h5⟩) hcl).2
      have hpos := ok.pos kk
      refine ⟨sz, us, ?_, h6.pure ok, ?_⟩
      ·simp only [buildSliceCells, hu, hsz, h2]
       rw [if_pos ⟨by rw [← h3.length]; exact hc.1, by omega, hc.2.2⟩, h4]
       simp only
       rw [if_pos hv]
      ·split
       ·rename_i h0
        have el : l = [] := List.eq_nil_of_length_eq_zero (by rw [h7]; exact h0)
        subst el
        simp only [CRL] at h6
        subst h6
        simp only [Rep, h0]
       ·simp only [Rep]
        exact ⟨us, true, by rw [h7], fun _ => rfl, h6⟩
     ·cases h
    ·cases h
   ·cases h
  ·cases h
 ·cases h
def growK (wc : WCfg T) (wm : WM T) (bytes : Nat) (s : W T) (kk : Nat) (new : List (T kk)) (k : W T × WM T → Option R) : Option R :=
 match s with
 | .nilsl => cnd (decide (new.length * bytes ≤ 140737488355328)) (k (.own kk wm.H.length, { wm with H := wm.H ++ [.rows kk new] })) none
 | .row k' l true =>
  if e : kk = k' then cnd (decide (new.length = 0)) (k (s, wm)) (cnd (decide ((l.length + new.length) * bytes ≤ 140737488355328)) (k (.own k' wm.H.length, { wm with H := wm.H ++ [.rows k' (l ++ e ▸ new)] })) none) else none
 | .own k0 h =>
  match wm.H[h]? with
  | some (.rows k' l) =>
   if e : kk = k' then
    if k' = k0 ∧ wm.lh ≤ h then
     cnd (decide ((l.length + new.length) * bytes ≤ 140737488355328)) (k (.own k' wm.H.length, { wm with H := wm.H.set h .dead ++ [.rows k' (l ++ e ▸ new)] })) none
    else none
   else none
  | _ => none
 | .view k0 h off len =>
  match wm.H[h]? with
  | some (.rows k' l) =>
   if e : kk = k' then
    if k' = k0 ∧ wm.lh ≤ h then
     cnd (decide (off + len + new.length ≤ l.length ∧ (len + new.length) * bytes ≤ 140737488355328)) (k (.view k' h off (len + new.length), { wm with H := wm.H.set h (.rows k' (l.take (off + len) ++ (e ▸ new) ++ l.drop (off + len + new.length))) })) none
    else none
   else none
  | _ => none
 | _ => none
def appendWK (wc : WCfg T) (P : Program) (wm : WM T) (sT : TypeId) (s x : W T) (k : W T × WM T → Option R) : Option R :=
 match P.underlying sT with
 | some (.slice e) =>
  match P.info? e, zeroCellsW (T := T) P e, wc.kd e with
  | some i, some z, some ke =>
   if i.size = wc.C.size ke ∧ z.length = i.size ∧ 0 < i.bytes then
    match x with
    | .nilsl => (match s with
     | .nilsl | .row _ _ _ | .own _ _ | .view _ _ _ _ => k (s, wm)
     | _ => none)
    | .str t => (if i.size = 1 then opK (wc.C.bytes ke t) fun new => growK wc wm i.bytes s ke new k else none)
    | x => contWK wm x fun kk new => if wc.C.size kk = i.size then growK wc wm i.bytes s kk new k else none
   else none
  | _, _, _ => none
 | _ => none
theorem growK_sound {wc : WCfg T} (ok : CodOk wc.C) {wm : WM T} {bytes : Nat} {s : W T} {kk : Nat} {new : List (T kk)} {k : W T × WM T → Option R} {r : R} (h : growK wc wm bytes s kk new k = some r) :
  ∃ w wm', k (w, wm') = some r ∧ ∀ {bs α β m vs sT x cs e i z}, P.underlying sT = some (.slice e) → P.info? e = some i → zeroCellsV P e = some z → i.size = wc.C.size kk → z.length = i.size → bytes = i.bytes → 0 < i.bytes →
   WSim bs wc.C α β wm m → Rep wc.C α β s vs → contents m i.size x = some (new.length, cs) → CRL wc.C kk new cs → Goes wc.C wm wm' w bs α β (appendV P m sT vs x) := by
 have frame : ∀ {m : Mem} {vs : V} {sT e : TypeId} {i} {z : List V} {x : V} {cs : List V}, P.underlying sT = some (.slice e) → P.info? e = some i → zeroCellsV P e = some z → i.size = wc.C.size kk → z.length = i.size →
   contents m i.size x = some (new.length, cs) → CRL wc.C kk new cs → ¬ (cs.all V.cellLike = false ∨ i.size = 0 ∨ z.length ≠ i.size) := by
  intro m vs sT e i z x cs hu hi hz hsz hzl hx hc
  have := hc.cell ok
  have := ok.pos kk
  rintro (h | h | h)
  ·simp_all
  ·omega
  ·exact h hzl
 unfold growK at h
 split at h
 ·
  obtain ⟨h1, h2⟩ := cond_some h
  have h1 := of_decide_eq_true h1
  refine ⟨_, _, h2, ?_⟩
  intro bs α β m vs sT x cs e i z hu hi hz hsz hzl hby hpos S hr hx hc
  simp only [Rep] at hr
  subst hr hby
  unfold appendV
  simp only [hu, hi, hx, hz]
  rw [if_neg (frame (vs := .ro [] 0 true) hu hi hz hsz hzl hx hc)]
  have hlen := hc.length ok
  cases hn : new with
  | nil =>
   subst hn
   simp only [List.length_nil, if_true]
   refine ⟨_, m, α, β ++ [none], rfl, List.prefix_refl _, pre_app _ _, S.pushN ?_, ?_⟩
   ·simp only [EnOk]; exact .inl ⟨by simp, by first | rfl | trivial⟩
   ·simp only [Rep]; exact .inl ⟨by rw [← S.lenH]; simp, by first | rfl | trivial⟩
  | cons y new' =>
   rw [← hn]
   have hne : new.length ≠ 0 := by rw [hn]; simp
   simp only [hne, if_false, Nat.zero_mul, List.length_nil, Nat.zero_add]
   rw [if_pos ⟨trivial, h1, hpos, by simp⟩]
   refine ⟨_, _, α, β ++ [some (m.B.length, 0, new.length)], rfl, List.prefix_refl _, pre_app _ _, S.pushB ?_, ?_⟩
   ·simp only [EnOk]
    refine .inr ⟨m.B.length, 0, cs, by simp, ?_, hc⟩
    simp [hc.pure ok, hsz]
   ·simp only [Rep]
    exact .inr ⟨m.B.length, 0, new.length, by rw [← S.lenH]; simp, by first | rfl | trivial⟩
 ·
  rename_i k' l
  split at h
  ·rename_i e
   subst e
   rcases cond_cases h with ⟨h0, h2⟩ | ⟨h0, h⟩
   ·have h0 := of_decide_eq_true h0
    refine ⟨_, _, h2, ?_⟩
    intro bs α β m vs sT x cs e i z hu hi hz hsz hzl hby hpos S hr hx hc
    have hr0 := hr
    simp only [Rep] at hr
    obtain ⟨c0, fl, rfl, hfl, hc0⟩ := hr
    have hfl := hfl (by first | rfl | trivial)
    subst hfl
    unfold appendV
    simp only [hu, hi, hx, hz]
    rw [if_neg (frame (vs := .ro c0 l.length true) hu hi hz hsz hzl hx hc)]
    simp only [h0, if_true]
    exact ⟨_, m, α, β, rfl, List.prefix_refl _, List.prefix_refl _, S, hr0⟩
   ·have h0 := of_decide_eq_false h0
    obtain ⟨h1, h2⟩ := cond_some h
    have h1 := of_decide_eq_true h1
    refine ⟨_, _, h2, ?_⟩
    intro bs α β m vs sT x cs e i z hu hi hz hsz hzl hby hpos S hr hx hc
    simp only [Rep] at hr
    obtain ⟨c0, fl, rfl, hfl, hc0⟩ := hr
    have hfl := hfl (by first | rfl | trivial)
    subst hfl hby
    unfold appendV
    simp only [hu, hi, hx, hz]
    rw [if_neg (frame (vs := .ro c0 l.length true) hu hi hz hsz hzl hx hc)]
    simp only [h0, if_false]
    rw [if_pos ⟨by rw [hsz]; exact (hc0.length ok).symm, h1, hpos, hc0.cell ok⟩]
    refine ⟨_, _, α, β ++ [some (m.B.length, 0, l.length + new.length)], rfl, List.prefix_refl _, pre_app _ _, S.pushB ?_, ?_⟩
    ·simp only [EnOk]
     refine .inr ⟨m.B.length, 0, c0 ++ cs, by simp, ?_, hc0.append hc⟩
     simp [hc.pure ok, hsz]
    ·simp only [Rep]
     exact .inr ⟨m.B.length, 0, l.length + new.length, by rw [← S.lenH]; simp, by first | rfl | trivial⟩
  ·cases h
 ·rename_i k0 hh
  split at h
  ·rename_i k' l he
   split at h
   ·rename_i e
    subst e
    split at h
    ·rename_i hk
     obtain ⟨rfl, hlh⟩ := hk
     obtain ⟨h1, h2⟩ := cond_some h
     have h1 := of_decide_eq_true h1
     refine ⟨_, _, h2, ?_⟩
     intro bs α β m vs sT x cs e i z hu hi hz hsz hzl hby hpos S hr hx hc
     subst hby
     simp only [Rep] at hr
     have hlen := hc.length ok
     have hdead : (wm.H.set hh .dead).length = β.length := by simp [S.lenH]
     unfold appendV
     simp only [hu, hi, hx, hz]
     rcases S.rows he with ⟨hb', rfl⟩ | ⟨b', ver', ccs, hb', hB, hcr⟩
     ·rcases hr with ⟨hb, rfl⟩ | ⟨b, ver, nn, hb, rfl⟩
      ·rw [if_neg (frame (vs := .ro [] 0 true) hu hi hz hsz hzl hx hc)]
       cases hn : new with
       | nil =>
        subst hn
        simp only [List.length_nil, if_true]
        refine ⟨_, m, α, β ++ [none], rfl, List.prefix_refl _, pre_app _ _, ?_, ?_⟩
        ·exact (S.kill hh).pushN (by simp only [EnOk]; exact .inl ⟨by simp, by first | rfl | trivial⟩)
        ·simp only [Rep]; exact .inl ⟨by rw [← S.lenH]; simp, by first | rfl | trivial⟩
       | cons y new' =>
        rw [← hn]
        have hne : new.length ≠ 0 := by rw [hn]; simp
        simp only [hne, if_false, Nat.zero_mul, List.length_nil, Nat.zero_add]
        simp only [List.length_nil, Nat.zero_add] at h1
        rw [if_pos ⟨trivial, h1, hpos, by simp⟩]
        refine ⟨_, _, α, β ++ [some (m.B.length, 0, new.length)], rfl, List.prefix_refl _, pre_app _ _, S.regrowN ?_, ?_⟩
        ·simp only [EnOk]
         refine .inr ⟨m.B.length, 0, cs, by simp, ?_, by simpa using hc⟩
         simp [hc.pure ok, hsz]
        ·simp only [Rep]
         exact .inr ⟨m.B.length, 0, new.length, by rw [← S.lenH]; simp, by first | rfl | trivial⟩
      ·rw [hb] at hb'; cases hb'
     ·rcases hr with ⟨hb, _⟩ | ⟨b, ver, nn, hb, rfl⟩
      ·rw [hb] at hb'; cases hb'
      ·have hb0 := hb
       rw [hb] at hb'
       injection hb' with hb'; injection hb' with hb'
       simp only [Prod.mk.injEq] at hb'
       obtain ⟨rfl, rfl, rfl⟩ := hb'
       have hcl := hcr.length ok
       have hlb : m.lb ≤ b := S.lb _ _ _ _ _ he rfl hb0 hlh
       rw [if_neg (frame (vs := .sl b ver 0 l.length) hu hi hz hsz hzl hx hc)]
       cases hn : new with
       | nil =>
        subst hn
        simp only [List.length_nil, if_true]
        refine ⟨_, m, α, β ++ [some (b, ver, l.length)], rfl, List.prefix_refl _, pre_app _ _, S.renew he rfl hb0 hlh hB ?_, ?_⟩
        ·simp only [EnOk, List.append_nil]
         exact .inr ⟨b, ver, ccs, by simp, hB, hcr⟩
        ·simp only [Rep]
         exact .inr ⟨b, ver, l.length, by rw [← S.lenH]; simp, by first | rfl | trivial⟩
       | cons y new' =>
        rw [← hn]
        have hne : new.length ≠ 0 := by rw [hn]; simp
        have hnp : 0 < new.length := by omega
        have hsp := ok.pos kk
        simp only [hne, if_false, hB]
        rw [if_pos ⟨trivial, hsz.symm, hlb, h1, hpos⟩]
        rw [if_neg (by rw [hcl, Nat.zero_add, Nat.add_mul]; have := Nat.mul_pos hnp hsp; omega), if_pos ⟨by first | rfl | trivial, by rw [hcl]⟩]
        refine ⟨_, _, α, β ++ [some (b, ver + 1, l.length + new.length)], rfl, List.prefix_refl _, pre_app _ _, S.regrow he rfl hb0 hlh ?_, ?_⟩
        ·simp only [EnOk]
         refine .inr ⟨b, ver + 1, ccs ++ cs, by simp, ?_, hcr.append hc⟩
         try simp only
         rw [List.getElem?_set, if_pos rfl, if_pos (S.ltB _ _ _ _ hb0), hc.pure ok]
         rfl
        ·simp only [Rep]
         exact .inr ⟨b, ver + 1, l.length + new.length, by rw [← S.lenH]; simp, by first | rfl | trivial⟩
    ·cases h
   ·cases h
  ·cases h
 ·rename_i k0 hh off len
  split at h
  ·rename_i k' l he
   split at h
   ·rename_i e
    subst e
    split at h
    ·rename_i hk
     obtain ⟨rfl, hlh⟩ := hk
     obtain ⟨h1, h2⟩ := cond_some h
     obtain ⟨hb1, hb2⟩ := of_decide_eq_true h1
     refine ⟨_, _, h2, ?_⟩
     intro bs α β m vs sT x cs e i z hu hi hz hsz hzl hby hpos S hr hx hc
     subst hby
     have hr0 := hr
     simp only [Rep] at hr
     have hlen := hc.length ok
     unfold appendV
     simp only [hu, hi, hx, hz]
     have same : new = [] → l.take (off + len) ++ new ++ l.drop (off + len + new.length) = l := by
      intro hn; subst hn; simp
     rcases S.rows he with ⟨hb', rfl⟩ | ⟨b', ver', ccs, hb', hB, hcr⟩
     ·have hn : new = [] := by
       cases new with
       | nil => rfl
       | cons y n' => simp at hb1
      rcases hr with ⟨hb, rfl, rfl, fl, rfl⟩ | ⟨b, ver, nn, hb, rfl⟩
      ·rw [if_neg (frame (vs := .ro [] 0 fl) hu hi hz hsz hzl hx hc)]
       subst hn
       simp only [List.length_nil, if_true]
       refine ⟨_, m, α, β, rfl, List.prefix_refl _, List.prefix_refl _, ?_, hr0⟩
       have e0 : wm.H.set hh (En.rows kk []) = wm.H := set_self he
       simp only [List.take_nil, List.drop_nil, List.append_nil, List.nil_append]
       rw [e0]
       exact S
      ·rw [hb] at hb'; cases hb'
     ·rcases hr with ⟨hb, _⟩ | ⟨b, ver, nn, hb, rfl⟩
      ·rw [hb] at hb'; cases hb'
      ·have hb0 := hb
       rw [hb] at hb'
       injection hb' with hb'; injection hb' with hb'
       simp only [Prod.mk.injEq] at hb'
       obtain ⟨rfl, rfl, rfl⟩ := hb'
       have hcl := hcr.length ok
       have hlb : m.lb ≤ b := S.lb _ _ _ _ _ he rfl hb0 hlh
       rw [if_neg (frame (vs := .sl b ver (off * wc.C.size kk) len) hu hi hz hsz hzl hx hc)]
       by_cases hn0 : new.length = 0
       ·have hn : new = [] := List.length_eq_zero_iff.1 hn0
        rw [if_pos hn0]
        refine ⟨_, m, α, β, rfl, List.prefix_refl _, List.prefix_refl _, ?_, ?_⟩
        ·have e0 : wm.H.set hh (En.rows kk l) = wm.H := set_self he
         rw [same hn, e0]
         exact S
        ·rw [hn0, Nat.add_zero]
         exact hr0
       ·simp only [hn0, if_false, hB]
        rw [if_pos ⟨trivial, hsz.symm, hlb, hb2, hpos⟩]
        have e1 : off * wc.C.size kk + (len + new.length) * wc.C.size kk = (off + len + new.length) * wc.C.size kk := by rw [← Nat.add_mul, Nat.add_assoc]
        rw [if_pos (by rw [e1, hcl]; exact Nat.mul_le_mul_right _ hb1)]
        have e2 : off * wc.C.size kk + len * wc.C.size kk = (off + len) * wc.C.size kk := by rw [← Nat.add_mul]
        rw [e2]
        have hcr' : CRL wc.C kk (l.take (off + len) ++ new ++ l.drop (off + len + new.length)) (splice ccs ((off + len) * wc.C.size kk) cs) := by
         unfold splice
         have := ((hcr.take ok (off + len)).append hc).append (hcr.drop ok (off + len + new.length))
         rw [show (off + len) * wc.C.size kk + cs.length = (off + len + new.length) * wc.C.size kk by rw [hlen, ← Nat.add_mul]]
         exact this
        have hll : (l.take (off + len) ++ new ++ l.drop (off + len + new.length)).length = l.length := by simp; omega
        refine ⟨_, _, α, β, rfl, List.prefix_refl _, List.prefix_refl _, S.setB he rfl hb0 ?_, ?_⟩
        ·simp only [EnOk]
         refine .inr ⟨b, ver, _, by rw [hll]; exact hb0, ?_, hcr'⟩
         rw [List.getElem?_set, if_pos rfl, if_pos (S.ltB _ _ _ _ hb0), hc.pure ok]
         rfl
        ·simp only [Rep]
         exact .inr ⟨b, ver, _, hb0, rfl⟩
    ·cases h
   ·cases h
  ·cases h
 ·cases h
theorem appendWK_sound {wc : WCfg T} (ok : CodOk wc.C) {wm : WM T} {sT : TypeId} {s x : W T} {k : W T × WM T → Option R} {r : R} (h : appendWK wc P wm sT s x k = some r) :
  ∃ w wm', k (w, wm') = some r ∧ ∀ {bs α β m vs vx}, WSim bs wc.C α β wm m → Rep wc.C α β s vs → Rep wc.C α β x vx → Goes wc.C wm wm' w bs α β (appendV P m sT vs vx) := by
 unfold appendWK at h
 split at h
 ·rename_i e hu
  split at h
  ·rename_i i z ke hi hz hke
   split at h
   ·rename_i hc
    obtain ⟨hc1, hc2, hc3⟩ := hc
    have zv := fun {α β} => zeroCellsW_sound (C := wc.C) hz (α := α) (β := β)
    split at h
    ·
     have key : ∀ {bs α β m vs vx}, WSim bs wc.C α β wm m → Rep wc.C α β s vs → Rep wc.C α β (.nilsl : W T) vx → (∃ c n f, vs = .ro c n f) ∨ (∃ b ver o n, vs = .sl b ver o n) → Goes wc.C wm wm s bs α β (appendV P m sT vs vx) := by
      intro bs α β m vs vx S hr hx hv
      simp only [Rep] at hx
      subst hx
      obtain ⟨vz, h2, h3, _, _⟩ := zv (α := α) (β := β)
      refine ⟨vs, m, α, β, ?_, List.prefix_refl _, List.prefix_refl _, S, hr⟩
      unfold appendV
      simp only [hu, hi, contents, Nat.zero_mul, List.length_nil, if_true, h2]
      rw [if_neg (by
       rintro (h | h | h)
       ·simp at h
       ·have := ok.pos ke; omega
       ·exact h (by rw [← h3.length]; exact hc2))]
      rcases hv with ⟨_, _, _, rfl⟩ | ⟨_, _, _, _, rfl⟩ <;> rfl
     split at h
     ·refine ⟨_, _, h, fun S hr hx => key S hr hx ?_⟩
      simp only [Rep] at hr; exact .inl ⟨_, _, _, hr⟩
     ·refine ⟨_, _, h, fun S hr hx => key S hr hx ?_⟩
      simp only [Rep] at hr; obtain ⟨_, _, rfl, _⟩ := hr; exact .inl ⟨_, _, _, rfl⟩
     ·refine ⟨_, _, h, fun S hr hx => key S hr hx ?_⟩
      simp only [Rep] at hr; rcases hr with ⟨_, rfl⟩ | ⟨_, _, _, _, rfl⟩
      ·exact .inl ⟨_, _, _, rfl⟩
      ·exact .inr ⟨_, _, _, _, rfl⟩
     ·refine ⟨_, _, h, fun S hr hx => key S hr hx ?_⟩
      simp only [Rep] at hr; rcases hr with ⟨_, _, _, _, rfl⟩ | ⟨_, _, _, _, rfl⟩
      ·exact .inl ⟨_, _, _, rfl⟩
      ·exact .inr ⟨_, _, _, _, rfl⟩
     ·cases h
    ·rename_i t
     split at h
     ·rename_i h1'
      obtain ⟨new, h1, h2⟩ := opK_some h
      obtain ⟨h5, h6, h7⟩ := ok.bytes _ _ _ h1
      obtain ⟨w, wm', h3, h4⟩ := growK_sound ok h2
      refine ⟨w, wm', h3, fun {bs α β m vs vx} S hr hx => ?_⟩
      simp only [Rep] at hx
      subst hx
      obtain ⟨vz, h8, h9, _, _⟩ := zv (α := α) (β := β)
      refine h4 hu hi h8 hc1 (by rw [← h9.length]; exact hc2) rfl hc3 S hr ?_ h6
      simp only [contents, h1', if_true, size_mk, data_mk, h5]
     ·cases h
    ·rename_i hx1 hx2
     obtain ⟨kk, new, h1, h2⟩ := contWK_sound ok h
     split at h1
     ·rename_i hsz
      obtain ⟨w, wm', h3, h4⟩ := growK_sound ok h1
      refine ⟨w, wm', h3, fun {bs α β m vs vx} S hr hx => ?_⟩
      obtain ⟨cs, h5, h6, _⟩ := h2 S hx
      obtain ⟨vz, h8, h9, _, _⟩ := zv (α := α) (β := β)
      exact h4 hu hi h8 hsz.symm (by rw [← h9.length]; exact hc2) rfl hc3 S hr (by rw [← hsz]; exact h5) h6
     ·cases h1
   ·cases h
  ·cases h
 ·cases h
theorem CRL.replicate {k : Nat} {x : T k} {cs : List V} (h : C.CR k x cs) : ∀ n, CRL C k (List.replicate n x) (repl n cs)
 | 0 => rfl
 | n + 1 => ⟨cs, repl n cs, rfl, h, CRL.replicate h n⟩
def makeSliceWK (wc : WCfg T) (P : Program) (wm : WM T) (t : TypeId) (l c : W T) (k : W T × WM T → Option R) : Option R :=
 match P.underlying t, l, c with
 | some (.slice e), .int .i64 l, .int .i64 c =>
  match P.info? e, zeroCellsW P e, wc.kd e with
  | some i, some z, some kk =>
   if z.length = i.size ∧ i.size = wc.C.size kk ∧ i.bytes ≤ 140737488355328 then
    match wc.C.inn kk z with
    | some x => cnd (decide (0 ≤ l ∧ l = c ∧ l * i.bytes ≤ 140737488355328 ∧ l ≤ 140737488355328)) (k (.own kk wm.H.length, { wm with H := wm.H ++ [.rows kk (List.replicate l.toNat x)] })) none
    | none => none
   else none
  | _, _, _ => none
 | _, _, _ => none
theorem makeSliceWK_sound {wc : WCfg T} (ok : CodOk wc.C) {wm : WM T} {t : TypeId} {l c : W T} {k : W T × WM T → Option R} {r : R} (h : makeSliceWK wc P wm t l c k = some r) :
  ∃ w wm', k (w, wm') = some r ∧ ∀ {bs α β m vl vc}, WSim bs wc.C α β wm m → Rep wc.C α β l vl → Rep wc.C α β c vc → Goes wc.C wm wm' w bs α β (makeSliceV P m t vl vc) := by
 unfold makeSliceWK at h
 split at h
 ·rename_i e l c hu
  split at h
  ·rename_i i z kk hi hz hk
   split at h
   ·rename_i hc
    obtain ⟨hc1, hc2, hc3⟩ := hc
    split at h
    ·rename_i x hx
     obtain ⟨h1, h2⟩ := cond_some h
     obtain ⟨h3, h4, h5, h6⟩ := of_decide_eq_true h1
     refine ⟨_, _, h2, fun {bs α β m vl vc} S hl hc => ?_⟩
     simp only [Rep] at hl hc
     subst hl hc
     obtain ⟨vz, h8, h9, _, _⟩ := zeroCellsW_sound (C := wc.C) hz (α := α) (β := β)
     have hcr := inn_rep ok hx h9
     have hpos := ok.pos kk
     refine ⟨.sl m.B.length 0 0 l.toNat, _, α, β ++ [some (m.B.length, 0, l.toNat)], ?_, List.prefix_refl _, pre_app _ _, S.pushB (hi' := m.hi) (bb := .cells i.size 0 (pureL vz) false (repl l.toNat vz)) ?_, ?_⟩
     ·simp only [makeSliceV, hu, hi, h8]
      rw [if_pos ⟨h3, h4, h5, h6, by rw [← h9.length]; exact hc1, by omega, hc3⟩]
     ·simp only [EnOk]
      refine .inr ⟨m.B.length, 0, repl l.toNat vz, by simp, ?_, CRL.replicate hcr _⟩
      simp [ok.pure _ _ _ hcr, hc2]
     ·simp only [Rep]
      exact .inr ⟨m.B.length, 0, l.toNat, by rw [← S.lenH]; simp, rfl⟩
    ·cases h
   ·cases h
  ·cases h
 ·cases h
def appendMakeWK (wc : WCfg T) (P : Program) (wm : WM T) (sT : TypeId) (s x : W T) (k : W T × WM T → Option R) : Option R :=
 match P.underlying sT, s, x with
 | some (.slice e), .nilsl, .int .i64 n =>
  match P.info? e, zeroCellsW P e, wc.kd e with
  | some i, some z, some kk =>
   if z.length = i.size ∧ i.size = wc.C.size kk ∧ 0 < i.bytes then
    match wc.C.inn kk z with
    | some x => cnd (decide (0 ≤ n ∧ n * i.bytes ≤ 140737488355328)) (k (.own kk wm.H.length, { wm with H := wm.H ++ [.rows kk (List.replicate n.toNat x)] })) none
    | none => none
   else none
  | _, _, _ => none
 | _, _, _ => none
theorem appendMakeWK_sound {wc : WCfg T} (ok : CodOk wc.C) {wm : WM T} {sT : TypeId} {s x : W T} {k : W T × WM T → Option R} {r : R} (h : appendMakeWK wc P wm sT s x k = some r) :
  ∃ w wm', k (w, wm') = some r ∧ ∀ {bs α β m vs vx}, WSim bs wc.C α β wm m → Rep wc.C α β s vs → Rep wc.C α β x vx → Goes wc.C wm wm' w bs α β (appendMakeV P m sT vs vx) := by
 unfold appendMakeWK at h
 split at h
 ·rename_i e n hu
  split at h
  ·rename_i i z kk hi hz hk
   split at h
   ·rename_i hc
    obtain ⟨hc1, hc2, hc3⟩ := hc
    split at h
    ·rename_i x hx
     obtain ⟨h1, h2⟩ := cond_some h
     obtain ⟨h3, h4⟩ := of_decide_eq_true h1
     refine ⟨_, _, h2, fun {bs α β m vl vc} S hl hc => ?_⟩
     simp only [Rep] at hl hc
     subst hl hc
     obtain ⟨vz, h8, h9, _, _⟩ := zeroCellsW_sound (C := wc.C) hz (α := α) (β := β)
     have hcr := inn_rep ok hx h9
     have hpos := ok.pos kk
     by_cases h0 : n = 0
     ·subst h0
      refine ⟨.ro [] 0 true, m, α, β ++ [none], ?_, List.prefix_refl _, pre_app _ _, S.pushN ?_, ?_⟩
      ·simp only [appendMakeV, hu, hi, h8]
       rw [if_pos ⟨h3, h4, hc3, by omega, by rw [← h9.length]; exact hc1⟩]
       rfl
      ·simp only [EnOk]; exact .inl ⟨by simp, by simp⟩
      ·simp only [Rep]; exact .inl ⟨by rw [← S.lenH]; simp, by trivial⟩
     ·refine ⟨.sl m.B.length 0 0 n.toNat, _, α, β ++ [some (m.B.length, 0, n.toNat)], ?_, List.prefix_refl _, pre_app _ _, S.pushB (hi' := m.hi) (bb := .cells i.size 0 (pureL vz) false (repl n.toNat vz)) ?_, ?_⟩
      ·simp only [appendMakeV, hu, hi, h8]
       rw [if_pos ⟨h3, h4, hc3, by omega, by rw [← h9.length]; exact hc1⟩, if_neg h0]
      ·simp only [EnOk]
       refine .inr ⟨m.B.length, 0, repl n.toNat vz, by simp, ?_, CRL.replicate hcr _⟩
       simp [ok.pure _ _ _ hcr, hc2]
      ·simp only [Rep]
       exact .inr ⟨m.B.length, 0, n.toNat, by rw [← S.lenH]; simp, rfl⟩
    ·cases h
   ·cases h
  ·cases h
 ·cases h
end Go.Proofs.YtpdgbhjhodhkiaaGreatDoor.AI
namespace Go.Proofs.YtpdgbhjhodhkiaaGreatDoor.AI
open Go
variable {T : Nat → Type} {C : Cod T} {R : Type} {P : Program}
section
variable {X Y : Type}
def mget (q : X → X → Bool) : List (X × Y) → X → Option Y
 | [], _ => none
 | (a, y) :: es, x => bif q x a then some y else mget q es x
def mset (q : X → X → Bool) : List (X × Y) → X → Y → List (X × Y)
 | [], x, y => [(x, y)]
 | (a, z) :: es, x, y => bif q x a then (x, y) :: es else (a, z) :: mset q es x y
def mdel (q : X → X → Bool) : List (X × Y) → X → List (X × Y)
 | [], _ => []
 | (a, z) :: es, x => bif q x a then es else (a, z) :: mdel q es x
end
theorem find_rep (ok : CodOk C) {kk kv : Nat} {d : TypeDesc} (hk : C.kok P d kk = true) {x : T kk} {u : V} (hx : VR C kk x u) : ∀ {es : List (T kk × T kv)} {es' : List (V × V)} (i : Nat), MapR C kk kv es es' →
  (findV P d u es' i = some none ∧ mget (C.keq kk) es x = none ∧ (∀ y v, VR C kv y v → MapR C kk kv (mset (C.keq kk) es x y) (es' ++ [(u, v)])) ∧ mdel (C.keq kk) es x = es) ∨
  (∃ j v y, findV P d u es' i = some (some (i + j, v)) ∧ mget (C.keq kk) es x = some y ∧ VR C kv y v ∧ (∀ y' v', VR C kv y' v' → MapR C kk kv (mset (C.keq kk) es x y') (es'.modify j fun _ => (u, v'))) ∧ MapR C kk kv (mdel (C.keq kk) es x) (es'.eraseIdx j))
 | [], es', i, h => by
  simp only [MapR] at h
  subst h
  exact .inl ⟨rfl, rfl, fun y v hy => ⟨u, v, [], rfl, hx, hy, rfl⟩, rfl⟩
 | (a, z) :: es, es', i, h => by
  simp only [MapR] at h
  obtain ⟨ua, vz, es1, rfl, ha, hz, h⟩ := h
  obtain ⟨cx, hx1, hx2⟩ := hx
  obtain ⟨ca, ha1, ha2⟩ := ha
  have hq := (ok.key P d kk x a cx ca hk hx1 ha1).1
  rw [← hx2, ← ha2] at hq
  cases hb : C.keq kk x a with
  | true =>
   right
   refine ⟨0, vz, z, ?_, by simp only [mget, hb, cond_true], hz, fun y' v' hy => ?_, ?_⟩
   ·simp only [findV, hq, hb, Nat.add_zero]
   ·simp only [mset, hb, cond_true]
    exact ⟨u, v', es1, by simp [List.modify], ⟨cx, hx1, hx2⟩, hy, h⟩
   ·simp only [mdel, hb, cond_true, List.eraseIdx_cons_zero]
    exact h
  | false =>
   rcases find_rep ok hk ⟨cx, hx1, hx2⟩ (i + 1) h with ⟨h1, h2, h3, h4⟩ | ⟨j, v, y, h1, h2, h3, h4, h5⟩
   ·left
    refine ⟨by simp only [findV, hq, hb]; exact h1, by simp only [mget, hb, cond_false]; exact h2, fun y v hy => ?_, by simp only [mdel, hb, cond_false, h4]⟩
    simp only [mset, hb, cond_false]
    exact ⟨ua, vz, es1 ++ [(u, v)], rfl, ⟨ca, ha1, ha2⟩, hz, h3 y v hy⟩
   ·right
    refine ⟨j + 1, v, y, ?_, by simp only [mget, hb, cond_false]; exact h2, h3, fun y' v' hy => ?_, ?_⟩
    ·simp only [findV, hq, hb]
     rw [h1, show i + 1 + j = i + (j + 1) by omega]
    ·simp only [mset, hb, cond_false]
     exact ⟨ua, vz, es1.modify j fun _ => (u, v'), by simp [List.modify], ⟨ca, ha1, ha2⟩, hz, h4 y' v' hy⟩
    ·simp only [mdel, hb, cond_false, List.eraseIdx_cons_succ]
     exact ⟨ua, vz, es1.eraseIdx j, rfl, ⟨ca, ha1, ha2⟩, hz, h5⟩
def keyOkW (P : Program) : TypeDesc → W T → Bool
 | .int k, .int k' _ => k == k'
 | .string, .str _ => true
 | .bool, .bool _ => true
 | _, _ => false
theorem keyOkW_sound {d : TypeDesc} {w : W T} (h : keyOkW P d w = true) {α β v} (hr : Rep C α β w v) : keyOk P d v = true := by
 unfold keyOkW at h
 split at h
 ·simp only [Rep] at hr; subst hr; exact h
 ·simp only [Rep] at hr; subst hr; rfl
 ·simp only [Rep] at hr; subst hr; rfl
 ·cases h
def lookWK (wc : WCfg T) (P : Program) (wm : WM T) (t : TypeId) (x key : W T) (ok : Bool) (k : W T → Option R) : Option R :=
 match P.underlying t with
 | some (.map kt et) =>
  match P.underlying kt, zeroW (T := T) P et, x with
  | some d, some z, .nilm => if keyOkW P d key = true then k (if ok then .tup [z, .bool false] else z) else none
  | some d, some z, .map h =>
   match wm.H[h]? with
   | some (.map kk kv es) =>
    if wc.C.kok P d kk = true then
     opK (inV wc.C kk key) fun xk => opK (inV wc.C kv z) fun zy =>
      k (if ok then .tup [outV wc.C kv ((mget (wc.C.keq kk) es xk).getD zy), .bool (mget (wc.C.keq kk) es xk).isSome] else outV wc.C kv ((mget (wc.C.keq kk) es xk).getD zy))
    else none
   | _ => none
  | _, _, _ => none
 | _ => none
theorem lookWK_sound {wc : WCfg T} (okc : CodOk wc.C) {wm : WM T} {t : TypeId} {x key : W T} {ok : Bool} {k : W T → Option R} {r : R} (h : lookWK wc P wm t x key ok k = some r) :
  ∃ w, k w = some r ∧ ∀ {bs α β m vx vk}, WSim bs wc.C α β wm m → Rep wc.C α β x vx → Rep wc.C α β key vk → ∃ u, lookupV P m t vx vk ok = some u ∧ Rep wc.C α β w u := by
 unfold lookWK at h
 split at h
 ·rename_i kt et hu
  split at h
  ·rename_i d z hd hz
   split at h
   ·rename_i hk
    refine ⟨_, h, fun {bs α β m vx vk} S hx hk' => ?_⟩
    simp only [Rep] at hx
    subst hx
    obtain ⟨vz, h1, h2⟩ := zeroW_sound (C := wc.C) hz (α := α) (β := β)
    have h3 := keyOkW_sound hk hk'
    refine ⟨if ok then .tup [vz, .bool false] else vz, ?_, ?_⟩
    ·simp only [lookupV, hu, hd, h1, findV]
     rw [if_neg (by rw [h3]; simp)]
    ·cases ok
     ·exact h2
     ·simp only [if_true, Rep]
      exact ⟨_, rfl, RepL.cons h2 (RepL.cons (by simp only [Rep]) RepL.nil)⟩
   ·cases h
  ·rename_i d z hh hd hz
   split at h
   ·rename_i kk kv es he
    split at h
    ·rename_i hok
     obtain ⟨xk, h1, h⟩ := opK_some h
     obtain ⟨zy, h2, h⟩ := opK_some h
     refine ⟨_, h, fun {bs α β m vx vk} S hx hk' => ?_⟩
     simp only [Rep] at hx
     obtain ⟨b, ver, n, hb, rfl⟩ := hx
     obtain ⟨vz, h3, h4⟩ := zeroW_sound (C := wc.C) hz (α := α) (β := β)
     have hvz := inV_rep okc h2 h4
     have hvk := inV_rep okc h1 hk'
     have hE := S.H _ _ he
     simp only [EnOk] at hE
     obtain ⟨b', ver', n', es', hb', hB, hM⟩ := hE
     rw [hb] at hb'
     injection hb' with hb'; injection hb' with hb'
     simp only [Prod.mk.injEq] at hb'
     obtain ⟨rfl, rfl, rfl⟩ := hb'
     have hko : keyOk P d vk = true := by
      obtain ⟨cx, hx1, hx2⟩ := hvk
      rw [hx2]; exact (okc.key P d kk xk xk cx cx hok hx1 hx1).2
     rcases find_rep okc hok hvk 0 hM with ⟨f1, f2, _, _⟩ | ⟨j, v, y, f1, f2, f3, _, _⟩
     ·refine ⟨if ok then .tup [vz, .bool false] else vz, ?_, ?_⟩
      ·simp only [lookupV, hu, hd, h3, hB, f1]
       rw [if_neg (by rw [hko]; simp)]
      ·rw [f2]
       cases ok
       ·exact outV_rep okc hvz
       ·simp only [if_true, Rep]
        exact ⟨_, rfl, RepL.cons (outV_rep okc hvz) (RepL.cons (by simp only [Rep]; rfl) RepL.nil)⟩
     ·refine ⟨if ok then .tup [v, .bool true] else v, ?_, ?_⟩
      ·simp only [lookupV, hu, hd, h3, hB, f1]
       rw [if_neg (by rw [hko]; simp)]
      ·rw [f2]
       cases ok
       ·exact outV_rep okc f3
       ·simp only [if_true, Rep]
        exact ⟨_, rfl, RepL.cons (outV_rep okc f3) (RepL.cons (by simp only [Rep]; rfl) RepL.nil)⟩
    ·cases h
   ·cases h
  ·cases h
 ·cases h
def updWK (wc : WCfg T) (P : Program) (wm : WM T) (t : TypeId) (x key v : W T) (k : WM T → Option R) : Option R :=
 match P.underlying t, x with
 | some (.map kt _), .map h =>
  match P.underlying kt, wm.H[h]? with
  | some d, some (.map kk kv es) =>
   if wc.C.kok P d kk = true ∧ wm.lh ≤ h then
    opK (inV wc.C kk key) fun xk => opK (inV wc.C kv v) fun y => k { wm with H := wm.H.set h (.map kk kv (mset (wc.C.keq kk) es xk y)) }
   else none
  | _, _ => none
 | _, _ => none
theorem updWK_sound {wc : WCfg T} (okc : CodOk wc.C) {wm : WM T} {t : TypeId} {x key v : W T} {k : WM T → Option R} {r : R} (h : updWK wc P wm t x key v k = some r) :
  ∃ wm', k wm' = some r ∧ ∀ {bs α β m vx vk vv}, WSim bs wc.C α β wm m → Rep wc.C α β x vx → Rep wc.C α β key vk → Rep wc.C α β v vv → ∃ m', updateV P m t vx vk vv = some m' ∧ WSim bs wc.C α β wm' m' := by
 unfold updWK at h
 split at h
 ·rename_i kt et hh hu
  split at h
  ·rename_i d kk kv es hd he
   split at h
   ·rename_i hok
    obtain ⟨xk, h1, h⟩ := opK_some h
    obtain ⟨y, h2, h⟩ := opK_some h
    refine ⟨_, h, fun {bs α β m vx vk vv} S hx hk' hv => ?_⟩
    simp only [Rep] at hx
    obtain ⟨b, ver, n, hb, rfl⟩ := hx
    have hvv := inV_rep okc h2 hv
    have hvk := inV_rep okc h1 hk'
    have hE := S.H _ _ he
    simp only [EnOk] at hE
    obtain ⟨b', ver', n', es', hb', hB, hM⟩ := hE
    have hb0 := hb
    rw [hb] at hb'
    injection hb' with hb'; injection hb' with hb'
    simp only [Prod.mk.injEq] at hb'
    obtain ⟨rfl, rfl, rfl⟩ := hb'
    have hlb := S.lb _ _ _ _ _ he rfl hb0 hok.2
    have hko : keyOk P d vk = true := by
     obtain ⟨cx, hx1, hx2⟩ := hvk
     rw [hx2]; exact (okc.key P d kk xk xk cx cx hok.1 hx1 hx1).2
    rcases find_rep okc hok.1 hvk 0 hM with ⟨f1, f2, f3, _⟩ | ⟨j, v', y', f1, f2, _, f3, _⟩
    ·refine ⟨_, ?_, S.setB (hi' := max m.hi (V.maxA vv)) he rfl hb0 (bb := .map (es' ++ [(vk, vv)])) ?_⟩
     ·simp only [updateV, hu, hd, hB, f1]
      rw [if_pos ⟨hlb, hko⟩]
     ·simp only [EnOk]
      exact ⟨b, ver, n, _, hb0, by simp [S.ltB _ _ _ _ hb0], f3 _ _ hvv⟩
    ·rw [Nat.zero_add] at f1
     refine ⟨_, ?_, S.setB (hi' := max m.hi (V.maxA vv)) he rfl hb0 (bb := .map (es'.modify j fun _ => (vk, vv))) ?_⟩
     ·simp only [updateV, hu, hd, hB, f1]
      rw [if_pos ⟨hlb, hko⟩]
     ·simp only [EnOk]
      exact ⟨b, ver, n, _, hb0, by simp [S.ltB _ _ _ _ hb0], f3 _ _ hvv⟩
   ·cases h
  ·cases h
 ·cases h
def delWK (wc : WCfg T) (P : Program) (wm : WM T) (t : TypeId) (x key : W T) (k : WM T → Option R) : Option R :=
 match P.underlying t, x with
 | some (.map kt _), .map h =>
  match P.underlying kt, wm.H[h]? with
  | some d, some (.map kk kv es) =>
   if wc.C.kok P d kk = true ∧ wm.lh ≤ h then
    opK (inV wc.C kk key) fun xk => k { wm with H := wm.H.set h (.map kk kv (mdel (wc.C.keq kk) es xk)) }
   else none
  | _, _ => none
 | _, _ => none
theorem delWK_sound {wc : WCfg T} (okc : CodOk wc.C) {wm : WM T} {t : TypeId} {x key : W T} {k : WM T → Option R} {r : R} (h : delWK wc P wm t x key k = some r) :
  ∃ wm', k wm' = some r ∧ ∀ {bs α β m vx vk}, WSim bs wc.C α β wm m → Rep wc.C α β x vx → Rep wc.C α β key vk → ∃ m', deleteV P m t vx vk = some m' ∧ WSim bs wc.C α β wm' m' := by
 unfold delWK at h
 split at h
 ·rename_i kt et hh hu
  split at h
  ·rename_i d kk kv es hd he
   split at h
   ·rename_i hok
    obtain ⟨xk, h1, h⟩ := opK_some h
    refine ⟨_, h, fun {bs α β m vx vk} S hx hk' => ?_⟩
    simp only [Rep] at hx
    obtain ⟨b, ver, n, hb, rfl⟩ := hx
    have hvk := inV_rep okc h1 hk'
    have hE := S.H _ _ he
    simp only [EnOk] at hE
    obtain ⟨b', ver', n', es', hb', hB, hM⟩ := hE
    have hb0 := hb
    rw [hb] at hb'
    injection hb' with hb'; injection hb' with hb'
    simp only [Prod.mk.injEq] at hb'
    obtain ⟨rfl, rfl, rfl⟩ := hb'
    have hlb := S.lb _ _ _ _ _ he rfl hb0 hok.2
    have hko : keyOk P d vk = true := by
     obtain ⟨cx, hx1, hx2⟩ := hvk
     rw [hx2]; exact (okc.key P d kk xk xk cx cx hok.1 hx1 hx1).2
    rcases find_rep okc hok.1 hvk 0 hM with ⟨f1, f2, _, f4⟩ | ⟨j, v', y', f1, f2, _, _, f4⟩
    ·refine ⟨m, ?_, ?_⟩
     ·simp only [deleteV, hu, hd, hB, f1]
      rw [if_pos ⟨hlb, hko⟩]
     ·rw [f4]
      have := S.setB (hi' := m.hi) he rfl hb0 (bb := .map es') (e' := .map kk kv es) (by rw [set_self hB]; exact S.H _ _ he)
      rw [set_self hB] at this
      exact this
    ·rw [Nat.zero_add] at f1
     refine ⟨_, ?_, S.setB (hi' := m.hi) he rfl hb0 (bb := .map (es'.eraseIdx j)) ?_⟩
     ·simp only [deleteV, hu, hd, hB, f1]
      rw [if_pos ⟨hlb, hko⟩]
     ·simp only [EnOk]
      exact ⟨b, ver, n, _, hb0, by simp [S.ltB _ _ _ _ hb0], f4⟩
   ·cases h
  ·cases h
 ·cases h
def makeMapW (wc : WCfg T) (P : Program) (wm : WM T) (t : TypeId) : Option (W T × WM T) :=
 match P.underlying t with
 | some (.map kt et) =>
  match wc.kd kt, wc.kd et with
  | some kk, some kv => some (.map wm.H.length, { wm with H := wm.H ++ [.map kk kv []] })
  | _, _ => none
 | _ => none
def lenW (P : Program) (wm : WM T) (t : TypeId) (x : W T) : Option (W T) :=
 match P.underlying t, x with
 | some .string, .str s => some (.int .i64 s.length)
 | some (.array n _), _ => some (.int .i64 n)
 | some (.slice _), .nilsl => some (.int .i64 0)
 | some (.slice _), .row _ l _ => some (.int .i64 l.length)
 | some (.slice _), .own _ h =>
  match wm.H[h]? with
  | some (.rows _ l) => some (.int .i64 l.length)
  | _ => none
 | some (.slice _), .view _ _ _ n => some (.int .i64 n)
 | some (.map _ _), .nilm => some (.int .i64 0)
 | some (.map _ _), .map h =>
  match wm.H[h]? with
  | some (.map _ _ es) => some (.int .i64 es.length)
  | _ => none
 | _, _ => none
theorem MapR.length {kk kv : Nat} : ∀ {es : List (T kk × T kv)} {es' : List (V × V)}, MapR C kk kv es es' → es.length = es'.length
 | [], es', h => by simp only [MapR] at h; subst h; rfl
 | (a, z) :: es, es', h => by
  simp only [MapR] at h
  obtain ⟨_, _, es1, rfl, _, _, h⟩ := h
  simp [MapR.length h]
theorem lenW_sound {wm : WM T} {t : TypeId} {x w : W T} (h : lenW P wm t x = some w) {bs α β m v} (S : WSim bs C α β wm m) (hr : Rep C α β x v) : ∃ u, lenV P m t v = some u ∧ Rep C α β w u := by
 unfold lenW at h
 split at h
 ·rename_i s hu
  injection h with h; subst h
  simp only [Rep] at hr; subst hr
  exact ⟨.int .i64 s.length, by simp only [lenV, hu, size_mk], by simp only [Rep]⟩
 ·rename_i n e hu
  injection h with h; subst h
  exact ⟨.int .i64 n, by simp only [lenV, hu], by simp only [Rep]⟩
 ·rename_i e hu
  injection h with h; subst h
  simp only [Rep] at hr; subst hr
  exact ⟨.int .i64 0, by simp only [lenV, hu]; rfl, by simp only [Rep]⟩
 ·rename_i e kk l full hu
  injection h with h; subst h
  simp only [Rep] at hr; obtain ⟨cs, fl, rfl, _, _⟩ := hr
  exact ⟨.int .i64 l.length, by simp only [lenV, hu], by simp only [Rep]⟩
 ·rename_i e kk hh hu
  split at h
  ·rename_i k' l he
   injection h with h; subst h
   simp only [Rep] at hr
   refine ⟨.int .i64 l.length, ?_, by simp only [Rep]⟩
   rcases S.rows he with ⟨hb', rfl⟩ | ⟨b', ver', cs, hb', hB, hcr⟩
   ·rcases hr with ⟨_, rfl⟩ | ⟨b, ver, nn, hb, rfl⟩
    ·simp only [lenV, hu]; rfl
    ·rw [hb] at hb'; cases hb'
   ·rcases hr with ⟨hb, _⟩ | ⟨b, ver, nn, hb, rfl⟩
    ·rw [hb] at hb'; cases hb'
    ·rw [hb] at hb'
     injection hb' with hb'; injection hb' with hb'
     simp only [Prod.mk.injEq] at hb'
     obtain ⟨rfl, rfl, rfl⟩ := hb'
     simp only [lenV, hu]
  ·cases h
 ·rename_i e kk hh off n hu
  injection h with h; subst h
  simp only [Rep] at hr
  refine ⟨.int .i64 n, ?_, by simp only [Rep]⟩
  rcases hr with ⟨_, _, rfl, _, rfl⟩ | ⟨_, _, _, _, rfl⟩ <;> simp only [lenV, hu]
 ·rename_i kt et hu
  injection h with h; subst h
  simp only [Rep] at hr; subst hr
  exact ⟨.int .i64 0, by simp only [lenV, hu], by simp only [Rep]⟩
 ·rename_i kt et hh hu
  split at h
  ·rename_i kk kv es he
   injection h with h; subst h
   simp only [Rep] at hr
   obtain ⟨b, ver, n, hb, rfl⟩ := hr
   have hE := S.H _ _ he
   simp only [EnOk] at hE
   obtain ⟨b', ver', n', es', hb', hB, hM⟩ := hE
   rw [hb] at hb'
   injection hb' with hb'; injection hb' with hb'
   simp only [Prod.mk.injEq] at hb'
   obtain ⟨rfl, rfl, rfl⟩ := hb'
   exact ⟨.int .i64 es.length, by simp only [lenV, hu, hB, hM.length], by simp only [Rep]⟩
  ·cases h
 ·cases h
def capW (P : Program) (t : TypeId) (x : W T) : Option (W T) :=
 match P.underlying t, x with
 | some (.slice _), .nilsl => some (.int .i64 0)
 | some (.slice _), .row _ l true => some (.int .i64 l.length)
 | _, _ => none
theorem capW_sound {t : TypeId} {x w : W T} (h : capW P t x = some w) {α β v} (hr : Rep C α β x v) : ∃ u, capV P t v = some u ∧ Rep C α β w u := by
 unfold capW at h
 split at h
 ·rename_i e hu
  injection h with h; subst h
  simp only [Rep] at hr; subst hr
  exact ⟨.int .i64 0, by simp only [capV, hu]; rfl, by simp only [Rep]⟩
 ·rename_i e kk l hu
  injection h with h; subst h
  simp only [Rep] at hr; obtain ⟨cs, fl, rfl, hf, _⟩ := hr
  have hf := hf (by first | rfl | trivial)
  subst hf
  exact ⟨.int .i64 l.length, by simp only [capV, hu], by simp only [Rep]⟩
 ·cases h
def maxW : W T → W T → Option (W T)
 | .int k x, .int _ y => some (.int k (max x y))
 | _, _ => none
def minW : W T → W T → Option (W T)
 | .int k x, .int _ y => some (.int k (min x y))
 | _, _ => none
def foldW (f : W T → W T → Option (W T)) : W T → List (W T) → Option (W T)
 | x, [] => some x
 | x, y :: r => (f x y).bind fun z => foldW f z r
theorem foldW_sound {f : W T → W T → Option (W T)} {g : V → V → Option V} (hf : ∀ {x y w}, f x y = some w → ∀ {α β vx vy}, Rep C α β x vx → Rep C α β y vy → ∃ u, g vx vy = some u ∧ Rep C α β w u) :
  ∀ {l : List (W T)} {x w : W T}, foldW f x l = some w → ∀ {α β vx vl}, Rep C α β x vx → RepL C α β l vl → ∃ u, foldV g vx vl = some u ∧ Rep C α β w u
 | [], x, w, h, α, β, vx, vl, hx, hl => by
  simp only [foldW, Option.some.injEq] at h
  subst h
  simp only [RepL] at hl
  subst hl
  exact ⟨vx, rfl, hx⟩
 | y :: l, x, w, h, α, β, vx, vl, hx, hl => by
  simp only [foldW] at h
  obtain ⟨z, h1, h2⟩ := Option.bind_eq_some_iff.1 h
  simp only [RepL] at hl
  obtain ⟨vy, vl', rfl, hy, hl⟩ := hl
  obtain ⟨u, h3, h4⟩ := hf h1 hx hy
  obtain ⟨u', h5, h6⟩ := foldW_sound hf h2 h4 hl
  exact ⟨u', by simp only [foldV, h3, Option.bind_some]; exact h5, h6⟩
theorem maxW_sound {x y w : W T} (h : maxW x y = some w) {α β vx vy} (hx : Rep C α β x vx) (hy : Rep C α β y vy) : ∃ u, maxV vx vy = some u ∧ Rep C α β w u := by
 unfold maxW at h
 split at h
 ·rename_i k a _ b
  injection h with h; subst h
  simp only [Rep] at hx hy; subst hx hy
  refine ⟨_, rfl, ?_⟩
  simp only [Rep]
  split <;> (congr 1; omega)
 ·cases h
theorem minW_sound {x y w : W T} (h : minW x y = some w) {α β vx vy} (hx : Rep C α β x vx) (hy : Rep C α β y vy) : ∃ u, minV vx vy = some u ∧ Rep C α β w u := by
 unfold minW at h
 split at h
 ·rename_i k a _ b
  injection h with h; subst h
  simp only [Rep] at hx hy; subst hx hy
  refine ⟨_, rfl, ?_⟩
  simp only [Rep]
  split <;> (congr 1; omega)
 ·cases h
def builtinWK (wc : WCfg T) (P : Program) (wm : WM T) (b : Builtin) (ts : List TypeId) (args : List (W T)) (k : W T × WM T → Option R) : Option R :=
 match b, ts, args with
 | .append, [t, u], [s, x] =>
  match P.underlying u with
  | some (.slice _) => appendWK wc P wm t s x k
  | some .string => appendWK wc P wm t s x k
  | some (.int _) => appendMakeWK wc P wm t s x k
  | _ => none
 | .len, t :: _, x :: _ => opK (lenW P wm t x) fun w => k (w, wm)
 | .cap, t :: _, x :: _ => opK (capW P t x) fun w => k (w, wm)
 | .max, _, x :: r => opK (foldW maxW x r) fun w => k (w, wm)
 | .min, _, x :: r => opK (foldW minW x r) fun w => k (w, wm)
 | .delete, t :: _, [x, key] => delWK wc P wm t x key fun wm' => k (.tup [], wm')
 | _, _, _ => none
theorem goes_val {wm : WM T} {w : W T} {bs α β m} {o : Option V} (S : WSim bs C α β wm m) (h : ∃ u, o = some u ∧ Rep C α β w u) : Goes C wm wm w bs α β (o.map (·, m)) := by
 obtain ⟨u, rfl, h⟩ := h
 exact ⟨u, m, α, β, rfl, List.prefix_refl _, List.prefix_refl _, S, h⟩
theorem goes_mem {wm wm' : WM T} {bs α β} {o : Option Mem} (h : ∃ m', o = some m' ∧ WSim bs C α β wm' m') : Goes C wm wm' (.tup []) bs α β (o.map (V.tup [], ·)) := by
 obtain ⟨m', rfl, h⟩ := h
 exact ⟨.tup [], m', α, β, rfl, List.prefix_refl _, List.prefix_refl _, h, by simp only [Rep]; exact ⟨[], rfl, RepL.nil⟩⟩
theorem builtinWK_sound {wc : WCfg T} (ok : CodOk wc.C) {wm : WM T} {b : Builtin} {ts : List TypeId} {args : List (W T)} {k : W T × WM T → Option R} {r : R} (h : builtinWK wc P wm b ts args k = some r) :
  ∃ w wm', k (w, wm') = some r ∧ ∀ {bs α β m vs}, WSim bs wc.C α β wm m → RepL wc.C α β args vs → Goes wc.C wm wm' w bs α β (builtinV P m b ts vs) := by
 unfold builtinWK at h
 split at h
 ·rename_i t u s x
  have two : ∀ {α β vs}, RepL wc.C α β [s, x] vs → ∃ v1 v2, vs = [v1, v2] ∧ Rep wc.C α β s v1 ∧ Rep wc.C α β x v2 := by
   intro α β vs h
   simp only [RepL] at h
   obtain ⟨v1, vs1, rfl, h1, v2, vs2, rfl, h2, rfl⟩ := h
   exact ⟨v1, v2, rfl, h1, h2⟩
  split at h
  ·rename_i e hu
   obtain ⟨w, wm', h1, h2⟩ := appendWK_sound ok h
   refine ⟨w, wm', h1, fun S hr => ?_⟩
   obtain ⟨v1, v2, rfl, h3, h4⟩ := two hr
   simp only [builtinV, hu]
   exact h2 S h3 h4
  ·rename_i hu
   obtain ⟨w, wm', h1, h2⟩ := appendWK_sound ok h
   refine ⟨w, wm', h1, fun S hr => ?_⟩
   obtain ⟨v1, v2, rfl, h3, h4⟩ := two hr
   simp only [builtinV, hu]
   exact h2 S h3 h4
  ·rename_i e hu
   obtain ⟨w, wm', h1, h2⟩ := appendMakeWK_sound ok h
   refine ⟨w, wm', h1, fun S hr => ?_⟩
   obtain ⟨v1, v2, rfl, h3, h4⟩ := two hr
   simp only [builtinV, hu]
   exact h2 S h3 h4
  ·cases h
 ·rename_i t ts x xs
  obtain ⟨w, h1, h2⟩ := opK_some h
  refine ⟨w, wm, h2, fun S hr => ?_⟩
  simp only [RepL] at hr
  obtain ⟨v1, vs1, rfl, h3, h4⟩ := hr
  exact goes_val S (lenW_sound h1 S h3)
 ·rename_i t ts x xs
  obtain ⟨w, h1, h2⟩ := opK_some h
  refine ⟨w, wm, h2, fun S hr => ?_⟩
  simp only [RepL] at hr
  obtain ⟨v1, vs1, rfl, h3, h4⟩ := hr
  exact goes_val S (capW_sound h1 h3)
 ·rename_i x xs
  obtain ⟨w, h1, h2⟩ := opK_some h
  refine ⟨w, wm, h2, fun S hr => ?_⟩
  simp only [RepL] at hr
  obtain ⟨v1, vs1, rfl, h3, h4⟩ := hr
  exact goes_val S (foldW_sound (g := maxV) (fun h _ _ _ _ hx hy => maxW_sound h hx hy) h1 h3 h4)
 ·rename_i x xs
  obtain ⟨w, h1, h2⟩ := opK_some h
  refine ⟨w, wm, h2, fun S hr => ?_⟩
  simp only [RepL] at hr
  obtain ⟨v1, vs1, rfl, h3, h4⟩ := hr
  exact goes_val S (foldW_sound (g := minV) (fun h _ _ _ _ hx hy => minW_sound h hx hy) h1 h3 h4)
 ·rename_i t ts x key
  obtain ⟨wm', h1, h2⟩ := delWK_sound ok h
  refine ⟨_, wm', h1, fun S hr => ?_⟩
  simp only [RepL] at hr
  obtain ⟨v1, vs1, rfl, h3, v2, vs2, rfl, h4, rfl⟩ := hr
  exact goes_mem (h2 S h3 h4)
 ·cases h
end Go.Proofs.YtpdgbhjhodhkiaaGreatDoor.AI
namespace Go.Proofs.YtpdgbhjhodhkiaaGreatDoor.AI
open Go
variable {T : Nat → Type} {C : Cod T} {R : Type} {P : Program}
def opWK (wc : WCfg T) (P : Program) (wm : WM T) (slot : Nat) (ρ : Operand → W T) (op : Op) (k : W T × WM T → Option R) : Option R :=
 match op with
 | .move x => k (ρ x, wm)
 | .assign x => k (ρ x, wm)
 | .pick c a b =>
  match ρ c with
  | .bool t => cnd t (k (ρ a, wm)) (k (ρ b, wm))
  | _ => none
 | .alloc _ => k (.ptr slot 0, wm)
 | .box t x =>
  match P.info? t with
  | some _ => if (wCells (ρ x)).all W.cellLike = true then k (.ptr wm.A.length 0, { wm with A := wm.A ++ [wCells (ρ x)] }) else none
  | none => none
 | .build t parts => opK (buildW P t (parts.toList.map fun (i, x) => (i, ρ x))) fun w => k (w, wm)
 | .buildSlice t len parts => opK (buildSliceWK wc P t len (parts.toList.map fun (i, x) => (i, ρ x))) fun w => k (w, wm)
 | .load t p => loadWK wc.C P wm t (ρ p) fun w => k (w, wm)
 | .store t p x => storeWK wc.C P wm t (ρ p) (ρ x) fun wm' => k (.tup [], wm')
 | .nilCheck x =>
  match ρ x with
  | .ptr i o => k (.ptr i o, wm)
  | .relem kk y o => k (.relem kk y o, wm)
  | .oelem kk h i o => k (.oelem kk h i o, wm)
  | .fn f c => k (.fn f c, wm)
  | .yld l => k (.yld l, wm)
  | _ => none
 | .binOp op t x y _ => binWK P op t (isConstO x || isConstO y) (ρ x) (ρ y) fun w => k (w, wm)
 | .unOp op _ x => unWK op (ρ x) fun w => k (w, wm)
 | .convert s d x => convWK wc P wm s d (ρ x) fun w => k (w, wm)
 | .makeInterface t x =>
  match P.underlying t with
  | some (.interface _) => none
  | some _ => k (.ifc t (ρ x), wm)
  | none => none
 | .makeFunc (.func f) first cap => if first.size = 0 then k (.fn f (cap.toList.map ρ), wm) else none
 | .makeMap t none => opK (makeMapW wc P wm t) k
 | .makeSlice t l c => makeSliceWK wc P wm t (ρ l) (ρ c) k
 | .slice t x lo hi mx => sliceWK wc.C P wm t (ρ x) (lo.map ρ) (hi.map ρ) (mx.map ρ) fun w => k (w, wm)
 | .fieldAddr s x f => opK (fieldAddrW P s (ρ x) f) fun w => k (w, wm)
 | .field t x f => opK (fieldW P t (ρ x) f) fun w => k (w, wm)
 | .indexAddr t x ix => indexAddrWK wc.C P wm t (ρ x) (ρ ix) fun w => k (w, wm)
 | .index t x ix => indexWK wc P t (ρ x) (ρ ix) fun w => k (w, wm)
 | .lookup t x kk ok => lookWK wc P wm t (ρ x) (ρ kk) ok fun w => k (w, wm)
 | .mapUpdate t x kk v => updWK wc P wm t (ρ x) (ρ kk) (ρ v) fun wm' => k (.tup [], wm')
 | .insert t x kk v => updWK wc P wm t (ρ x) (ρ kk) (ρ v) fun wm' => k (.tup [], wm')
 | .extract x i =>
  match ρ x with
  | .tup vs => opK vs[i]? fun w => k (w, wm)
  | _ => none
 | _ => none
theorem prep_map {ρw : Operand → W T} {ρv : Operand → V} {α β} (h : ∀ o, Rep C α β (ρw o) (ρv o)) (l : List (Nat × Operand)) : PRep C α β (l.map fun (i, x) => (i, ρw x)) (l.map fun (i, x) => (i, ρv x)) := by
 induction l with
 | nil => exact PRep.nil
 | cons a l ih => obtain ⟨i, x⟩ := a; exact PRep.cons (h x) ih
theorem repL_map {ρw : Operand → W T} {ρv : Operand → V} {α β} (h : ∀ o, Rep C α β (ρw o) (ρv o)) (l : List Operand) : RepL C α β (l.map ρw) (l.map ρv) := by
 induction l with
 | nil => exact RepL.nil
 | cons a l ih => exact RepL.cons (h a) ih
theorem repO_map {ρw : Operand → W T} {ρv : Operand → V} {α β} (h : ∀ o, Rep C α β (ρw o) (ρv o)) (l : Option Operand) : RepO C α β (l.map ρw) (l.map ρv) := by
 cases l with
 | none => exact RepO.none
 | some a => exact RepO.some (h a)
def isAlloc' (op : Op) : Bool := match op with | .alloc _ => true | _ => false
theorem opQ_same {draw : Bool} {m : Mem} {slot : Nat} {ρ : Operand → V} {op : Op} (h : ∀ t l p, op ≠ .buildSlice t l p) : opQ P draw m slot ρ op = opV P m slot ρ op := by
 unfold opQ
 split
 ·exact absurd rfl (h _ _ _)
 ·rfl
theorem opWK_sound {wc : WCfg T} (ok : CodOk wc.C) {draw : Bool} {wm : WM T} {slot : Nat} {ρ : Operand → W T} {op : Op} {k : W T × WM T → Option R} {r : R} (h : opWK wc P wm slot ρ op k = some r) :
  ∃ w wm', k (w, wm') = some r ∧ ∀ {bs α β m ρv slotv}, WSim bs wc.C α β wm m → (∀ o, Rep wc.C α β (ρ o) (ρv o)) → (isAlloc' op = true → α[slot]? = some slotv) → Goes wc.C wm wm' w bs α β (opQ P draw m slotv ρv op) := by
 have same : ∀ {bs α β m ρv slotv w wm'}, (∀ t l p, op ≠ .buildSlice t l p) → Goes wc.C wm wm' w bs α β (opV P m slotv ρv op) → Goes wc.C wm wm' w bs α β (opQ P draw m slotv ρv op) := by
  intro bs α β m ρv slotv w wm' hne hg
  rw [opQ_same hne]; exact hg
 unfold opWK at h
 split at h
 ·rename_i x
  refine ⟨_, _, h, fun S hρ _ => same (fun _ _ _ e => by cases e) ⟨_, _, _, _, rfl, List.prefix_refl _, List.prefix_refl _, S, hρ x⟩⟩
 ·rename_i x
  refine ⟨_, _, h, fun S hρ _ => same (fun _ _ _ e => by cases e) ⟨_, _, _, _, rfl, List.prefix_refl _, List.prefix_refl _, S, hρ x⟩⟩
 ·rename_i c a b
  split at h
  ·rename_i t hc
   rcases cond_cases h with ⟨rfl, h⟩ | ⟨rfl, h⟩
   ·refine ⟨_, _, h, fun {bs α β m ρv slotv} S hρ _ => same (fun _ _ _ e => by cases e) ⟨ρv a, m, α, β, ?_, List.prefix_refl _, List.prefix_refl _, S, hρ a⟩⟩
    have := hρ c
    rw [hc] at this
    simp only [Rep] at this
    simp only [opV, this]
    rfl
   ·refine ⟨_, _, h, fun {bs α β m ρv slotv} S hρ _ => same (fun _ _ _ e => by cases e) ⟨ρv b, m, α, β, ?_, List.prefix_refl _, List.prefix_refl _, S, hρ b⟩⟩
    have := hρ c
    rw [hc] at this
    simp only [Rep] at this
    simp only [opV, this]
    rfl
  ·cases h
 ·refine ⟨_, _, h, fun S hρ hs => same (fun _ _ _ e => by cases e) ⟨_, _, _, _, rfl, List.prefix_refl _, List.prefix_refl _, S, ?_⟩⟩
  simp only [Rep]
  exact ⟨_, hs rfl, rfl⟩
 ·rename_i t x
  split at h
  ·rename_i i hi
   split at h
   ·rename_i hc
    refine ⟨_, _, h, fun {bs α β m ρv slotv} S hρ _ => same (fun _ _ _ e => by cases e) ?_⟩
    obtain ⟨h1, h2⟩ := rep_cells (hρ x) hc
    refine ⟨.ptr m.A.length 0, _, α ++ [m.A.length], β, ?_, pre_app _ _, List.prefix_refl _, S.pushA h1 (max m.hi (maxAL (cellsOf (ρv x)))), ?_⟩
    ·simp only [opV, hi]
     rw [if_pos h2]
    ·simp only [Rep]
     exact ⟨m.A.length, by rw [← S.lenA]; simp, rfl⟩
   ·cases h
  ·cases h
 ·rename_i t parts
  obtain ⟨w, h1, h2⟩ := opK_some h
  exact ⟨_, _, h2, fun S hρ _ => same (fun _ _ _ e => by cases e) (goes_val S (buildW_sound h1 (prep_map hρ _)))⟩
 ·rename_i t len parts
  obtain ⟨w, h1, h2⟩ := opK_some h
  refine ⟨_, _, h2, fun {bs α β m ρv slotv} S hρ _ => ?_⟩
  obtain ⟨sz, cs, h3, h4, h5⟩ := buildSliceWK_sound ok h1 (prep_map hρ _)
  refine ⟨.ro cs len true, m, α, β, ?_, List.prefix_refl _, List.prefix_refl _, S, h5⟩
  cases draw
  ·simp only [opQ, opV, h3, h4, if_true]
  ·simp only [opQ, h3, h4, if_true]
 ·rename_i t p
  obtain ⟨w, h1, h2⟩ := loadWK_sound ok h
  exact ⟨_, _, h1, fun S hρ _ => same (fun _ _ _ e => by cases e) (goes_val S (h2 S (hρ p)))⟩
 ·rename_i t p x
  obtain ⟨wm', h1, h2⟩ := storeWK_sound ok h
  exact ⟨_, _, h1, fun S hρ _ => same (fun _ _ _ e => by cases e) (goes_mem (h2 S (hρ p) (hρ x)))⟩
 ·rename_i x
  have go : ∀ {w : W T}, ρ x = w → k (w, wm) = some r → (∀ {α β v}, Rep wc.C α β w v → ∀ m, opV P m 0 (fun _ => v) (.nilCheck x) = some (v, m)) →
   ∃ w wm', k (w, wm') = some r ∧ ∀ {bs α β m ρv slotv}, WSim bs wc.C α β wm m → (∀ o, Rep wc.C α β (ρ o) (ρv o)) → (isAlloc' (.nilCheck x) = true → α[slot]? = some slotv) → Goes wc.C wm wm' w bs α β (opQ P draw m slotv ρv (.nilCheck x)) := by
   intro w hw hk hv
   refine ⟨w, wm, hk, fun {bs α β m ρv slotv} S hρ _ => same (fun _ _ _ e => by cases e) ?_⟩
   have h1 := hρ x
   rw [hw] at h1
   exact ⟨ρv x, m, α, β, hv h1 m, List.prefix_refl _, List.prefix_refl _, S, h1⟩
  split at h
  ·rename_i i o hw
   exact go hw h (fun hr m => by simp only [Rep] at hr; obtain ⟨_, _, rfl⟩ := hr; rfl)
  ·rename_i i o hw
   exact go hw h (fun hr m => by simp only [Rep] at hr; obtain ⟨_, _, rfl, _⟩ := hr; rfl)
  ·rename_i i o hw
   exact go hw h (fun hr m => by simp only [Rep] at hr; obtain ⟨_, _, _, _, rfl⟩ := hr; rfl)
  ·rename_i i o hw
   exact go hw h (fun hr m => by simp only [Rep] at hr; obtain ⟨_, rfl, _⟩ := hr; rfl)
  ·rename_i i hw
   exact go hw h (fun hr m => by simp only [Rep] at hr; obtain ⟨_, _, _, _, rfl⟩ := hr; rfl)
  ·cases h
 ·rename_i op t x y _
  obtain ⟨w, h1, h2⟩ := binWK_sound (C := wc.C) h
  exact ⟨_, _, h1, fun S hρ _ => same (fun _ _ _ e => by cases e) (goes_val S (h2 (hρ x) (hρ y)))⟩
 ·rename_i op _ x
  obtain ⟨w, h1, h2⟩ := unWK_sound (C := wc.C) h
  exact ⟨_, _, h1, fun S hρ _ => same (fun _ _ _ e => by cases e) (goes_val S (h2 (hρ x)))⟩
 ·rename_i s d x
  obtain ⟨w, h1, h2⟩ := convWK_sound ok h
  exact ⟨_, _, h1, fun S hρ _ => same (fun _ _ _ e => by cases e) (goes_val S (h2 S (hρ x)))⟩
 ·rename_i t x
  split at h
  ·cases h
  ·rename_i d hd hu
   refine ⟨_, _, h, fun {bs α β m ρv slotv} S hρ _ => same (fun _ _ _ e => by cases e) ⟨.ifc t (ρv x), m, α, β, ?_, List.prefix_refl _, List.prefix_refl _, S, ?_⟩⟩
   ·simp only [opV]
    split
    ·rename_i hx; rw [hu] at hx; injection hx with hx; exact absurd hx (hd _)
    ·rfl
    ·rename_i hx; rw [hu] at hx; cases hx
   ·simp only [Rep]; exact ⟨_, rfl, hρ x⟩
  ·cases h
 ·rename_i f first cap
  split at h
  ·rename_i h0
   refine ⟨_, _, h, fun {bs α β m ρv slotv} S hρ _ => same (fun _ _ _ e => by cases e) ⟨.fn f (cap.toList.map ρv), m, α, β, ?_, List.prefix_refl _, List.prefix_refl _, S, ?_⟩⟩
   ·simp only [opV]
    rw [if_pos h0]
   ·simp only [Rep]; exact ⟨_, rfl, repL_map hρ _⟩
  ·cases h
 ·rename_i t
  obtain ⟨x, h1, h2⟩ := opK_some h
  unfold makeMapW at h1
  split at h1
  ·rename_i kt et hu
   split at h1
   ·rename_i kk kv _ _
    injection h1 with h1
    subst h1
    refine ⟨_, _, h2, fun {bs α β m ρv slotv} S hρ _ => same (fun _ _ _ e => by cases e) ?_⟩
    refine ⟨.map m.B.length, _, α, β ++ [some (m.B.length, 0, 0)], ?_, List.prefix_refl _, pre_app _ _, S.pushB (hi' := m.hi) (bb := .map []) ?_, ?_⟩
    ·simp only [opV, hu]
    ·simp only [EnOk]
     exact ⟨m.B.length, 0, 0, [], by simp, by simp, rfl⟩
    ·simp only [Rep]
     exact ⟨m.B.length, 0, 0, by rw [← S.lenH]; simp, rfl⟩
   ·cases h1
  ·cases h1
 ·rename_i t l c
  obtain ⟨w, wm', h1, h2⟩ := makeSliceWK_sound ok h
  exact ⟨_, _, h1, fun S hρ _ => same (fun _ _ _ e => by cases e) (h2 S (hρ l) (hρ c))⟩
 ·rename_i t x lo hi mx
  obtain ⟨w, h1, h2⟩ := sliceWK_sound ok h
  exact ⟨_, _, h1, fun S hρ _ => same (fun _ _ _ e => by cases e) (goes_val S (h2 S (hρ x) (repO_map hρ _) (repO_map hρ _) (repO_map hρ _)))⟩
 ·rename_i s x f
  obtain ⟨w, h1, h2⟩ := opK_some h
  exact ⟨_, _, h2, fun S hρ _ => same (fun _ _ _ e => by cases e) (goes_val S (fieldAddrW_sound h1 (hρ x)))⟩
 ·rename_i t x f
  obtain ⟨w, h1, h2⟩ := opK_some h
  exact ⟨_, _, h2, fun S hρ _ => same (fun _ _ _ e => by cases e) (goes_val S (fieldW_sound h1 (hρ x)))⟩
 ·rename_i t x ix
  obtain ⟨w, h1, h2⟩ := indexAddrWK_sound ok h
  exact ⟨_, _, h1, fun S hρ _ => same (fun _ _ _ e => by cases e) (goes_val S (h2 S (hρ x) (hρ ix)))⟩
 ·rename_i t x ix
  obtain ⟨w, h1, h2⟩ := indexWK_sound ok h
  exact ⟨_, _, h1, fun S hρ _ => same (fun _ _ _ e => by cases e) (goes_val S (h2 (hρ x) (hρ ix)))⟩
 ·rename_i t x kk b
  obtain ⟨w, h1, h2⟩ := lookWK_sound ok h
  exact ⟨_, _, h1, fun S hρ _ => same (fun _ _ _ e => by cases e) (goes_val S (h2 S (hρ x) (hρ kk)))⟩
 ·rename_i t x kk v
  obtain ⟨wm', h1, h2⟩ := updWK_sound ok h
  exact ⟨_, _, h1, fun S hρ _ => same (fun _ _ _ e => by cases e) (goes_mem (h2 S (hρ x) (hρ kk) (hρ v)))⟩
 ·rename_i t x kk v
  obtain ⟨wm', h1, h2⟩ := updWK_sound ok h
  exact ⟨_, _, h1, fun S hρ _ => same (fun _ _ _ e => by cases e) (goes_mem (h2 S (hρ x) (hρ kk) (hρ v)))⟩
 ·rename_i x i
  split at h
  ·rename_i vs hx
   obtain ⟨w, h1, h2⟩ := opK_some h
   refine ⟨_, _, h2, fun {bs α β m ρv slotv} S hρ _ => same (fun _ _ _ e => by cases e) ?_⟩
   have hr := hρ x
   rw [hx] at hr
   simp only [Rep] at hr
   obtain ⟨us, h3, h4⟩ := hr
   simp only [opV, h3]
   exact goes_val S (h4.get h1)
  ·cases h
 ·cases h
end Go.Proofs.YtpdgbhjhodhkiaaGreatDoor.AI
