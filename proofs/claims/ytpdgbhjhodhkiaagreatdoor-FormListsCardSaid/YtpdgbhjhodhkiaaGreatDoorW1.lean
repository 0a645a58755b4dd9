/- Typed values: operations without writes, and the relation of memories. -/
import Derived.Test.YtpdgbhjhodhkiaaGreatDoorW0
set_option linter.unusedVariables false
set_option linter.unusedSimpArgs false
namespace Go.Proofs.YtpdgbhjhodhkiaaGreatDoor.AI
open Go

section
variable {R : Type}
def opK {X : Type} (o : Option X) (k : X → Option R) : Option R :=
  match o with
  | some x => k x
  | none => none
/-- A choice. -/
def cnd (b : Bool) (x y : Option R) : Option R := cond b x y
theorem cnd_true {x y : Option R} : cnd true x y = x := rfl
theorem cnd_false {x y : Option R} : cnd false x y = y := rfl
theorem opK_some {X : Type} {o : Option X} {k : X → Option R} {r : R} (h : opK o k = some r) : ∃ x, o = some x ∧ k x = some r := by
  cases o with
  | none => cases h
  | some x => exact ⟨x, rfl, h⟩
theorem cond_some {b : Bool} {x : Option R} {r : R} (h : cnd b x none = some r) : b = true ∧ x = some r := by
  cases b
  · cases h
  · exact ⟨rfl, h⟩
theorem cond_none {b : Bool} {x : Option R} {r : R} (h : cnd b none x = some r) : b = false ∧ x = some r := by
  cases b
  · exact ⟨rfl, h⟩
  · cases h
theorem cond_cases {b : Bool} {x y : Option R} {r : R} (h : cnd b x y = some r) : b = true ∧ x = some r ∨ b = false ∧ y = some r := by
  cases b
  · exact .inr ⟨rfl, h⟩
  · exact .inl ⟨rfl, h⟩
end
/-- An element of a list by a number of Go. -/
def idx {X : Type} (l : List X) (i : Int) : Option X := if 0 ≤ i then l[i.toNat]? else none
theorem idx_some {X : Type} {l : List X} {i : Int} {x : X} (h : idx l i = some x) : 0 ≤ i ∧ l[i.toNat]? = some x := by
  unfold idx at h
  split at h
  · exact ⟨by assumption, h⟩
  · cases h
def ok64 (n : Int) : Bool := decide (-9223372036854775808 ≤ n ∧ n ≤ 9223372036854775807)
theorem wrap_ok64 {n : Int} (h : ok64 n = true) : IntKind.i64.wrap n = n := by
  have := of_decide_eq_true h
  rw [IntKind.wrap_i64]; omega
def subX {X : Type} (cs : List X) (off n : Nat) : Option (List X) := if off + n ≤ cs.length then some ((cs.drop off).take n) else none
def spliceX {X : Type} (old : List X) (off : Nat) (cs : List X) : List X := old.take off ++ cs ++ old.drop (off + cs.length)

variable {T : Nat → Type}

def wConst0 : Value → W T
  | .bool b => .bool b
  | .int k n => .int k n
  | .string s => .str s.data.toList
  | .pointer none => .nilp
  | .slice none 0 0 => .nilsl
  | .map none => .nilm
  | .nilFunc => .nilf
  | .nilIface => .nili
  | _ => .undef
def wConst : Value → W T
  | .agg cs => .agg (cs.toList.map wConst0)
  | v => wConst0 v
def evalW (tm : List (W T)) : Operand → W T
  | .tmp t => tm.getD t .undef
  | .const v => wConst v
  | .func f => .fn f []
  | .global _ => .undef
def wCells : W T → List (W T)
  | .agg cs => cs
  | w => [w]
def W.cellLike : W T → Bool
  | .agg _ => false
  | .tup _ => false
  | .undef => false
  | .bool _ | .int _ _ | .str _ | .nilp | .ptr _ _ | .nilsl | .row _ _ _ | .relem _ _ _ | .own _ _ | .view _ _ _ _ | .oelem _ _ _ _ | .nilm | .map _ | .nilf | .fn _ _ | .yld _ | .nili | .ifc _ _ => true
mutual
/-- No reference into the memory. -/
def W.noref : W T → Bool
  | .ptr _ _ => false
  | .own _ _ => false
  | .view _ _ _ _ => false
  | .oelem _ _ _ _ => false
  | .map _ => false
  | .yld _ => false
  | .fn _ ws => norefL ws
  | .ifc _ w => W.noref w
  | .agg ws => norefL ws
  | .tup ws => norefL ws
  | .undef => false
  | .bool _ | .int _ _ | .str _ | .nilp | .nilsl | .row _ _ _ | .relem _ _ _ | .nilm | .nilf | .nili => true
def norefL : List (W T) → Bool
  | [] => true
  | w :: ws => W.noref w && norefL ws
end
mutual
/-- As 'noref', unknown parts allowed. -/
def W.free : W T → Bool
  | .ptr _ _ => false
  | .own _ _ => false
  | .view _ _ _ _ => false
  | .oelem _ _ _ _ => false
  | .map _ => false
  | .yld _ => false
  | .fn _ ws => freeL ws
  | .ifc _ w => W.free w
  | .agg ws => freeL ws
  | .tup ws => freeL ws
  | .undef => true
  | .bool _ | .int _ _ | .str _ | .nilp | .nilsl | .row _ _ _ | .relem _ _ _ | .nilm | .nilf | .nili => true
def freeL : List (W T) → Bool
  | [] => true
  | w :: ws => W.free w && freeL ws
end

variable {C : Cod T} {α α' : List Nat} {β β' : Bt}
theorem rep_const0 (v : Value) : Rep C α β (wConst0 v) (ofConst0 v) := by
  unfold wConst0 ofConst0
  split <;> simp only [Rep]
theorem repL_const (l : List Value) : RepL C α β (l.map wConst0) (l.map ofConst0) := by
  induction l with
  | nil => exact RepL.nil
  | cons v l ih => exact RepL.cons (rep_const0 v) ih
theorem rep_const (v : Value) : Rep C α β (wConst v) (ofConst v) := by
  cases v with
  | agg cs => simp only [wConst, ofConst, Rep]; exact ⟨_, rfl, repL_const _⟩
  | _ => simp only [wConst, ofConst]; exact rep_const0 _
theorem rep_getD {ws : List (W T)} {vs : List V} (h : RepL C α β ws vs) (t : Nat) : Rep C α β (ws.getD t .undef) (vs.getD t .undef) := by
  rw [List.getD_eq_getElem?_getD, List.getD_eq_getElem?_getD]
  cases hw : ws[t]? with
  | none => simp only [Option.getD_none, Rep]
  | some w =>
    obtain ⟨v, h1, h2⟩ := h.get hw
    rw [h1]
    exact h2
theorem rep_eval {ws : List (W T)} {vs : List V} (h : RepL C α β ws vs) (o : Operand) : Rep C α β (evalW ws o) (evalO vs o) := by
  cases o with
  | tmp t => exact rep_getD h t
  | const v => exact rep_const v
  | func f => simp only [evalW, evalO, Rep]; exact ⟨[], rfl, RepL.nil⟩
  | global g => simp only [evalW, Rep]
theorem rep_cells {w : W T} {v : V} (h : Rep C α β w v) (hc : (wCells w).all W.cellLike = true) : RepL C α β (wCells w) (cellsOf v) ∧ (cellsOf v).all V.cellLike = true := by
  have key : ∀ {w : W T} {v : V}, Rep C α β w v → W.cellLike w = true → V.cellLike v = true ∧ cellsOf v = [v] := by
    intro w v h hc
    cases w <;> simp only [Rep, W.cellLike, Bool.false_eq_true] at h hc
    case bool => subst h; exact ⟨rfl, rfl⟩
    case int => subst h; exact ⟨rfl, rfl⟩
    case str => subst h; exact ⟨rfl, rfl⟩
    case nilp => subst h; exact ⟨rfl, rfl⟩
    case ptr => obtain ⟨j, _, rfl⟩ := h; exact ⟨rfl, rfl⟩
    case nilsl => subst h; exact ⟨rfl, rfl⟩
    case row => obtain ⟨_, _, rfl, _⟩ := h; exact ⟨rfl, rfl⟩
    case relem => obtain ⟨_, _, rfl, _⟩ := h; exact ⟨rfl, rfl⟩
    case own => rcases h with ⟨_, rfl⟩ | ⟨_, _, _, _, rfl⟩ <;> exact ⟨rfl, rfl⟩
    case view => rcases h with ⟨_, _, _, _, rfl⟩ | ⟨_, _, _, _, rfl⟩ <;> exact ⟨rfl, rfl⟩
    case oelem => obtain ⟨_, _, _, _, rfl⟩ := h; exact ⟨rfl, rfl⟩
    case nilm => subst h; exact ⟨rfl, rfl⟩
    case map => obtain ⟨_, _, _, _, rfl⟩ := h; exact ⟨rfl, rfl⟩
    case nilf => subst h; exact ⟨rfl, rfl⟩
    case fn => obtain ⟨_, rfl, _⟩ := h; exact ⟨rfl, rfl⟩
    case yld => obtain ⟨_, _, _, _, rfl⟩ := h; exact ⟨rfl, rfl⟩
    case nili => subst h; exact ⟨rfl, rfl⟩
    case ifc => obtain ⟨_, rfl, _⟩ := h; exact ⟨rfl, rfl⟩
  have keyL : ∀ {ws : List (W T)} {vs : List V}, RepL C α β ws vs → ws.all W.cellLike = true → vs.all V.cellLike = true := by
    intro ws
    induction ws with
    | nil => intro vs h _; simp only [RepL] at h; subst h; rfl
    | cons w ws ih =>
      intro vs h hc
      simp only [RepL] at h
      obtain ⟨v, vs', rfl, h1, h2⟩ := h
      simp only [List.all_cons, Bool.and_eq_true] at hc ⊢
      exact ⟨(key h1 hc.1).1, ih h2 hc.2⟩
  cases w with
  | agg ws =>
    simp only [Rep] at h
    obtain ⟨vs, rfl, h⟩ := h
    exact ⟨h, keyL h hc⟩
  | _ =>
    simp only [wCells, List.all_cons, List.all_nil, Bool.and_true] at hc
    obtain ⟨h1, h2⟩ := key h hc
    rw [h2]
    exact ⟨RepL.cons h RepL.nil, by simp [h1]⟩
mutual
theorem noref_pure : ∀ {w : W T} {v : V}, Rep C α β w v → W.noref w = true → V.pure v = true
  | .undef, _, h, hn | .ptr _ _, _, h, hn | .own _ _, _, h, hn | .view _ _ _ _, _, h, hn | .oelem _ _ _ _, _, h, hn | .map _, _, h, hn | .yld _, _, h, hn => by simp [W.noref] at hn
  | .bool _, _, h, _ | .int _ _, _, h, _ | .str _, _, h, _ | .nilp, _, h, _ | .nilsl, _, h, _ | .nilm, _, h, _ | .nilf, _, h, _ | .nili, _, h, _ => by
    simp only [Rep] at h; subst h; rfl
  | .row _ _ _, _, h, _ => by simp only [Rep] at h; obtain ⟨_, _, rfl, _⟩ := h; rfl
  | .relem _ _ _, _, h, _ => by simp only [Rep] at h; obtain ⟨_, _, rfl, _⟩ := h; rfl
  | .fn _ ws, _, h, hn => by
    simp only [Rep] at h
    obtain ⟨vs, rfl, h⟩ := h
    exact norefL_pure h (by simpa only [W.noref] using hn)
  | .ifc _ w, _, h, hn => by
    simp only [Rep] at h
    obtain ⟨u, rfl, h⟩ := h
    simp only [V.pure]
    exact noref_pure h (by simpa only [W.noref] using hn)
  | .agg ws, _, h, hn => by
    simp only [Rep] at h
    obtain ⟨vs, rfl, h⟩ := h
    exact norefL_pure h (by simpa only [W.noref] using hn)
  | .tup ws, _, h, hn => by
    simp only [Rep] at h
    obtain ⟨vs, rfl, h⟩ := h
    exact norefL_pure h (by simpa only [W.noref] using hn)
theorem norefL_pure : ∀ {ws : List (W T)} {vs : List V}, RepL C α β ws vs → norefL ws = true → pureL vs = true
  | [], _, h, _ => by simp only [RepL] at h; subst h; rfl
  | w :: ws, _, h, hn => by
    simp only [RepL] at h
    obtain ⟨v, vs', rfl, h1, h2⟩ := h
    simp only [norefL, Bool.and_eq_true] at hn
    simp only [pureL, Bool.and_eq_true]
    exact ⟨noref_pure h1 hn.1, norefL_pure h2 hn.2⟩
end
mutual
theorem noref_any : ∀ {w : W T} {v : V}, Rep C α β w v → W.noref w = true → Rep C α' β' w v
  | .undef, _, h, hn | .ptr _ _, _, h, hn | .own _ _, _, h, hn | .view _ _ _ _, _, h, hn | .oelem _ _ _ _, _, h, hn | .map _, _, h, hn | .yld _, _, h, hn => by simp [W.noref] at hn
  | .bool _, _, h, _ | .int _ _, _, h, _ | .str _, _, h, _ | .nilp, _, h, _ | .nilsl, _, h, _ | .nilm, _, h, _ | .nilf, _, h, _ | .nili, _, h, _ | .row _ _ _, _, h, _ | .relem _ _ _, _, h, _ => by simpa only [Rep] using h
  | .fn _ ws, _, h, hn => by
    simp only [Rep] at h ⊢
    obtain ⟨vs, rfl, h⟩ := h
    exact ⟨vs, rfl, norefL_any h (by simpa only [W.noref] using hn)⟩
  | .ifc _ w, _, h, hn => by
    simp only [Rep] at h ⊢
    obtain ⟨u, rfl, h⟩ := h
    exact ⟨u, rfl, noref_any h (by simpa only [W.noref] using hn)⟩
  | .agg ws, _, h, hn => by
    simp only [Rep] at h ⊢
    obtain ⟨vs, rfl, h⟩ := h
    exact ⟨vs, rfl, norefL_any h (by simpa only [W.noref] using hn)⟩
  | .tup ws, _, h, hn => by
    simp only [Rep] at h ⊢
    obtain ⟨vs, rfl, h⟩ := h
    exact ⟨vs, rfl, norefL_any h (by simpa only [W.noref] using hn)⟩
theorem norefL_any : ∀ {ws : List (W T)} {vs : List V}, RepL C α β ws vs → norefL ws = true → RepL C α' β' ws vs
  | [], _, h, _ => by simpa only [RepL] using h
  | w :: ws, _, h, hn => by
    simp only [RepL] at h ⊢
    obtain ⟨v, vs', rfl, h1, h2⟩ := h
    simp only [norefL, Bool.and_eq_true] at hn
    exact ⟨v, vs', rfl, noref_any h1 hn.1, norefL_any h2 hn.2⟩
end
mutual
theorem free_any : ∀ {w : W T} {v : V}, Rep C α β w v → W.free w = true → Rep C α' β' w v
  | .undef, _, _, _ => by simp only [Rep]
  | .ptr _ _, _, h, hn | .own _ _, _, h, hn | .view _ _ _ _, _, h, hn | .oelem _ _ _ _, _, h, hn | .map _, _, h, hn | .yld _, _, h, hn => by simp [W.free] at hn
  | .bool _, _, h, _ | .int _ _, _, h, _ | .str _, _, h, _ | .nilp, _, h, _ | .nilsl, _, h, _ | .nilm, _, h, _ | .nilf, _, h, _ | .nili, _, h, _ | .row _ _ _, _, h, _ | .relem _ _ _, _, h, _ => by simpa only [Rep] using h
  | .fn _ ws, _, h, hn => by
    simp only [Rep] at h ⊢
    obtain ⟨vs, rfl, h⟩ := h
    exact ⟨vs, rfl, freeL_any h (by simpa only [W.free] using hn)⟩
  | .ifc _ w, _, h, hn => by
    simp only [Rep] at h ⊢
    obtain ⟨u, rfl, h⟩ := h
    exact ⟨u, rfl, free_any h (by simpa only [W.free] using hn)⟩
  | .agg ws, _, h, hn => by
    simp only [Rep] at h ⊢
    obtain ⟨vs, rfl, h⟩ := h
    exact ⟨vs, rfl, freeL_any h (by simpa only [W.free] using hn)⟩
  | .tup ws, _, h, hn => by
    simp only [Rep] at h ⊢
    obtain ⟨vs, rfl, h⟩ := h
    exact ⟨vs, rfl, freeL_any h (by simpa only [W.free] using hn)⟩
theorem freeL_any : ∀ {ws : List (W T)} {vs : List V}, RepL C α β ws vs → freeL ws = true → RepL C α' β' ws vs
  | [], _, h, _ => by simpa only [RepL] using h
  | w :: ws, _, h, hn => by
    simp only [RepL] at h ⊢
    obtain ⟨v, vs', rfl, h1, h2⟩ := h
    simp only [freeL, Bool.and_eq_true] at hn
    exact ⟨v, vs', rfl, free_any h1 hn.1, freeL_any h2 hn.2⟩
end
theorem sub_rep {ws ws' : List (W T)} {vs : List V} (h : RepL C α β ws vs) {off n : Nat} (hs : subX ws off n = some ws') : ∃ vs', sub vs off n = some vs' ∧ RepL C α β ws' vs' := by
  unfold subX at hs
  split at hs
  · rename_i hl
    injection hs with hs
    subst hs
    exact ⟨_, by unfold sub; rw [if_pos (by rw [← h.length]; exact hl)], (h.drop off).take n⟩
  · cases hs
theorem splice_rep {ws cs : List (W T)} {vs ds : List V} (h : RepL C α β ws vs) (h' : RepL C α β cs ds) (off : Nat) : RepL C α β (spliceX ws off cs) (splice vs off ds) := by
  unfold spliceX splice
  have := ((h.take off).append h').append (h.drop (off + cs.length))
  rw [h'.length] at this ⊢
  exact this

/-! ### Data as values -/
def outV (C : Cod T) (k : Nat) (x : T k) : W T := if C.isAgg k then .agg (C.out k x) else (C.out k x).headD .undef
def inV (C : Cod T) (k : Nat) (w : W T) : Option (T k) :=
  match C.isAgg k, w with
  | true, .agg ws => C.inn k ws
  | false, w => if w.cellLike then C.inn k [w] else none
  | _, _ => none
/-- A value of the machine's make that holds the datum x. -/
def VR (C : Cod T) (k : Nat) (x : T k) (v : V) : Prop := ∃ cs, C.CR k x cs ∧ v = if C.isAgg k then .agg cs else cs.headD .undef
theorem VR.cells (ok : CodOk C) {k : Nat} {x : T k} {v : V} (h : VR C k x v) : C.CR k x (cellsOf v) := by
  obtain ⟨cs, h1, rfl⟩ := h
  split
  · exact h1
  · rename_i hn
    have hl := ok.len _ _ _ h1
    rw [ok.one k (by simpa using hn)] at hl
    match cs, hl with
    | [c], _ =>
      have hc := ok.cell _ _ _ h1
      simp only [List.all_cons, List.all_nil, Bool.and_true] at hc
      have : cellsOf c = [c] := by cases c <;> simp_all [V.cellLike, cellsOf]
      simp only [List.headD_cons, this]
      exact h1
theorem VR.pure (ok : CodOk C) {k : Nat} {x : T k} {v : V} (h : VR C k x v) : V.pure v = true := by
  obtain ⟨cs, h1, rfl⟩ := h
  have hp := ok.pure _ _ _ h1
  split
  · exact hp
  · rename_i hn
    have hl := ok.len _ _ _ h1
    rw [ok.one k (by simpa using hn)] at hl
    match cs, hl with
    | [c], _ => simpa [pureL] using hp
theorem outV_rep (ok : CodOk C) {k : Nat} {x : T k} {v : V} (h : VR C k x v) : Rep C α β (outV C k x) v := by
  obtain ⟨cs, h1, rfl⟩ := h
  unfold outV
  have h2 := ok.out _ _ _ h1 α β
  split
  · simp only [Rep]
    exact ⟨_, rfl, h2⟩
  · rename_i hn
    have hl := ok.len _ _ _ h1
    rw [ok.one k (by simpa using hn)] at hl
    match cs, hl with
    | [c], _ =>
      have := h2.length
      match hw : C.out k x, this with
      | [w], _ =>
        rw [hw] at h2
        exact (RepL.cons_iff.1 h2).1
theorem inV_rep (ok : CodOk C) {k : Nat} {w : W T} {x : T k} {v : V} (h : inV C k w = some x) (hr : Rep C α β w v) : VR C k x v := by
  unfold inV at h
  split at h
  · rename_i ws ha
    simp only [Rep] at hr
    obtain ⟨vs, rfl, hr⟩ := hr
    exact ⟨vs, ok.inn _ _ _ h _ _ _ hr, by rw [ha]; rfl⟩
  · rename_i ha
    split at h
    · exact ⟨[v], ok.inn _ _ _ h α β _ (RepL.cons hr RepL.nil), by rw [ha]; rfl⟩
    · cases h
  · cases h
theorem inn_rep (ok : CodOk C) {k : Nat} {ws : List (W T)} {x : T k} {vs : List V} (h : C.inn k ws = some x) (hr : RepL C α β ws vs) : C.CR k x vs := ok.inn _ _ _ h _ _ _ hr

/-! ### Memories -/
/-- Where a call began. -/
structure Base where
  m : Mem
  α : List Nat
  β : Bt
def MapR (C : Cod T) (kk kv : Nat) : List (T kk × T kv) → List (V × V) → Prop
  | [], es => es = []
  | (x, y) :: l, es => ∃ u v es', es = (u, v) :: es' ∧ VR C kk x u ∧ VR C kv y v ∧ MapR C kk kv l es'
def En.live : En T → Bool
  | .dead => false
  | _ => true
def EnOk (C : Cod T) (α : List Nat) (β : Bt) (m : Mem) (h : Nat) : En T → Prop
  | .dead => True
  | .rows k l => (β[h]? = some none ∧ l = []) ∨ ∃ b ver cs, β[h]? = some (some (b, ver, l.length)) ∧ m.B[b]? = some (.cells (C.size k) ver true false cs) ∧ CRL C k l cs
  | .map kk kv es => ∃ b ver n es', β[h]? = some (some (b, ver, n)) ∧ m.B[b]? = some (.map es') ∧ MapR C kk kv es es'
  | .loop s pend tm ps as bo pt => ∃ b ver n tm', β[h]? = some (some (b, ver, n)) ∧ m.B[b]? = some (.loop s pend tm' ps as bo) ∧ RepL C α β tm tm'

structure WSim (bs : Base) (C : Cod T) (α : List Nat) (β : Bt) (wm : WM T) (m : Mem) : Prop where
  lenA : α.length = wm.A.length
  lenH : β.length = wm.H.length
  A : ∀ (i j : Nat) ws, α[i]? = some j → wm.A[i]? = some ws → ∃ vs, m.A[j]? = some vs ∧ RepL C α β ws vs
  injA : ∀ (i i' j : Nat), α[i]? = some j → α[i']? = some j → i = i'
  la : ∀ (i j : Nat), α[i]? = some j → wm.la ≤ i → m.la ≤ j
  H : ∀ (h : Nat) e, wm.H[h]? = some e → EnOk C α β m h e
  injH : ∀ (h h' : Nat) e e' b ver n ver' n', wm.H[h]? = some e → wm.H[h']? = some e' → e.live = true → e'.live = true → β[h]? = some (some (b, ver, n)) → β[h']? = some (some (b, ver', n')) → h = h'
  lb : ∀ (h : Nat) e b ver n, wm.H[h]? = some e → e.live = true → β[h]? = some (some (b, ver, n)) → wm.lh ≤ h → m.lb ≤ b
  ltB : ∀ (h : Nat) b ver n, β[h]? = some (some (b, ver, n)) → b < m.B.length
  -- what was there before
  pa : bs.α <+: α
  pb : bs.β <+: β
  na : ∀ (i j : Nat), α[i]? = some j → bs.α.length ≤ i → bs.m.A.length ≤ j
  nb : ∀ (h : Nat) b ver n, β[h]? = some (some (b, ver, n)) → (∃ (h' : Nat) (ver' n' : Nat), bs.β[h']? = some (some (b, ver', n'))) ∨ bs.m.B.length ≤ b
  fa : ∀ (j : Nat), j < bs.m.A.length → (∀ (i : Nat), bs.α[i]? ≠ some j) → m.A[j]? = bs.m.A[j]?
  fb : ∀ (b : Nat), b < bs.m.B.length → (∀ (h : Nat) ver n, bs.β[h]? ≠ some (some (b, ver, n))) → m.B[b]? = bs.m.B[b]?
  lenA0 : bs.m.A.length ≤ m.A.length
  lenB0 : bs.m.B.length ≤ m.B.length
  la0 : m.la = bs.m.la
  lb0 : m.lb = bs.m.lb
  bla : bs.m.la ≤ bs.m.A.length
  blb : bs.m.lb ≤ bs.m.B.length
  hpa : bs.α.length = wm.pa
  bα : ∀ (i j : Nat), bs.α[i]? = some j → j < bs.m.A.length
  hph : bs.β.length = wm.ph

variable {bs : Base} {wm wm' : WM T} {m m' : Mem}
theorem WSim.ltA (S : WSim bs C α β wm m) {i j : Nat} (h : α[i]? = some j) : j < m.A.length := by
  have hi : i < wm.A.length := by rw [← S.lenA]; exact (List.getElem?_eq_some_iff.1 h).1
  obtain ⟨vs, h1, _⟩ := S.A i j _ h (List.getElem?_eq_getElem hi)
  exact (List.getElem?_eq_some_iff.1 h1).1
theorem WSim.rows (S : WSim bs C α β wm m) {h k : Nat} {l : List (T k)} (he : wm.H[h]? = some (.rows k l)) : (β[h]? = some none ∧ l = []) ∨ ∃ b ver cs, β[h]? = some (some (b, ver, l.length)) ∧ m.B[b]? = some (.cells (C.size k) ver true false cs) ∧ CRL C k l cs := by
  simpa only [EnOk] using S.H _ _ he
theorem EnOk.ext (ha : α <+: α') (hb : β <+: β') {h : Nat} {e : En T} (k : EnOk C α β m h e) : EnOk C α' β' m h e := by
  cases e with
  | dead => trivial
  | rows kk l =>
    simp only [EnOk] at k ⊢
    rcases k with ⟨k1, k2⟩ | ⟨b, ver, cs, k1, k2, k3⟩
    · exact .inl ⟨get_pre hb k1, k2⟩
    · exact .inr ⟨b, ver, cs, get_pre hb k1, k2, k3⟩
  | map kk kv es =>
    simp only [EnOk] at k ⊢
    obtain ⟨b, ver, n, es', k1, k2, k3⟩ := k
    exact ⟨b, ver, n, es', get_pre hb k1, k2, k3⟩
  | loop s pend tm ps as bo pt =>
    simp only [EnOk] at k ⊢
    obtain ⟨b, ver, n, tm', k1, k2, k3⟩ := k
    exact ⟨b, ver, n, tm', get_pre hb k1, k2, k3.ext ha hb⟩
end Go.Proofs.YtpdgbhjhodhkiaaGreatDoor.AI
