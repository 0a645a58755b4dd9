/- The relation between abstract and machine states, and how it lives on. -/
import Derived.Test.YtpdgbhjhodhkiaaGreatDoorAI
import Derived.Laws.Rows
import Derived.Laws.Cells
set_option linter.unusedVariables false
namespace Go.Proofs.YtpdgbhjhodhkiaaGreatDoor.AI
open Go

/-- Who has a machine block: nobody (it stays as it is), a caller (the same, for now), a list of marks, or a block of the abstract memory. -/
inductive Own where
  | non | prot | dm | a (i : Nat) | b (i : Nat) | o (i : Nat)
  deriving DecidableEq

structure Cx where
  fa : Nat → Option Nat
  fb : Nat → Nat × Nat × Nat
  vb : Nat → Nat
  nb : Nat
  fo : Nat → Option Nat
  own : Nat → Own

/-- Blocks that are known and that nobody writes. -/
abbrev Kp := Nat → Option Obj

mutual
def VRel (cx : Cx) (w : World) : V → Value → Prop
  | .undef, _ => True
  | .bool b, v => v = .bool b
  | .int k n, v => v = .int k n
  | .str s, v => v = .string s
  | .nilp, v => v = .pointer none
  | .ptr i off, v => ∃ c, cx.fa i = some c ∧ v = .pointer (some ⟨c, off, none⟩)
  | .bptr b ver off, v => b < cx.nb ∧ ver ≤ cx.vb b ∧ (∃ a, v = .pointer (some a)) ∧ (ver = cx.vb b → v = .pointer (some ⟨(cx.fb b).1, off, none⟩))
  | .rp cells off, v => ∃ blk o, v = .pointer (some ⟨blk, o + off, none⟩) ∧ blk < w.heap.size ∧ cx.own blk = .non ∧ RowRel cx w cells blk o
  | .nils, v => v = .slice none 0 0
  | .sl b ver off len, v => b < cx.nb ∧ ver ≤ cx.vb b ∧ ∃ a cap, v = .slice a len cap ∧ len ≤ cap ∧ (cap = 0 ∨ a.isSome = true) ∧ (ver = cx.vb b → off + cap * (cx.fb b).2.1 = (cx.fb b).2.2 ∧ (cap = 0 ∨ a = some ⟨(cx.fb b).1, off, none⟩))
  | .ro cells n full, v => ∃ a cap, v = .slice a n cap ∧ n ≤ cap ∧ (full = true → cap = n) ∧ (cells = [] ∨ ∃ blk o, a = some ⟨blk, o, none⟩ ∧ blk < w.heap.size ∧ cx.own blk = .non ∧ RowRel cx w cells blk o)
  | .nilm, v => v = .map none
  | .map b, v => ∃ c, cx.fo b = some c ∧ v = .map (some c)
  | .nilf, v => v = .nilFunc
  | .fn f caps, v => ∃ arr, v = .func (.func f) #[] arr ∧ VRelL cx w caps arr.toList
  | .yld l, v => ∃ c, cx.fo l = some c ∧ v = .func (.yield c) #[] #[]
  | .nili, v => v = .nilIface
  | .ifc t x, v => ∃ u, v = .iface t u ∧ VRel cx w x u
  | .agg cs, v => ∃ arr, v = .agg arr ∧ VRelL cx w cs arr.toList
  | .tup vs, v => ∃ arr, v = .tuple arr ∧ VRelL cx w vs arr.toList
def RowRel (cx : Cx) (w : World) : List V → Nat → Nat → Prop
  | [], _, _ => True
  | x :: xs, blk, o => V.pure x = true ∧ (∃ v, w.cell? ⟨blk, o, none⟩ = some v ∧ VRel cx w x v) ∧ RowRel cx w xs blk (o + 1)
def VRelL (cx : Cx) (w : World) : List V → List Value → Prop
  | [], [] => True
  | x :: xs, v :: vs => VRel cx w x v ∧ VRelL cx w xs vs
  | [], _ :: _ => False
  | _ :: _, [] => False
end

/-- One machine world behind another, one abstract memory behind another. 'n': so many blocks of A have lived on. -/
structure Ev (n : Nat) (cx : Cx) (m : Mem) (w : World) (cx' : Cx) (m' : Mem) (w' : World) : Prop where
  fa : ∀ i, i < n → cx'.fa i = cx.fa i
  un : ∀ i, i < n → cx.fa i = none → m'.A[i]? = m.A[i]?
  ln : n ≤ m'.A.length
  nb : cx.nb ≤ cx'.nb
  vb : ∀ b, b < cx.nb → cx.vb b ≤ cx'.vb b ∧ (cx'.vb b = cx.vb b → cx'.fb b = cx.fb b)
  fo : ∀ b c, cx.fo b = some c → cx'.fo b = some c
  non : ∀ c, c < w.heap.size → cx.own c = .non → w'.heap[c]? = w.heap[c]? ∧ cx'.own c = .non
  prot : ∀ c, cx.own c = .prot → w'.heap[c]? = w.heap[c]? ∧ cx'.own c = .prot
  dm : ∀ c, cx.own c = .dm → w'.heap[c]? = w.heap[c]? ∧ cx'.own c = .dm
  size : w.heap.size ≤ w'.heap.size
  os : w'.os = w.os
  tape : w'.tape = w.tape
  output : w'.output = w.output
  la : m'.la = m.la
  lb : m'.lb = m.lb

theorem Ev.refl (cx : Cx) (m : Mem) (w : World) (n : Nat) (hn : n ≤ m.A.length) : Ev n cx m w cx m w :=
  ⟨fun _ _ => rfl, fun _ _ _ => rfl, hn, Nat.le_refl _, fun _ _ => ⟨Nat.le_refl _, fun _ => rfl⟩, fun _ _ h => h, fun _ _ h => ⟨rfl, h⟩, fun _ h => ⟨rfl, h⟩, fun _ h => ⟨rfl, h⟩, Nat.le_refl _, rfl, rfl, rfl, rfl, rfl⟩

theorem Ev.trans {n n2 : Nat} {cx cx1 cx2 : Cx} {m m1 m2 : Mem} {w w1 w2 : World} (h : Ev n cx m w cx1 m1 w1) (k : Ev n2 cx1 m1 w1 cx2 m2 w2) (hn : n ≤ n2) : Ev n cx m w cx2 m2 w2 where
  fa i hi := (k.fa i (by omega)).trans (h.fa i hi)
  un i hi hf := (k.un i (by omega) ((h.fa i hi).trans hf)).trans (h.un i hi hf)
  ln := by have := k.ln; omega
  nb := Nat.le_trans h.nb k.nb
  vb b hb := by
    have h1 := h.vb b hb
    have h2 := k.vb b (Nat.lt_of_lt_of_le hb h.nb)
    refine ⟨Nat.le_trans h1.1 h2.1, fun e => ?_⟩
    have e1 : cx1.vb b = cx.vb b := by omega
    have e2 : cx2.vb b = cx1.vb b := by omega
    exact (h2.2 e2).trans (h1.2 e1)
  fo b c hc := k.fo b c (h.fo b c hc)
  non c hc ho := by
    have h1 := h.non c hc ho
    have h2 := k.non c (Nat.lt_of_lt_of_le hc h.size) h1.2
    exact ⟨h2.1.trans h1.1, h2.2⟩
  prot c ho := by
    have h1 := h.prot c ho
    have h2 := k.prot c h1.2
    exact ⟨h2.1.trans h1.1, h2.2⟩
  dm c ho := by
    have h1 := h.dm c ho
    have h2 := k.dm c h1.2
    exact ⟨h2.1.trans h1.1, h2.2⟩
  size := Nat.le_trans h.size k.size
  os := k.os.trans h.os
  tape := k.tape.trans h.tape
  output := k.output.trans h.output
  la := k.la.trans h.la
  lb := k.lb.trans h.lb

theorem Ev.mono {n n2 : Nat} {cx cx1 : Cx} {m m1 : Mem} {w w1 : World} (h : Ev n cx m w cx1 m1 w1) (hn : n2 ≤ n) : Ev n2 cx m w cx1 m1 w1 :=
  { h with fa := fun i hi => h.fa i (by omega), un := fun i hi => h.un i (by omega), ln := Nat.le_trans hn h.ln }

theorem cell_of_heap {w w' : World} {b : Nat} (h : w'.heap[b]? = w.heap[b]?) (o : Nat) : w'.cell? ⟨b, o, none⟩ = w.cell? ⟨b, o, none⟩ := by
  simp [World.cell?, h]

/-- What a value's relation needs of a later context. -/
structure Later (cx : Cx) (w : World) (cx' : Cx) (w' : World) : Prop where
  nb : cx.nb ≤ cx'.nb
  vb : ∀ b, b < cx.nb → cx.vb b ≤ cx'.vb b ∧ (cx'.vb b = cx.vb b → cx'.fb b = cx.fb b)
  fo : ∀ b c, cx.fo b = some c → cx'.fo b = some c
  non : ∀ c, c < w.heap.size → cx.own c = .non → w'.heap[c]? = w.heap[c]? ∧ cx'.own c = .non
  size : w.heap.size ≤ w'.heap.size

/-- What a pure value's relation needs. -/
structure Later0 (cx : Cx) (w : World) (cx' : Cx) (w' : World) : Prop where
  non : ∀ c, c < w.heap.size → cx.own c = .non → w'.heap[c]? = w.heap[c]? ∧ cx'.own c = .non
  size : w.heap.size ≤ w'.heap.size
theorem Later.zero {cx cx' : Cx} {w w' : World} (h : Later cx w cx' w') : Later0 cx w cx' w' := ⟨h.non, h.size⟩

theorem Ev.later {n : Nat} {cx cx1 : Cx} {m m1 : Mem} {w w1 : World} (h : Ev n cx m w cx1 m1 w1) : Later cx w cx1 w1 := ⟨h.nb, h.vb, h.fo, h.non, h.size⟩

mutual
theorem VRel.on {cx cx' : Cx} {w w' : World} {n : Nat} (L : Later cx w cx' w') (hfa : ∀ i c, i < n → cx.fa i = some c → cx'.fa i = some c) : ∀ (x : V) (v : Value), V.maxA x ≤ n → VRel cx w x v → VRel cx' w' x v
  | .undef, _, _, _ => by simp [VRel]
  | .bool _, _, _, h => by simpa [VRel] using h
  | .int _ _, _, _, h => by simpa [VRel] using h
  | .str _, _, _, h => by simpa [VRel] using h
  | .nilp, _, _, h => by simpa [VRel] using h
  | .ptr i off, v, hm, h => by
    simp only [VRel] at h ⊢
    obtain ⟨c, h1, h2⟩ := h
    simp only [V.maxA] at hm
    exact ⟨c, hfa i c (by omega) h1, h2⟩
  | .bptr b ver off, v, _, h => by
    simp only [VRel] at h ⊢
    obtain ⟨h1, h2, h3, h4⟩ := h
    have hv := L.vb b h1
    refine ⟨Nat.lt_of_lt_of_le h1 L.nb, Nat.le_trans h2 hv.1, h3, fun e => ?_⟩
    rw [hv.2 (by omega)]
    exact h4 (by omega)
  | .rp cells off, v, _, h => by
    simp only [VRel] at h ⊢
    obtain ⟨blk, o, h1, h2, h3, h4⟩ := h
    have hn := L.non blk h2 h3
    exact ⟨blk, o, h1, Nat.lt_of_lt_of_le h2 L.size, hn.2, RowRel.on L.zero cells blk o hn.1 h4⟩
  | .nils, _, _, h => by simpa [VRel] using h
  | .sl b ver off len, v, _, h => by
    simp only [VRel] at h ⊢
    obtain ⟨h1, h2, a, cap, h3, h4, h45, h5⟩ := h
    have hv := L.vb b h1
    refine ⟨Nat.lt_of_lt_of_le h1 L.nb, Nat.le_trans h2 hv.1, a, cap, h3, h4, h45, fun e => ?_⟩
    rw [hv.2 (by omega)]
    exact h5 (by omega)
  | .ro cells n' full, v, _, h => by
    simp only [VRel] at h ⊢
    obtain ⟨a, cap, h1, h12, h2, h3⟩ := h
    refine ⟨a, cap, h1, h12, h2, ?_⟩
    rcases h3 with h3 | ⟨blk, o, h3, h4, h5, h6⟩
    · exact .inl h3
    · have hn := L.non blk h4 h5
      exact .inr ⟨blk, o, h3, Nat.lt_of_lt_of_le h4 L.size, hn.2, RowRel.on L.zero cells blk o hn.1 h6⟩
  | .nilm, _, _, h => by simpa [VRel] using h
  | .map b, v, _, h => by
    simp only [VRel] at h ⊢
    obtain ⟨c, h1, h2⟩ := h
    exact ⟨c, L.fo b c h1, h2⟩
  | .nilf, _, _, h => by simpa [VRel] using h
  | .fn f caps, v, hm, h => by
    simp only [VRel] at h ⊢
    obtain ⟨arr, h1, h2⟩ := h
    simp only [V.maxA] at hm
    exact ⟨arr, h1, VRelL.on L hfa caps arr.toList hm h2⟩
  | .yld l, v, _, h => by
    simp only [VRel] at h ⊢
    obtain ⟨c, h1, h2⟩ := h
    exact ⟨c, L.fo l c h1, h2⟩
  | .nili, _, _, h => by simpa [VRel] using h
  | .ifc t x, v, hm, h => by
    simp only [VRel] at h ⊢
    obtain ⟨u, h1, h2⟩ := h
    simp only [V.maxA] at hm
    exact ⟨u, h1, VRel.on L hfa x u hm h2⟩
  | .agg cs, v, hm, h => by
    simp only [VRel] at h ⊢
    obtain ⟨arr, h1, h2⟩ := h
    simp only [V.maxA] at hm
    exact ⟨arr, h1, VRelL.on L hfa cs arr.toList hm h2⟩
  | .tup vs, v, hm, h => by
    simp only [VRel] at h ⊢
    obtain ⟨arr, h1, h2⟩ := h
    simp only [V.maxA] at hm
    exact ⟨arr, h1, VRelL.on L hfa vs arr.toList hm h2⟩
theorem RowRel.on {cx cx' : Cx} {w w' : World} (L : Later0 cx w cx' w') : ∀ (cells : List V) (blk o : Nat), w'.heap[blk]? = w.heap[blk]? → RowRel cx w cells blk o → RowRel cx' w' cells blk o
  | [], _, _, _, _ => by simp [RowRel]
  | x :: xs, blk, o, hb, h => by
    simp only [RowRel] at h ⊢
    obtain ⟨h1, ⟨v, h2, h3⟩, h4⟩ := h
    refine ⟨h1, ⟨v, (cell_of_heap hb o).trans h2, ?_⟩, RowRel.on L xs blk (o + 1) hb h4⟩
    exact VRel.onP L x v h1 h3
theorem VRelL.on {cx cx' : Cx} {w w' : World} {n : Nat} (L : Later cx w cx' w') (hfa : ∀ i c, i < n → cx.fa i = some c → cx'.fa i = some c) : ∀ (xs : List V) (vs : List Value), maxAL xs ≤ n → VRelL cx w xs vs → VRelL cx' w' xs vs
  | [], [], _, _ => by simp [VRelL]
  | [], _ :: _, _, h => by simp [VRelL] at h
  | _ :: _, [], _, h => by simp [VRelL] at h
  | x :: xs, v :: vs, hm, h => by
    simp only [VRelL] at h ⊢
    simp only [maxAL] at hm
    exact ⟨VRel.on L hfa x v (by omega) h.1, VRelL.on L hfa xs vs (by omega) h.2⟩
theorem VRel.onP {cx cx' : Cx} {w w' : World} (L : Later0 cx w cx' w') : ∀ (x : V) (v : Value), V.pure x = true → VRel cx w x v → VRel cx' w' x v
  | .undef, _, _, _ => by simp [VRel]
  | .bool _, _, _, h => by simpa [VRel] using h
  | .int _ _, _, _, h => by simpa [VRel] using h
  | .str _, _, _, h => by simpa [VRel] using h
  | .nilp, _, _, h => by simpa [VRel] using h
  | .ptr _ _, _, hp, _ => by simp [V.pure] at hp
  | .bptr _ _ _, _, hp, _ => by simp [V.pure] at hp
  | .rp cells off, v, _, h => by
    simp only [VRel] at h ⊢
    obtain ⟨blk, o, h1, h2, h3, h4⟩ := h
    have hn := L.non blk h2 h3
    exact ⟨blk, o, h1, Nat.lt_of_lt_of_le h2 L.size, hn.2, RowRel.on L cells blk o hn.1 h4⟩
  | .nils, _, _, h => by simpa [VRel] using h
  | .sl _ _ _ _, _, hp, _ => by simp [V.pure] at hp
  | .ro cells n' full, v, _, h => by
    simp only [VRel] at h ⊢
    obtain ⟨a, cap, h1, h12, h2, h3⟩ := h
    refine ⟨a, cap, h1, h12, h2, ?_⟩
    rcases h3 with h3 | ⟨blk, o, h3, h4, h5, h6⟩
    · exact .inl h3
    · have hn := L.non blk h4 h5
      exact .inr ⟨blk, o, h3, Nat.lt_of_lt_of_le h4 L.size, hn.2, RowRel.on L cells blk o hn.1 h6⟩
  | .nilm, _, _, h => by simpa [VRel] using h
  | .map _, _, hp, _ => by simp [V.pure] at hp
  | .nilf, _, _, h => by simpa [VRel] using h
  | .fn f caps, v, hp, h => by
    simp only [VRel] at h ⊢
    obtain ⟨arr, h1, h2⟩ := h
    simp only [V.pure] at hp
    exact ⟨arr, h1, VRelL.onP L caps arr.toList hp h2⟩
  | .yld _, _, hp, _ => by simp [V.pure] at hp
  | .nili, _, _, h => by simpa [VRel] using h
  | .ifc t x, v, hp, h => by
    simp only [VRel] at h ⊢
    obtain ⟨u, h1, h2⟩ := h
    simp only [V.pure] at hp
    exact ⟨u, h1, VRel.onP L x u hp h2⟩
  | .agg cs, v, hp, h => by
    simp only [VRel] at h ⊢
    obtain ⟨arr, h1, h2⟩ := h
    simp only [V.pure] at hp
    exact ⟨arr, h1, VRelL.onP L cs arr.toList hp h2⟩
  | .tup vs, v, hp, h => by
    simp only [VRel] at h ⊢
    obtain ⟨arr, h1, h2⟩ := h
    simp only [V.pure] at hp
    exact ⟨arr, h1, VRelL.onP L vs arr.toList hp h2⟩
theorem VRelL.onP {cx cx' : Cx} {w w' : World} (L : Later0 cx w cx' w') : ∀ (xs : List V) (vs : List Value), pureL xs = true → VRelL cx w xs vs → VRelL cx' w' xs vs
  | [], [], _, _ => by simp [VRelL]
  | [], _ :: _, _, h => by simp [VRelL] at h
  | _ :: _, [], _, h => by simp [VRelL] at h
  | x :: xs, v :: vs, hp, h => by
    simp only [VRelL] at h ⊢
    simp only [pureL, Bool.and_eq_true] at hp
    exact ⟨VRel.onP L x v hp.1 h.1, VRelL.onP L xs vs hp.2 h.2⟩
end

end Go.Proofs.YtpdgbhjhodhkiaaGreatDoor.AI
