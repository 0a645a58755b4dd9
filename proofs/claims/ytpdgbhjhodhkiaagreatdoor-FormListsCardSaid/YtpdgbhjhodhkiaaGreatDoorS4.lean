/- Writes. -/
import Derived.Test.YtpdgbhjhodhkiaaGreatDoorS3
set_option linter.unusedVariables false
namespace Go.Proofs.YtpdgbhjhodhkiaaGreatDoor.AI
open Go
variable {kp : Kp}

/-- The machine's block c is another object now. -/
def putO (w : World) (c : Nat) (o : Obj) : World := { w with heap := w.heap.setIfInBounds c o }
section
variable {w : World} {c : Nat} {o o' : Obj}
theorem putO_same (h : c < w.heap.size) : (putO w c o).heap[c]? = some o := by simp [putO, h]
theorem putO_other {k : Nat} (h : k ≠ c) : (putO w c o).heap[k]? = w.heap[k]? := by
  simp only [putO, Array.getElem?_setIfInBounds]
  rw [if_neg (by omega)]
theorem putO_size : (putO w c o).heap.size = w.heap.size := by simp [putO]
theorem putO_putO : putO (putO w c o) c o' = putO w c o' := by simp [putO]
theorem putO_self (h : w.heap[c]? = some o) : putO w c o = w := by
  have : w.heap.setIfInBounds c o = w.heap := by
    apply Array.ext_getElem?
    intro i
    rw [Array.getElem?_setIfInBounds]
    split
    · rename_i e
      subst e
      split
      · exact h.symm
      · rename_i hn
        exact absurd (lt_of_heap h) hn
    · rfl
  simp [putO, this]
theorem setCell_put {arr : Array Value} {t : TypeId} (h : w.heap[c]? = some (.cells arr t (0, 0))) (off : Nat) (v : Value) :
    w.setCell ⟨c, off, none⟩ v = putO w c (.cells (arr.setIfInBounds off v) t (0, 0)) := by
  unfold World.setCell putO
  congr 1
  apply Array.ext_getElem?
  intro i
  rw [Array.getElem?_modify, Array.getElem?_setIfInBounds]
  by_cases e : c = i
  · subst e
    simp only [if_true, h, Option.map_some]
    rw [if_pos (lt_of_heap h)]
    simp
  · rw [if_neg e, if_neg e]
theorem cell_block {arr : Array Value} {t : TypeId} {fr : Nat × Nat} (h : w.heap[c]? = some (.cells arr t fr)) (off : Nat) : w.cell? ⟨c, off, none⟩ = arr[off]? := by
  simp [World.cell?, h]
end

theorem add_none (b off n : Nat) : (⟨b, off, none⟩ : Addr).add n = ⟨b, off + n, none⟩ := by
  unfold Addr.add
  split
  · subst_vars; rfl
  · rfl

theorem set_take_drop {α : Type} (l : List α) (k : Nat) (v : α) (vs : List α) (h : k < l.length) :
    (l.set k v).take (k + 1) ++ vs ++ (l.set k v).drop (k + 1 + vs.length) = l.take k ++ (v :: vs) ++ l.drop (k + (vs.length + 1)) := by
  have h1 : (l.set k v).take (k + 1) = l.take k ++ [v] := by
    rw [List.take_succ_eq_append_getElem (by simpa using h), List.take_set_of_le (Nat.le_refl _)]
    simp
  have h2 : (l.set k v).drop (k + 1 + vs.length) = l.drop (k + (vs.length + 1)) := by
    rw [List.drop_set_of_lt (by omega)]
    congr 1
    omega
  rw [h1, h2]
  simp

theorem run_storeCells_at {P : Program} : ∀ (vs : List Value) (w : World) (c off i : Nat) (arr : Array Value) (t : TypeId), w.heap[c]? = some (.cells arr t (0, 0)) → off + i + vs.length ≤ arr.size →
    (∀ (k : Nat) (v : Value), vs[k]? = some v → v.oneCell' = true) →
    ∃ arr' : Array Value, arr'.toList = arr.toList.take (off + i) ++ vs ++ arr.toList.drop (off + i + vs.length) ∧ (storeCells ⟨c, off, none⟩ vs i).run P w = .ok () (putO w c (.cells arr' t (0, 0)))
  | [], w, c, off, i, arr, t, h, _, _ => ⟨arr, by simp, by simp [storeCells, putO_self h]⟩
  | v :: vs, w, c, off, i, arr, t, h, hl, hv => by
    simp only [List.length_cons] at hl
    have hlt : off + i < arr.size := by omega
    have hc : w.cell? ⟨c, off + i, none⟩ = some arr[off + i] := by rw [cell_block h]; exact Array.getElem?_eq_getElem hlt
    have hf : w.frozen? ⟨c, off + i, none⟩ = false := frozen_of_row w c (off + i) arr t h
    have hs := run_store P w ⟨c, off + i, none⟩ v .plain (hv 0 v (by simp))
    simp only [hc, hf] at hs
    rw [setCell_put h] at hs
    have h2 : (putO w c (.cells (arr.setIfInBounds (off + i) v) t (0, 0))).heap[c]? = some (.cells (arr.setIfInBounds (off + i) v) t (0, 0)) := putO_same (lt_of_heap h)
    obtain ⟨arr', e, hr⟩ := run_storeCells_at (P := P) vs _ c off (i + 1) _ t h2 (by simp; omega) (fun k u hu => hv (k + 1) u (by simpa using hu))
    refine ⟨arr', ?_, ?_⟩
    · rw [e]
      simp only [Array.toList_setIfInBounds, List.length_cons]
      rw [show off + (i + 1) = off + i + 1 from by omega]
      exact set_take_drop _ _ _ _ (by simpa using hlt)
    · simp only [storeCells, add_none, Sem.run_bind, hs]
      simp only [Bool.false_eq_true, if_false, Result.andThen_ok]
      rw [hr, putO_putO]

theorem run_storeCells_block {P : Program} (vs : List Value) (w : World) (c off : Nat) (arr : Array Value) (t : TypeId) (h : w.heap[c]? = some (.cells arr t (0, 0))) (hl : off + vs.length ≤ arr.size)
    (hv : ∀ (k : Nat) (v : Value), vs[k]? = some v → v.oneCell' = true) :
    ∃ arr' : Array Value, arr'.toList = arr.toList.take off ++ vs ++ arr.toList.drop (off + vs.length) ∧ arr'.size = arr.size ∧ (storeCells ⟨c, off, none⟩ vs).run P w = .ok () (putO w c (.cells arr' t (0, 0))) := by
  obtain ⟨arr', e, hr⟩ := run_storeCells_at (P := P) vs w c off 0 arr t h (by simpa using hl) hv
  refine ⟨arr', by simpa using e, ?_, hr⟩
  have := congrArg List.length e
  simp at this
  omega

/-! ### A block of the abstract memory turns -/
section
variable {cx cx' : Cx} {m : Mem} {w : World}
/-- Block c, which one block of the abstract memory has, is another object now. -/
theorem keep_put (b0 c : Nat) (o : Obj) (hn : cx.own c ≠ .non ∧ cx.own c ≠ .prot ∧ cx.own c ≠ .dm) (hnb : cx'.nb = cx.nb) (hfo : cx'.fo = cx.fo) (hown : cx'.own = cx.own)
    (hvb : ∀ b, b ≠ b0 → cx'.vb b = cx.vb b ∧ cx'.fb b = cx.fb b) (hv0 : b0 < cx.nb → cx.vb b0 ≤ cx'.vb b0 ∧ (cx'.vb b0 = cx.vb b0 → cx'.fb b0 = cx.fb b0)) : Keep c b0 cx w cx' (putO w c o) where
  later := ⟨by rw [hnb]; exact Nat.le_refl _, fun b hb => by
    by_cases e : b = b0
    · subst e; exact hv0 hb
    · exact ⟨by rw [(hvb b e).1]; exact Nat.le_refl _, fun _ => (hvb b e).2⟩, fun b c h => by rw [hfo]; exact h, fun k hk h => ⟨putO_other (fun e => by subst e; exact hn.1 h), by rw [hown]; exact h⟩, by rw [putO_size]; exact Nat.le_refl _⟩
  heap k hk _ := putO_other hk
  own k _ := by rw [hown]
  vb b hb _ := hvb b hb
  ok _ := hn
theorem ev_put {m' : Mem} {b0 c : Nat} {o : Obj} (K : Keep c b0 cx w cx' (putO w c o)) (hc : c < w.heap.size) (hfa : cx'.fa = cx.fa) (hA : m.A.length ≤ m'.A.length)
    (hun : ∀ i, i < m.A.length → cx.fa i = none → m'.A[i]? = m.A[i]?) (hla : m'.la = m.la) (hlb : m'.lb = m.lb) : Ev m.A.length cx m w cx' m' (putO w c o) where
  fa i hi := by rw [hfa]
  un := hun
  ln := hA
  nb := K.later.nb
  vb := K.later.vb
  fo := K.later.fo
  non := K.later.non
  prot k h := by
    have e : k ≠ c := fun e => by subst e; exact (K.ok hc).2.1 h
    exact ⟨putO_other e, (K.own k e).trans h⟩
  dm k h := by
    have e : k ≠ c := fun e => by subst e; exact (K.ok hc).2.2 h
    exact ⟨putO_other e, (K.own k e).trans h⟩
  size := K.later.size
  os := rfl
  tape := rfl
  output := rfl
  la := hla
  lb := hlb

theorem sim_set_A (S : Sim kp cx m w) {i c : Nat} {old cs : List V} {arr arr' : Array Value} {t : TypeId} (hi : m.A[i]? = some old) (hc : cx.fa i = some c) (hla : m.la ≤ i) (ha : w.heap[c]? = some (.cells arr t (0, 0)))
    (hr : VRelL cx w cs arr'.toList) (h : Nat) :
    Sim kp cx { m with A := m.A.set i cs, hi := h } (putO w c (.cells arr' t (0, 0))) ∧ Ev m.A.length cx m w cx { m with A := m.A.set i cs, hi := h } (putO w c (.cells arr' t (0, 0))) := by
  have ho : cx.own c = .a i := by
    have := (S.A i old hi c hc).2
    rw [this, ownA, if_neg (by omega)]
  have K : Keep c cx.nb cx w cx (putO w c (.cells arr' t (0, 0))) := keep_put cx.nb c _ (by rw [ho]; simp) rfl rfl rfl (fun _ _ => ⟨rfl, rfl⟩) (fun h => absurd h (Nat.lt_irrefl _))
  refine ⟨⟨fun k xs hk => ?_, fun k d hd => by simpa using S.fa k d hd, fun b x hb => ?_, S.nb, S.fo, fun k hk => S.fresh k (by rw [← putO_size (w := w) (c := c) (o := .cells arr' t (0, 0))]; exact hk), by simpa using S.la, S.lb, S.kpt K.later.zero⟩,
    ev_put K (lt_of_heap ha) rfl (by simp) (fun k hk hn => by
      have : k ≠ i := fun e => by subst e; rw [hc] at hn; cases hn
      simp only
      rw [List.getElem?_set_ne (Ne.symm this)]) rfl rfl⟩
  · by_cases e : k = i
    · subst e
      intro d hd
      rw [hc] at hd
      injection hd with hd
      subst hd
      have hlt := (List.getElem?_eq_some_iff.1 hi).1
      simp only [List.getElem?_set_self hlt] at hk
      injection hk with hk
      subst hk
      exact ⟨⟨arr', t, putO_same (lt_of_heap ha), VRelL.on (n := m.A.length) K.later (fun _ _ _ h => h) _ _ (VRelL.maxA S.fa _ _ hr) hr⟩, (S.A k old hi c hc).2⟩
    · have hk' : m.A[k]? = some xs := by simpa [List.getElem?_set_ne (Ne.symm e)] using hk
      have hx := S.A k xs hk'
      intro d hd
      exact AOk.keep (n := m.A.length) K (fun _ _ _ h => h) (AOk.max S hx hd) hx rfl (fun _ => by rw [ho]; intro e'; injection e' with e'; exact e e'.symm) d hd
  · exact BOk.keep (n := m.A.length) K (fun _ _ _ h => h) (BB.hi_le S hb) (S.not_nb hb) (S.lt_nb hb) (S.B b x hb) (fun _ => by rw [ho]; simp)

theorem sim_set_B (S : Sim kp cx m w) {b sz ver : Nat} {pu pu' : Bool} {old cs : List V} {arr arr' : Array Value} {t : TypeId} (hb : m.B[b]? = some (.cells sz ver pu false old)) (hlb : m.lb ≤ b)
    (ha : w.heap[(cx.fb b).1]? = some (.cells arr t (0, 0))) (hsz : arr'.size = arr.size) (hl : cs.length ≤ arr.size) (hp : pu' = true → pureL cs = true) (hr : VRelL cx w cs (arr'.toList.take cs.length)) (h : Nat) :
    Sim kp cx { m with B := m.B.set b (.cells sz ver pu' false cs), hi := h } (putO w (cx.fb b).1 (.cells arr' t (0, 0))) ∧
      Ev m.A.length cx m w cx { m with B := m.B.set b (.cells sz ver pu' false cs), hi := h } (putO w (cx.fb b).1 (.cells arr' t (0, 0))) := by
  have hx := S.B b _ hb
  simp only [BOk] at hx
  obtain ⟨h1, h2, h3, h4, arr0, t0, h5, h6, h7, h8⟩ := hx
  rw [ha] at h5
  injection h5 with h5
  injection h5 with h5 _
  subst h5
  have ho : cx.own (cx.fb b).1 = .b b := by rw [h3]; simp only [ownB, Bool.false_eq_true, if_false]; rw [if_neg (by omega)]
  have K : Keep (cx.fb b).1 cx.nb cx w cx (putO w (cx.fb b).1 (.cells arr' t (0, 0))) := keep_put cx.nb _ _ (by rw [ho]; simp) rfl rfl rfl (fun _ _ => ⟨rfl, rfl⟩) (fun h => absurd h (Nat.lt_irrefl _))
  refine ⟨⟨fun k xs hk => ?_, S.fa, fun k x hk => ?_, by simpa using S.nb, fun k d hd => by simpa using S.fo k d hd, fun k hk => S.fresh k (by rw [← putO_size (w := w) (c := (cx.fb b).1) (o := .cells arr' t (0, 0))]; exact hk), S.la, by simpa using S.lb, S.kpt K.later.zero⟩,
    ev_put K (lt_of_heap ha) rfl (Nat.le_refl _) (fun k hk hn => rfl) rfl rfl⟩
  · have hx := S.A k xs hk
    intro d hd
    exact AOk.keep (n := m.A.length) K (fun _ _ _ h => h) (AOk.max S hx hd) hx rfl (fun _ => by rw [ho]; simp) d hd
  · by_cases e : k = b
    · subst e
      have hlt := (List.getElem?_eq_some_iff.1 hb).1
      simp only [List.getElem?_set_self hlt] at hk
      injection hk with hk
      subst hk
      simp only [BOk]
      exact ⟨h1, h2, h3, hp, arr', t, putO_same (lt_of_heap ha), hsz.trans h6, by omega, VRelL.on (n := m.A.length) K.later (fun _ _ _ h => h) _ _ (VRelL.maxA S.fa _ _ hr) hr⟩
    · have hk' : m.B[k]? = some x := by simpa [List.getElem?_set_ne (Ne.symm e)] using hk
      exact BOk.keep (n := m.A.length) K (fun _ _ _ h => h) (BB.hi_le S hk') (S.not_nb hk') (S.lt_nb hk') (S.B k x hk') (fun _ => by rw [ho]; exact ⟨fun e' => by injection e' with e'; exact e e'.symm, by simp⟩)

/-- The row of b grows where it lies: its version is another one. -/
theorem sim_bump_B (S : Sim kp cx m w) {b sz ver : Nat} {pu pu' : Bool} {old cs : List V} {arr arr' : Array Value} {t : TypeId} (hb : m.B[b]? = some (.cells sz ver pu false old)) (hlb : m.lb ≤ b)
    (ha : w.heap[(cx.fb b).1]? = some (.cells arr t (0, 0))) (hsz : arr'.size = arr.size) (hl : cs.length ≤ arr.size) (hp : pu' = true → pureL cs = true) (hr : VRelL cx w cs (arr'.toList.take cs.length)) (h : Nat) :
    ∃ cx', cx'.nb = cx.nb ∧ cx'.vb b = ver + 1 ∧ cx'.fb b = cx.fb b ∧ Sim kp cx' { m with B := m.B.set b (.cells sz (ver + 1) pu' false cs), hi := h } (putO w (cx.fb b).1 (.cells arr' t (0, 0))) ∧
      Ev m.A.length cx m w cx' { m with B := m.B.set b (.cells sz (ver + 1) pu' false cs), hi := h } (putO w (cx.fb b).1 (.cells arr' t (0, 0))) := by
  have hx := S.B b _ hb
  simp only [BOk] at hx
  obtain ⟨h1, h2, h3, h4, arr0, t0, h5, h6, h7, h8⟩ := hx
  rw [ha] at h5
  injection h5 with h5
  injection h5 with h5 _
  subst h5
  have ho : cx.own (cx.fb b).1 = .b b := by rw [h3]; simp only [ownB, Bool.false_eq_true, if_false]; rw [if_neg (by omega)]
  refine ⟨{ cx with vb := fun k => if k = b then ver + 1 else cx.vb k }, rfl, by simp, rfl, ?_⟩
  have K : Keep (cx.fb b).1 b cx w { cx with vb := fun k => if k = b then ver + 1 else cx.vb k } (putO w (cx.fb b).1 (.cells arr' t (0, 0))) :=
    keep_put b _ _ (by rw [ho]; simp) rfl rfl rfl (fun k hk => by simp [hk]) (fun _ => ⟨by simp only [if_true]; omega, fun _ => rfl⟩)
  refine ⟨⟨fun k xs hk => ?_, S.fa, fun k x hk => ?_, by simpa using S.nb, fun k d hd => by simpa using S.fo k d hd, fun k hk => S.fresh k (by rw [← putO_size (w := w) (c := (cx.fb b).1) (o := .cells arr' t (0, 0))]; exact hk), S.la, by simpa using S.lb, S.kpt K.later.zero⟩,
    ev_put K (lt_of_heap ha) rfl (Nat.le_refl _) (fun k hk hn => rfl) rfl rfl⟩
  · have hx := S.A k xs hk
    intro d hd
    exact AOk.keep (n := m.A.length) K (fun _ _ _ h => h) (AOk.max S hx hd) hx rfl (fun _ => by rw [ho]; simp) d hd
  · by_cases e : k = b
    · subst e
      have hlt := (List.getElem?_eq_some_iff.1 hb).1
      simp only [List.getElem?_set_self hlt] at hk
      injection hk with hk
      subst hk
      simp only [BOk, if_true]
      exact ⟨trivial, h2, h3, hp, arr', t, putO_same (lt_of_heap ha), hsz.trans h6, by omega, VRelL.on (n := m.A.length) K.later (fun _ _ _ h => h) _ _ (VRelL.maxA S.fa _ _ hr) hr⟩
    · have hk' : m.B[k]? = some x := by simpa [List.getElem?_set_ne (Ne.symm e)] using hk
      exact BOk.keep (n := m.A.length) K (fun _ _ _ h => h) (BB.hi_le S hk') e (S.lt_nb hk') (S.B k x hk') (fun _ => by rw [ho]; exact ⟨fun e' => by injection e' with e'; exact e e'.symm, by simp⟩)

/-- The row of b grows into a new block. -/
theorem sim_move_B (S : Sim kp cx m w) {b sz ver : Nat} {pu pu' : Bool} {old cs : List V} (arr' : Array Value) (t : TypeId) (hb : m.B[b]? = some (.cells sz ver pu false old)) (hlb : m.lb ≤ b)
    (hl : cs.length ≤ arr'.size) (hp : pu' = true → pureL cs = true) (hr : VRelL cx w cs (arr'.toList.take cs.length)) (h : Nat) :
    ∃ cx', cx'.nb = cx.nb ∧ cx'.vb b = ver + 1 ∧ cx'.fb b = (w.heap.size, sz, arr'.size) ∧ Sim kp cx' { m with B := m.B.set b (.cells sz (ver + 1) pu' false cs), hi := h } (w.alloc (.cells arr' t)) ∧
      Ev m.A.length cx m w cx' { m with B := m.B.set b (.cells sz (ver + 1) pu' false cs), hi := h } (w.alloc (.cells arr' t)) := by
  have hx := S.B b _ hb
  simp only [BOk] at hx
  obtain ⟨h1, h2, h3, h4, arr0, t0, h5, h6, h7, h8⟩ := hx
  refine ⟨{ cx with vb := fun k => if k = b then ver + 1 else cx.vb k, fb := fun k => if k = b then (w.heap.size, sz, arr'.size) else cx.fb k, own := fun c => if c = w.heap.size then .b b else cx.own c }, rfl, by simp, by simp, ?_⟩
  have K : Keep w.heap.size b cx w { cx with vb := fun k => if k = b then ver + 1 else cx.vb k, fb := fun k => if k = b then (w.heap.size, sz, arr'.size) else cx.fb k, own := fun c => if c = w.heap.size then .b b else cx.own c } (w.alloc (.cells arr' t)) :=
    { later := ⟨Nat.le_refl _, fun k hk => by
        by_cases e : k = b
        · subst e
          exact ⟨by simp only [if_true]; omega, fun e => by simp only [if_true] at e; omega⟩
        · simp [e], fun _ _ h => h, fun c hc h => ⟨heap_alloc_lt w _ hc, by simp [Nat.ne_of_lt hc, h]⟩, by simp⟩
      heap := fun c _ hc => heap_alloc_lt w _ hc
      own := fun c hc => by simp [hc]
      vb := fun k hk _ => by simp [hk]
      ok := fun h => absurd h (Nat.lt_irrefl _) }
  refine ⟨⟨fun k xs hk => ?_, S.fa, fun k x hk => ?_, by simpa using S.nb, fun k d hd => by simpa using S.fo k d hd, fun c hc => ?_, S.la, by simpa using S.lb, S.kpt K.later.zero⟩, ev_alloc S K (fun i hi => rfl) (Nat.le_refl _) (fun i hi _ => rfl) rfl rfl⟩
  · have hx := S.A k xs hk
    intro d hd
    exact AOk.keep (n := m.A.length) K (fun _ _ _ h => h) (AOk.max S hx hd) hx rfl (fun h => absurd h (Nat.lt_irrefl _)) d hd
  · by_cases e : k = b
    · subst e
      have hlt := (List.getElem?_eq_some_iff.1 hb).1
      simp only [List.getElem?_set_self hlt] at hk
      injection hk with hk
      subst hk
      simp only [BOk, if_true]
      refine ⟨trivial, trivial, ?_, hp, arr', t, heap_alloc_new w _, rfl, hl, VRelL.on (n := m.A.length) K.later (fun _ _ _ h => h) _ _ (VRelL.maxA S.fa _ _ hr) hr⟩
      simp only [ownB, Bool.false_eq_true, if_false]
      rw [if_neg (by omega)]
    · have hk' : m.B[k]? = some x := by simpa [List.getElem?_set_ne (Ne.symm e)] using hk
      exact BOk.keep (n := m.A.length) K (fun _ _ _ h => h) (BB.hi_le S hk') e (S.lt_nb hk') (S.B k x hk') (fun h => absurd h (Nat.lt_irrefl _))
  · have : w.heap.size + 1 ≤ c := by simpa using hc
    simp only
    rw [if_neg (by omega)]
    exact S.fresh c (by omega)

/-- A map, or a loop, is another one now. -/
theorem sim_set_O (S : Sim kp cx m w) {b c : Nat} {x y : BB} {o : Obj} (hb : m.B[b]? = some x) (hlb : m.lb ≤ b) (hc : cx.fo b = some c) (hoc : cx.own c = ownO m.lb b) (hlt : c < w.heap.size)
    (hy : Later cx w cx (putO w c o) → (putO w c o).heap[c]? = some o → BOk cx (putO w c o) m.lb b y) (h : Nat) :
    Sim kp cx { m with B := m.B.set b y, hi := h } (putO w c o) ∧ Ev m.A.length cx m w cx { m with B := m.B.set b y, hi := h } (putO w c o) := by
  have ho : cx.own c = .o b := by rw [hoc, ownO, if_neg (by omega)]
  have K : Keep c cx.nb cx w cx (putO w c o) := keep_put cx.nb _ _ (by rw [ho]; simp) rfl rfl rfl (fun _ _ => ⟨rfl, rfl⟩) (fun h => absurd h (Nat.lt_irrefl _))
  refine ⟨⟨fun k xs hk => ?_, S.fa, fun k z hk => ?_, by simpa using S.nb, fun k d hd => by simpa using S.fo k d hd, fun k hk => S.fresh k (by rw [← putO_size (w := w) (c := c) (o := o)]; exact hk), S.la, by simpa using S.lb, S.kpt K.later.zero⟩,
    ev_put K hlt rfl (Nat.le_refl _) (fun k hk hn => rfl) rfl rfl⟩
  · have hx := S.A k xs hk
    intro d hd
    exact AOk.keep (n := m.A.length) K (fun _ _ _ h => h) (AOk.max S hx hd) hx rfl (fun _ => by rw [ho]; simp) d hd
  · by_cases e : k = b
    · subst e
      have hl := (List.getElem?_eq_some_iff.1 hb).1
      simp only [List.getElem?_set_self hl] at hk
      injection hk with hk
      subst hk
      exact hy K.later (putO_same hlt)
    · have hk' : m.B[k]? = some z := by simpa [List.getElem?_set_ne (Ne.symm e)] using hk
      exact BOk.keep (n := m.A.length) K (fun _ _ _ h => h) (BB.hi_le S hk') (S.not_nb hk') (S.lt_nb hk') (S.B k z hk') (fun _ => by rw [ho]; exact ⟨by simp, fun e' => by injection e' with e'; exact e e'.symm⟩)
end
end Go.Proofs.YtpdgbhjhodhkiaaGreatDoor.AI
