/- One block of the machine's heap turns, or is laid: all else lives on. -/
import Derived.Test.YtpdgbhjhodhkiaaGreatDoorS2
set_option linter.unusedVariables false
namespace Go.Proofs.YtpdgbhjhodhkiaaGreatDoor.AI
open Go
variable {kp : Kp}

/-- All lives on but the machine's block c0 and block b0 of B. -/
structure Keep (c0 b0 : Nat) (cx : Cx) (w : World) (cx' : Cx) (w' : World) : Prop where
  later : Later cx w cx' w'
  heap : ∀ c, c ≠ c0 → c < w.heap.size → w'.heap[c]? = w.heap[c]?
  own : ∀ c, c ≠ c0 → cx'.own c = cx.own c
  vb : ∀ b, b ≠ b0 → b < cx.nb → cx'.vb b = cx.vb b ∧ cx'.fb b = cx.fb b
  ok : c0 < w.heap.size → cx.own c0 ≠ .non ∧ cx.own c0 ≠ .prot ∧ cx.own c0 ≠ .dm

theorem lt_of_heap {w : World} {c : Nat} {o : Obj} (h : w.heap[c]? = some o) : c < w.heap.size := (Array.getElem?_eq_some_iff.1 h).1

section
variable {c0 b0 n : Nat} {cx cx' : Cx} {w w' : World}
theorem AOk.keep {la i : Nat} {cs : List V} (K : Keep c0 b0 cx w cx' w') (hfa : ∀ i c, i < n → cx.fa i = some c → cx'.fa i = some c) (hm : maxAL cs ≤ n) (h : AOk cx w la i cs) (hi : cx'.fa i = cx.fa i)
    (hx : c0 < w.heap.size → cx.own c0 ≠ .a i) : AOk cx' w' la i cs := by
  intro c hcx
  rw [hi] at hcx
  obtain ⟨⟨arr, t, h1, h2⟩, h3⟩ := h c hcx
  have hc : c ≠ c0 := by
    rintro rfl
    have hlt := lt_of_heap h1
    have := K.ok hlt
    have := hx hlt
    unfold ownA at h3
    split at h3 <;> simp_all
  exact ⟨⟨arr, t, (K.heap c hc (lt_of_heap h1)).trans h1, VRelL.on K.later hfa cs _ hm h2⟩, (K.own c hc).trans h3⟩
theorem BOk.keep {lb b : Nat} {x : BB} (K : Keep c0 b0 cx w cx' w') (hfa : ∀ i c, i < n → cx.fa i = some c → cx'.fa i = some c) (hm : x.hi ≤ n) (hb : b ≠ b0) (hn : b < cx.nb) (h : BOk cx w lb b x)
    (hx : c0 < w.heap.size → cx.own c0 ≠ .b b ∧ cx.own c0 ≠ .o b) : BOk cx' w' lb b x := by
  cases x with
  | cells sz ver pu fz cs =>
    simp only [BOk, BB.hi] at h hm ⊢
    obtain ⟨h1, h2, h3, h4, arr, t, h5, h6, h7, h8⟩ := h
    have hv := K.vb b hb hn
    have hc : (cx.fb b).1 ≠ c0 := by
      intro e
      have hlt := lt_of_heap h5
      rw [e] at hlt h3
      have := K.ok hlt
      have := hx hlt
      unfold ownB at h3
      split at h3
      · simp_all
      · split at h3 <;> simp_all
    rw [hv.1, hv.2]
    refine ⟨h1, h2, (K.own _ hc).trans h3, h4, arr, t, (K.heap _ hc (lt_of_heap h5)).trans h5, h6, h7, VRelL.on K.later hfa cs _ hm h8⟩
  | map es =>
    simp only [BOk, BB.hi] at h hm ⊢
    obtain ⟨c, fs, clk, h1, h2, h3, h4⟩ := h
    have hc : c ≠ c0 := by
      rintro rfl
      have hlt := lt_of_heap h2
      have := K.ok hlt
      have := hx hlt
      unfold ownO at h4
      split at h4 <;> simp_all
    exact ⟨c, fs, clk, K.later.fo b c h1, (K.heap c hc (lt_of_heap h2)).trans h2, EsRel.on K.later hfa es _ hm h3, (K.own c hc).trans h4⟩
  | loop s p tm ps as bo =>
    simp only [BOk, BB.hi] at h hm ⊢
    obtain ⟨c, fn, D, tmps, h1, h2, h3, h4⟩ := h
    have hc : c ≠ c0 := by
      rintro rfl
      have hlt := lt_of_heap h2
      have := K.ok hlt
      have := hx hlt
      unfold ownO at h4
      split at h4 <;> simp_all
    exact ⟨c, fn, D, tmps, K.later.fo b c h1, (K.heap c hc (lt_of_heap h2)).trans h2, VRelL.on K.later hfa tm _ hm h3, (K.own c hc).trans h4⟩
end

theorem BB.hi_le {cx : Cx} {m : Mem} {w : World} (S : Sim kp cx m w) {b : Nat} {x : BB} (h : m.B[b]? = some x) : x.hi ≤ m.A.length := by
  have hx := S.B b x h
  cases x with
  | cells sz ver pu fz cs =>
    simp only [BOk] at hx
    obtain ⟨_, _, _, _, arr, t, _, _, _, h8⟩ := hx
    exact VRelL.maxA S.fa cs _ h8
  | map es =>
    simp only [BOk] at hx
    obtain ⟨c, fs, clk, _, _, h3, _⟩ := hx
    exact EsRel.maxA S.fa es _ h3
  | loop s p tm ps as bo =>
    simp only [BOk] at hx
    obtain ⟨c, fn, D, tmps, _, _, h3, _⟩ := hx
    exact VRelL.maxA S.fa tm _ h3
theorem Sim.lt_nb {cx : Cx} {m : Mem} {w : World} (S : Sim kp cx m w) {b : Nat} {x : BB} (h : m.B[b]? = some x) : b < cx.nb := by
  rw [S.nb]; exact (List.getElem?_eq_some_iff.1 h).1
theorem Sim.not_nb {cx : Cx} {m : Mem} {w : World} (S : Sim kp cx m w) {b : Nat} {x : BB} (h : m.B[b]? = some x) : b ≠ cx.nb := Nat.ne_of_lt (S.lt_nb h)

theorem later_heap {cx : Cx} {w w' : World} (hh : w'.heap = w.heap) : Later cx w cx w' :=
  ⟨Nat.le_refl _, fun _ _ => ⟨Nat.le_refl _, fun _ => rfl⟩, fun _ _ h => h, fun _ _ h => ⟨by rw [hh], h⟩, by rw [hh]; exact Nat.le_refl _⟩
/-- The world has drawn: nothing else. -/
theorem Sim.heap {cx : Cx} {m : Mem} {w w' : World} (S : Sim kp cx m w) (hh : w'.heap = w.heap) : Sim kp cx m w' where
  A i cs h c hc := by
    obtain ⟨⟨arr, t, h1, h2⟩, h3⟩ := S.A i cs h c hc
    exact ⟨⟨arr, t, by rw [hh]; exact h1, VRelL.on (n := m.A.length) (later_heap hh) (fun _ _ _ h => h) cs _ (VRelL.maxA S.fa _ _ h2) h2⟩, h3⟩
  fa := S.fa
  B b x h :=
    BOk.keep (n := m.A.length) (c0 := w.heap.size) (b0 := cx.nb) ⟨later_heap hh, fun _ _ _ => by rw [hh], fun _ _ => rfl, fun _ _ _ => ⟨rfl, rfl⟩, fun h => absurd h (Nat.lt_irrefl _)⟩ (fun _ _ _ h => h)
      (BB.hi_le S h) (S.not_nb h) (S.lt_nb h) (S.B b x h) (fun h => absurd h (Nat.lt_irrefl _))
  nb := S.nb
  fo := S.fo
  fresh c hc := S.fresh c (by rw [← hh]; exact hc)
  la := S.la
  lb := S.lb
  kept := S.kpt (later_heap hh).zero
theorem Ev.heap {cx : Cx} {m : Mem} {w w' : World} (hh : w'.heap = w.heap) (ho : w'.os = w.os) (ht : w'.tape = w.tape) (hp : w'.output = w.output) : Ev m.A.length cx m w cx m w' where
  fa _ _ := rfl
  un _ _ _ := rfl
  ln := Nat.le_refl _
  nb := Nat.le_refl _
  vb _ _ := ⟨Nat.le_refl _, fun _ => rfl⟩
  fo _ _ h := h
  non c _ h := ⟨by rw [hh], h⟩
  prot c h := ⟨by rw [hh], h⟩
  dm c h := ⟨by rw [hh], h⟩
  size := by rw [hh]; exact Nat.le_refl _
  os := ho
  tape := ht
  output := hp
  la := rfl
  lb := rfl

/-! ### A new block -/
section alloc
variable {cx : Cx} {m : Mem} {w : World}
theorem heap_alloc_lt (w : World) (o : Obj) {c : Nat} (h : c < w.heap.size) : (w.alloc o).heap[c]? = w.heap[c]? := heap_alloc_old w o c h

/-- The context in which block c0 is laid for 'x'. -/
def Cx.withOwn (cx : Cx) (c0 : Nat) (x : Own) : Cx := { cx with own := fun c => if c = c0 then x else cx.own c }
theorem keep_alloc {cx' : Cx} (o : Obj) (hnb : cx.nb ≤ cx'.nb) (hvb : ∀ b, b < cx.nb → cx'.vb b = cx.vb b ∧ cx'.fb b = cx.fb b) (hfo : ∀ b c, cx.fo b = some c → cx'.fo b = some c)
    (hown : ∀ c, c ≠ w.heap.size → cx'.own c = cx.own c) : Keep w.heap.size cx.nb cx w cx' (w.alloc o) where
  later := ⟨hnb, fun b hb => ⟨by rw [(hvb b hb).1]; exact Nat.le_refl _, fun _ => (hvb b hb).2⟩, hfo, fun c hc h => ⟨heap_alloc_lt w o hc, (hown c (Nat.ne_of_lt hc)).trans h⟩, by simp⟩
  heap c _ hc := heap_alloc_lt w o hc
  own := hown
  vb b _ hb := hvb b hb
  ok h := absurd h (Nat.lt_irrefl _)

theorem ev_alloc {cx' : Cx} {m' : Mem} {o : Obj} {b0 : Nat} (S : Sim kp cx m w) (K : Keep w.heap.size b0 cx w cx' (w.alloc o)) (hfa : ∀ i, i < m.A.length → cx.fa i = cx'.fa i) (hA : m.A.length ≤ m'.A.length)
    (hun : ∀ i, i < m.A.length → cx.fa i = none → m'.A[i]? = m.A[i]?) (hla : m'.la = m.la) (hlb : m'.lb = m.lb) : Ev m.A.length cx m w cx' m' (w.alloc o) where
  fa i hi := (hfa i hi).symm
  un := hun
  ln := hA
  nb := K.later.nb
  vb := K.later.vb
  fo := K.later.fo
  non := K.later.non
  prot c h := by
    have hc : c < w.heap.size := by
      rcases Nat.lt_or_ge c w.heap.size with h' | h'
      · exact h'
      · rw [S.fresh c h'] at h; cases h
    exact ⟨heap_alloc_lt w o hc, (K.own c (Nat.ne_of_lt hc)).trans h⟩
  dm c h := by
    have hc : c < w.heap.size := by
      rcases Nat.lt_or_ge c w.heap.size with h' | h'
      · exact h'
      · rw [S.fresh c h'] at h; cases h
    exact ⟨heap_alloc_lt w o hc, (K.own c (Nat.ne_of_lt hc)).trans h⟩
  size := K.later.size
  os := rfl
  tape := rfl
  output := rfl
  la := hla
  lb := hlb

/-- The heap has grown: what lay lies as it was. -/
theorem sim_grow (S : Sim kp cx m w) {w' : World} (hs : w.heap.size ≤ w'.heap.size) (hh : ∀ c, c < w.heap.size → w'.heap[c]? = w.heap[c]?) (ho : w'.os = w.os) (ht : w'.tape = w.tape) (hp : w'.output = w.output) :
    Sim kp cx m w' ∧ Ev m.A.length cx m w cx m w' := by
  have K : Keep w.heap.size cx.nb cx w cx w' := ⟨⟨Nat.le_refl _, fun _ _ => ⟨Nat.le_refl _, fun _ => rfl⟩, fun _ _ h => h, fun c hc h => ⟨hh c hc, h⟩, hs⟩, fun c _ hc => hh c hc, fun _ _ => rfl, fun _ _ _ => ⟨rfl, rfl⟩, fun h => absurd h (Nat.lt_irrefl _)⟩
  have hlt : ∀ c, cx.own c ≠ .non → c < w.heap.size := fun c h => by
    rcases Nat.lt_or_ge c w.heap.size with h' | h'
    · exact h'
    · exact absurd (S.fresh c h') h
  refine ⟨⟨fun i cs h => ?_, S.fa, fun b x h => ?_, S.nb, S.fo, fun c hc => S.fresh c (by omega), S.la, S.lb, S.kpt K.later.zero⟩, ⟨fun _ _ => rfl, fun _ _ _ => rfl, Nat.le_refl _, Nat.le_refl _, fun _ _ => ⟨Nat.le_refl _, fun _ => rfl⟩, fun _ _ h => h, fun c hc h => ⟨hh c hc, h⟩,
    fun c h => ⟨hh c (hlt c (by rw [h]; simp)), h⟩, fun c h => ⟨hh c (hlt c (by rw [h]; simp)), h⟩, hs, ho, ht, hp, rfl, rfl⟩⟩
  · have hx := S.A i cs h
    intro c hc
    exact AOk.keep (n := m.A.length) K (fun _ _ _ h => h) (by
      obtain ⟨⟨arr, t, _, h2⟩, _⟩ := hx c hc
      exact VRelL.maxA S.fa cs _ h2) hx rfl (fun h => absurd h (Nat.lt_irrefl _)) c hc
  · exact BOk.keep (n := m.A.length) K (fun _ _ _ h => h) (BB.hi_le S h) (S.not_nb h) (S.lt_nb h) (S.B b x h) (fun h => absurd h (Nat.lt_irrefl _))

/-- A new block that nobody has: for values that are rows by themselves. -/
theorem sim_alloc_non (S : Sim kp cx m w) (o : Obj) : Sim kp cx m (w.alloc o) ∧ Ev m.A.length cx m w cx m (w.alloc o) := by
  have K : Keep w.heap.size cx.nb cx w cx (w.alloc o) := keep_alloc o (Nat.le_refl _) (fun _ _ => ⟨rfl, rfl⟩) (fun _ _ h => h) (fun _ _ => rfl)
  refine ⟨⟨fun i cs h => ?_, S.fa, fun b x h => ?_, S.nb, S.fo, fun c hc => S.fresh c (by simp at hc; omega), S.la, S.lb, S.kpt K.later.zero⟩, ev_alloc S K (fun _ _ => rfl) (Nat.le_refl _) (fun _ _ _ => rfl) rfl rfl⟩
  · have hx := S.A i cs h
    intro c hc
    exact AOk.keep (n := m.A.length) K (fun _ _ _ h => h) (by
      obtain ⟨⟨arr, t, _, h2⟩, _⟩ := hx c hc
      exact VRelL.maxA S.fa cs _ h2) hx rfl (fun h => absurd h (Nat.lt_irrefl _)) c hc
  · exact BOk.keep (n := m.A.length) K (fun _ _ _ h => h) (BB.hi_le S h) (S.not_nb h) (S.lt_nb h) (S.B b x h) (fun h => absurd h (Nat.lt_irrefl _))

theorem AOk.max {la i : Nat} {cs : List V} {c : Nat} (S : Sim kp cx m w) (h : AOk cx w la i cs) (hc : cx.fa i = some c) : maxAL cs ≤ m.A.length := by
  obtain ⟨⟨arr, t, _, h2⟩, _⟩ := h c hc
  exact VRelL.maxA S.fa cs _ h2
theorem Sim.lt_own (S : Sim kp cx m w) {c : Nat} (h : cx.own c ≠ .non) : c < w.heap.size := by
  rcases Nat.lt_or_ge c w.heap.size with h' | h'
  · exact h'
  · exact absurd (S.fresh c h') h

/-- The block of A number i, laid by the abstract memory already, comes to be. -/
theorem sim_alloc_slot (S : Sim kp cx m w) {i : Nat} {z : List V} (hz : m.A[i]? = some z) (hi : cx.fa i = none) (hla : m.la ≤ i) (arr : Array Value) (t : TypeId) (hr : VRelL cx w z arr.toList) :
    ∃ cx', cx'.fa i = some w.heap.size ∧ (∀ k, k ≠ i → cx'.fa k = cx.fa k) ∧ Sim kp cx' m (w.alloc (.cells arr t)) ∧ Keep w.heap.size cx.nb cx w cx' (w.alloc (.cells arr t)) := by
  refine ⟨{ cx with fa := fun k => if k = i then some w.heap.size else cx.fa k, own := fun c => if c = w.heap.size then .a i else cx.own c }, by simp, fun k hk => by simp [hk], ?_, ?_⟩
  case refine_2 => exact keep_alloc _ (Nat.le_refl _) (fun _ _ => ⟨rfl, rfl⟩) (fun _ _ h => h) (fun c hc => by simp [hc])
  have K : Keep w.heap.size cx.nb cx w { cx with fa := fun k => if k = i then some w.heap.size else cx.fa k, own := fun c => if c = w.heap.size then .a i else cx.own c } (w.alloc (.cells arr t)) :=
    keep_alloc _ (Nat.le_refl _) (fun _ _ => ⟨rfl, rfl⟩) (fun _ _ h => h) (fun c hc => by simp [hc])
  have hfa : ∀ (k c : Nat), k < m.A.length → cx.fa k = some c → (if k = i then some w.heap.size else cx.fa k) = some c := fun k c _ hk => by
    by_cases e : k = i
    · subst e; rw [hi] at hk; cases hk
    · simp [e, hk]
  refine ⟨fun k cs h => ?_, fun k c h => ?_, fun b x h => ?_, S.nb, S.fo, fun c hc => ?_, S.la, S.lb, S.kpt K.later.zero⟩
  · by_cases e : k = i
    · subst e
      intro c hc
      simp only [if_true] at hc
      injection hc with hc
      subst hc
      rw [hz] at h
      injection h with h
      subst h
      refine ⟨⟨arr, t, heap_alloc_new w _, VRelL.on (n := m.A.length) K.later hfa _ _ (VRelL.maxA S.fa _ _ hr) hr⟩, ?_⟩
      simp only [if_true, ownA]
      rw [if_neg (by omega)]
    · have hx := S.A k cs h
      intro c hc
      have hc' : cx.fa k = some c := by simpa [e] using hc
      exact AOk.keep (n := m.A.length) K hfa (AOk.max S hx hc') hx (by simp [e]) (fun h => absurd h (Nat.lt_irrefl _)) c hc
  · by_cases e : k = i
    · subst e
      exact (List.getElem?_eq_some_iff.1 hz).1
    · exact S.fa k c (by simpa [e] using h)
  · exact BOk.keep (n := m.A.length) K hfa (BB.hi_le S h) (S.not_nb h) (S.lt_nb h) (S.B b x h) (fun h => absurd h (Nat.lt_irrefl _))
  · have : w.heap.size + 1 ≤ c := by simpa using hc
    simp only
    rw [if_neg (by omega)]
    exact S.fresh c (by omega)

/-- A new block of A. -/
theorem sim_push_A (S : Sim kp cx m w) (cs : List V) (arr : Array Value) (t : TypeId) (hr : VRelL cx w cs arr.toList) :
    ∃ cx', cx'.fa m.A.length = some w.heap.size ∧ Sim kp cx' { m with A := m.A ++ [cs], hi := max m.hi (maxAL cs) } (w.alloc (.cells arr t)) ∧
      Ev m.A.length cx m w cx' { m with A := m.A ++ [cs], hi := max m.hi (maxAL cs) } (w.alloc (.cells arr t)) := by
  have hno : cx.fa m.A.length = none := by
    cases h : cx.fa m.A.length with
    | none => rfl
    | some c => exact absurd (S.fa _ c h) (Nat.lt_irrefl _)
  refine ⟨{ cx with fa := fun k => if k = m.A.length then some w.heap.size else cx.fa k, own := fun c => if c = w.heap.size then .a m.A.length else cx.own c }, by simp, ?_⟩
  have K : Keep w.heap.size cx.nb cx w { cx with fa := fun k => if k = m.A.length then some w.heap.size else cx.fa k, own := fun c => if c = w.heap.size then .a m.A.length else cx.own c } (w.alloc (.cells arr t)) :=
    keep_alloc _ (Nat.le_refl _) (fun _ _ => ⟨rfl, rfl⟩) (fun _ _ h => h) (fun c hc => by simp [hc])
  have hfa : ∀ (k c : Nat), k < m.A.length → cx.fa k = some c → (if k = m.A.length then some w.heap.size else cx.fa k) = some c := fun k c hk h => by
    rw [if_neg (by omega)]; exact h
  refine ⟨⟨fun k xs h => ?_, fun k c h => ?_, fun b x h => ?_, S.nb, S.fo, fun c hc => ?_, by simp; have := S.la; omega, S.lb, S.kpt K.later.zero⟩, ev_alloc S K (fun i hi => by simp only; rw [if_neg (by omega)]) (by simp) (fun i hi _ => by
    simp only
    rw [List.getElem?_append_left hi]) rfl rfl⟩
  · by_cases e : k = m.A.length
    · subst e
      have hx : xs = cs := by simpa using h.symm
      subst hx
      intro c hc
      simp only [if_true] at hc
      injection hc with hc
      subst hc
      refine ⟨⟨arr, t, heap_alloc_new w _, VRelL.on (n := m.A.length) K.later hfa _ _ (VRelL.maxA S.fa _ _ hr) hr⟩, ?_⟩
      simp only [if_true, ownA]
      rw [if_neg (by have := S.la; omega)]
    · have hk : k < m.A.length := by
        have := (List.getElem?_eq_some_iff.1 h).1
        simp at this
        omega
      have h' : m.A[k]? = some xs := by simpa [List.getElem?_append_left hk] using h
      have hx := S.A k xs h'
      intro c hc
      have hc' : cx.fa k = some c := by simpa [e] using hc
      exact AOk.keep (n := m.A.length) K hfa (AOk.max S hx hc') hx (by simp [e]) (fun h => absurd h (Nat.lt_irrefl _)) c hc
  · simp only [List.length_append, List.length_singleton]
    by_cases e : k = m.A.length
    · omega
    · have := S.fa k c (by simpa [e] using h)
      omega
  · exact BOk.keep (n := m.A.length) K hfa (BB.hi_le S h) (S.not_nb h) (S.lt_nb h) (S.B b x h) (fun h => absurd h (Nat.lt_irrefl _))
  · have : w.heap.size + 1 ≤ c := by simpa using hc
    simp only
    rw [if_neg (by omega)]
    exact S.fresh c (by omega)

/-- A new row of B. -/
theorem sim_push_B (S : Sim kp cx m w) (sz : Nat) (pu : Bool) (cs : List V) (hp : pu = true → pureL cs = true) (hi : Nat) (arr : Array Value) (t : TypeId) (hl : cs.length ≤ arr.size) (hr : VRelL cx w cs (arr.toList.take cs.length)) :
    ∃ cx', cx'.nb = cx.nb + 1 ∧ cx'.vb m.B.length = 0 ∧ cx'.fb m.B.length = (w.heap.size, sz, arr.size) ∧ Sim kp cx' { m with B := m.B ++ [.cells sz 0 pu false cs], hi := hi } (w.alloc (.cells arr t)) ∧
      Ev m.A.length cx m w cx' { m with B := m.B ++ [.cells sz 0 pu false cs], hi := hi } (w.alloc (.cells arr t)) := by
  refine ⟨{ cx with nb := cx.nb + 1, vb := fun b => if b = m.B.length then 0 else cx.vb b, fb := fun b => if b = m.B.length then (w.heap.size, sz, arr.size) else cx.fb b, own := fun c => if c = w.heap.size then .b m.B.length else cx.own c }, rfl, by simp, by simp, ?_⟩
  have K : Keep w.heap.size cx.nb cx w { cx with nb := cx.nb + 1, vb := fun b => if b = m.B.length then 0 else cx.vb b, fb := fun b => if b = m.B.length then (w.heap.size, sz, arr.size) else cx.fb b, own := fun c => if c = w.heap.size then .b m.B.length else cx.own c } (w.alloc (.cells arr t)) :=
    keep_alloc _ (by simp) (fun b hb => by
      have : b ≠ m.B.length := by rw [S.nb] at hb; omega
      simp [this]) (fun _ _ h => h) (fun c hc => by simp [hc])
  refine ⟨⟨fun k xs h => ?_, S.fa, fun b x h => ?_, by simp [S.nb], fun b c h => ?_, fun c hc => ?_, S.la, by simp; have := S.lb; omega, S.kpt K.later.zero⟩, ev_alloc S K (fun i hi => rfl) (Nat.le_refl _) (fun i hi _ => rfl) rfl rfl⟩
  · have hx := S.A k xs h
    intro c hc
    exact AOk.keep (n := m.A.length) K (fun _ _ _ h => h) (AOk.max S hx hc) hx rfl (fun h => absurd h (Nat.lt_irrefl _)) c hc
  · by_cases e : b = m.B.length
    · subst e
      have hx : x = .cells sz 0 pu false cs := by simpa using h.symm
      subst hx
      simp only [BOk, if_true]
      refine ⟨trivial, trivial, ?_, hp, arr, t, heap_alloc_new w _, rfl, hl, VRelL.on (n := m.A.length) K.later (fun _ _ _ h => h) _ _ (VRelL.maxA S.fa _ _ hr) hr⟩
      simp only [ownB, Bool.false_eq_true, if_false]
      rw [if_neg (by have := S.lb; omega)]
    · have hb : b < m.B.length := by
        have := (List.getElem?_eq_some_iff.1 h).1
        simp at this
        omega
      have h' : m.B[b]? = some x := by simpa [List.getElem?_append_left hb] using h
      exact BOk.keep (n := m.A.length) K (fun _ _ _ h => h) (BB.hi_le S h') (S.not_nb h') (S.lt_nb h') (S.B b x h') (fun h => absurd h (Nat.lt_irrefl _))
  · simp only [List.length_append, List.length_singleton]
    have := S.fo b c h
    omega
  · have : w.heap.size + 1 ≤ c := by simpa using hc
    simp only
    rw [if_neg (by omega)]
    exact S.fresh c (by omega)

/-- A new map, or loop. -/
theorem sim_push_O (S : Sim kp cx m w) (x : BB) (hi : Nat) (o : Obj)
    (hx : ∀ cx', cx'.fo m.B.length = some w.heap.size → cx'.own w.heap.size = .o m.B.length → Later cx w cx' (w.alloc o) → cx'.fa = cx.fa → (w.alloc o).heap[w.heap.size]? = some o → BOk cx' (w.alloc o) m.lb m.B.length x) :
    ∃ cx', cx'.fo m.B.length = some w.heap.size ∧ Sim kp cx' { m with B := m.B ++ [x], hi := hi } (w.alloc o) ∧
      Ev m.A.length cx m w cx' { m with B := m.B ++ [x], hi := hi } (w.alloc o) := by
  refine ⟨{ cx with nb := cx.nb + 1, fo := fun b => if b = m.B.length then some w.heap.size else cx.fo b, own := fun c => if c = w.heap.size then .o m.B.length else cx.own c }, by simp, ?_⟩
  have K : Keep w.heap.size cx.nb cx w { cx with nb := cx.nb + 1, fo := fun b => if b = m.B.length then some w.heap.size else cx.fo b, own := fun c => if c = w.heap.size then .o m.B.length else cx.own c } (w.alloc o) :=
    keep_alloc _ (by simp) (fun b hb => ⟨rfl, rfl⟩) (fun b c h => by
      have : b ≠ m.B.length := Nat.ne_of_lt (S.fo b c h)
      simp [this, h]) (fun c hc => by simp [hc])
  refine ⟨⟨fun k xs h => ?_, S.fa, fun b y h => ?_, by simp [S.nb], fun b c h => ?_, fun c hc => ?_, S.la, by simp; have := S.lb; omega, S.kpt K.later.zero⟩, ev_alloc S K (fun i hi => rfl) (Nat.le_refl _) (fun i hi _ => rfl) rfl rfl⟩
  · have hx := S.A k xs h
    intro c hc
    exact AOk.keep (n := m.A.length) K (fun _ _ _ h => h) (AOk.max S hx hc) hx rfl (fun h => absurd h (Nat.lt_irrefl _)) c hc
  · by_cases e : b = m.B.length
    · subst e
      have hy : y = x := by simpa using h.symm
      subst hy
      exact hx _ (by simp) (by simp) K.later rfl (heap_alloc_new w _)
    · have hb : b < m.B.length := by
        have := (List.getElem?_eq_some_iff.1 h).1
        simp at this
        omega
      have h' : m.B[b]? = some y := by simpa [List.getElem?_append_left hb] using h
      exact BOk.keep (n := m.A.length) K (fun _ _ _ h => h) (BB.hi_le S h') (S.not_nb h') (S.lt_nb h') (S.B b y h') (fun h => absurd h (Nat.lt_irrefl _))
  · simp only [List.length_append, List.length_singleton]
    by_cases e : b = m.B.length
    · omega
    · have := S.fo b c (by simpa [e] using h)
      omega
  · have : w.heap.size + 1 ≤ c := by simpa using hc
    simp only
    rw [if_neg (by omega)]
    exact S.fresh c (by omega)
end alloc
end Go.Proofs.YtpdgbhjhodhkiaaGreatDoor.AI
