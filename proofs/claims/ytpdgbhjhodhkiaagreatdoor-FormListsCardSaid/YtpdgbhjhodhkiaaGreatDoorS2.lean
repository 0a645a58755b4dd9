/- States that fit together; their upkeep. -/
import Derived.Test.YtpdgbhjhodhkiaaGreatDoorS1
set_option linter.unusedVariables false
namespace Go.Proofs.YtpdgbhjhodhkiaaGreatDoor.AI
open Go
variable {kp : Kp}

section lists
variable {cx : Cx} {w : World}
theorem VRelL.length : ∀ {xs : List V} {vs : List Value}, VRelL cx w xs vs → xs.length = vs.length
  | [], [], _ => rfl
  | [], _ :: _, h => by simp [VRelL] at h
  | _ :: _, [], h => by simp [VRelL] at h
  | _ :: xs, _ :: vs, h => by
    simp only [VRelL] at h
    simp [VRelL.length h.2]
theorem VRelL.get : ∀ {xs : List V} {vs : List Value} (i : Nat) {x : V}, VRelL cx w xs vs → xs[i]? = some x → ∃ v, vs[i]? = some v ∧ VRel cx w x v
  | [], _, i, _, _, hi => by simp at hi
  | _ :: _, [], _, _, h, _ => by simp [VRelL] at h
  | y :: xs, v :: vs, 0, x, h, hi => by
    simp only [VRelL] at h
    simp at hi
    subst hi
    exact ⟨v, by simp, h.1⟩
  | y :: xs, v :: vs, i + 1, x, h, hi => by
    simp only [VRelL] at h
    simp at hi
    simpa using VRelL.get i h.2 hi
theorem VRelL.set : ∀ {xs : List V} {vs : List Value} (i : Nat) {x : V} {v : Value}, VRelL cx w xs vs → VRel cx w x v → VRelL cx w (xs.set i x) (vs.set i v)
  | [], [], _, _, _, _, _ => by simp [VRelL]
  | [], _ :: _, _, _, _, h, _ => by simp [VRelL] at h
  | _ :: _, [], _, _, _, h, _ => by simp [VRelL] at h
  | _ :: xs, _ :: vs, 0, _, _, h, hx => by
    simp only [VRelL] at h
    simp only [List.set_cons_zero, VRelL]
    exact ⟨hx, h.2⟩
  | _ :: xs, _ :: vs, i + 1, _, _, h, hx => by
    simp only [VRelL] at h
    simp only [List.set_cons_succ, VRelL]
    exact ⟨h.1, VRelL.set i h.2 hx⟩
theorem VRelL.append : ∀ {xs ys : List V} {vs us : List Value}, VRelL cx w xs vs → VRelL cx w ys us → VRelL cx w (xs ++ ys) (vs ++ us)
  | [], _, [], _, _, k => by simpa using k
  | [], _, _ :: _, _, h, _ => by simp [VRelL] at h
  | _ :: _, _, [], _, h, _ => by simp [VRelL] at h
  | _ :: xs, _, _ :: vs, _, h, k => by
    simp only [VRelL] at h
    simp only [List.cons_append, VRelL]
    exact ⟨h.1, VRelL.append h.2 k⟩
theorem VRelL.drop : ∀ {xs : List V} {vs : List Value} (n : Nat), VRelL cx w xs vs → VRelL cx w (xs.drop n) (vs.drop n)
  | [], [], _, _ => by simp [VRelL]
  | [], _ :: _, _, h => by simp [VRelL] at h
  | _ :: _, [], _, h => by simp [VRelL] at h
  | _ :: _, _ :: _, 0, h => by simpa using h
  | _ :: xs, _ :: vs, n + 1, h => by
    simp only [VRelL] at h
    simpa using VRelL.drop n h.2
theorem VRelL.take : ∀ {xs : List V} {vs : List Value} (n : Nat), VRelL cx w xs vs → VRelL cx w (xs.take n) (vs.take n)
  | [], [], _, _ => by simp [VRelL]
  | [], _ :: _, _, h => by simp [VRelL] at h
  | _ :: _, [], _, h => by simp [VRelL] at h
  | _ :: _, _ :: _, 0, _ => by simp [VRelL]
  | _ :: xs, _ :: vs, n + 1, h => by
    simp only [VRelL] at h
    simp only [List.take_succ_cons, VRelL]
    exact ⟨h.1, VRelL.take n h.2⟩
theorem VRelL.getD {xs : List V} {vs : List Value} (h : VRelL cx w xs vs) (i : Nat) : VRel cx w (xs.getD i .undef) (vs.getD i undef) := by
  rw [List.getD_eq_getElem?_getD, List.getD_eq_getElem?_getD]
  cases hx : xs[i]? with
  | none => simp [VRel]
  | some x =>
    obtain ⟨v, hv, hr⟩ := VRelL.get i h hx
    simpa [hv] using hr
theorem VRelL.replicate {x : V} {v : Value} (h : VRel cx w x v) : ∀ n, VRelL cx w (List.replicate n x) (List.replicate n v)
  | 0 => by simp [VRelL]
  | n + 1 => by
    simp only [List.replicate_succ, VRelL]
    exact ⟨h, VRelL.replicate h n⟩
theorem VRelL.of_get : ∀ {xs : List V} {vs : List Value}, xs.length = vs.length → (∀ (i : Nat) (x : V) (v : Value), xs[i]? = some x → vs[i]? = some v → VRel cx w x v) → VRelL cx w xs vs
  | [], [], _, _ => by simp [VRelL]
  | [], _ :: _, h, _ => by simp at h
  | _ :: _, [], h, _ => by simp at h
  | x :: xs, v :: vs, hl, h => by
    simp only [VRelL]
    refine ⟨h 0 x v (by simp) (by simp), VRelL.of_get (by simpa using hl) fun i y u hy hu => h (i + 1) y u (by simpa using hy) (by simpa using hu)⟩
theorem RowRel.get : ∀ {cells : List V} {blk o : Nat} (i : Nat) {x : V}, RowRel cx w cells blk o → cells[i]? = some x → V.pure x = true ∧ ∃ v, w.cell? ⟨blk, o + i, none⟩ = some v ∧ VRel cx w x v
  | [], _, _, i, _, _, hi => by simp at hi
  | y :: ys, blk, o, 0, x, h, hi => by
    simp only [RowRel] at h
    simp at hi
    subst hi
    exact ⟨h.1, by simpa using h.2.1⟩
  | y :: ys, blk, o, i + 1, x, h, hi => by
    simp only [RowRel] at h
    simp at hi
    have := RowRel.get i h.2.2 hi
    rwa [show o + 1 + i = o + (i + 1) from by omega] at this
theorem RowRel.drop : ∀ {cells : List V} {blk o : Nat} (n : Nat), n ≤ cells.length → RowRel cx w cells blk o → RowRel cx w (cells.drop n) blk (o + n)
  | [], _, _, n, hn, _ => by
    have : n = 0 := by simpa using hn
    subst this
    simp [RowRel]
  | _ :: _, _, _, 0, _, h => by simpa using h
  | _ :: ys, blk, o, n + 1, hn, h => by
    simp only [RowRel] at h
    have := RowRel.drop (cells := ys) n (by simpa using hn) h.2.2
    simp only [List.drop_succ_cons]
    rwa [show o + 1 + n = o + (n + 1) from by omega] at this
theorem RowRel.take : ∀ {cells : List V} {blk o : Nat} (n : Nat), RowRel cx w cells blk o → RowRel cx w (cells.take n) blk o
  | [], _, _, _, _ => by simp [RowRel]
  | _ :: _, _, _, 0, _ => by simp [RowRel]
  | _ :: ys, blk, o, n + 1, h => by
    simp only [RowRel] at h
    simp only [List.take_succ_cons, RowRel]
    exact ⟨h.1, h.2.1, RowRel.take n h.2.2⟩
theorem RowRel.of_get : ∀ {cells : List V} {blk o : Nat}, (∀ (i : Nat) (x : V), cells[i]? = some x → V.pure x = true ∧ ∃ v, w.cell? ⟨blk, o + i, none⟩ = some v ∧ VRel cx w x v) → RowRel cx w cells blk o
  | [], _, _, _ => by simp [RowRel]
  | y :: ys, blk, o, h => by
    simp only [RowRel]
    have h0 := h 0 y (by simp)
    refine ⟨h0.1, by simpa using h0.2, RowRel.of_get fun i x hx => ?_⟩
    have := h (i + 1) x (by simpa using hx)
    rwa [show o + (i + 1) = o + 1 + i from by omega] at this
theorem pureL_get : ∀ {xs : List V} (i : Nat) {x : V}, pureL xs = true → xs[i]? = some x → V.pure x = true
  | [], i, _, _, hi => by simp at hi
  | y :: ys, 0, x, h, hi => by
    simp only [pureL, Bool.and_eq_true] at h
    simp at hi
    exact hi ▸ h.1
  | y :: ys, i + 1, x, h, hi => by
    simp only [pureL, Bool.and_eq_true] at h
    simp at hi
    exact pureL_get i h.2 hi
theorem pureL_of_get : ∀ {xs : List V}, (∀ (i : Nat) (x : V), xs[i]? = some x → V.pure x = true) → pureL xs = true
  | [], _ => rfl
  | y :: ys, h => by
    simp only [pureL, Bool.and_eq_true]
    exact ⟨h 0 y (by simp), pureL_of_get fun i x hx => h (i + 1) x (by simpa using hx)⟩
theorem pureL_append {xs ys : List V} : pureL (xs ++ ys) = (pureL xs && pureL ys) := by
  induction xs with
  | nil => simp [pureL]
  | cons x xs ih => simp [pureL, ih, Bool.and_assoc]
theorem maxAL_get : ∀ {xs : List V} (i : Nat) {x : V}, xs[i]? = some x → V.maxA x ≤ maxAL xs
  | [], i, _, hi => by simp at hi
  | y :: ys, 0, x, hi => by
    simp at hi
    subst hi
    simp only [maxAL]
    omega
  | y :: ys, i + 1, x, hi => by
    simp at hi
    have := maxAL_get i hi
    simp only [maxAL]
    omega
theorem maxAL_le : ∀ {xs : List V} {n : Nat}, (∀ (i : Nat) (x : V), xs[i]? = some x → V.maxA x ≤ n) → maxAL xs ≤ n
  | [], _, _ => by simp [maxAL]
  | y :: ys, n, h => by
    have h0 := h 0 y (by simp)
    have := maxAL_le (xs := ys) (n := n) fun i x hx => h (i + 1) x (by simpa using hx)
    simp only [maxAL]
    omega
theorem maxAL_append {xs ys : List V} : maxAL (xs ++ ys) = max (maxAL xs) (maxAL ys) := by
  induction xs with
  | nil => simp [maxAL]
  | cons x xs ih => simp only [List.cons_append, maxAL, ih]; omega
theorem maxAL_take_le {xs : List V} (n : Nat) : maxAL (xs.take n) ≤ maxAL xs :=
  maxAL_le fun i x hx => by
    rw [List.getElem?_take] at hx
    split at hx
    · exact maxAL_get i hx
    · simp at hx
theorem maxAL_drop_le {xs : List V} (n : Nat) : maxAL (xs.drop n) ≤ maxAL xs :=
  maxAL_le fun i x hx => by
    rw [List.getElem?_drop] at hx
    exact maxAL_get _ hx
theorem maxAL_set_le {xs : List V} (i : Nat) (x : V) : maxAL (xs.set i x) ≤ max (maxAL xs) (V.maxA x) :=
  maxAL_le fun j y hy => by
    rw [List.getElem?_set] at hy
    split at hy
    · split at hy
      · simp at hy; subst hy; omega
      · simp at hy
    · have := maxAL_get _ hy; omega
theorem maxAL_splice_le {old cs : List V} (off : Nat) : maxAL (splice old off cs) ≤ max (maxAL old) (maxAL cs) := by
  unfold splice
  rw [maxAL_append, maxAL_append]
  have h1 := maxAL_take_le (xs := old) off
  have h2 := maxAL_drop_le (xs := old) (off + cs.length)
  omega
mutual
theorem maxA_pure : ∀ (x : V), V.pure x = true → V.maxA x = 0
  | .undef, _ | .bool _, _ | .int _ _, _ | .str _, _ | .nilp, _ | .rp _ _, _ | .nils, _ | .ro _ _ _, _ | .nilm, _ | .nilf, _ | .nili, _ => by simp [V.maxA]
  | .ptr _ _, h | .bptr _ _ _, h | .sl _ _ _ _, h | .map _, h | .yld _, h => by simp [V.pure] at h
  | .fn _ cs, h => by simp only [V.pure] at h; simp only [V.maxA]; exact maxAL_pure cs h
  | .ifc _ v, h => by simp only [V.pure] at h; simp only [V.maxA]; exact maxA_pure v h
  | .agg cs, h => by simp only [V.pure] at h; simp only [V.maxA]; exact maxAL_pure cs h
  | .tup cs, h => by simp only [V.pure] at h; simp only [V.maxA]; exact maxAL_pure cs h
theorem maxAL_pure : ∀ (xs : List V), pureL xs = true → maxAL xs = 0
  | [], _ => rfl
  | x :: xs, h => by
    simp only [pureL, Bool.and_eq_true] at h
    simp only [maxAL, maxA_pure x h.1, maxAL_pure xs h.2]
    rfl
end
theorem cellLike_oneCell {x : V} {v : Value} (h : VRel cx w x v) (hc : x.cellLike = true) : v.oneCell' = true := by
  cases x <;> simp only [V.cellLike, Bool.false_eq_true] at hc <;> simp only [VRel] at h
  case bool => subst h; rfl
  case int => subst h; rfl
  case str => subst h; rfl
  case nilp => subst h; rfl
  case ptr => obtain ⟨c, _, rfl⟩ := h; rfl
  case bptr => obtain ⟨_, _, ⟨a, rfl⟩, _⟩ := h; rfl
  case rp => obtain ⟨_, _, rfl, _⟩ := h; rfl
  case nils => subst h; rfl
  case sl => obtain ⟨_, _, a, cap, rfl, _⟩ := h; rfl
  case ro => obtain ⟨a, cap, rfl, _⟩ := h; rfl
  case nilm => subst h; rfl
  case map => obtain ⟨c, _, rfl⟩ := h; rfl
  case nilf => subst h; rfl
  case fn => obtain ⟨arr, rfl, _⟩ := h; rfl
  case yld => obtain ⟨c, _, rfl⟩ := h; rfl
  case nili => subst h; rfl
  case ifc => obtain ⟨u, rfl, _⟩ := h; rfl
theorem cellLike_cells {x : V} {v : Value} (h : VRel cx w x v) (hc : (cellsOf x).all V.cellLike = true) : VRelL cx w (cellsOf x) v.cells.toList := by
  cases x
  case agg cs =>
    simp only [VRel] at h
    obtain ⟨arr, rfl, h⟩ := h
    simpa [cellsOf, Value.cells] using h
  all_goals
    have h2 := cellLike_oneCell h (by simpa [cellsOf] using hc)
    have h3 : v.cells = #[v] := by
      cases v <;> first | rfl | (simp [Value.oneCell'] at h2)
    rw [h3]
    simp only [cellsOf, VRelL]
    exact ⟨h, trivial⟩
end lists

/-! ### Entries -/
def EsRel (cx : Cx) (w : World) : List (V × V) → List MapEntry → Prop
  | [], [] => True
  | (k, v) :: es, e :: fs => (V.pure k = true ∧ V.maxA k = 0 ∧ VRel cx w k e.key ∧ VRel cx w v e.val) ∧ EsRel cx w es fs
  | [], _ :: _ => False
  | _ :: _, [] => False

/-! ### The states -/
def BB.hi : BB → Nat
  | .cells _ _ _ _ cs => maxAL cs
  | .map es => maxAL (es.map (·.2))
  | .loop _ _ tm _ _ _ => maxAL tm
/-- Every stored value leads to blocks of A below 'hi' alone. -/
structure HiOk (m : Mem) : Prop where
  A : ∀ (i : Nat) (cs : List V), m.A[i]? = some cs → maxAL cs ≤ m.hi
  B : ∀ (b : Nat) (x : BB), m.B[b]? = some x → x.hi ≤ m.hi

def ownA (la i : Nat) : Own := if i < la then .prot else .a i
def ownB (lb b : Nat) (fz : Bool) : Own := if fz then .non else if b < lb then .prot else .b b
def ownO (lb b : Nat) : Own := if b < lb then .prot else .o b

def AOk (cx : Cx) (w : World) (la i : Nat) (cs : List V) : Prop :=
  ∀ c, cx.fa i = some c → (∃ arr t, w.heap[c]? = some (.cells arr t (0, 0)) ∧ VRelL cx w cs arr.toList) ∧ cx.own c = ownA la i
def BOk (cx : Cx) (w : World) (lb b : Nat) : BB → Prop
  | .cells sz ver pu fz cs => cx.vb b = ver ∧ (cx.fb b).2.1 = sz ∧ cx.own (cx.fb b).1 = ownB lb b fz ∧ (pu = true → pureL cs = true) ∧
    ∃ arr t, w.heap[(cx.fb b).1]? = some (.cells arr t (0, 0)) ∧ arr.size = (cx.fb b).2.2 ∧ cs.length ≤ arr.size ∧ VRelL cx w cs (arr.toList.take cs.length)
  | .map es => ∃ c fs clk, cx.fo b = some c ∧ w.heap[c]? = some (.map fs clk) ∧ EsRel cx w es fs.toList ∧ cx.own c = ownO lb b
  | .loop s p tm ps as bo => ∃ c fn D tmps, cx.fo b = some c ∧ w.heap[c]? = some (.loop { state := s, pending := p, fn := fn, tmps := tmps, params := ps.toArray, assign := as, body := bo, defers := D }) ∧ VRelL cx w tm tmps.toList ∧ cx.own c = ownO lb b

structure Sim (kp : Kp) (cx : Cx) (m : Mem) (w : World) : Prop where
  A : ∀ (i : Nat) (cs : List V), m.A[i]? = some cs → AOk cx w m.la i cs
  fa : ∀ i c, cx.fa i = some c → i < m.A.length
  B : ∀ (b : Nat) (x : BB), m.B[b]? = some x → BOk cx w m.lb b x
  nb : cx.nb = m.B.length
  fo : ∀ b c, cx.fo b = some c → b < m.B.length
  fresh : ∀ c, w.heap.size ≤ c → cx.own c = .non
  la : m.la ≤ m.A.length
  lb : m.lb ≤ m.B.length
  kept : ∀ c o, kp c = some o → c < w.heap.size ∧ cx.own c = .non ∧ w.heap[c]? = some o

theorem Sim.kpt {cx cx' : Cx} {m : Mem} {w w' : World} (S : Sim kp cx m w) (L : Later0 cx w cx' w') : ∀ c o, kp c = some o → c < w'.heap.size ∧ cx'.own c = .non ∧ w'.heap[c]? = some o := fun c o h => by
  obtain ⟨h1, h2, h3⟩ := S.kept c o h
  obtain ⟨h4, h5⟩ := L.non c h1 h2
  exact ⟨Nat.lt_of_lt_of_le h1 L.size, h5, h4.trans h3⟩
theorem EsRel.on {cx cx' : Cx} {w w' : World} {n : Nat} (L : Later cx w cx' w') (hfa : ∀ i c, i < n → cx.fa i = some c → cx'.fa i = some c) : ∀ (es : List (V × V)) (fs : List MapEntry), maxAL (es.map (·.2)) ≤ n → EsRel cx w es fs → EsRel cx' w' es fs
  | [], [], _, _ => by simp [EsRel]
  | [], _ :: _, _, h => by simp [EsRel] at h
  | _ :: _, [], _, h => by simp [EsRel] at h
  | (k, v) :: es, e :: fs, hm, h => by
    simp only [EsRel] at h ⊢
    simp only [List.map_cons, maxAL] at hm
    exact ⟨⟨h.1.1, h.1.2.1, VRel.onP L.zero k _ h.1.1 h.1.2.2.1, VRel.on L hfa v _ (by omega) h.1.2.2.2⟩, EsRel.on L hfa es fs (by omega) h.2⟩

mutual
/-- What a related value leads to has been laid. -/
theorem VRel.maxA {cx : Cx} {w : World} {n : Nat} (hf : ∀ i c, cx.fa i = some c → i < n) : ∀ (x : V) (v : Value), VRel cx w x v → V.maxA x ≤ n
  | .undef, _, _ | .bool _, _, _ | .int _ _, _, _ | .str _, _, _ | .nilp, _, _ | .rp _ _, _, _ | .nils, _, _ | .ro _ _ _, _, _ | .nilm, _, _ | .nilf, _, _ | .nili, _, _ | .bptr _ _ _, _, _ | .sl _ _ _ _, _, _ | .map _, _, _ | .yld _, _, _ => by simp [V.maxA]
  | .ptr i _, v, h => by
    simp only [VRel] at h
    obtain ⟨c, h1, _⟩ := h
    have := hf i c h1
    simp only [V.maxA]
    omega
  | .fn _ cs, v, h => by
    simp only [VRel] at h
    obtain ⟨arr, _, h⟩ := h
    simp only [V.maxA]
    exact VRelL.maxA hf cs _ h
  | .ifc _ x, v, h => by
    simp only [VRel] at h
    obtain ⟨u, _, h⟩ := h
    simp only [V.maxA]
    exact VRel.maxA hf x _ h
  | .agg cs, v, h => by
    simp only [VRel] at h
    obtain ⟨arr, _, h⟩ := h
    simp only [V.maxA]
    exact VRelL.maxA hf cs _ h
  | .tup cs, v, h => by
    simp only [VRel] at h
    obtain ⟨arr, _, h⟩ := h
    simp only [V.maxA]
    exact VRelL.maxA hf cs _ h
theorem VRelL.maxA {cx : Cx} {w : World} {n : Nat} (hf : ∀ i c, cx.fa i = some c → i < n) : ∀ (xs : List V) (vs : List Value), VRelL cx w xs vs → maxAL xs ≤ n
  | [], _, _ => by simp [maxAL]
  | _ :: _, [], h => by simp [VRelL] at h
  | x :: xs, v :: vs, h => by
    simp only [VRelL] at h
    have h1 := VRel.maxA hf x v h.1
    have h2 := VRelL.maxA hf xs vs h.2
    simp only [maxAL]
    omega
end

theorem EsRel.maxA {cx : Cx} {w : World} {n : Nat} (hf : ∀ i c, cx.fa i = some c → i < n) : ∀ (es : List (V × V)) (fs : List MapEntry), EsRel cx w es fs → maxAL (es.map (·.2)) ≤ n
  | [], _, _ => by simp [maxAL]
  | _ :: _, [], h => by simp [EsRel] at h
  | (k, v) :: es, e :: fs, h => by
    simp only [EsRel] at h
    have h1 := VRel.maxA hf v _ h.1.2.2.2
    have h2 := EsRel.maxA hf es fs h.2
    simp only [List.map_cons, maxAL]
    omega

/-- Values live on. -/
theorem Ev.val {cx cx' : Cx} {m m' : Mem} {w w' : World} (h : Ev m.A.length cx m w cx' m' w') (S : Sim kp cx m w) {x : V} {v : Value} (hv : VRel cx w x v) : VRel cx' w' x v :=
  VRel.on h.later (fun i c hi hc => (h.fa i hi).trans hc) x v (VRel.maxA S.fa x v hv) hv
theorem Ev.vals {cx cx' : Cx} {m m' : Mem} {w w' : World} (h : Ev m.A.length cx m w cx' m' w') (S : Sim kp cx m w) {x : List V} {v : List Value} (hv : VRelL cx w x v) : VRelL cx' w' x v :=
  VRelL.on h.later (fun i c hi hc => (h.fa i hi).trans hc) x v (VRelL.maxA S.fa x v hv) hv

end Go.Proofs.YtpdgbhjhodhkiaaGreatDoor.AI
