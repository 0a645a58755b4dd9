/- One operation. -/
import Derived.Test.YtpdgbhjhodhkiaaGreatDoorS11
set_option linter.unusedVariables false
set_option linter.unusedSimpArgs false
namespace Go.Proofs.YtpdgbhjhodhkiaaGreatDoor.AI
open Go
variable {kp : Kp}

/-- The outcome of an operation of a region. -/
def StepRes (kp : Kp) (P : Program) (cx : Cx) (m : Mem) (w : World) (v : V) (m' : Mem) (s : Sem Next) : Prop :=
  ∃ nx cv w' cx', s.run P w = .ok nx w' ∧ (nx = .value cv ∨ nx = .skip ∧ cv = undef) ∧ VRel cx' w' v cv ∧ Sim kp cx' m' w' ∧ Ev m.A.length cx m w cx' m' w'

section
variable {P : Program} {cx : Cx} {m : Mem} {w : World}
theorem OpRes.step {v : V} {m' : Mem} {s : Sem Value} (h : OpRes kp P cx m w v m' s) : StepRes kp P cx m w v m' (do pure (.value (← s))) := by
  obtain ⟨cv, w', cx', h1, h2, h3, h4⟩ := h
  exact ⟨.value cv, cv, w', cx', by simp [h1], .inl rfl, h2, h3, h4⟩
theorem step_unit {m' : Mem} {s : Sem Unit} (h : ∃ w', s.run P w = .ok () w' ∧ Sim kp cx m' w' ∧ Ev m.A.length cx m w cx m' w') : StepRes kp P cx m w (.tup []) m' (do s; pure .skip) := by
  obtain ⟨w', h1, h2, h3⟩ := h
  exact ⟨.skip, undef, w', cx, by simp [h1], .inr ⟨rfl, rfl⟩, ⟨#[], rfl, by simp [VRelL]⟩, h2, h3⟩
theorem step_pure (S : Sim kp cx m w) {v : V} {cv : Value} {s : Sem Next} (h : s.run P w = .ok (.value cv) w) (hv : VRel cx w v cv) : StepRes kp P cx m w v m s :=
  ⟨.value cv, cv, w, cx, h, .inl rfl, hv, S, Ev.refl _ _ _ _ (Nat.le_refl _)⟩

theorem prel_map {ρv : Operand → V} {ρ : Operand → Value} (hρ : ∀ x, VRel cx w (ρv x) (ρ x)) (parts : Array (Nat × Operand)) : PRel cx w (parts.toList.map fun (i, x) => (i, ρv x)) (parts.map fun (i, x) => (i, ρ x)).toList := by
  rw [Array.toList_map]
  generalize parts.toList = l
  induction l with
  | nil => simp [PRel]
  | cons p l ih =>
    obtain ⟨i, x⟩ := p
    simp only [List.map_cons, PRel]
    exact ⟨⟨trivial, hρ x⟩, ih⟩
theorem orel_map {ρv : Operand → V} {ρ : Operand → Value} (hρ : ∀ x, VRel cx w (ρv x) (ρ x)) (o : Option Operand) : ORel cx w (o.map ρv) (o.map ρ) := by
  cases o with
  | none => trivial
  | some x => exact hρ x
theorem vrelL_map {ρv : Operand → V} {ρ : Operand → Value} (hρ : ∀ x, VRel cx w (ρv x) (ρ x)) : ∀ (l : List Operand), VRelL cx w (l.map ρv) (l.map ρ)
  | [] => by simp [VRelL]
  | x :: l => by simp only [List.map_cons, VRelL]; exact ⟨hρ x, vrelL_map hρ l⟩

theorem box_sound (S : Sim kp cx m w) {t : TypeId} {i : TypeInfo} {x : V} {cv : Value} (hi : P.info? t = some i) (hx : VRel cx w x cv) (hc : (cellsOf x).all V.cellLike = true) :
    OpRes kp P cx m w (.ptr m.A.length 0) { m with A := m.A ++ [cellsOf x], hi := max m.hi (maxAL (cellsOf x)) } (Instr.box t cv) := by
  obtain ⟨cx', h1, h2, h3⟩ := sim_push_A S (cellsOf x) cv.cells t (cellLike_cells hx hc)
  exact ⟨.pointer (some ⟨w.heap.size, 0, none⟩), w.alloc (.cells cv.cells t), cx', by simp [Instr.box, newVar, newRow], ⟨_, h1, rfl⟩, h2, h3⟩

theorem opV_sound (S : Sim kp cx m w) {ρv : Operand → V} {ρ : Operand → Value} (hρ : ∀ x, VRel cx w (ρv x) (ρ x)) {o : Oper} {slot : Nat} {v : V} {m' : Mem} (h : opV P m slot ρv o.op = some (v, m')) (ha : ∀ t, o.op ≠ .alloc t) : StepRes kp P cx m w v m' (execOp ρ o) := by
  obtain ⟨dst, op, type, pos, after, guard⟩ := o
  simp only at h ha
  cases op <;> simp only [opV] at h <;> try cases h
  case move x => exact step_pure S (by simp [execOp]) (hρ x)
  case assign x => exact step_pure S (by simp [execOp]) (hρ x)
  case pick c a b =>
    split at h
    · rename_i t hc
      injection h with h; injection h with h1 h2; subst h1 h2
      have := hρ c
      rw [hc] at this
      simp only [VRel] at this
      cases t
      · exact step_pure S (by simp [execOp, this, asBool]) (hρ b)
      · exact step_pure S (by simp [execOp, this, asBool]) (hρ a)
    · cases h
  case alloc t => exact absurd rfl (ha t)
  case box t x =>
    split at h
    · rename_i i hi
      split at h
      · rename_i hc
        injection h with h; injection h with h1 h2; subst h1 h2
        exact (box_sound S hi (hρ x) hc).step
      · cases h
    · cases h
  case build t parts =>
    cases hb : buildV P t (parts.toList.map fun (i, x) => (i, ρv x)) with
    | none => simp [hb] at h
    | some r =>
      simp only [hb, Option.map_some] at h
      injection h with h; injection h with h1 h2; subst h1 h2
      exact (build_sound S (prel_map hρ parts) hb).step
  case buildSlice t len parts =>
    split at h
    · rename_i sz cs hb
      obtain ⟨e, arr, h1, h2, h3, h4, hr⟩ := buildSlice_run (cx := cx) (w := w) (prel_map hρ parts) hb
      split at h
      · rename_i hp
        injection h with h; injection h with h5 h6; subst h5 h6
        refine OpRes.step ?_
        refine OpRes.grow S hr (by simp) (fun c hc => heap_alloc_lt w _ hc) rfl rfl rfl ?_
        simp only [VRel]
        have hn := heap_alloc_new w (.cells arr e)
        have hL : Later cx w cx (w.alloc (.cells arr e)) := ⟨Nat.le_refl _, fun _ _ => ⟨Nat.le_refl _, fun _ => rfl⟩, fun _ _ h => h, fun c hc h => ⟨heap_alloc_lt w _ hc, h⟩, by simp⟩
        refine ⟨_, _, rfl, Nat.le_refl _, fun _ => rfl, .inr ⟨w.heap.size, 0, rfl, by simp, S.fresh _ (Nat.le_refl _), RowRel.of_get fun i x hx => ?_⟩⟩
        have hpx := pureL_get i hp hx
        refine ⟨hpx, ?_⟩
        obtain ⟨cv, h7, h8⟩ := VRelL.get i h1 hx
        refine ⟨cv, ?_, VRel.onP hL.zero x cv hpx h8⟩
        rw [cell_block hn, Nat.zero_add, ← Array.getElem?_toList]
        exact h7
      · rename_i hp
        injection h with h; injection h with h5 h6; subst h5 h6
        refine OpRes.step ?_
        have hlen : cs.length = arr.size := by simpa using h1.length
        obtain ⟨cx', g1, g2, g3, S', E'⟩ := sim_push_B S sz false cs (by simp) (max m.hi (maxAL cs)) arr e (by omega) (by rw [hlen, List.take_of_length_le (by simp)]; exact h1)
        refine ⟨_, _, cx', hr, ?_, S', E'⟩
        have hnb : cx.nb = m.B.length := S.nb
        simp only [VRel]
        refine ⟨by omega, by omega, _, _, rfl, Nat.le_refl _, .inr rfl, fun _ => ⟨?_, .inr (by rw [g3])⟩⟩
        rw [g3, h2]
        simp
    · cases h
  case load t p =>
    cases hb : loadV P m t (ρv p) with
    | none => simp [hb] at h
    | some r =>
      simp only [hb, Option.map_some] at h
      injection h with h; injection h with h1 h2; subst h1 h2
      exact (load_sound S (hρ p) hb).step
  case store t p x =>
    cases hb : storeV P m t (ρv p) (ρv x) with
    | none => simp [hb] at h
    | some r =>
      simp only [hb, Option.map_some] at h
      injection h with h; injection h with h1 h2; subst h1 h2
      exact step_unit (store_sound S (hρ p) (hρ x) hb)
  case nilCheck x =>
    have hx := hρ x
    split at h <;> try cases h
    · rename_i i o he
      rw [he] at hx
      have hx' := hx
      simp only [VRel] at hx'
      obtain ⟨c, _, hx'⟩ := hx'
      exact step_pure S (cv := ρ x) (by simp [execOp, hx']) hx
    · rename_i b ver o he
      rw [he] at hx
      have hx' := hx
      simp only [VRel] at hx'
      obtain ⟨_, _, ⟨a, hx'⟩, _⟩ := hx'
      exact step_pure S (cv := ρ x) (by simp [execOp, hx']) hx
    · rename_i c o he
      rw [he] at hx
      have hx' := hx
      simp only [VRel] at hx'
      obtain ⟨_, _, hx', _⟩ := hx'
      exact step_pure S (cv := ρ x) (by simp [execOp, hx']) hx
    · rename_i f c he
      rw [he] at hx
      have hx' := hx
      simp only [VRel] at hx'
      obtain ⟨_, hx', _⟩ := hx'
      exact step_pure S (cv := ρ x) (by simp [execOp, hx']) hx
    · rename_i l he
      rw [he] at hx
      have hx' := hx
      simp only [VRel] at hx'
      obtain ⟨_, _, hx'⟩ := hx'
      exact step_pure S (cv := ρ x) (by simp [execOp, hx']) hx
  case binOp op t x y yt =>
    cases hb : binV P op t (isConstO x || isConstO y) (ρv x) (ρv y) with
    | none => simp [hb] at h
    | some r =>
      simp only [hb, Option.map_some] at h
      injection h with h; injection h with h1 h2; subst h1 h2
      obtain ⟨cv, h1, h2⟩ := bin_sound (P := P) (hρ x) (hρ y) hb
      exact (OpRes.same S h1 h2).step
  case unOp op t x =>
    cases hb : unV op (ρv x) with
    | none => simp [hb] at h
    | some r =>
      simp only [hb, Option.map_some] at h
      injection h with h; injection h with h1 h2; subst h1 h2
      obtain ⟨cv, h1, h2⟩ := un_sound (P := P) (hρ x) hb
      exact (OpRes.same S h1 h2).step
  case convert s d x =>
    cases hb : convV P m s d (ρv x) with
    | none => simp [hb] at h
    | some r =>
      simp only [hb, Option.map_some] at h
      injection h with h; injection h with h1 h2; subst h1 h2
      exact (conv_sound S (hρ x) hb).step
  case makeInterface t x =>
    split at h
    · cases h
    · rename_i d hd hn
      injection h with h; injection h with h1 h2; subst h1 h2
      refine OpRes.step (OpRes.same S (cv := .iface t (ρ x)) ?_ ⟨_, rfl, hρ x⟩)
      simp only [Instr.makeInterface, Sem.run_bind, r_und hn, Result.andThen_ok]
      cases d <;> first | rfl | exact absurd hn (hd _)
    · cases h
  case makeFunc fn first cap =>
    cases fn <;> simp only [opV] at h <;> try cases h
    case func f =>
      split at h
      · rename_i hf
        injection h with h; injection h with h1 h2; subst h1 h2
        have hf0 : first = #[] := Array.eq_empty_of_size_eq_zero hf
        subst hf0
        refine OpRes.step (OpRes.same S (cv := .func (.func f) #[] (cap.map ρ)) (by simp [Instr.makeFunc]) ⟨_, rfl, ?_⟩)
        rw [Array.toList_map]
        exact vrelL_map hρ _
      · cases h
  case makeMap t r =>
    cases r with
    | some _ => simp only [opV] at h; cases h
    | none =>
      simp only [opV] at h
      split at h
      · rename_i kt et hd
        injection h with h; injection h with h1 h2; subst h1 h2
        obtain ⟨cx', h1, h2, h3⟩ := sim_push_O S (.map []) m.hi (.map #[] 0) (fun cx' h1 h2 L hfa hn => by
          simp only [BOk]
          refine ⟨_, _, _, h1, hn, by simp [EsRel], ?_⟩
          rw [h2, ownO, if_neg (by have := S.lb; omega)])
        exact OpRes.step ⟨.map (some w.heap.size), _, cx', by simp [Instr.makeMap], ⟨_, h1, rfl⟩, h2, h3⟩
      · cases h
  case makeSlice t l c => exact (makeSlice_sound S (hρ l) (hρ c) h).step
  case slice t x lo hi mx =>
    cases hb : sliceV P m t (ρv x) (lo.map ρv) (hi.map ρv) (mx.map ρv) with
    | none => simp [hb] at h
    | some r =>
      simp only [hb, Option.map_some] at h
      injection h with h; injection h with h1 h2; subst h1 h2
      exact (slice_sound S (hρ x) (orel_map hρ lo) (orel_map hρ hi) (orel_map hρ mx) hb).step
  case fieldAddr s x f =>
    cases hb : fieldAddrV P s (ρv x) f with
    | none => simp [hb] at h
    | some r =>
      simp only [hb, Option.map_some] at h
      injection h with h; injection h with h1 h2; subst h1 h2
      exact (fieldAddr_sound S (hρ x) hb).step
  case field t x f =>
    cases hb : fieldV P t (ρv x) f with
    | none => simp [hb] at h
    | some r =>
      simp only [hb, Option.map_some] at h
      injection h with h; injection h with h1 h2; subst h1 h2
      exact (field_sound S (hρ x) hb).step
  case indexAddr t x ix =>
    cases hb : indexAddrV P t (ρv x) (ρv ix) with
    | none => simp [hb] at h
    | some r =>
      simp only [hb, Option.map_some] at h
      injection h with h; injection h with h1 h2; subst h1 h2
      exact (indexAddr_sound S (hρ x) (hρ ix) hb).step
  case index t x ix =>
    cases hb : indexV P t (ρv x) (ρv ix) with
    | none => simp [hb] at h
    | some r =>
      simp only [hb, Option.map_some] at h
      injection h with h; injection h with h1 h2; subst h1 h2
      exact (index_sound S (hρ x) (hρ ix) hb).step
  case lookup t x k ok =>
    cases hb : lookupV P m t (ρv x) (ρv k) ok with
    | none => simp [hb] at h
    | some r =>
      simp only [hb, Option.map_some] at h
      injection h with h; injection h with h1 h2; subst h1 h2
      exact (lookup_sound S (hρ x) (hρ k) hb).step
  case mapUpdate t x k y =>
    cases hb : updateV P m t (ρv x) (ρv k) (ρv y) with
    | none => simp [hb] at h
    | some r =>
      simp only [hb, Option.map_some] at h
      injection h with h; injection h with h1 h2; subst h1 h2
      exact step_unit (update_sound S (hρ x) (hρ k) (hρ y) hb)
  case insert t x k y =>
    cases hb : updateV P m t (ρv x) (ρv k) (ρv y) with
    | none => simp [hb] at h
    | some r =>
      simp only [hb, Option.map_some] at h
      injection h with h; injection h with h1 h2; subst h1 h2
      exact step_unit (update_sound S (hρ x) (hρ k) (hρ y) hb)
  case extract x i =>
    have hx := hρ x
    split at h
    · rename_i vs he
      rw [he] at hx
      simp only [VRel] at hx
      obtain ⟨arr, hx, hr⟩ := hx
      cases hg : vs[i]? with
      | none => simp [hg] at h
      | some r =>
        simp only [hg, Option.map_some] at h
        injection h with h; injection h with h1 h2; subst h1 h2
        obtain ⟨cv, h1, h2⟩ := VRelL.get i hr hg
        have h1' : arr[i]? = some cv := by simpa using h1
        exact OpRes.step (OpRes.same S (cv := cv) (by rw [hx]; simp [Instr.extract, h1']) h2)
    · cases h
end
end Go.Proofs.YtpdgbhjhodhkiaaGreatDoor.AI
