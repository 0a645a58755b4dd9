/- Loads and stores. -/
import Derived.Test.YtpdgbhjhodhkiaaGreatDoorS4
set_option linter.unusedVariables false
set_option linter.unusedSimpArgs false
namespace Go.Proofs.YtpdgbhjhodhkiaaGreatDoor.AI
open Go
variable {kp : Kp}

section runs
variable {P : Program} {w : World} {t : TypeId}
theorem r_info {i : TypeInfo} (h : P.info? t = some i) : (typeInfo t).run P w = .ok i w := by simp [typeInfo, h]
theorem r_und {d : TypeDesc} (h : P.underlying t = some d) : (underlying t).run P w = .ok d w := by simp [underlying, h]
theorem r_size {i : TypeInfo} (h : P.info? t = some i) : (sizeOf t).run P w = .ok i.size w := by simp [sizeOf, r_info h]
theorem r_agg {d : TypeDesc} (h : P.underlying t = some d) : (isAgg t).run P w = .ok (isAggD d) w := by
  simp only [isAgg, Sem.run_bind, r_und h, Result.andThen_ok]
  cases d <;> rfl
theorem r_zero {i : TypeInfo} {z : Value} (h : P.info? t = some i) (hz : i.zero = some z) : (zeroValue t).run P w = .ok z w := by simp [zeroValue, r_info h, hz]
theorem r_cells (a : Addr) (vs : List Value) (h : ∀ (j : Nat) (v : Value), vs[j]? = some v → w.cell? (a.add j) = some v) : (loadCells a vs.length).run P w = .ok vs.toArray w :=
  run_loadCells_list (P := P) w a vs h
end runs

/-- The outcome of an operation that hands back a value. -/
def OpRes (kp : Kp) (P : Program) (cx : Cx) (m : Mem) (w : World) (v : V) (m' : Mem) (s : Sem Value) : Prop :=
  ∃ cv w' cx', s.run P w = .ok cv w' ∧ VRel cx' w' v cv ∧ Sim kp cx' m' w' ∧ Ev m.A.length cx m w cx' m' w'
theorem OpRes.same {P : Program} {cx : Cx} {m : Mem} {w : World} {v : V} {s : Sem Value} (S : Sim kp cx m w) {cv : Value} (h : s.run P w = .ok cv w) (hv : VRel cx w v cv) : OpRes kp P cx m w v m s :=
  ⟨cv, w, cx, h, hv, S, Ev.refl _ _ _ _ (Nat.le_refl _)⟩

section
variable {P : Program} {cx : Cx} {m : Mem} {w : World}
theorem RowRel.list : ∀ {cells : List V} {blk o : Nat}, RowRel cx w cells blk o → ∃ vs : List Value, VRelL cx w cells vs ∧ ∀ (j : Nat) (v : Value), vs[j]? = some v → w.cell? ⟨blk, o + j, none⟩ = some v
  | [], _, _, _ => ⟨[], by simp [VRelL], by simp⟩
  | x :: xs, blk, o, h => by
    simp only [RowRel] at h
    obtain ⟨_, ⟨v, h1, h2⟩, h3⟩ := h
    obtain ⟨vs, h4, h5⟩ := RowRel.list h3
    refine ⟨v :: vs, ⟨h2, h4⟩, fun j u hj => ?_⟩
    cases j with
    | zero => simp at hj; subst hj; simpa using h1
    | succ j =>
      have := h5 j u (by simpa using hj)
      rwa [show o + 1 + j = o + (j + 1) from by omega] at this

theorem sub_some {cs l : List V} {off n : Nat} (h : sub cs off n = some l) : off + n ≤ cs.length ∧ l = (cs.drop off).take n ∧ l.length = n := by
  unfold sub at h
  split at h
  · rename_i hl
    injection h with h
    refine ⟨hl, h.symm, ?_⟩
    rw [← h]
    simp
    omega
  · cases h

/-- What can be read at a pointer. -/
theorem rd_sound (S : Sim kp cx m w) {p : V} {cp : Value} {n : Nat} {cs : List V} (hp : VRel cx w p cp) (h : rdCells m p n = some cs) :
    ∃ c off vs, cp = .pointer (some ⟨c, off, none⟩) ∧ vs.length = n ∧ VRelL cx w cs vs ∧ ∀ (j : Nat) (v : Value), vs[j]? = some v → w.cell? ⟨c, off + j, none⟩ = some v := by
  cases p <;> simp only [rdCells] at h <;> try cases h
  case ptr i off =>
    simp only [VRel] at hp
    obtain ⟨c, hf, rfl⟩ := hp
    cases hA : m.A[i]? with
    | none => simp [hA] at h
    | some xs =>
      simp only [hA, Option.bind_some] at h
      obtain ⟨h1, rfl, h3⟩ := sub_some h
      obtain ⟨⟨arr, t, h4, h5⟩, _⟩ := S.A i xs hA c hf
      have h6 := VRelL.take n (VRelL.drop off h5)
      refine ⟨c, off, (arr.toList.drop off).take n, rfl, by rw [← h6.length, h3], h6, fun j v hj => ?_⟩
      rw [cell_block h4, ← Array.getElem?_toList]
      rw [List.getElem?_take] at hj
      split at hj
      · rwa [List.getElem?_drop] at hj
      · cases hj
  case bptr b ver off =>
    simp only [VRel] at hp
    obtain ⟨h1, h2, h3, h4⟩ := hp
    cases hB : m.B[b]? with
    | none => simp [hB] at h
    | some x =>
      cases x with
      | map _ => simp [hB] at h
      | loop _ _ _ _ _ _ => simp [hB] at h
      | cells sz ver' pu fz xs =>
        simp only [hB] at h
        split at h
        · rename_i e
          obtain ⟨hl, rfl, hn⟩ := sub_some h
          have hx := S.B b _ hB
          simp only [BOk] at hx
          obtain ⟨k1, _, _, _, arr, t, k5, _, k7, k8⟩ := hx
          have h6 := VRelL.take n (VRelL.drop off k8)
          refine ⟨(cx.fb b).1, off, ((arr.toList.take xs.length).drop off).take n, h4 (by omega), by rw [← h6.length, hn], h6, fun j v hj => ?_⟩
          rw [cell_block k5, ← Array.getElem?_toList]
          rw [List.getElem?_take] at hj
          split at hj
          · rw [List.getElem?_drop, List.getElem?_take] at hj
            split at hj
            · exact hj
            · cases hj
          · cases hj
        · cases h
  case rp cells off =>
    simp only [VRel] at hp
    obtain ⟨blk, o, rfl, h2, h3, h4⟩ := hp
    obtain ⟨hl, rfl, hn⟩ := sub_some h
    obtain ⟨vs, h5, h6⟩ := RowRel.list (RowRel.take n (RowRel.drop off (by omega) h4))
    exact ⟨blk, o + off, vs, rfl, by rw [← h5.length, hn], h5, h6⟩

theorem load_sound (S : Sim kp cx m w) {t : TypeId} {p v : V} {cp : Value} (hp : VRel cx w p cp) (h : loadV P m t p = some v) : OpRes kp P cx m w v m (Instr.loadAt t cp) := by
  unfold loadV at h
  cases hi : P.info? t with
  | none => simp [hi] at h
  | some i =>
    cases hd : P.underlying t with
    | none => simp [hi, hd] at h
    | some d =>
      simp only [hi, hd] at h
      split at h
      · rename_i ha
        cases hr : rdCells m p i.size with
        | none => simp [hr] at h
        | some cs =>
          simp only [hr, Option.map_some] at h
          injection h with h
          subst h
          obtain ⟨c, off, vs, rfl, h1, h2, h3⟩ := rd_sound S hp hr
          refine OpRes.same S (cv := .agg vs.toArray) ?_ ⟨vs.toArray, rfl, by simpa using h2⟩
          have hl := r_cells (P := P) (w := w) ⟨c, off, none⟩ vs (fun j v hj => by rw [add_none]; exact h3 j v hj)
          simp [Instr.loadAt, Instr.sureAddr, loadVar, r_agg hd, ha, r_size hi, ← h1, hl]
      · rename_i ha
        cases hr : rdCells m p 1 with
        | none => simp [hr] at h
        | some cs =>
          simp only [hr, Option.bind_some] at h
          match cs, h with
          | [x], h =>
            injection h with h
            subst h
            obtain ⟨c, off, vs, rfl, h1, h2, h3⟩ := rd_sound S hp hr
            match vs, h1, h2 with
            | [u], _, h2 =>
              simp only [VRelL] at h2
              have hc := h3 0 u (by simp)
              refine OpRes.same S (cv := u) ?_ h2.1
              simp [Instr.loadAt, Instr.sureAddr, loadVar, r_agg hd, ha]
              rw [show off + 0 = off from rfl] at hc
              simp [hc]

theorem splice_rel {old cs : List V} {vo vs : List Value} (off : Nat) (h : VRelL cx w old vo) (k : VRelL cx w cs vs) : VRelL cx w (splice old off cs) (vo.take off ++ vs ++ vo.drop (off + vs.length)) := by
  unfold splice
  rw [k.length]
  exact VRelL.append (VRelL.append (VRelL.take off h) k) (VRelL.drop _ h)
theorem splice_length {old cs : List V} {off : Nat} (h : off + cs.length ≤ old.length) : (splice old off cs).length = old.length := by
  unfold splice
  simp
  omega
theorem splice_take {old cs : List V} {arr : Array Value} {vs : List Value} {off : Nat} (k8 : VRelL cx w old (arr.toList.take old.length)) (hc : VRelL cx w cs vs) (k7 : old.length ≤ arr.size) (hl : off + cs.length ≤ old.length) :
    VRelL cx w (splice old off cs) ((arr.toList.take off ++ vs ++ arr.toList.drop (off + vs.length)).take old.length) := by
  have hvl : vs.length = cs.length := hc.length.symm
  have e2 : (arr.toList.take off ++ vs ++ arr.toList.drop (off + vs.length)).take old.length = (arr.toList.take old.length).take off ++ vs ++ (arr.toList.take old.length).drop (off + vs.length) := by
    rw [List.append_assoc, List.take_append, List.take_append, List.take_take, List.take_take, List.append_assoc]
    congr 1
    · congr 1; omega
    · have h2 : old.length - (List.take off arr.toList).length = old.length - off := by simp; omega
      rw [h2]
      congr 1
      · exact List.take_of_length_le (by omega)
      · rw [List.drop_take]
        congr 1
        omega
  rw [e2]
  exact splice_rel off k8 hc
theorem splice_pure {old cs : List V} {off : Nat} (ho : pureL old = true) (hc : pureL cs = true) : pureL (splice old off cs) = true := by
  unfold splice
  rw [pureL_append, pureL_append, Bool.and_eq_true, Bool.and_eq_true]
  refine ⟨⟨pureL_of_get fun k x hk => ?_, hc⟩, pureL_of_get fun k x hk => ?_⟩
  · rw [List.getElem?_take] at hk
    split at hk
    · exact pureL_get _ ho hk
    · cases hk
  · rw [List.getElem?_drop] at hk
    exact pureL_get _ ho hk
theorem cells_one {cs : List V} {vs : List Value} (h : VRelL cx w cs vs) (hc : cs.all V.cellLike = true) (k : Nat) (v : Value) (hv : vs[k]? = some v) : v.oneCell' = true := by
  have hl := h.length
  have hk : k < cs.length := by rw [hl]; exact (List.getElem?_eq_some_iff.1 hv).1
  obtain ⟨u, hu, hr⟩ := VRelL.get k h (List.getElem?_eq_getElem hk)
  rw [hv] at hu
  injection hu with hu
  subst hu
  exact cellLike_oneCell hr (List.all_eq_true.1 hc _ (List.getElem_mem hk))

theorem wr_sound (S : Sim kp cx m w) {p : V} {cp : Value} {cs : List V} {vs : List Value} {m' : Mem} (hp : VRel cx w p cp) (hc : VRelL cx w cs vs) (h1 : cs.all V.cellLike = true) (h : wrCells m p cs = some m') :
    ∃ a w', cp = .pointer (some a) ∧ (storeCells a vs).run P w = .ok () w' ∧ Sim kp cx m' w' ∧ Ev m.A.length cx m w cx m' w' := by
  cases p <;> simp only [wrCells] at h <;> try cases h
  case ptr i off =>
    simp only [VRel] at hp
    obtain ⟨c, hf, rfl⟩ := hp
    cases hA : m.A[i]? with
    | none => simp [hA] at h
    | some old =>
      simp only [hA] at h
      split at h
      · rename_i hcond
        injection h with h
        subst h
        obtain ⟨⟨arr, t, h4, h5⟩, _⟩ := S.A i old hA c hf
        have hlen : arr.size = old.length := by have := h5.length; simp at this; exact this.symm
        obtain ⟨arr', e, hsz, hr⟩ := run_storeCells_block (P := P) vs w c off arr t h4 (by rw [← hc.length, hlen]; exact hcond.2) (cells_one hc h1)
        have hrel : VRelL cx w (splice old off cs) arr'.toList := by rw [e]; exact splice_rel off h5 hc
        obtain ⟨S', E'⟩ := sim_set_A S hA hf hcond.1 h4 hrel (max m.hi (maxAL cs))
        exact ⟨_, _, rfl, hr, S', E'⟩
      · cases h
  case bptr b ver off =>
    simp only [VRel] at hp
    obtain ⟨g1, g2, g3, g4⟩ := hp
    cases hB : m.B[b]? with
    | none => simp [hB] at h
    | some x =>
      cases x with
      | map _ => simp [hB] at h
      | loop _ _ _ _ _ _ => simp [hB] at h
      | cells sz ver' pu fz old =>
        cases fz with
        | true => simp [hB] at h
        | false =>
          simp only [hB] at h
          split at h
          · rename_i hcond
            injection h with h
            subst h
            have hx := S.B b _ hB
            simp only [BOk] at hx
            obtain ⟨k1, _, _, k4, arr, t, k5, _, k7, k8⟩ := hx
            have hle : off + vs.length ≤ arr.size := by rw [← hc.length]; omega
            obtain ⟨arr', e, hsz, hr⟩ := run_storeCells_block (P := P) vs w (cx.fb b).1 off arr t k5 hle (cells_one hc h1)
            have hspl : (splice old off cs).length = old.length := splice_length hcond.2.2
            have hrel : VRelL cx w (splice old off cs) (arr'.toList.take (splice old off cs).length) := by
              have := splice_rel off k8 hc
              rw [hspl, e]
              have e2 : (arr.toList.take off ++ vs ++ arr.toList.drop (off + vs.length)).take old.length = (arr.toList.take old.length).take off ++ vs ++ (arr.toList.take old.length).drop (off + vs.length) := by
                have hvl : vs.length = cs.length := hc.length.symm
                rw [List.append_assoc, List.take_append, List.take_append, List.take_take, List.take_take, List.append_assoc]
                congr 1
                · congr 1; omega
                · have h2 : old.length - (List.take off arr.toList).length = old.length - off := by simp; omega
                  rw [h2]
                  congr 1
                  · exact List.take_of_length_le (by omega)
                  · rw [List.drop_take]
                    congr 1
                    omega
              rw [e2]
              exact this
            have hl2 : (splice old off cs).length ≤ arr.size := by rw [hspl]; omega
            obtain ⟨S', E'⟩ := sim_set_B (pu' := pu && pureL cs) S hB hcond.2.1 k5 hsz hl2 (fun hpu => by
              simp only [Bool.and_eq_true] at hpu
              have ho := k4 hpu.1
              unfold splice
              rw [pureL_append, pureL_append, Bool.and_eq_true, Bool.and_eq_true]
              refine ⟨⟨pureL_of_get fun k x hk => ?_, hpu.2⟩, pureL_of_get fun k x hk => ?_⟩
              · rw [List.getElem?_take] at hk
                split at hk
                · exact pureL_get _ ho hk
                · cases hk
              · rw [List.getElem?_drop] at hk
                exact pureL_get _ ho hk) hrel (max m.hi (maxAL cs))
            exact ⟨_, _, g4 (by omega), hr, S', E'⟩
          · cases h

theorem store_sound (S : Sim kp cx m w) {t : TypeId} {p x : V} {cp cv : Value} {m' : Mem} (hp : VRel cx w p cp) (hx : VRel cx w x cv) (h : storeV P m t p x = some m') :
    ∃ w', (Instr.storeAt t cp cv).run P w = .ok () w' ∧ Sim kp cx m' w' ∧ Ev m.A.length cx m w cx m' w' := by
  unfold storeV at h
  cases hi : P.info? t with
  | none => simp [hi] at h
  | some i =>
    simp only [hi] at h
    split at h
    · rename_i hcond
      have hc := cellLike_cells hx hcond.2
      obtain ⟨a, w', rfl, hr, S', E'⟩ := wr_sound (P := P) S hp hc hcond.2 h
      refine ⟨w', ?_, S', E'⟩
      have hsz : cv.cells.size = i.size := by
        have := hc.length
        rw [hcond.1] at this
        simp at this
        exact this.symm
      simp [Instr.storeAt, Instr.sureAddr, storeVar, r_size hi, hsz, hr]
    · cases h
end
end Go.Proofs.YtpdgbhjhodhkiaaGreatDoor.AI
