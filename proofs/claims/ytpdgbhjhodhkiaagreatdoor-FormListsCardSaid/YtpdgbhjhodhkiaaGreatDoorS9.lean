/- append, make, build. -/
import Derived.Test.YtpdgbhjhodhkiaaGreatDoorS8
import Derived.Laws.Tables
import Derived.Laws.AppendOwn
set_option linter.unusedVariables false
set_option linter.unusedSimpArgs false
namespace Go.Proofs.YtpdgbhjhodhkiaaGreatDoor.AI
open Go
variable {kp : Kp}

section
variable {P : Program} {cx : Cx} {m : Mem} {w : World}

theorem zeroCells_some {t : TypeId} {z : List V} (h : zeroCellsV P t = some z) : ∃ i zv, P.info? t = some i ∧ i.zero = some zv ∧ z = zv.cells.toList.map ofConst0 ∧ z.all V.cellLike = true := by
  unfold zeroCellsV at h
  split at h
  · rename_i i hi
    split at h
    · rename_i zv hz
      split at h
      · rename_i hc
        injection h with h
        subst h
        exact ⟨i, zv, hi, hz, rfl, hc⟩
      · cases h
    · cases h
  · cases h

/-- append into a new block. -/
theorem run_grow {sT xT ty e : TypeId} {i : TypeInfo} {zv : Value} {base : Option Addr} {sLen sCap n : Nat} {cx' : Value} {old new : List Value} (hs : P.underlying sT = some (.slice e)) (hx : (∃ e2, P.underlying xT = some (.slice e2)) ∨ P.underlying xT = some .string)
    (hi : P.info? e = some i) (hz : i.zero = some zv) (hl : (Builtin.lenOf cx').run P w = .ok n w) (ho : (Builtin.firstCells i.size sLen (.slice base sLen sCap)).run P w.drew = .ok old.toArray w.drew) (hn : (Builtin.firstCells i.size n cx').run P w.drew = .ok new.toArray w.drew)
    (hgt : sCap < sLen + n) (hb : (sLen + n) * i.bytes ≤ 140737488355328) (hb0 : 0 < i.bytes) :
    ∃ cap, sLen + n ≤ cap ∧ (Builtin.append_ #[sT, xT] ty #[.slice base sLen sCap, cx']).run P w =
      .ok (.slice (some ⟨w.heap.size, 0, none⟩) (sLen + n) cap) (w.drew.alloc (.cells (old.toArray ++ new.toArray ++ Builtin.zeroCells zv.cells (cap - (sLen + n))) e)) := by
  have hcap : sLen + n ≤ (Question.appendCap (sLen + n) sCap e).cut (w.tape w.drawn (.appendCap (sLen + n) sCap e)) := by simp only [Question.cut]; omega
  refine ⟨(Question.appendCap (sLen + n) sCap e).cut (w.tape w.drawn (.appendCap (sLen + n) sCap e)), hcap, ?_⟩
  have hle : sLen + n ≤ 140737488355328 := Nat.le_trans (Nat.le_mul_of_pos_right _ hb0) hb
  have hm : IntKind.i64.max = 9223372036854775807 := by decide
  have h1 : ¬ (sLen + n ≤ sCap) := by omega
  have h2 : ¬ (Builtin.nextslicecap (sLen + n) sCap * i.bytes > 2 ^ 48) := by
    have := growslice_fits (bytes := i.bytes) hgt hb
    omega
  have h3 : ¬ (((sLen + n : Nat) : Int) > IntKind.i64.max) := by rw [hm]; omega
  generalize hq : (Question.appendCap (sLen + n) sCap e).cut (w.tape w.drawn (.appendCap (sLen + n) sCap e)) = cap at *
  have hch : (choose (.appendCap (sLen + n) sCap e)).run P w = .ok cap w.drew := by
    rw [run_choose]
    simp only [Question.forced, Bool.false_eq_true, if_false, hq]
    rfl
  have hz' : (zeroValue e).run P w.drew = .ok zv w.drew := r_zero hi hz
  rcases hx with ⟨e2, hx⟩ | hx
  all_goals
    simp only [Builtin.append_, List.getElem?_toArray, List.getElem?_cons_succ, List.getElem?_cons_zero, Sem.run_bind, r_und hs, r_und hx, r_size hi, r_info hi, hl, Result.andThen_ok, Sem.run_pure, Bool.false_eq_true, if_false, h1, h3, false_and, h2, hch, run_askRoom, ho, hn, Bool.not_false, if_true, hz']
    simp [newRow]
    rfl

theorem append_arr {old new : List Value} {z : Array Value} {k : Nat} : (old.toArray ++ new.toArray ++ Builtin.zeroCells z k).toList.take (old ++ new).length = old ++ new := by
  simp only [Array.toList_append, List.append_assoc]
  rw [← List.append_assoc]
  exact List.take_left

/-- append within the room. -/
theorem run_room {sT xT ty e : TypeId} {i : TypeInfo} {a : Addr} {sLen sCap n : Nat} {cx' : Value} {new : List Value} {w' : World} (hs : P.underlying sT = some (.slice e)) (hx : (∃ e2, P.underlying xT = some (.slice e2)) ∨ P.underlying xT = some .string)
    (hi : P.info? e = some i) (hl : (Builtin.lenOf cx').run P w = .ok n w) (hn : (Builtin.firstCells i.size n cx').run P w = .ok new.toArray w)
    (hle : sLen + n ≤ sCap) (hst : (storeCells (a.add (sLen * i.size)) new).run P w = .ok () w') :
    (Builtin.append_ #[sT, xT] ty #[.slice (some a) sLen sCap, cx']).run P w = .ok (.slice (some a) (sLen + n) sCap) w' := by
  rcases hx with ⟨e2, hx⟩ | hx
  all_goals
    simp only [Builtin.append_, List.getElem?_toArray, List.getElem?_cons_succ, List.getElem?_cons_zero, Sem.run_bind, r_und hs, r_und hx, r_size hi, r_info hi, hl, Result.andThen_ok, Sem.run_pure, Bool.false_eq_true, if_false, hle, if_true, hn, Bool.not_false, hst]
theorem run_room_none {sT xT ty e : TypeId} {i : TypeInfo} {base : Option Addr} {sLen sCap : Nat} {cx' : Value} (hs : P.underlying sT = some (.slice e)) (hx : (∃ e2, P.underlying xT = some (.slice e2)) ∨ P.underlying xT = some .string)
    (hi : P.info? e = some i) (hl : (Builtin.lenOf cx').run P w = .ok 0 w) (hn : (Builtin.firstCells i.size 0 cx').run P w = .ok #[] w) (hle : sLen ≤ sCap) :
    (Builtin.append_ #[sT, xT] ty #[.slice base sLen sCap, cx']).run P w = .ok (.slice base sLen sCap) w := by
  rcases hx with ⟨e2, hx⟩ | hx <;> cases base
  all_goals
    simp only [Builtin.append_, List.getElem?_toArray, List.getElem?_cons_succ, List.getElem?_cons_zero, Sem.run_bind, r_und hs, r_und hx, r_size hi, r_info hi, hl, Result.andThen_ok, Sem.run_pure, Bool.false_eq_true, if_false, hle, if_true, hn, Bool.not_false, Nat.add_zero, storeCells]

theorem val_drew {x : V} {v : Value} (S : Sim kp cx m w) (h : VRel cx w x v) : VRel cx w.drew x v := VRel.on (w := w) (w' := w.drew) (n := m.A.length) (later_heap rfl) (fun _ _ _ h => h) x v (VRel.maxA S.fa x v h) h
theorem ev_drew (S : Sim kp cx m w) : Ev m.A.length cx m w cx m w.drew := Ev.heap rfl rfl rfl rfl

theorem zero_arr_size {z : Array Value} {old new : List Value} {k : Nat} : (old.toArray ++ new.toArray ++ Builtin.zeroCells z k).size = old.length + new.length + k * z.size := by
  simp [Builtin.zeroCells, Nat.add_assoc]

theorem append_sound (S : Sim kp cx m w) {sT xT ty : TypeId} {s x v : V} {c1 c2 : Value} {m' : Mem} (hs : VRel cx w s c1) (hx : VRel cx w x c2) (hxT : (∃ e2, P.underlying xT = some (.slice e2)) ∨ P.underlying xT = some .string)
    (h : appendV P m sT s x = some (v, m')) : OpRes kp P cx m w v m' (Builtin.append_ #[sT, xT] ty #[c1, c2]) := by
  unfold appendV at h
  split at h
  · rename_i e hsT
    split at h
    · cases h
    · rename_i i hi
      split at h
      · rename_i n new z hcon hz
        split at h
        · cases h
        · rename_i hg
          have hcell : new.all V.cellLike = true := by
            cases hb : new.all V.cellLike
            · exact absurd (.inl hb) hg
            · rfl
          have hsz0 : i.size ≠ 0 := fun e => hg (.inr (.inl e))
          have hzl : z.length = i.size := by
            rcases Nat.decEq z.length i.size with hne | heq
            · exact absurd (.inr (.inr hne)) hg
            · exact heq
          obtain ⟨i2, zv, hi2, hz2, rfl, _⟩ := zeroCells_some hz
          rw [hi] at hi2
          injection hi2 with hi2
          subst hi2
          have hzs : zv.cells.size = i.size := by simpa using hzl
          obtain ⟨hnl, hlen, vs, hvs, hfc⟩ := contents_sound (P := P) S hx hcon
          have Sd : Sim kp cx m w.drew := S.heap rfl
          obtain ⟨_, _, vs', hvs', hfc'⟩ := contents_sound (P := P) Sd (val_drew S hx) hcon
          split at h
          · rename_i hn0
            subst hn0
            have hv0 : vs = [] := by
              have := hvs.length
              rw [hnl] at this
              simpa using this.symm
            subst hv0
            have hfin : ∀ {base : Option Addr} {sLen sCap : Nat}, sLen ≤ sCap → c1 = .slice base sLen sCap → s = v → m = m' → OpRes kp P cx m w v m' (Builtin.append_ #[sT, xT] ty #[c1, c2]) := by
              rintro base sLen sCap hle rfl rfl rfl
              exact OpRes.same S (run_room_none hsT hxT hi hlen hfc hle) hs
            split at h
            · injection h with h; injection h with h1 h2
              simp only [VRel] at hs
              exact hfin (Nat.le_refl _) hs h1 h2
            · injection h with h; injection h with h1 h2
              have hs' := hs
              simp only [VRel] at hs'
              obtain ⟨a, cap, e1, hle, _⟩ := hs'
              exact hfin hle e1 h1 h2
            · injection h with h; injection h with h1 h2
              have hs' := hs
              simp only [VRel] at hs'
              obtain ⟨_, _, a, cap, e1, hle, _⟩ := hs'
              exact hfin hle e1 h1 h2
            · cases h
          · rename_i hn0
            have hn1 : 0 < n := Nat.pos_of_ne_zero hn0
            -- a new row, of whatever lay there and the new cells
            have hpush : ∀ {base : Option Addr} {sLen sCap : Nat} {cells : List V} {old : List Value}, c1 = .slice base sLen sCap → sCap < sLen + n → (sLen + n) * i.bytes ≤ 140737488355328 → 0 < i.bytes → cells.length = sLen * i.size →
                VRelL cx w.drew cells old → (Builtin.firstCells i.size sLen (.slice base sLen sCap)).run P w.drew = .ok old.toArray w.drew → ∀ (pu : Bool), (pu = true → pureL (cells ++ new) = true) → ∀ hi',
                OpRes kp P cx m w (.sl m.B.length 0 0 (sLen + n)) { m with B := m.B ++ [.cells i.size 0 pu false (cells ++ new)], hi := hi' } (Builtin.append_ #[sT, xT] ty #[c1, c2]) := by
              rintro base sLen sCap cells old rfl hgt hb hb0 hcl hold hfo pu hpu hi'
              obtain ⟨cap, hcap, hr⟩ := run_grow (ty := ty) hsT hxT hi hz2 hlen hfo hfc' hgt hb hb0
              have hrel : VRelL cx w.drew (cells ++ new) (old ++ vs') := VRelL.append hold hvs'
              have hll : (cells ++ new).length = (old ++ vs').length := hrel.length
              have hnew : (cells ++ new).length = (sLen + n) * i.size := by rw [List.length_append, hcl, hnl, Nat.add_mul]
              have hsize : (old.toArray ++ vs'.toArray ++ Builtin.zeroCells zv.cells (cap - (sLen + n))).size = cap * i.size := by
                rw [zero_arr_size, hzs]
                have h1 : old.length + vs'.length = (sLen + n) * i.size := by rw [← hnew, hll, List.length_append]
                rw [h1, ← Nat.add_mul]
                congr 1
                omega
              obtain ⟨cx', g1, g2, g3, S', E'⟩ := sim_push_B Sd i.size pu (cells ++ new) hpu hi' (old.toArray ++ vs'.toArray ++ Builtin.zeroCells zv.cells (cap - (sLen + n))) e
                (by rw [hsize, hnew]; exact Nat.mul_le_mul_right _ hcap) (by rw [hll, append_arr]; exact hrel)
              refine ⟨_, _, cx', hr, ?_, S', (ev_drew S).trans E' (Nat.le_refl _)⟩
              simp only [VRel]
              have hnb : cx.nb = m.B.length := S.nb
              refine ⟨by omega, by omega, _, cap, rfl, hcap, .inr rfl, fun _ => ⟨?_, .inr (by rw [g3]; rfl)⟩⟩
              rw [g3, hsize]
              simp
            split at h
            · split at h
              · rename_i hb
                injection h with h; injection h with h1 h2
                subst h1 h2
                simp only [VRel] at hs
                have := hpush (cells := []) (old := []) hs (by omega) (by simpa using hb.1) hb.2 (by simp) (by simp [VRelL]) (by simp [Builtin.firstCells]) (pureL new) (by simp) (max m.hi (maxAL new))
                simpa using this
              · cases h
            · rename_i cells k
              split at h
              · rename_i hb
                injection h with h; injection h with h1 h2
                subst h1 h2
                have hco : contents m i.size (.ro cells k true) = some (k, cells) := by simp [contents, hb.1]
                obtain ⟨q1, q2, old, q3, q4⟩ := contents_sound (P := P) Sd (val_drew S hs) hco
                have hs' := hs
                simp only [VRel] at hs'
                obtain ⟨a, cap, rfl, hle, hfull, hrow⟩ := hs'
                have hck : cap = k := hfull trivial
                subst hck
                have hpc : pureL cells = true := by
                  rcases hrow with rfl | ⟨blk, o, _, _, _, hrow⟩
                  · rfl
                  · exact pureL_of_get fun j y hy => (RowRel.get j hrow hy).1
                exact hpush rfl (by omega) hb.2.1 hb.2.2.1 hb.1.symm q3 q4 (pureL new) (fun hp => by rw [pureL_append, hpc, hp]; rfl) _
              · cases h
            · rename_i b ver off len
              split at h
              · rename_i sz ver' pu cs hB
                split at h
                · rename_i hb
                  obtain ⟨hv, rfl, hlb, hby, hb0⟩ := hb
                  subst hv
                  have hs' := hs
                  simp only [VRel] at hs'
                  obtain ⟨g1, g2, a, cap, rfl, hle, g45, g5⟩ := hs'
                  have hbb := S.B b _ hB
                  simp only [BOk] at hbb
                  obtain ⟨k1, k2, k3, k4, arr, t, k5, k6, k7, k8⟩ := hbb
                  split at h
                  · -- within what lies there
                    rename_i hin
                    injection h with h; injection h with h1 h2
                    subst h1 h2
                    have hnl2 : new.length = n * i.size := hnl
                    have hpos : 0 < n * i.size := Nat.mul_pos hn1 (Nat.pos_of_ne_zero hsz0)
                    have hcapn : len + n ≤ cap ∧ a = some ⟨(cx.fb b).1, off, none⟩ := by
                      obtain ⟨g6, g7⟩ := g5 k1.symm
                      rw [k2, ← k6] at g6
                      have h3 : (len + n) * i.size ≤ cap * i.size := by omega
                      have h4 := Nat.le_of_mul_le_mul_right h3 (Nat.pos_of_ne_zero hsz0)
                      refine ⟨h4, ?_⟩
                      rcases g7 with g7 | g7
                      · omega
                      · exact g7
                    obtain ⟨hcn, rfl⟩ := hcapn
                    have hoff : off + len * i.size + vs.length ≤ arr.size := by
                      rw [← hvs.length, hnl2]
                      rw [Nat.add_mul] at hin
                      omega
                    obtain ⟨arr', e1, e2, e3⟩ := run_storeCells_block (P := P) vs w (cx.fb b).1 (off + len * i.size) arr t k5 hoff (cells_one hvs hcell)
                    have hspl : off + len * i.size + new.length ≤ cs.length := by rw [hnl2]; rw [Nat.add_mul] at hin; omega
                    have hrel : VRelL cx w (splice cs (off + len * i.size) new) (arr'.toList.take (splice cs (off + len * i.size) new).length) := by
                      rw [splice_length hspl, e1]
                      exact splice_take k8 hvs k7 hspl
                    obtain ⟨S', E'⟩ := sim_set_B (pu' := pu && pureL new) S hB hlb k5 e2 (by rw [splice_length hspl]; exact k7) (fun hp => by
                      simp only [Bool.and_eq_true] at hp
                      exact splice_pure (k4 hp.1) hp.2) hrel (max m.hi (maxAL new))
                    refine ⟨_, _, cx, run_room hsT hxT hi hlen hfc hcn (by rw [add_none]; exact e3), ?_, S', E'⟩
                    simp only [VRel]
                    exact ⟨g1, g2, _, cap, rfl, hcn, .inr rfl, fun e => g5 e⟩
                  · split at h
                    · rename_i hend
                      obtain ⟨rfl, hend⟩ := hend
                      injection h with h; injection h with h1 h2
                      subst h1 h2
                      have hpu : (pu && pureL new) = true → pureL (cs ++ new) = true := fun hp => by
                        simp only [Bool.and_eq_true] at hp
                        rw [pureL_append, k4 hp.1, hp.2]
                        rfl
                      by_cases hroom : len + n ≤ cap
                      · -- in place
                        have ha : a = some ⟨(cx.fb b).1, 0, none⟩ ∧ cap * i.size = arr.size := by
                          obtain ⟨g6, g7⟩ := g5 k1.symm
                          rw [k2, ← k6] at g6
                          rcases g7 with g7 | ha
                          · omega
                          · exact ⟨ha, by omega⟩
                        obtain ⟨rfl, hcs⟩ := ha
                        have hfit : cs.length + new.length ≤ arr.size := by
                          rw [← hcs, ← hend, hnl, ← Nat.add_mul]
                          exact Nat.mul_le_mul_right _ hroom
                        have hoff : 0 + len * i.size + vs.length ≤ arr.size := by rw [← hvs.length, Nat.zero_add, hend]; exact hfit
                        obtain ⟨arr', e1, e2, e3⟩ := run_storeCells_block (P := P) vs w (cx.fb b).1 (0 + len * i.size) arr t k5 hoff (cells_one hvs hcell)
                        have hrel : VRelL cx w (cs ++ new) (arr'.toList.take (cs ++ new).length) := by
                          have e4 : arr'.toList.take (cs ++ new).length = arr.toList.take cs.length ++ vs := by
                            rw [e1, Nat.zero_add, hend]
                            have : (cs ++ new).length = (arr.toList.take cs.length ++ vs).length := by
                              rw [List.length_append, List.length_append, ← k8.length, hvs.length]
                            rw [this]
                            exact List.take_left
                          rw [e4]
                          exact VRelL.append k8 hvs
                        obtain ⟨cx', j1, j2, j3, S', E'⟩ := sim_bump_B (pu' := pu && pureL new) S hB hlb k5 e2 (by rw [List.length_append]; exact hfit) hpu hrel (max m.hi (maxAL new))
                        refine ⟨_, _, cx', run_room hsT hxT hi hlen hfc hroom (by rw [add_none]; exact e3), ?_, S', E'⟩
                        simp only [VRel]
                        refine ⟨by rw [j1]; exact g1, by rw [j2]; exact Nat.le_refl _, _, cap, rfl, hroom, .inr rfl, fun _ => ⟨?_, .inr (by rw [j3])⟩⟩
                        rw [j3, k2, ← k6]
                        omega
                      · -- into a new block
                        have hco : contents m i.size (.sl b ver 0 len) = some (len, cs) := by
                          simp only [contents, hB, true_and, if_true]
                          unfold sub
                          rw [if_pos (by omega), hend]
                          simp
                        obtain ⟨q1, q2, old, q3, q4⟩ := contents_sound (P := P) Sd (val_drew S hs) hco
                        obtain ⟨cap', hcap, hr⟩ := run_grow (ty := ty) hsT hxT hi hz2 hlen q4 hfc' (by omega) hby hb0
                        have hrel : VRelL cx w.drew (cs ++ new) (old ++ vs') := VRelL.append q3 hvs'
                        have hll : (cs ++ new).length = (old ++ vs').length := hrel.length
                        have hnew : (cs ++ new).length = (len + n) * i.size := by rw [List.length_append, ← hend, hnl, Nat.add_mul]
                        have hsize : (old.toArray ++ vs'.toArray ++ Builtin.zeroCells zv.cells (cap' - (len + n))).size = cap' * i.size := by
                          rw [zero_arr_size, hzs]
                          have h1 : old.length + vs'.length = (len + n) * i.size := by rw [← hnew, hll, List.length_append]
                          rw [h1, ← Nat.add_mul]
                          congr 1
                          omega
                        obtain ⟨cx', j1, j2, j3, S', E'⟩ := sim_move_B (pu' := pu && pureL new) Sd (old.toArray ++ vs'.toArray ++ Builtin.zeroCells zv.cells (cap' - (len + n))) e hB hlb
                          (by rw [hsize, hnew]; exact Nat.mul_le_mul_right _ hcap) hpu (by rw [hll, append_arr]; exact hrel) (max m.hi (maxAL new))
                        refine ⟨_, _, cx', hr, ?_, S', (ev_drew S).trans E' (Nat.le_refl _)⟩
                        simp only [VRel]
                        refine ⟨by rw [j1]; exact g1, by rw [j2]; exact Nat.le_refl _, _, cap', rfl, hcap, .inr rfl, fun _ => ⟨?_, .inr (by rw [j3]; rfl)⟩⟩
                        rw [j3, hsize]
                        simp
                    · cases h
                · cases h
              · cases h
            · cases h
      · cases h
  · cases h
end
end Go.Proofs.YtpdgbhjhodhkiaaGreatDoor.AI
