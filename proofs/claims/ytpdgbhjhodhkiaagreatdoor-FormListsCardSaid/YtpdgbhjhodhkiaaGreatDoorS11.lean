/- Building; what is left of the operations; all of them. -/
import Derived.Test.YtpdgbhjhodhkiaaGreatDoorS10
import Derived.Laws.MakeOwn
set_option linter.unusedVariables false
set_option linter.unusedSimpArgs false
namespace Go.Proofs.YtpdgbhjhodhkiaaGreatDoor.AI
open Go
variable {kp : Kp}

section
variable {P : Program} {cx : Cx} {m : Mem} {w : World}

/-! ### Rows of zeros -/
theorem repl_length (z : List V) : ∀ n, (repl n z).length = n * z.length
  | 0 => by simp [repl]
  | n + 1 => by simp only [repl, List.length_append, repl_length z n, Nat.add_mul]; omega
theorem repl_get (z : List V) (hz : 0 < z.length) : ∀ (n i : Nat), i < n * z.length → (repl n z)[i]? = z[i % z.length]?
  | 0, i, h => by simp at h
  | n + 1, i, h => by
    simp only [repl]
    by_cases hi : i < z.length
    · rw [List.getElem?_append_left hi, Nat.mod_eq_of_lt hi]
    · rw [List.getElem?_append_right (by omega), repl_get z hz n (i - z.length) (by rw [Nat.add_mul] at h; omega)]
      congr 1
      rw [← Nat.mod_eq_sub_mod (by omega)]
theorem made_get (zv : Array Value) (n i : Nat) (h : i < n) (hz : 0 < zv.size) : (madeCells zv n)[i]? = zv[i % zv.size]? := by
  unfold madeCells
  rw [Array.getElem?_map]
  rw [Array.getElem?_eq_getElem (by simpa using h)]
  simp only [Array.getElem_range, Option.map_some]
  rw [Array.getElem?_eq_getElem (Nat.mod_lt _ hz)]
  rw [getElem!_pos zv (i % zv.size) (Nat.mod_lt _ hz)]
theorem made_rel (zv : Array Value) (n : Nat) (hz : 0 < zv.size) : VRelL cx w (repl n (zv.toList.map ofConst0)) (madeCells zv (n * zv.size)).toList := by
  have hzl : (zv.toList.map ofConst0).length = zv.size := by simp
  refine VRelL.of_get ?_ fun i x v hx hv => ?_
  · rw [repl_length, hzl]
    simp [size_madeCells]
  · have hi : i < n * zv.size := by
      have := (List.getElem?_eq_some_iff.1 hx).1
      rwa [repl_length, hzl] at this
    rw [repl_get _ (by rw [hzl]; exact hz) n i (by rw [hzl]; exact hi), hzl, List.getElem?_map] at hx
    rw [Array.getElem?_toList, made_get zv _ i hi hz, ← Array.getElem?_toList] at hv
    rw [hv] at hx
    simp only [Option.map_some] at hx
    injection hx with hx
    subst hx
    exact ofConst0_rel v
theorem repl_pure (z : List V) (h : pureL z = true) : ∀ n, pureL (repl n z) = true
  | 0 => rfl
  | n + 1 => by simp only [repl, pureL_append, h, repl_pure z h n]; rfl
theorem repl_maxA (z : List V) : ∀ n, maxAL (repl n z) ≤ maxAL z
  | 0 => by simp [repl, maxAL]
  | n + 1 => by
    have := repl_maxA z n
    simp only [repl, maxAL_append]
    omega

theorem makeSlice_sound (S : Sim kp cx m w) {t : TypeId} {l c v : V} {cl cc : Value} {m' : Mem} (hl : VRel cx w l cl) (hc : VRel cx w c cc) (h : makeSliceV P m t l c = some (v, m')) : OpRes kp P cx m w v m' (Instr.makeSlice t cl cc) := by
  unfold makeSliceV at h
  split at h
  · rename_i e l c hd
    simp only [VRel] at hl hc
    subst hl hc
    split at h
    · rename_i i z hi hz
      split at h
      · rename_i hcond
        obtain ⟨h0, rfl, hb, h47, hzl, hpos, hib⟩ := hcond
        injection h with h
        injection h with h1 h2
        subst h1 h2
        obtain ⟨i2, zv, hi2, hz2, rfl, _⟩ := zeroCells_some hz
        rw [hi] at hi2
        injection hi2 with hi2
        subst hi2
        have hzs : zv.cells.size = i.size := by simpa using hzl
        have hr := run_make (P := P) w t e i zv hd hi hz2 .i64 .i64 l l h0 (Int.le_refl _) (by rw [Int.mul_comm]; omega) (by omega)
        have hrel := made_rel (cx := cx) (w := w) zv.cells l.toNat (by omega)
        rw [hzs] at hrel
        have hlen : (repl l.toNat (zv.cells.toList.map ofConst0)).length = l.toNat * i.size := by rw [repl_length, hzl]
        have hsz : (madeCells zv.cells (l.toNat * i.size)).size = l.toNat * i.size := size_madeCells _ _
        obtain ⟨cx', g1, g2, g3, S', E'⟩ := sim_push_B S i.size (pureL (zv.cells.toList.map ofConst0)) (repl l.toNat (zv.cells.toList.map ofConst0)) (fun hp => repl_pure _ hp _) m.hi (madeCells zv.cells (l.toNat * i.size)) e
          (by rw [hlen, hsz]; exact Nat.le_refl _) (by
            rw [hlen, List.take_of_length_le (by simp [hsz])]
            exact hrel)
        refine ⟨_, _, cx', hr, ?_, S', E'⟩
        have hnb : cx.nb = m.B.length := S.nb
        simp only [VRel]
        refine ⟨by omega, by omega, _, _, rfl, Nat.le_refl _, .inr rfl, fun _ => ⟨?_, .inr (by rw [g3])⟩⟩
        rw [g3, hsz]
        simp
      · cases h
    · cases h
  · cases h

theorem run_grow_make {sT xT ty e : TypeId} {k : IntKind} {i : TypeInfo} {zv : Value} {q : Nat} {base : Option Addr} (hs : P.underlying sT = some (.slice e)) (hx : P.underlying xT = some (.int k))
    (hi : P.info? e = some i) (hz : i.zero = some zv) (h0 : 0 < q) (hb : q * i.bytes ≤ 140737488355328) (hb0 : 0 < i.bytes) (hsz : i.size ≠ 0) :
    ∃ cap, q ≤ cap ∧ (Builtin.append_ #[sT, xT] ty #[.slice base 0 0, .int .i64 q]).run P w =
      .ok (.slice (some ⟨w.heap.size, 0, none⟩) q cap) (w.drew.alloc (.cells (Builtin.zeroCells zv.cells q ++ Builtin.zeroCells zv.cells (cap - q)) e)) := by
  have hcap : q ≤ (Question.appendCap q 0 e).cut (w.tape w.drawn (.appendCap q 0 e)) := by simp only [Question.cut]; omega
  refine ⟨(Question.appendCap q 0 e).cut (w.tape w.drawn (.appendCap q 0 e)), hcap, ?_⟩
  have hle : q ≤ 140737488355328 := Nat.le_trans (Nat.le_mul_of_pos_right q hb0) hb
  have hm : IntKind.i64.max = 9223372036854775807 := by decide
  have hw : IntKind.i64.wrap (q : Int) = q := by rw [IntKind.wrap_i64]; omega
  have h2 : ¬ (Builtin.nextslicecap q 0 * i.bytes > 2 ^ 48) := by
    have := growslice_fits (bytes := i.bytes) (show 0 < q from h0) hb
    omega
  have h3 : ¬ ((q : Int) > IntKind.i64.max) := by rw [hm]; omega
  have h4 : ¬ ((q : Int) < 0) := by omega
  have h5 : ¬ ((q : Int) * i.bytes > 2 ^ 48) := by
    have : (q : Int) * (i.bytes : Int) = ((q * i.bytes : Nat) : Int) := by simp
    rw [this]
    omega
  have h6 : ¬ (q * i.size = 0) := by
    intro h
    rcases Nat.mul_eq_zero.1 h with h | h
    · omega
    · exact hsz h
  have h1 : ¬ (q ≤ 0) := by omega
  generalize hq : (Question.appendCap q 0 e).cut (w.tape w.drawn (.appendCap q 0 e)) = cap at *
  have hch : (choose (.appendCap q 0 e)).run P w = .ok cap w.drew := by
    rw [run_choose]
    simp only [Question.forced, Bool.false_eq_true, if_false, hq]
    rfl
  have hz' : (zeroValue e).run P w.drew = .ok zv w.drew := r_zero hi hz
  have ha : (asInt (.int .i64 (q : Int))).run P w = .ok (q : Int) w := rfl
  have hf0 : (Builtin.firstCells i.size 0 (.slice base 0 0)).run P w.drew = .ok #[] w.drew := by
    cases base with
    | none => rfl
    | some a =>
      simp only [Builtin.firstCells, Nat.zero_mul]
      exact r_cells a [] (fun j v hj => by simp at hj)
  simp only [Builtin.append_, List.getElem?_toArray, List.getElem?_cons_succ, List.getElem?_cons_zero, Sem.run_bind, r_und hs, r_und hx, r_size hi, r_info hi, Result.andThen_ok, Sem.run_pure, if_true, ha, hw, h4, h5, if_false, Int.toNat_natCast, Nat.zero_add, h1, h3, false_and, h2, hch, run_askRoom, Bool.not_true, Bool.false_eq_true, h6, hz', hf0]
  simp [newRow]
  rfl

theorem append_make_sound (S : Sim kp cx m w) {sT xT ty : TypeId} {k : IntKind} {s x v : V} {c1 c2 : Value} {m' : Mem} (hs : VRel cx w s c1) (hx : VRel cx w x c2) (hxT : P.underlying xT = some (.int k))
    (h : appendMakeV P m sT s x = some (v, m')) : OpRes kp P cx m w v m' (Builtin.append_ #[sT, xT] ty #[c1, c2]) := by
  unfold appendMakeV at h
  split at h
  · rename_i e n hsT
    split at h
    · rename_i i z hi hz
      obtain ⟨i2, zv, hi2, hz2, rfl, _⟩ := zeroCells_some hz
      rw [hi] at hi2
      injection hi2 with hi2
      subst hi2
      split at h
      · rename_i hc
        obtain ⟨h0, hb, hb0, hsz, hzl⟩ := hc
        simp only [VRel] at hx
        have hs0 := hs
        simp only [VRel] at hs
        obtain ⟨base, cap0, hs, _, hfull, _⟩ := hs
        have hcap0 : cap0 = 0 := hfull trivial
        subst hcap0
        subst hs hx
        have hzs : zv.cells.size = i.size := by simpa using hzl
        split at h
        · rename_i hn
          subst hn
          injection h with h; injection h with h1 h2; subst h1 h2
          refine OpRes.same S (cv := .slice base 0 0) ?_ hs0
          have hw : IntKind.i64.wrap 0 = 0 := by decide
          have ha : (asInt (.int .i64 0)).run P w = .ok 0 w := rfl
          have h4 : ¬ ((0 : Int) < 0) := by omega
          have h5 : ¬ ((0 : Int) * (i.bytes : Int) > 2 ^ 48) := by omega
          simp only [Builtin.append_, List.getElem?_toArray, List.getElem?_cons_succ, List.getElem?_cons_zero, Sem.run_bind, r_und hsT, r_und hxT, r_size hi, r_info hi, Result.andThen_ok, Sem.run_pure, if_true, ha, hw, h4, h5, if_false, Int.toNat_zero, Nat.add_zero, Nat.le_refl, Bool.not_true, Bool.false_eq_true, Nat.zero_mul]
          cases base <;> simp [storeCells]
        · rename_i hn
          injection h with h; injection h with h1 h2; subst h1 h2
          have hbn : n.toNat * i.bytes ≤ 140737488355328 := by
            have e1 : ((n.toNat * i.bytes : Nat) : Int) = n * i.bytes := by simp [Int.toNat_of_nonneg h0]
            omega
          obtain ⟨cap, hcap, hr⟩ := run_grow_make (P := P) (w := w) (ty := ty) (q := n.toNat) hsT hxT hi hz2 (by omega) hbn hb0 hsz
          rw [Int.toNat_of_nonneg h0] at hr
          have Sd : Sim kp cx m w.drew := S.heap rfl
          have hrel : VRelL cx w.drew (repl n.toNat (zv.cells.toList.map ofConst0)) (Builtin.zeroCells zv.cells n.toNat).toList := by
            have := made_rel (cx := cx) (w := w.drew) zv.cells n.toNat (by omega)
            exact this
          have hlen : (repl n.toNat (zv.cells.toList.map ofConst0)).length = n.toNat * i.size := by rw [repl_length, hzl]
          have hz1 : ∀ k, (Builtin.zeroCells zv.cells k).size = k * i.size := fun k => by simp [Builtin.zeroCells, hzs]
          obtain ⟨cx', g1, g2, g3, S', E'⟩ := sim_push_B Sd i.size (pureL (zv.cells.toList.map ofConst0)) (repl n.toNat (zv.cells.toList.map ofConst0)) (fun hp => repl_pure _ hp _) m.hi (Builtin.zeroCells zv.cells n.toNat ++ Builtin.zeroCells zv.cells (cap - n.toNat)) e
            (by rw [hlen, Array.size_append, hz1, hz1]; omega) (by
              rw [hlen, Array.toList_append, List.take_append_of_le_length (by simp [hz1]), List.take_of_length_le (by simp [hz1])]
              exact hrel)
          refine ⟨_, _, cx', hr, ?_, S', (ev_drew S).trans E' (Nat.le_refl _)⟩
          simp only [VRel]
          have hnb : cx.nb = m.B.length := S.nb
          refine ⟨by omega, by omega, _, cap, rfl, hcap, .inr rfl, fun _ => ⟨?_, .inr (by rw [g3]; rfl)⟩⟩
          rw [g3]
          simp only [Array.size_append, hz1, ← Nat.add_mul]
          rw [show n.toNat + (cap - n.toNat) = cap by omega]
          simp
      · cases h
    · cases h
  · cases h

/-! ### Structs, arrays, slices by their parts -/
theorem fold_set : ∀ (vs : List Value) (k off : Nat) (arr : Array Value), off + k + vs.length ≤ arr.size →
    ((vs.zipIdx k).foldl (fun (cs : Array Value) (p : Value × Nat) => cs.setIfInBounds (off + p.2) p.1) arr).toList = arr.toList.take (off + k) ++ vs ++ arr.toList.drop (off + k + vs.length)
  | [], k, off, arr, _ => by simp
  | v :: vs, k, off, arr, h => by
    simp only [List.length_cons] at h
    simp only [List.zipIdx_cons, List.foldl_cons]
    rw [fold_set vs (k + 1) off _ (by simp; omega)]
    simp only [Array.toList_setIfInBounds, List.length_cons]
    rw [show off + (k + 1) = off + k + 1 from by omega]
    exact set_take_drop _ _ _ _ (by simp; omega)
def PRel (cx : Cx) (w : World) : List (Nat × V) → List (Nat × Value) → Prop
  | [], [] => True
  | (i, x) :: ps, (j, v) :: qs => (i = j ∧ VRel cx w x v) ∧ PRel cx w ps qs
  | _, _ => False
theorem fill_sound (place : Nat → Option (Nat × Nat)) : ∀ (ps : List (Nat × V)) (qs : List (Nat × Value)) (cells cs : List V) (arr : Array Value), PRel cx w ps qs → VRelL cx w cells arr.toList → fillV place cells ps = some cs → ∃ arr', Instr.fill place arr qs = some arr' ∧ VRelL cx w cs arr'.toList
  | [], [], cells, cs, arr, _, hr, h => by
    simp only [fillV] at h
    injection h with h
    subst h
    exact ⟨arr, rfl, hr⟩
  | [], _ :: _, _, _, _, h, _, _ => by simp [PRel] at h
  | _ :: _, [], _, _, _, h, _, _ => by simp [PRel] at h
  | (i, x) :: ps, (j, v) :: qs, cells, cs, arr, hp, hr, h => by
    simp only [PRel] at hp
    obtain ⟨⟨rfl, hx⟩, hp⟩ := hp
    simp only [fillV] at h
    cases hpl : place i with
    | none => simp [hpl] at h
    | some p =>
      obtain ⟨off, size⟩ := p
      simp only [hpl] at h
      split at h
      · rename_i hcond
        have hcl := cellLike_cells hx hcond.2.2
        have hvl : v.cells.size = size := by
          have := hcl.length
          rw [hcond.1] at this
          simpa using this.symm
        have hal : arr.size = cells.length := by
          have := hr.length
          simpa using this.symm
        have hfold : (v.cells.zipIdx.foldl (fun cs (c, k) => cs.setIfInBounds (off + k) c) arr).toList = arr.toList.take off ++ v.cells.toList ++ arr.toList.drop (off + v.cells.toList.length) := by
          rw [← Array.foldl_toList, Array.toList_zipIdx]
          have := fold_set v.cells.toList 0 off arr (by simp; omega)
          simpa using this
        have hrel : VRelL cx w (splice cells off (cellsOf x)) (v.cells.zipIdx.foldl (fun cs (c, k) => cs.setIfInBounds (off + k) c) arr).toList := by
          rw [hfold]
          exact splice_rel off hr hcl
        obtain ⟨arr', h1, h2⟩ := fill_sound place ps qs _ cs _ hp hrel h
        refine ⟨arr', ?_, h2⟩
        unfold Instr.fill
        rw [hpl]
        simp only
        rw [if_neg (by simp [hvl]; omega)]
        exact h1
      · cases h

theorem fillV_length (place : Nat → Option (Nat × Nat)) : ∀ (ps : List (Nat × V)) (cells cs : List V), fillV place cells ps = some cs → cs.length = cells.length
  | [], cells, cs, h => by
    simp only [fillV] at h
    injection h with h
    rw [h]
  | (i, x) :: ps, cells, cs, h => by
    simp only [fillV] at h
    cases hpl : place i with
    | none => simp [hpl] at h
    | some p =>
      obtain ⟨off, size⟩ := p
      simp only [hpl] at h
      split at h
      · rename_i hcond
        rw [fillV_length place ps _ cs h, splice_length (by omega)]
      · cases h
theorem zeroV_agg {t : TypeId} {z : List V} (h : zeroV P t = some (.agg z)) : ∃ i zv, P.info? t = some i ∧ i.zero = some (.agg zv) ∧ z = zv.toList.map ofConst0 := by
  unfold zeroV at h
  cases hi : P.info? t with
  | none => simp [hi] at h
  | some i =>
    cases hz : i.zero with
    | none => simp [hi, hz] at h
    | some zv =>
      simp only [hi, hz, Option.map_some] at h
      injection h with h
      cases zv with
      | agg cs =>
        simp only [ofConst, V.agg.injEq] at h
        exact ⟨i, cs, rfl, hz, h.symm⟩
      | _ => simp only [ofConst, ofConst0] at h <;> (try split at h) <;> cases h
theorem places_some : ∀ (fs : List Field), fs.all (fun f => (sizeV P f.type).isSome) = true → ∃ ps : List (Nat × Nat), fs.mapM (fun f => (P.info? f.type).map fun i => (f.offset, i.size)) = some ps ∧ ∀ (i : Nat) (f : Field), fs[i]? = some f → ps[i]? = (sizeV P f.type).map fun n => (f.offset, n)
  | [], _ => ⟨[], rfl, by simp⟩
  | f :: fs, h => by
    simp only [List.all_cons, Bool.and_eq_true] at h
    obtain ⟨ps, h1, h2⟩ := places_some fs h.2
    unfold sizeV at h
    cases hi : P.info? f.type with
    | none => simp [hi] at h
    | some i =>
      refine ⟨(f.offset, i.size) :: ps, by simp [hi, h1], fun k g hg => ?_⟩
      cases k with
      | zero =>
        simp at hg
        subst hg
        simp [sizeV, hi]
      | succ k => simpa using h2 k g (by simpa using hg)
theorem places_len : ∀ (fs : List Field) (ps : List (Nat × Nat)), fs.mapM (fun f => (P.info? f.type).map fun i => (f.offset, i.size)) = some ps → ps.length = fs.length
  | [], ps, h => by simp at h; subst h; rfl
  | f :: fs, ps, h => by
    simp only [List.mapM_cons, Option.bind_eq_bind, Option.pure_def] at h
    cases hi : P.info? f.type with
    | none => simp [hi] at h
    | some i =>
      cases hr : fs.mapM (fun f => (P.info? f.type).map fun i => (f.offset, i.size)) with
      | none => simp [hi, hr] at h
      | some rest =>
        simp [hi, hr] at h
        subst h
        simp [places_len fs rest hr]

theorem build_sound (S : Sim kp cx m w) {t : TypeId} {ps : List (Nat × V)} {qs : Array (Nat × Value)} {v : V} (hp : PRel cx w ps qs.toList) (h : buildV P t ps = some v) : OpRes kp P cx m w v m (Instr.build t qs) := by
  unfold buildV at h
  split at h
  · rename_i z fields hz hd
    split at h
    · rename_i hall
      obtain ⟨i, zv, hi, hzv, rfl⟩ := zeroV_agg hz
      obtain ⟨pl, hpl, hget⟩ := places_some (P := P) fields.toList hall
      cases hf : fillV (fieldPlaceV P fields) (zv.toList.map ofConst0) ps with
      | none => simp [hf] at h
      | some cs =>
        simp only [hf, Option.map_some] at h
        injection h with h
        subst h
        have hpe : fieldPlaceV P fields = fun k => pl.toArray[k]? := by
          funext k
          have e1 : pl.toArray[k]? = pl[k]? := by simp
          rw [e1]
          unfold fieldPlaceV
          cases hk : fields[k]? with
          | none =>
            have hl := places_len (P := P) _ _ hpl
            have hlen : fields.toList.length ≤ k := by simpa using hk
            rw [List.getElem?_eq_none (by omega)]
          | some f => rw [hget k f (by simpa using hk)]
        obtain ⟨arr', h1, h2⟩ := fill_sound (cx := cx) (w := w) (fieldPlaceV P fields) ps qs.toList _ cs zv hp (map_ofConst0_rel _) hf
        refine OpRes.same S (cv := .agg arr') (run_build w t qs arr' ?_) ⟨arr', rfl, h2⟩
        unfold Program.built
        simp only [hi, hd, hzv, hpl, Value.cells]
        rw [← hpe]
        exact h1
    · cases h
  · rename_i z n e hz hd
    obtain ⟨i, zv, hi, hzv, rfl⟩ := zeroV_agg hz
    split at h
    · rename_i sz hsz
      cases hf : fillV (fun i => some (i * sz, sz)) (zv.toList.map ofConst0) ps with
      | none => simp [hf] at h
      | some cs =>
        simp only [hf, Option.map_some] at h
        injection h with h
        subst h
        unfold sizeV at hsz
        cases hie : P.info? e with
        | none => simp [hie] at hsz
        | some ie =>
          simp only [hie, Option.map_some] at hsz
          injection hsz with hsz
          obtain ⟨arr', h1, h2⟩ := fill_sound (cx := cx) (w := w) (fun i => some (i * sz, sz)) ps qs.toList _ cs zv hp (map_ofConst0_rel _) hf
          refine OpRes.same S (cv := .agg arr') (run_build w t qs arr' ?_) ⟨arr', rfl, h2⟩
          unfold Program.built
          simp only [hi, hd, hzv, hie, Value.cells, hsz]
          exact h1
    · cases h
  · cases h

theorem buildSlice_run {t : TypeId} {len sz : Nat} {ps : List (Nat × V)} {qs : Array (Nat × Value)} {cs : List V} (hp : PRel cx w ps qs.toList) (h : buildSliceCells P t len ps = some (sz, cs)) :
    ∃ e arr, VRelL cx w cs arr.toList ∧ arr.size = len * sz ∧ cs.all V.cellLike = true ∧ 0 < sz ∧ (Instr.buildSlice t len qs).run P w = .ok (.slice (some ⟨w.heap.size, 0, none⟩) len len) (w.alloc (.cells arr e)) := by
  unfold buildSliceCells at h
  split at h
  · rename_i e hd
    split at h
    · rename_i sz' z hsz hz
      split at h
      · rename_i hcond
        obtain ⟨hzl, hpos, hlim⟩ := hcond
        obtain ⟨i, zv, hi, hzv, rfl, _⟩ := zeroCells_some hz
        cases hf : fillV (fun i => some (i * sz', sz')) (repl len (zv.cells.toList.map ofConst0)) ps with
        | none => simp [hf] at h
        | some cs' =>
          simp only [hf] at h
          split at h
          · rename_i hall
            injection h with h
            injection h with h1 h2
            subst h1 h2
            have hzs : zv.cells.size = sz' := by simpa using hzl
            have hmade := made_rel (cx := cx) (w := w) zv.cells len (by omega)
            rw [hzs] at hmade
            obtain ⟨arr', h1, h2⟩ := fill_sound (cx := cx) (w := w) (fun i => some (i * sz', sz')) ps qs.toList _ cs' (madeCells zv.cells (len * sz')) hp hmade hf
            have hlen : cs'.length = len * sz' := by rw [fillV_length _ _ _ _ hf, repl_length, hzl]
            refine ⟨e, arr', h2, ?_, hall, hpos, ?_⟩
            · have := h2.length
              rw [hlen] at this
              simpa using this.symm
            · have hlim' : ¬ (len * sz' > 2 ^ 24) := by omega
              by_cases h0 : len * sz' = 0
              · have hl0 : len = 0 := by
                  rcases Nat.eq_zero_or_pos len with h | h
                  · exact h
                  · have := Nat.mul_pos h hpos; omega
                have hm0 : madeCells zv.cells (len * sz') = #[] := by rw [h0]; simp [madeCells, Array.range_zero']
                rw [hm0] at h1
                have hl2 : ¬ (0 > 2 ^ 24) := by omega
                simp only [Instr.buildSlice, Sem.run_bind, r_und hd, Result.andThen_ok, sizeV_some hsz, h0, if_neg hl2, if_true, Sem.run_pure]
                have hr0 : (Array.range 0).map (fun x => (#[] : Array Value)[x % (#[] : Array Value).size]!) = #[] := by simp [Array.range_zero']
                rw [hr0, h1]
                simp [newRow]
              · simp only [Instr.buildSlice, Sem.run_bind, r_und hd, Result.andThen_ok, sizeV_some hsz, if_neg hlim', if_neg h0, r_zero hi hzv, Sem.run_pure]
                have h1' : Instr.fill (fun i => some (i * sz', sz')) ((Array.range (len * sz')).map (zv.cells[· % zv.cells.size]!)) qs.toList = some arr' := h1
                simp [h1', newRow]
          · cases h
      · cases h
    · cases h
  · cases h
end
end Go.Proofs.YtpdgbhjhodhkiaaGreatDoor.AI
