/- An abstract interpreter of loaded code, and that the machine does what it says, second part. -/
import Derived.Test.YtpdgbhjhodhkiaaGreatDoorXA
import Derived.Laws.MakeOwn
import Derived.OrdersIn
import Derived.RangeFuncRecord
import Derived.LoopNIn
set_option linter.unusedVariables false
set_option linter.unusedSimpArgs false
namespace Go.Proofs.YtpdgbhjhodhkiaaGreatDoor.AI
open Go
variable {kp : Kp}
section
variable {P : Program} {cx : Cx} {m : Mem} {w : World}
theorem repl_length (z : List V) : ∀ n, (repl n z).length = n * z.length
 | 0 => by simp [repl]
 | n + 1 => by simp only [repl, List.length_append, repl_length z n, Nat.add_mul]; omega
theorem repl_get (z : List V) (hz : 0 < z.length) : ∀ (n i : Nat), i < n * z.length → (repl n z)[i]? = z[i % z.length]?
 | 0, i, h => by simp at h
 | n + 1, i, h => by
  simp only [repl]
  by_cases hi : i < z.length
  ·rw [List.getElem?_append_left hi, Nat.mod_eq_of_lt hi]
  ·rw [List.getElem?_append_right (by omega), repl_get z hz n (i - z.length) (by rw [Nat.add_mul] at h; omega)]
   congr 1
   rw [← Nat.mod_eq_sub_mod (by omega)]
theorem made_get (zv : Array Value) (n i : Nat) (h : i < n) (hz : 0 < zv.size) : (madeCells zv n)[i]? = zv[i % zv.size]? := by
 unfold madeCells
 rw [Array.getElem?_map]
 rw [Array.getElem?_eq_getElem (by simpa using h)]
 simp only [Array.getElem_range, Option.map_some]
 rw [Array.getElem?_eq_getElem (Nat.mod_lt _ hz)]
 rw [getElem!_pos zv (i % zv.size) (Nat.mod_lt _ hz)]
theorem made_rel (zv : Array Value) (n : Nat) (hz : 0 < zv.size) : VRelL cx w (repl n (zv.toList.map ofConst0)) (madeCells zv (n * zv.size)).toList := by
 have hzl : (zv.toList.map ofConst0).length = zv.size := by simp
 refine VRelL.of_get ?_ fun i x v hx hv => ?_
 ·rw [repl_length, hzl]
  simp [size_madeCells]
 ·have hi : i < n * zv.size := by
   have := (List.getElem?_eq_some_iff.1 hx).1
   rwa [repl_length, hzl] at this
  rw [repl_get _ (by rw [hzl]; exact hz) n i (by rw [hzl]; exact hi), hzl, List.getElem?_map] at hx
  rw [Array.getElem?_toList, made_get zv _ i hi hz, ← Array.getElem?_toList] at hv
  rw [hv] at hx
  simp only [Option.map_some] at hx
  injection hx with hx
  subst hx
  exact ofConst0_rel v
theorem repl_pure (z : List V) (h : pureL z = true) : ∀ n, pureL (repl n z) = true
 | 0 => rfl
 | n + 1 => by simp only [repl, pureL_append, h, repl_pure z h n]; rfl
theorem repl_maxA (z : List V) : ∀ n, maxAL (repl n z) ≤ maxAL z
 | 0 => by simp [repl, maxAL]
 | n + 1 => by
  have := repl_maxA z n
  simp only [repl, maxAL_append]
  omega
theorem makeSlice_sound (S : Sim kp cx m w) {t : TypeId} {l c v : V} {cl cc : Value} {m' : Mem} (hl : VRel cx w l cl) (hc : VRel cx w c cc) (h : makeSliceV P m t l c = some (v, m')) : OpRes kp P cx m w v m' (Instr.makeSlice t cl cc) := by
 unfold makeSliceV at h
 split at h
 ·rename_i e l c hd
  simp only [VRel] at hl hc
  subst hl hc
  split at h
  ·rename_i i z hi hz
   split at h
   ·rename_i hcond
    obtain ⟨h0, rfl, hb, h47, hzl, hpos, hib⟩ := hcond
    injection h with h
    injection h with h1 h2
    subst h1 h2
    obtain ⟨i2, zv, hi2, hz2, rfl, _⟩ := zeroCells_some hz
    rw [hi] at hi2
    injection hi2 with hi2
    subst hi2
    have hzs : zv.cells.size = i.size := by simpa using hzl
    have hr := run_make (P := P) w t e i zv hd hi hz2 .i64 .i64 l l h0 (Int.le_refl _) (by rw [Int.mul_comm]; omega) (by omega)
    have hrel := made_rel (cx := cx) (w := w) zv.cells l.toNat (by omega)
    rw [hzs] at hrel
    have hlen : (repl l.toNat (zv.cells.toList.map ofConst0)).length = l.toNat * i.size := by rw [repl_length, hzl]
    have hsz : (madeCells zv.cells (l.toNat * i.size)).size = l.toNat * i.size := size_madeCells _ _
    obtain ⟨cx', g1, g2, g3, S', E'⟩ := sim_push_B S i.size (pureL (zv.cells.toList.map ofConst0)) (repl l.toNat (zv.cells.toList.map ofConst0)) (fun hp => repl_pure _ hp _) m.hi (madeCells zv.cells (l.toNat * i.size)) e
     (by rw [hlen, hsz]; exact Nat.le_refl _) (by
      rw [hlen, List.take_of_length_le (by simp [hsz])]
      exact hrel)
    refine ⟨_, _, cx', hr, ?_, S', E'⟩
    have hnb : cx.nb = m.B.length := S.nb
    simp only [VRel]
    refine ⟨by omega, by omega, _, _, rfl, Nat.le_refl _, .inr rfl, fun _ => ⟨?_, .inr (by rw [g3])⟩⟩
    rw [g3, hsz]
    simp
   ·cases h
  ·cases h
 ·cases h
theorem run_grow_make {sT xT ty e : TypeId} {k : IntKind} {i : TypeInfo} {zv : Value} {q : Nat} {base : Option Addr} (hs : P.underlying sT = some (.slice e)) (hx : P.underlying xT = some (.int k))
  (hi : P.info? e = some i) (hz : i.zero = some zv) (h0 : 0 < q) (hb : q * i.bytes ≤ 140737488355328) (hb0 : 0 < i.bytes) (hsz : i.size ≠ 0) :
  ∃ cap, q ≤ cap ∧ (Builtin.append_ #[sT, xT] ty #[.slice base 0 0, .int .i64 q]).run P w =
   .ok (.slice (some ⟨w.heap.size, 0, none⟩) q cap) (w.drew.alloc (.cells (Builtin.zeroCells zv.cells q ++ Builtin.zeroCells zv.cells (cap - q)) e)) := by
 have hcap : q ≤ (Question.appendCap q 0 e).cut (w.tape w.drawn (.appendCap q 0 e)) := by simp only [Question.cut]; omega
 refine ⟨(Question.appendCap q 0 e).cut (w.tape w.drawn (.appendCap q 0 e)), hcap, ?_⟩
 have hle : q ≤ 140737488355328 := Nat.le_trans (Nat.le_mul_of_pos_right q hb0) hb
 have hm : IntKind.i64.max = 9223372036854775807 := by decide
 have hw : IntKind.i64.wrap (q : Int) = q := by rw [IntKind.wrap_i64]; omega
 have h2 : ¬ (Builtin.nextslicecap q 0 * i.bytes > 2 ^ 48) := by
  have := growslice_fits (bytes := i.bytes) (show 0 < q from h0) hb
  omega
 have h3 : ¬ ((q : Int) > IntKind.i64.max) := by rw [hm]; omega
 have h4 : ¬ ((q : Int) < 0) := by omega
 have h5 : ¬ ((q : Int) * i.bytes > 2 ^ 48) := by
  have : (q : Int) * (i.bytes : Int) = ((q * i.bytes : Nat) : Int) := by simp
  rw [this]
  omega
 have h6 : ¬ (q * i.size = 0) := by
  intro h
  rcases Nat.mul_eq_zero.1 h with h | h
  ·omega
  ·exact hsz h
 have h1 : ¬ (q ≤ 0) := by omega
 generalize hq : (Question.appendCap q 0 e).cut (w.tape w.drawn (.appendCap q 0 e)) = cap at *
 have hch : (choose (.appendCap q 0 e)).run P w = .ok cap w.drew := by
  rw [run_choose]
  simp only [Question.forced, Bool.false_eq_true, if_false, hq]
  rfl
 have hz' : (zeroValue e).run P w.drew = .ok zv w.drew := r_zero hi hz
 have ha : (asInt (.int .i64 (q : Int))).run P w = .ok (q : Int) w := rfl
 have hf0 : (Builtin.firstCells i.size 0 (.slice base 0 0)).run P w.drew = .ok #[] w.drew := by
  cases base with
  | none => rfl
  | some a =>
   simp only [Builtin.firstCells, Nat.zero_mul]
   exact r_cells a [] (fun j v hj => by simp at hj)
 simp only [Builtin.append_, List.getElem?_toArray, List.getElem?_cons_succ, List.getElem?_cons_zero, Sem.run_bind, r_und hs, r_und hx, r_size hi, r_info hi, Result.andThen_ok, Sem.run_pure, if_true, ha, hw, h4, h5, if_false, Int.toNat_natCast, Nat.zero_add, h1, h3, false_and, h2, hch, run_askRoom, Bool.not_true, Bool.false_eq_true, h6, hz', hf0]
 simp [newRow] <;> rfl
theorem append_make_sound (S : Sim kp cx m w) {sT xT ty : TypeId} {k : IntKind} {s x v : V} {c1 c2 : Value} {m' : Mem} (hs : VRel cx w s c1) (hx : VRel cx w x c2) (hxT : P.underlying xT = some (.int k))
  (h : appendMakeV P m sT s x = some (v, m')) : OpRes kp P cx m w v m' (Builtin.append_ #[sT, xT] ty #[c1, c2]) := by
 unfold appendMakeV at h
 split at h
 ·rename_i e n hsT
  split at h
  ·rename_i i z hi hz
   obtain ⟨i2, zv, hi2, hz2, rfl, _⟩ := zeroCells_some hz
   rw [hi] at hi2
   injection hi2 with hi2
   subst hi2
   split at h
   ·rename_i hc
    obtain ⟨h0, hb, hb0, hsz, hzl⟩ := hc
    simp only [VRel] at hx
    have hs0 := hs
    simp only [VRel] at hs
    obtain ⟨base, cap0, hs, _, hfull, _⟩ := hs
    have hcap0 : cap0 = 0 := hfull trivial
    subst hcap0
    subst hs hx
    have hzs : zv.cells.size = i.size := by simpa using hzl
    split at h
    ·rename_i hn
     subst hn
     injection h with h; injection h with h1 h2; subst h1 h2
     refine OpRes.same S (cv := .slice base 0 0) ?_ hs0
     have hw : IntKind.i64.wrap 0 = 0 := by decide
     have ha : (asInt (.int .i64 0)).run P w = .ok 0 w := rfl
     have h4 : ¬ ((0 : Int) < 0) := by omega
     have h5 : ¬ ((0 : Int) * (i.bytes : Int) > 2 ^ 48) := by omega
     simp only [Builtin.append_, List.getElem?_toArray, List.getElem?_cons_succ, List.getElem?_cons_zero, Sem.run_bind, r_und hsT, r_und hxT, r_size hi, r_info hi, Result.andThen_ok, Sem.run_pure, if_true, ha, hw, h4, h5, if_false, Int.toNat_zero, Nat.add_zero, Nat.le_refl, Bool.not_true, Bool.false_eq_true, Nat.zero_mul]
     cases base <;> simp [storeCells]
    ·rename_i hn
     injection h with h; injection h with h1 h2; subst h1 h2
     have hbn : n.toNat * i.bytes ≤ 140737488355328 := by
      have e1 : ((n.toNat * i.bytes : Nat) : Int) = n * i.bytes := by simp [Int.toNat_of_nonneg h0]
      omega
     obtain ⟨cap, hcap, hr⟩ := run_grow_make (P := P) (w := w) (ty := ty) (q := n.toNat) hsT hxT hi hz2 (by omega) hbn hb0 hsz
     rw [Int.toNat_of_nonneg h0] at hr
     have Sd : Sim kp cx m w.drew := S.heap rfl
     have hrel : VRelL cx w.drew (repl n.toNat (zv.cells.toList.map ofConst0)) (Builtin.zeroCells zv.cells n.toNat).toList := by
      have := made_rel (cx := cx) (w := w.drew) zv.cells n.toNat (by omega)
      exact this
     have hlen : (repl n.toNat (zv.cells.toList.map ofConst0)).length = n.toNat * i.size := by rw [repl_length, hzl]
     have hz1 : ∀ k, (Builtin.zeroCells zv.cells k).size = k * i.size := fun k => by simp [Builtin.zeroCells, hzs]
     obtain ⟨cx', g1, g2, g3, S', E'⟩ := sim_push_B Sd i.size (pureL (zv.cells.toList.map ofConst0)) (repl n.toNat (zv.cells.toList.map ofConst0)) (fun hp => repl_pure _ hp _) m.hi (Builtin.zeroCells zv.cells n.toNat ++ Builtin.zeroCells zv.cells (cap - n.toNat)) e
      (by rw [hlen, Array.size_append, hz1, hz1]; omega) (by
       rw [hlen, Array.toList_append, List.take_append_of_le_length (by simp [hz1]), List.take_of_length_le (by simp [hz1])]
       exact hrel)
     refine ⟨_, _, cx', hr, ?_, S', (ev_drew S).trans E' (Nat.le_refl _)⟩
     simp only [VRel]
     have hnb : cx.nb = m.B.length := S.nb
     refine ⟨by omega, by omega, _, cap, rfl, hcap, .inr rfl, fun _ => ⟨?_, .inr (by rw [g3]; rfl)⟩⟩
     rw [g3]
     simp only [Array.size_append, hz1, ← Nat.add_mul]
     rw [show n.toNat + (cap - n.toNat) = cap by omega]
     simp
   ·cases h
  ·cases h
 ·cases h
theorem fold_set : ∀ (vs : List Value) (k off : Nat) (arr : Array Value), off + k + vs.length ≤ arr.size →
  ((vs.zipIdx k).foldl (fun (cs : Array Value) (p : Value × Nat) => cs.setIfInBounds (off + p.2) p.1) arr).toList = arr.toList.take (off + k) ++ vs ++ arr.toList.drop (off + k + vs.length)
 | [], k, off, arr, _ => by simp
 | v :: vs, k, off, arr, h => by
  simp only [List.length_cons] at h
  simp only [List.zipIdx_cons, List.foldl_cons]
  rw [fold_set vs (k + 1) off _ (by simp; omega)]
  simp only [Array.toList_setIfInBounds, List.length_cons]
  rw [show off + (k + 1) = off + k + 1 from by omega]
  exact set_take_drop _ _ _ _ (by simp; omega)
def PRel (cx : Cx) (w : World) : List (Nat × V) → List (Nat × Value) → Prop
 | [], [] => True
 | (i, x) :: ps, (j, v) :: qs => (i = j ∧ VRel cx w x v) ∧ PRel cx w ps qs
 | _, _ => False
theorem fill_sound (place : Nat → Option (Nat × Nat)) : ∀ (ps : List (Nat × V)) (qs : List (Nat × Value)) (cells cs : List V) (arr : Array Value), PRel cx w ps qs → VRelL cx w cells arr.toList → fillV place cells ps = some cs → ∃ arr', Instr.fill place arr qs = some arr' ∧ VRelL cx w cs arr'.toList
 | [], [], cells, cs, arr, _, hr, h => by
  simp only [fillV] at h
  injection h with h
  subst h
  exact ⟨arr, rfl, hr⟩
 | [], _ :: _, _, _, _, h, _, _ => by simp [PRel] at h
 | _ :: _, [], _, _, _, h, _, _ => by simp [PRel] at h
 | (i, x) :: ps, (j, v) :: qs, cells, cs, arr, hp, hr, h => by
  simp only [PRel] at hp
  obtain ⟨⟨rfl, hx⟩, hp⟩ := hp
  simp only [fillV] at h
  cases hpl : place i with
  | none => simp [hpl] at h
  | some p =>
   obtain ⟨off, size⟩ := p
   simp only [hpl] at h
   split at h
   ·rename_i hcond
    have hcl := cellLike_cells hx hcond.2.2
    have hvl : v.cells.size = size := by
     have := hcl.length
     rw [hcond.1] at this
     simpa using this.symm
    have hal : arr.size = cells.length := by
     have := hr.length
     simpa using this.symm
    have hfold : (v.cells.zipIdx.foldl (fun cs (c, k) => cs.setIfInBounds (off + k) c) arr).toList = arr.toList.take off ++ v.cells.toList ++ arr.toList.drop (off + v.cells.toList.length) := by
     rw [← Array.foldl_toList, Array.toList_zipIdx]
     have := fold_set v.cells.toList 0 off arr (by simp; omega)
     simpa using this
    have hrel : VRelL cx w (splice cells off (cellsOf x)) (v.cells.zipIdx.foldl (fun cs (c, k) => cs.setIfInBounds (off + k) c) arr).toList := by
     rw [hfold]
     exact splice_rel off hr hcl
    obtain ⟨arr', h1, h2⟩ := fill_sound place ps qs _ cs _ hp hrel h
    refine ⟨arr', ?_, h2⟩
    unfold Instr.fill
    rw [hpl]
    simp only
    rw [if_neg (by simp [hvl]; omega)]
    exact h1
   ·cases h
theorem fillV_length (place : Nat → Option (Nat × Nat)) : ∀ (ps : List (Nat × V)) (cells cs : List V), fillV place cells ps = some cs → cs.length = cells.length
 | [], cells, cs, h => by
  simp only [fillV] at h
  injection h with h
  rw [h]
 | (i, x) :: ps, cells, cs, h => by
  simp only [fillV] at h
  cases hpl : place i with
  | none => simp [hpl] at h
  | some p =>
   obtain ⟨off, size⟩ := p
   simp only [hpl] at h
   split at h
   ·rename_i hcond
    rw [fillV_length place ps _ cs h, splice_length (by omega)]
   ·cases h
theorem zeroV_agg {t : TypeId} {z : List V} (h : zeroV P t = some (.agg z)) : ∃ i zv, P.info? t = some i ∧ i.zero = some (.agg zv) ∧ z = zv.toList.map ofConst0 := by
 unfold zeroV at h
 cases hi : P.info? t with
 | none => simp [hi] at h
 | some i =>
  cases hz : i.zero with
  | none => simp [hi, hz] at h
  | some zv =>
   simp only [hi, hz, Option.map_some] at h
   injection h with h
   cases zv with
   | agg cs =>
    simp only [ofConst, V.agg.injEq] at h
    exact ⟨i, cs, rfl, hz, h.symm⟩
   | _ => simp only [ofConst, ofConst0] at h <;> (try split at h) <;> cases h
theorem places_some : ∀ (fs : List Field), fs.all (fun f => (sizeV P f.type).isSome) = true → ∃ ps : List (Nat × Nat), fs.mapM (fun f => (P.info? f.type).map fun i => (f.offset, i.size)) = some ps ∧ ∀ (i : Nat) (f : Field), fs[i]? = some f → ps[i]? = (sizeV P f.type).map fun n => (f.offset, n)
 | [], _ => ⟨[], rfl, by simp⟩
 | f :: fs, h => by
  simp only [List.all_cons, Bool.and_eq_true] at h
  obtain ⟨ps, h1, h2⟩ := places_some fs h.2
  unfold sizeV at h
  cases hi : P.info? f.type with
  | none => simp [hi] at h
  | some i =>
   refine ⟨(f.offset, i.size) :: ps, by simp [hi, h1], fun k g hg => ?_⟩
   cases k with
   | zero =>
    simp at hg
    subst hg
    simp [sizeV, hi]
   | succ k => simpa using h2 k g (by simpa using hg)
theorem places_len : ∀ (fs : List Field) (ps : List (Nat × Nat)), fs.mapM (fun f => (P.info? f.type).map fun i => (f.offset, i.size)) = some ps → ps.length = fs.length
 | [], ps, h => by simp at h; subst h; rfl
 | f :: fs, ps, h => by
  simp only [List.mapM_cons, Option.bind_eq_bind, Option.pure_def] at h
  cases hi : P.info? f.type with
  | none => simp [hi] at h
  | some i =>
   cases hr : fs.mapM (fun f => (P.info? f.type).map fun i => (f.offset, i.size)) with
   | none => simp [hi, hr] at h
   | some rest =>
    simp [hi, hr] at h
    subst h
    simp [places_len fs rest hr]
theorem build_sound (S : Sim kp cx m w) {t : TypeId} {ps : List (Nat × V)} {qs : Array (Nat × Value)} {v : V} (hp : PRel cx w ps qs.toList) (h : buildV P t ps = some v) : OpRes kp P cx m w v m (Instr.build t qs) := by
 unfold buildV at h
 split at h
 ·rename_i z fields hz hd
  split at h
  ·rename_i hall
   obtain ⟨i, zv, hi, hzv, rfl⟩ := zeroV_agg hz
   obtain ⟨pl, hpl, hget⟩ := places_some (P := P) fields.toList hall
   cases hf : fillV (fieldPlaceV P fields) (zv.toList.map ofConst0) ps with
   | none => simp [hf] at h
   | some cs =>
    simp only [hf, Option.map_some] at h
    injection h with h
    subst h
    have hpe : fieldPlaceV P fields = fun k => pl.toArray[k]? := by
     funext k
     have e1 : pl.toArray[k]? = pl[k]? := by simp
     rw [e1]
     unfold fieldPlaceV
     cases hk : fields[k]? with
     | none =>
      have hl := places_len (P := P) _ _ hpl
      have hlen : fields.toList.length ≤ k := by simpa using hk
      rw [List.getElem?_eq_none (by omega)]
     | some f => rw [hget k f (by simpa using hk)]
    obtain ⟨arr', h1, h2⟩ := fill_sound (cx := cx) (w := w) (fieldPlaceV P fields) ps qs.toList _ cs zv hp (map_ofConst0_rel _) hf
    refine OpRes.same S (cv := .agg arr') (run_build w t qs arr' ?_) ⟨arr', rfl, h2⟩
    unfold Program.built
    simp only [hi, hd, hzv, hpl, Value.cells]
    rw [← hpe]
    exact h1
  ·cases h
 ·rename_i z n e hz hd
  obtain ⟨i, zv, hi, hzv, rfl⟩ := zeroV_agg hz
  split at h
  ·rename_i sz hsz
   cases hf : fillV (fun i => some (i * sz, sz)) (zv.toList.map ofConst0) ps with
   | none => simp [hf] at h
   | some cs =>
    simp only [hf, Option.map_some] at h
    injection h with h
    subst h
    unfold sizeV at hsz
    cases hie : P.info? e with
    | none => simp [hie] at hsz
    | some ie =>
     simp only [hie, Option.map_some] at hsz
     injection hsz with hsz
     obtain ⟨arr', h1, h2⟩ := fill_sound (cx := cx) (w := w) (fun i => some (i * sz, sz)) ps qs.toList _ cs zv hp (map_ofConst0_rel _) hf
     refine OpRes.same S (cv := .agg arr') (run_build w t qs arr' ?_) ⟨arr', rfl, h2⟩
     unfold Program.built
     simp only [hi, hd, hzv, hie, Value.cells, hsz]
     exact h1
  ·cases h
 ·cases h
theorem buildSlice_run {t : TypeId} {len sz : Nat} {ps : List (Nat × V)} {qs : Array (Nat × Value)} {cs : List V} (hp : PRel cx w ps qs.toList) (h : buildSliceCells P t len ps = some (sz, cs)) :
  ∃ e arr, VRelL cx w cs arr.toList ∧ arr.size = len * sz ∧ cs.all V.cellLike = true ∧ 0 < sz ∧ (Instr.buildSlice t len qs).run P w = .ok (.slice (some ⟨w.heap.size, 0, none⟩) len len) (w.alloc (.cells arr e)) := by
 unfold buildSliceCells at h
 split at h
 ·rename_i e hd
  split at h
  ·rename_i sz' z hsz hz
   split at h
   ·rename_i hcond
    obtain ⟨hzl, hpos, hlim⟩ := hcond
    obtain ⟨i, zv, hi, hzv, rfl, _⟩ := zeroCells_some hz
    cases hf : fillV (fun i => some (i * sz', sz')) (repl len (zv.cells.toList.map ofConst0)) ps with
    | none => simp [hf] at h
    | some cs' =>
     simp only [hf] at h
     split at h
     ·rename_i hall
      injection h with h
      injection h with h1 h2
      subst h1 h2
      have hzs : zv.cells.size = sz' := by simpa using hzl
      have hmade := made_rel (cx := cx) (w := w) zv.cells len (by omega)
      rw [hzs] at hmade
      obtain ⟨arr', h1, h2⟩ := fill_sound (cx := cx) (w := w) (fun i => some (i * sz', sz')) ps qs.toList _ cs' (madeCells zv.cells (len * sz')) hp hmade hf
      have hlen : cs'.length = len * sz' := by rw [fillV_length _ _ _ _ hf, repl_length, hzl]
      refine ⟨e, arr', h2, ?_, hall, hpos, ?_⟩
      ·have := h2.length
       rw [hlen] at this
       simpa using this.symm
      ·have hlim' : ¬ (len * sz' > 2 ^ 24) := by omega
       by_cases h0 : len * sz' = 0
       ·have hl0 : len = 0 := by
         rcases Nat.eq_zero_or_pos len with h | h
         ·exact h
         ·have := Nat.mul_pos h hpos; omega
        have hm0 : madeCells zv.cells (len * sz') = #[] := by rw [h0]; simp [madeCells, Array.range_zero']
        rw [hm0] at h1
        have hl2 : ¬ (0 > 2 ^ 24) := by omega
        simp only [Instr.buildSlice, Sem.run_bind, r_und hd, Result.andThen_ok, sizeV_some hsz, h0, if_neg hl2, if_true, Sem.run_pure]
        have hr0 : (Array.range 0).map (fun x => (#[] : Array Value)[x % (#[] : Array Value).size]!) = #[] := by simp [Array.range_zero']
        rw [hr0, h1]
        simp [newRow]
       ·simp only [Instr.buildSlice, Sem.run_bind, r_und hd, Result.andThen_ok, sizeV_some hsz, if_neg hlim', if_neg h0, r_zero hi hzv, Sem.run_pure]
        have h1' : Instr.fill (fun i => some (i * sz', sz')) ((Array.range (len * sz')).map (zv.cells[· % zv.cells.size]!)) qs.toList = some arr' := h1
        simp [h1', newRow]
     ·cases h
   ·cases h
  ·cases h
 ·cases h
end
end Go.Proofs.YtpdgbhjhodhkiaaGreatDoor.AI
namespace Go.Proofs.YtpdgbhjhodhkiaaGreatDoor.AI
open Go
variable {kp : Kp}
def StepRes (kp : Kp) (P : Program) (cx : Cx) (m : Mem) (w : World) (v : V) (m' : Mem) (s : Sem Next) : Prop :=
 ∃ nx cv w' cx', s.run P w = .ok nx w' ∧ (nx = .value cv ∨ nx = .skip ∧ cv = undef) ∧ VRel cx' w' v cv ∧ Sim kp cx' m' w' ∧ Ev m.A.length cx m w cx' m' w'
section
variable {P : Program} {cx : Cx} {m : Mem} {w : World}
theorem OpRes.step {v : V} {m' : Mem} {s : Sem Value} (h : OpRes kp P cx m w v m' s) : StepRes kp P cx m w v m' (do pure (.value (← s))) := by
 obtain ⟨cv, w', cx', h1, h2, h3, h4⟩ := h
 exact ⟨.value cv, cv, w', cx', by simp [h1], .inl rfl, h2, h3, h4⟩
theorem step_unit {m' : Mem} {s : Sem Unit} (h : ∃ w', s.run P w = .ok () w' ∧ Sim kp cx m' w' ∧ Ev m.A.length cx m w cx m' w') : StepRes kp P cx m w (.tup []) m' (do s; pure .skip) := by
 obtain ⟨w', h1, h2, h3⟩ := h
 exact ⟨.skip, undef, w', cx, by simp [h1], .inr ⟨rfl, rfl⟩, ⟨#[], rfl, by simp [VRelL]⟩, h2, h3⟩
theorem step_pure (S : Sim kp cx m w) {v : V} {cv : Value} {s : Sem Next} (h : s.run P w = .ok (.value cv) w) (hv : VRel cx w v cv) : StepRes kp P cx m w v m s :=
 ⟨.value cv, cv, w, cx, h, .inl rfl, hv, S, Ev.refl _ _ _ _ (Nat.le_refl _)⟩
theorem prel_map {ρv : Operand → V} {ρ : Operand → Value} (hρ : ∀ x, VRel cx w (ρv x) (ρ x)) (parts : Array (Nat × Operand)) : PRel cx w (parts.toList.map fun (i, x) => (i, ρv x)) (parts.map fun (i, x) => (i, ρ x)).toList := by
 rw [Array.toList_map]
 generalize parts.toList = l
 induction l with
 | nil => simp [PRel]
 | cons p l ih =>
  obtain ⟨i, x⟩ := p
  simp only [List.map_cons, PRel]
  exact ⟨⟨trivial, hρ x⟩, ih⟩
theorem orel_map {ρv : Operand → V} {ρ : Operand → Value} (hρ : ∀ x, VRel cx w (ρv x) (ρ x)) (o : Option Operand) : ORel cx w (o.map ρv) (o.map ρ) := by
 cases o with
 | none => trivial
 | some x => exact hρ x
theorem vrelL_map {ρv : Operand → V} {ρ : Operand → Value} (hρ : ∀ x, VRel cx w (ρv x) (ρ x)) : ∀ (l : List Operand), VRelL cx w (l.map ρv) (l.map ρ)
 | [] => by simp [VRelL]
 | x :: l => by simp only [List.map_cons, VRelL]; exact ⟨hρ x, vrelL_map hρ l⟩
theorem box_sound (S : Sim kp cx m w) {t : TypeId} {i : TypeInfo} {x : V} {cv : Value} (hi : P.info? t = some i) (hx : VRel cx w x cv) (hc : (cellsOf x).all V.cellLike = true) :
  OpRes kp P cx m w (.ptr m.A.length 0) { m with A := m.A ++ [cellsOf x], hi := max m.hi (maxAL (cellsOf x)) } (Instr.box t cv) := by
 obtain ⟨cx', h1, h2, h3⟩ := sim_push_A S (cellsOf x) cv.cells t (cellLike_cells hx hc)
 exact ⟨.pointer (some ⟨w.heap.size, 0, none⟩), w.alloc (.cells cv.cells t), cx', by simp [Instr.box, newVar, newRow], ⟨_, h1, rfl⟩, h2, h3⟩
theorem opV_sound (S : Sim kp cx m w) {ρv : Operand → V} {ρ : Operand → Value} (hρ : ∀ x, VRel cx w (ρv x) (ρ x)) {o : Oper} {slot : Nat} {v : V} {m' : Mem} (h : opV P m slot ρv o.op = some (v, m')) (ha : ∀ t, o.op ≠ .alloc t) : StepRes kp P cx m w v m' (execOp ρ o) := by
 obtain ⟨dst, op, type, pos, after, guard⟩ := o
 simp only at h ha
 cases op <;> simp only [opV] at h <;> try cases h
 case move x => exact step_pure S (by simp [execOp]) (hρ x)
 case assign x => exact step_pure S (by simp [execOp]) (hρ x)
 case pick c a b =>
  split at h
  ·rename_i t hc
   injection h with h; injection h with h1 h2; subst h1 h2
   have := hρ c
   rw [hc] at this
   simp only [VRel] at this
   cases t
   ·exact step_pure S (by simp [execOp, this, asBool]) (hρ b)
   ·exact step_pure S (by simp [execOp, this, asBool]) (hρ a)
  ·cases h
 case alloc t => exact absurd rfl (ha t)
 case box t x =>
  split at h
  ·rename_i i hi
   split at h
   ·rename_i hc
    injection h with h; injection h with h1 h2; subst h1 h2
    exact (box_sound S hi (hρ x) hc).step
   ·cases h
  ·cases h
 case build t parts =>
  cases hb : buildV P t (parts.toList.map fun (i, x) => (i, ρv x)) with
  | none => simp [hb] at h
  | some r =>
   simp only [hb, Option.map_some] at h
   injection h with h; injection h with h1 h2; subst h1 h2
   exact (build_sound S (prel_map hρ parts) hb).step
 case buildSlice t len parts =>
  split at h
  ·rename_i sz cs hb
   obtain ⟨e, arr, h1, h2, h3, h4, hr⟩ := buildSlice_run (cx := cx) (w := w) (prel_map hρ parts) hb
   split at h
   ·rename_i hp
    injection h with h; injection h with h5 h6; subst h5 h6
    refine OpRes.step ?_
    refine OpRes.grow S hr (by simp) (fun c hc => heap_alloc_lt w _ hc) rfl rfl rfl ?_
    simp only [VRel]
    have hn := heap_alloc_new w (.cells arr e)
    have hL : Later cx w cx (w.alloc (.cells arr e)) := ⟨Nat.le_refl _, fun _ _ => ⟨Nat.le_refl _, fun _ => rfl⟩, fun _ _ h => h, fun c hc h => ⟨heap_alloc_lt w _ hc, h⟩, by simp⟩
    refine ⟨_, _, rfl, Nat.le_refl _, fun _ => rfl, .inr ⟨w.heap.size, 0, rfl, by simp, S.fresh _ (Nat.le_refl _), RowRel.of_get fun i x hx => ?_⟩⟩
    have hpx := pureL_get i hp hx
    refine ⟨hpx, ?_⟩
    obtain ⟨cv, h7, h8⟩ := VRelL.get i h1 hx
    refine ⟨cv, ?_, VRel.onP hL.zero x cv hpx h8⟩
    rw [cell_block hn, Nat.zero_add, ← Array.getElem?_toList]
    exact h7
   ·rename_i hp
    injection h with h; injection h with h5 h6; subst h5 h6
    refine OpRes.step ?_
    have hlen : cs.length = arr.size := by simpa using h1.length
    obtain ⟨cx', g1, g2, g3, S', E'⟩ := sim_push_B S sz false cs (by simp) (max m.hi (maxAL cs)) arr e (by omega) (by rw [hlen, List.take_of_length_le (by simp)]; exact h1)
    refine ⟨_, _, cx', hr, ?_, S', E'⟩
    have hnb : cx.nb = m.B.length := S.nb
    simp only [VRel]
    refine ⟨by omega, by omega, _, _, rfl, Nat.le_refl _, .inr rfl, fun _ => ⟨?_, .inr (by rw [g3])⟩⟩
    rw [g3, h2]
    simp
  ·cases h
 case load t p =>
  cases hb : loadV P m t (ρv p) with
  | none => simp [hb] at h
  | some r =>
   simp only [hb, Option.map_some] at h
   injection h with h; injection h with h1 h2; subst h1 h2
   exact (load_sound S (hρ p) hb).step
 case store t p x =>
  cases hb : storeV P m t (ρv p) (ρv x) with
  | none => simp [hb] at h
  | some r =>
   simp only [hb, Option.map_some] at h
   injection h with h; injection h with h1 h2; subst h1 h2
   exact step_unit (store_sound S (hρ p) (hρ x) hb)
 case nilCheck x =>
  have hx := hρ x
  split at h <;> try cases h
  ·rename_i i o he
   rw [he] at hx
   have hx' := hx
   simp only [VRel] at hx'
   obtain ⟨c, _, hx'⟩ := hx'
   exact step_pure S (cv := ρ x) (by simp [execOp, hx']) hx
  ·rename_i b ver o he
   rw [he] at hx
   have hx' := hx
   simp only [VRel] at hx'
   obtain ⟨_, _, ⟨a, hx'⟩, _⟩ := hx'
   exact step_pure S (cv := ρ x) (by simp [execOp, hx']) hx
  ·rename_i c o he
   rw [he] at hx
   have hx' := hx
   simp only [VRel] at hx'
   obtain ⟨_, _, hx', _⟩ := hx'
   exact step_pure S (cv := ρ x) (by simp [execOp, hx']) hx
  ·rename_i f c he
   rw [he] at hx
   have hx' := hx
   simp only [VRel] at hx'
   obtain ⟨_, hx', _⟩ := hx'
   exact step_pure S (cv := ρ x) (by simp [execOp, hx']) hx
  ·rename_i l he
   rw [he] at hx
   have hx' := hx
   simp only [VRel] at hx'
   obtain ⟨_, _, hx'⟩ := hx'
   exact step_pure S (cv := ρ x) (by simp [execOp, hx']) hx
 case binOp op t x y yt =>
  cases hb : binV P op t (isConstO x || isConstO y) (ρv x) (ρv y) with
  | none => simp [hb] at h
  | some r =>
   simp only [hb, Option.map_some] at h
   injection h with h; injection h with h1 h2; subst h1 h2
   obtain ⟨cv, h1, h2⟩ := bin_sound (P := P) (hρ x) (hρ y) hb
   exact (OpRes.same S h1 h2).step
 case unOp op t x =>
  cases hb : unV op (ρv x) with
  | none => simp [hb] at h
  | some r =>
   simp only [hb, Option.map_some] at h
   injection h with h; injection h with h1 h2; subst h1 h2
   obtain ⟨cv, h1, h2⟩ := un_sound (P := P) (hρ x) hb
   exact (OpRes.same S h1 h2).step
 case convert s d x =>
  cases hb : convV P m s d (ρv x) with
  | none => simp [hb] at h
  | some r =>
   simp only [hb, Option.map_some] at h
   injection h with h; injection h with h1 h2; subst h1 h2
   exact (conv_sound S (hρ x) hb).step
 case makeInterface t x =>
  split at h
  ·cases h
  ·rename_i d hd hn
   injection h with h; injection h with h1 h2; subst h1 h2
   refine OpRes.step (OpRes.same S (cv := .iface t (ρ x)) ?_ ⟨_, rfl, hρ x⟩)
   simp only [Instr.makeInterface, Sem.run_bind, r_und hn, Result.andThen_ok]
   cases d <;> first | rfl | exact absurd hn (hd _)
  ·cases h
 case makeFunc fn first cap =>
  cases fn <;> simp only [opV] at h <;> try cases h
  case func f =>
   split at h
   ·rename_i hf
    injection h with h; injection h with h1 h2; subst h1 h2
    have hf0 : first = #[] := Array.eq_empty_of_size_eq_zero hf
    subst hf0
    refine OpRes.step (OpRes.same S (cv := .func (.func f) #[] (cap.map ρ)) (by simp [Instr.makeFunc]) ⟨_, rfl, ?_⟩)
    rw [Array.toList_map]
    exact vrelL_map hρ _
   ·cases h
 case makeMap t r =>
  cases r with
  | some _ => simp only [opV] at h; cases h
  | none =>
   simp only [opV] at h
   split at h
   ·rename_i kt et hd
    injection h with h; injection h with h1 h2; subst h1 h2
    obtain ⟨cx', h1, h2, h3⟩ := sim_push_O S (.map []) m.hi (.map #[] 0) (fun cx' h1 h2 L hfa hn => by
     simp only [BOk]
     refine ⟨_, _, _, h1, hn, by simp [EsRel], ?_⟩
     rw [h2, ownO, if_neg (by have := S.lb; omega)])
    exact OpRes.step ⟨.map (some w.heap.size), _, cx', by simp [Instr.makeMap], ⟨_, h1, rfl⟩, h2, h3⟩
   ·cases h
 case makeSlice t l c => exact (makeSlice_sound S (hρ l) (hρ c) h).step
 case slice t x lo hi mx =>
  cases hb : sliceV P m t (ρv x) (lo.map ρv) (hi.map ρv) (mx.map ρv) with
  | none => simp [hb] at h
  | some r =>
   simp only [hb, Option.map_some] at h
   injection h with h; injection h with h1 h2; subst h1 h2
   exact (slice_sound S (hρ x) (orel_map hρ lo) (orel_map hρ hi) (orel_map hρ mx) hb).step
 case fieldAddr s x f =>
  cases hb : fieldAddrV P s (ρv x) f with
  | none => simp [hb] at h
  | some r =>
   simp only [hb, Option.map_some] at h
   injection h with h; injection h with h1 h2; subst h1 h2
   exact (fieldAddr_sound S (hρ x) hb).step
 case field t x f =>
  cases hb : fieldV P t (ρv x) f with
  | none => simp [hb] at h
  | some r =>
   simp only [hb, Option.map_some] at h
   injection h with h; injection h with h1 h2; subst h1 h2
   exact (field_sound S (hρ x) hb).step
 case indexAddr t x ix =>
  cases hb : indexAddrV P t (ρv x) (ρv ix) with
  | none => simp [hb] at h
  | some r =>
   simp only [hb, Option.map_some] at h
   injection h with h; injection h with h1 h2; subst h1 h2
   exact (indexAddr_sound S (hρ x) (hρ ix) hb).step
 case index t x ix =>
  cases hb : indexV P t (ρv x) (ρv ix) with
  | none => simp [hb] at h
  | some r =>
   simp only [hb, Option.map_some] at h
   injection h with h; injection h with h1 h2; subst h1 h2
   exact (index_sound S (hρ x) (hρ ix) hb).step
 case lookup t x k ok =>
  cases hb : lookupV P m t (ρv x) (ρv k) ok with
  | none => simp [hb] at h
  | some r =>
   simp only [hb, Option.map_some] at h
   injection h with h; injection h with h1 h2; subst h1 h2
   exact (lookup_sound S (hρ x) (hρ k) hb).step
 case mapUpdate t x k y =>
  cases hb : updateV P m t (ρv x) (ρv k) (ρv y) with
  | none => simp [hb] at h
  | some r =>
   simp only [hb, Option.map_some] at h
   injection h with h; injection h with h1 h2; subst h1 h2
   exact step_unit (update_sound S (hρ x) (hρ k) (hρ y) hb)
 case insert t x k y =>
  cases hb : updateV P m t (ρv x) (ρv k) (ρv y) with
  | none => simp [hb] at h
  | some r =>
   simp only [hb, Option.map_some] at h
   injection h with h; injection h with h1 h2; subst h1 h2
   exact step_unit (update_sound S (hρ x) (hρ k) (hρ y) hb)
 case extract x i =>
  have hx := hρ x
  split at h
  ·rename_i vs he
   rw [he] at hx
   simp only [VRel] at hx
   obtain ⟨arr, hx, hr⟩ := hx
   cases hg : vs[i]? with
   | none => simp [hg] at h
   | some r =>
    simp only [hg, Option.map_some] at h
    injection h with h; injection h with h1 h2; subst h1 h2
    obtain ⟨cv, h1, h2⟩ := VRelL.get i hr hg
    have h1' : arr[i]? = some cv := by simpa using h1
    exact OpRes.step (OpRes.same S (cv := cv) (by rw [hx]; simp [Instr.extract, h1']) h2)
  ·cases h
end
end Go.Proofs.YtpdgbhjhodhkiaaGreatDoor.AI
namespace Go.Proofs.YtpdgbhjhodhkiaaGreatDoor.AI
open Go
variable {kp : Kp}
section
variable {P : Program} {m m' : Mem}
theorem HiOk.setA (H : HiOk m) {i : Nat} {cs : List V} {h : Nat} (hm : m.hi ≤ h) (hc : maxAL cs ≤ h) : HiOk { m with A := m.A.set i cs, hi := h } :=
 ⟨fun k xs hk => by
  simp only at hk
  rw [List.getElem?_set] at hk
  split at hk
  ·split at hk
   ·injection hk with hk; subst hk; exact hc
   ·cases hk
  ·exact Nat.le_trans (H.A k xs hk) hm, fun b x hb => Nat.le_trans (H.B b x hb) hm⟩
theorem HiOk.setB (H : HiOk m) {i : Nat} {y : BB} {h : Nat} (hm : m.hi ≤ h) (hc : y.hi ≤ h) : HiOk { m with B := m.B.set i y, hi := h } :=
 ⟨fun k xs hk => Nat.le_trans (H.A k xs hk) hm, fun b x hb => by
  simp only at hb
  rw [List.getElem?_set] at hb
  split at hb
  ·split at hb
   ·injection hb with hb; subst hb; exact hc
   ·cases hb
  ·exact Nat.le_trans (H.B b x hb) hm⟩
theorem HiOk.pushA (H : HiOk m) {cs : List V} {h : Nat} (hm : m.hi ≤ h) (hc : maxAL cs ≤ h) : HiOk { m with A := m.A ++ [cs], hi := h } :=
 ⟨fun k xs hk => by
  simp only at hk
  rw [List.getElem?_append] at hk
  split at hk
  ·exact Nat.le_trans (H.A k xs hk) hm
  ·have : xs ∈ [cs] := List.mem_of_getElem? hk
   simp at this
   subst this
   exact hc, fun b x hb => Nat.le_trans (H.B b x hb) hm⟩
theorem HiOk.pushB (H : HiOk m) {y : BB} {h : Nat} (hm : m.hi ≤ h) (hc : y.hi ≤ h) : HiOk { m with B := m.B ++ [y], hi := h } :=
 ⟨fun k xs hk => Nat.le_trans (H.A k xs hk) hm, fun b x hb => by
  simp only at hb
  rw [List.getElem?_append] at hb
  split at hb
  ·exact Nat.le_trans (H.B b x hb) hm
  ·have : x ∈ [y] := List.mem_of_getElem? hb
   simp at this
   subst this
   exact hc⟩
theorem HiOk.pushAs (H : HiOk m) {zs : List (List V)} (hz : ∀ z, z ∈ zs → maxAL z = 0) : HiOk { m with A := m.A ++ zs } :=
 ⟨fun k xs hk => by
  simp only at hk
  rw [List.getElem?_append] at hk
  split at hk
  ·exact H.A k xs hk
  ·have := hz xs (List.mem_of_getElem? hk)
   simp only
   omega, H.B⟩
theorem HiOk.takeA (H : HiOk m) (n : Nat) : HiOk { m with A := m.A.take n } :=
 ⟨fun k xs hk => by
  simp only at hk
  rw [List.getElem?_take] at hk
  split at hk
  ·exact H.A k xs hk
  ·exact absurd hk (by simp), H.B⟩
theorem HiOk.empty : HiOk Mem.empty := ⟨fun _ _ h => by simp [Mem.empty] at h, fun _ _ h => by simp [Mem.empty] at h⟩
theorem maxAL_modify {es : List (V × V)} {k v : V} (j : Nat) : maxAL ((es.modify j fun _ => (k, v)).map (·.2)) ≤ max (maxAL (es.map (·.2))) (V.maxA v) := by
 induction es generalizing j with
 | nil => simp [maxAL]
 | cons e es ih =>
  cases j with
  | zero => simp only [List.modify_zero_cons, List.map_cons, maxAL]; omega
  | succ j =>
   have := ih j
   simp only [List.modify_succ_cons, List.map_cons, maxAL]
   omega
theorem maxAL_erase {es : List (V × V)} (j : Nat) : maxAL ((es.eraseIdx j).map (·.2)) ≤ maxAL (es.map (·.2)) := by
 induction es generalizing j with
 | nil => simp
 | cons e es ih =>
  cases j with
  | zero => simp only [List.eraseIdx_cons_zero, List.map_cons, maxAL]; omega
  | succ j =>
   have := ih j
   simp only [List.eraseIdx_cons_succ, List.map_cons, maxAL]
   omega
theorem wr_hi (H : HiOk m) {p : V} {cs : List V} (h : wrCells m p cs = some m') : HiOk m' := by
 cases p <;> simp only [wrCells] at h <;> try cases h
 case ptr i off =>
  split at h
  ·rename_i old hA
   split at h
   ·injection h with h
    subst h
    refine H.setA (by omega) ?_
    have h1 := maxAL_splice_le (old := old) (cs := cs) off
    have h2 := H.A i old hA
    omega
   ·cases h
  ·cases h
 case bptr b ver off =>
  split at h
  ·rename_i sz ver' pu old hB
   split at h
   ·injection h with h
    subst h
    refine H.setB (by omega) ?_
    have h1 := maxAL_splice_le (old := old) (cs := cs) off
    have h2 := H.B b _ hB
    simp only [BB.hi] at h2 ⊢
    omega
   ·cases h
  ·cases h
theorem update_hi (H : HiOk m) {t : TypeId} {x k v : V} (h : updateV P m t x k v = some m') : HiOk m' := by
 unfold updateV at h
 split at h
 ·split at h
  ·rename_i d es hd hB
   split at h
   ·split at h
    ·injection h with h
     subst h
     refine H.setB (by omega) ?_
     have h2 := H.B _ _ hB
     simp only [BB.hi] at h2 ⊢
     rename_i i _ _
     have := maxAL_modify (es := es) (k := k) (v := v) i
     omega
    ·injection h with h
     subst h
     refine H.setB (by omega) ?_
     have h2 := H.B _ _ hB
     simp only [BB.hi] at h2 ⊢
     rw [List.map_append, maxAL_append]
     simp only [List.map_cons, List.map_nil, maxAL]
     omega
    ·cases h
   ·cases h
  ·cases h
 ·cases h
theorem delete_hi (H : HiOk m) {t : TypeId} {x k : V} (h : deleteV P m t x k = some m') : HiOk m' := by
 unfold deleteV at h
 split at h
 ·split at h
  ·rename_i d es hd hB
   split at h
   ·split at h
    ·injection h with h
     subst h
     refine H.setB (Nat.le_refl _) ?_
     have h2 := H.B _ _ hB
     simp only [BB.hi] at h2 ⊢
     rename_i i _ _
     have := maxAL_erase (es := es) i
     omega
    ·injection h with h
     subst h
     exact H
    ·cases h
   ·cases h
  ·cases h
 ·cases h
theorem append_make_hi (H : HiOk m) {t : TypeId} {s x v : V} (h : appendMakeV P m t s x = some (v, m')) : HiOk m' := by
 unfold appendMakeV at h
 split at h
 ·split at h
  ·rename_i i z hi hz
   obtain ⟨i2, zv, hi2, hz2, rfl, _⟩ := zeroCells_some hz
   split at h
   ·split at h
    ·injection h with h; injection h with h1 h2; subst h1 h2
     exact H
    ·injection h with h; injection h with h1 h2; subst h1 h2
     refine H.pushB (Nat.le_refl _) ?_
     simp only [BB.hi]
     have := repl_maxA (zv.cells.toList.map ofConst0) (Int.toNat (by assumption))
     have h0 := map_ofConst0_maxA zv.cells.toList
     omega
   ·cases h
  ·cases h
 ·cases h
theorem append_hi (H : HiOk m) {t : TypeId} {s x v : V} (h : appendV P m t s x = some (v, m')) : HiOk m' := by
 unfold appendV at h
 split at h
 ·split at h
  ·cases h
  ·split at h
   ·rename_i n new z hcon hz
    split at h
    ·cases h
    ·split at h
     ·split at h <;> first | (injection h with h; injection h with h1 h2; subst h2; exact H) | cases h
     ·split at h
      ·split at h
       ·injection h with h; injection h with h1 h2; subst h2
        exact H.pushB (by omega) (by simp only [BB.hi]; omega)
       ·cases h
      ·rename_i cells k
       split at h
       ·rename_i hcond
        injection h with h; injection h with h1 h2; subst h2
        refine H.pushB (by omega) ?_
        simp only [BB.hi, maxAL_append]
        omega
       ·cases h
      ·split at h
       ·rename_i sz ver' pu cs hB
        split at h
        ·have h2 := H.B _ _ hB
         simp only [BB.hi] at h2
         split at h
         ·injection h with h; injection h with h3 h4; subst h4
          refine H.setB (by omega) ?_
          simp only [BB.hi]
          exact Nat.le_trans (maxAL_splice_le _) (by omega)
         ·split at h
          ·injection h with h; injection h with h3 h4; subst h4
           refine H.setB (by omega) ?_
           simp only [BB.hi, maxAL_append]
           omega
          ·cases h
        ·cases h
       ·cases h
      ·cases h
   ·cases h
 ·cases h
theorem makeSlice_hi (H : HiOk m) {t : TypeId} {l c v : V} (h : makeSliceV P m t l c = some (v, m')) : HiOk m' := by
 unfold makeSliceV at h
 split at h
 ·split at h
  ·rename_i i z hi hz
   split at h
   ·injection h with h; injection h with h1 h2; subst h2
    obtain ⟨i2, zv, _, _, rfl, _⟩ := zeroCells_some hz
    refine H.pushB (Nat.le_refl _) ?_
    simp only [BB.hi]
    have := repl_maxA (zv.cells.toList.map ofConst0)
    exact Nat.le_trans (this _) (by rw [map_ofConst0_maxA]; omega)
   ·cases h
  ·cases h
 ·cases h
theorem opV_hi (H : HiOk m) {ρ : Operand → V} {slot : Nat} {o : Op} {v : V} (h : opV P m slot ρ o = some (v, m')) : HiOk m' := by
 have same : ∀ {a : Option V}, a.map (·, m) = some (v, m') → HiOk m' := by
  intro a ha
  cases a with
  | none => cases ha
  | some a => simp only [Option.map_some, Option.some.injEq, Prod.mk.injEq] at ha; obtain ⟨_, rfl⟩ := ha; exact H
 have unit : ∀ {a : Option Mem} (_ : ∀ x, a = some x → HiOk x), a.map (V.tup [], ·) = some (v, m') → HiOk m' := by
  intro a hx ha
  cases a with
  | none => cases ha
  | some a => simp only [Option.map_some, Option.some.injEq, Prod.mk.injEq] at ha; obtain ⟨_, rfl⟩ := ha; exact hx _ rfl
 cases o <;> simp only [opV] at h <;> try cases h
 case move => exact H
 case assign => exact H
 case alloc => exact H
 case pick => split at h <;> first | (injection h with h; injection h with h1 h2; subst h2; exact H) | cases h
 case box t x =>
  split at h
  ·split at h
   ·injection h with h; injection h with h1 h2; subst h2
    exact H.pushA (by omega) (by omega)
   ·cases h
  ·cases h
 case build => exact same h
 case buildSlice =>
  split at h
  ·split at h
   ·injection h with h; injection h with h1 h2; subst h2
    exact H
   ·injection h with h; injection h with h1 h2; subst h2
    exact H.pushB (by omega) (by simp only [BB.hi]; omega)
  ·cases h
 case load => exact same h
 case store t p x =>
  refine unit (fun y hy => ?_) h
  unfold storeV at hy
  split at hy
  ·split at hy
   ·exact wr_hi H hy
   ·cases hy
  ·cases hy
 case nilCheck => split at h <;> first | (injection h with h; injection h with h1 h2; subst h2; exact H) | cases h
 case binOp => exact same h
 case unOp => exact same h
 case convert => exact same h
 case makeInterface => split at h <;> first | (injection h with h; injection h with h1 h2; subst h2; exact H) | cases h
 case makeFunc fn first cap =>
  cases fn <;> simp only [opV] at h <;> try cases h
  split at h
  ·injection h with h; injection h with h1 h2; subst h2; exact H
  ·cases h
 case makeMap t r =>
  cases r with
  | some _ => simp only [opV] at h; cases h
  | none =>
   simp only [opV] at h
   split at h
   ·injection h with h; injection h with h1 h2; subst h2
    exact H.pushB (Nat.le_refl _) (by simp [BB.hi, maxAL])
   ·cases h
 case makeSlice => exact makeSlice_hi H h
 case slice => exact same h
 case fieldAddr => exact same h
 case field => exact same h
 case indexAddr => exact same h
 case index => exact same h
 case lookup => exact same h
 case mapUpdate => exact unit (fun y hy => update_hi H hy) h
 case insert => exact unit (fun y hy => update_hi H hy) h
 case extract =>
  split at h
  ·exact same h
  ·cases h
variable {cx : Cx} {w : World}
theorem len_sound (S : Sim kp cx m w) {t : TypeId} {x v : V} {cv : Value} {ts : Array TypeId} (ht : ts[0]? = some t) (args : Array Value) (ha : args[0]? = some cv) (ty : TypeId) (hx : VRel cx w x cv) (h : lenV P m t x = some v) : OpRes kp P cx m w v m (Builtin.len_ ts ty args) := by
 unfold lenV at h
 split at h <;> try cases h
 ·rename_i s hd
  simp only [VRel] at hx
  subst hx
  exact OpRes.same S (cv := .int .i64 s.size) (by simp [Builtin.len_, ht, ha, r_und hd, goInt]) (by simp [VRel])
 ·rename_i n e hd
  exact OpRes.same S (cv := .int .i64 n) (by
   simp only [Builtin.len_, ht, ha, Sem.run_bind, r_und hd, Result.andThen_ok]
   rfl) (by simp [VRel])
 ·rename_i e hd
  simp only [VRel] at hx
  subst hx
  exact OpRes.same S (cv := .int .i64 0) (by simp [Builtin.len_, ht, ha, r_und hd, goInt]) (by simp [VRel])
 ·rename_i e cells n full hd
  simp only [VRel] at hx
  obtain ⟨a, cap, rfl, _⟩ := hx
  exact OpRes.same S (cv := .int .i64 n) (by simp [Builtin.len_, ht, ha, r_und hd, goInt]) (by simp [VRel])
 ·rename_i e b ver off n hd
  simp only [VRel] at hx
  obtain ⟨_, _, a, cap, rfl, _⟩ := hx
  exact OpRes.same S (cv := .int .i64 n) (by simp [Builtin.len_, ht, ha, r_und hd, goInt]) (by simp [VRel])
 ·rename_i k e hd
  simp only [VRel] at hx
  subst hx
  exact OpRes.same S (cv := .int .i64 0) (by simp [Builtin.len_, ht, ha, r_und hd, goInt]) (by simp [VRel])
 ·rename_i k e b hd
  split at h <;> try cases h
  rename_i es hB
  have hb := S.B b _ hB
  simp only [BOk] at hb
  obtain ⟨c, fs, clk, h1, h2, h3, _⟩ := hb
  simp only [VRel] at hx
  obtain ⟨c', h4, rfl⟩ := hx
  rw [h1] at h4
  injection h4 with h4
  subst h4
  have hl := h3.length
  exact OpRes.same S (cv := .int .i64 es.length) (by simp [Builtin.len_, ht, ha, r_und hd, goInt, MapKept.run_getObj_map h2, hl]) (by simp [VRel])
theorem cap_sound (S : Sim kp cx m w) {t : TypeId} {x v : V} {cv : Value} {ts : Array TypeId} (ht : ts[0]? = some t) (args : Array Value) (ha : args[0]? = some cv) (ty : TypeId) (hx : VRel cx w x cv) (h : capV P t x = some v) : OpRes kp P cx m w v m (Builtin.cap_ ts ty args) := by
 unfold capV at h
 split at h <;> try cases h
 ·rename_i e hd
  simp only [VRel] at hx
  subst hx
  exact OpRes.same S (cv := .int .i64 0) (by simp [Builtin.cap_, ht, ha, r_und hd, goInt]) (by simp [VRel])
 ·rename_i e cells n hd
  simp only [VRel] at hx
  obtain ⟨a, cap, rfl, _, hf, _⟩ := hx
  have := hf trivial
  subst this
  exact OpRes.same S (cv := .int .i64 cap) (by simp [Builtin.cap_, ht, ha, r_und hd, goInt]) (by simp [VRel])
theorem fold_sound {f : V → V → Option V} {g : Value → Value → Sem Value} (hf : ∀ x y v cx' cy, VRel cx w x cx' → VRel cx w y cy → f x y = some v → ∃ cv, (g cx' cy).run P w = .ok cv w ∧ VRel cx w v cv) :
  ∀ (l : List V) (cl : List Value) (x v : V) (c : Value), VRel cx w x c → VRelL cx w l cl → foldV f x l = some v → ∃ cv, (cl.foldlM g c).run P w = .ok cv w ∧ VRel cx w v cv
 | [], [], x, v, c, hx, _, h => by
  simp only [foldV] at h
  injection h with h
  subst h
  exact ⟨c, by simp, hx⟩
 | [], _ :: _, _, _, _, _, h, _ => by simp [VRelL] at h
 | _ :: _, [], _, _, _, _, h, _ => by simp [VRelL] at h
 | y :: l, d :: cl, x, v, c, hx, hl, h => by
  simp only [VRelL] at hl
  simp only [foldV] at h
  cases hq : f x y with
  | none => simp [hq] at h
  | some z =>
   simp only [hq, Option.bind_some] at h
   obtain ⟨cz, h1, h2⟩ := hf x y z c d hx hl.1 hq
   obtain ⟨cv, h3, h4⟩ := fold_sound hf l cl z v cz h2 hl.2 h
   exact ⟨cv, by simp [h1, h3], h4⟩
theorem max2_sound (x y v : V) (cx' cy : Value) (hx : VRel cx w x cx') (hy : VRel cx w y cy) (h : maxV x y = some v) : ∃ cv, (Builtin.max2 cx' cy).run P w = .ok cv w ∧ VRel cx w v cv := by
 unfold maxV at h
 split at h <;> try cases h
 simp only [VRel] at hx hy
 subst hx hy
 exact ⟨_, by simp [Builtin.max2]; rfl, by simp [VRel]⟩
theorem min2_sound (x y v : V) (cx' cy : Value) (hx : VRel cx w x cx') (hy : VRel cx w y cy) (h : minV x y = some v) : ∃ cv, (Builtin.min2 cx' cy).run P w = .ok cv w ∧ VRel cx w v cv := by
 unfold minV at h
 split at h <;> try cases h
 simp only [VRel] at hx hy
 subst hx hy
 exact ⟨_, by simp [Builtin.min2]; rfl, by simp [VRel]⟩
theorem builtin_hi (H : HiOk m) {b : Builtin} {ts : List TypeId} {args : List V} {v : V} (h : builtinV P m b ts args = some (v, m')) : HiOk m' := by
 have same : ∀ {a : Option V}, a.map (·, m) = some (v, m') → HiOk m' := by
  intro a ha
  cases a with
  | none => cases ha
  | some a => simp only [Option.map_some, Option.some.injEq, Prod.mk.injEq] at ha; obtain ⟨_, rfl⟩ := ha; exact H
 unfold builtinV at h
 split at h
 ·split at h
  ·exact append_hi H h
  ·exact append_hi H h
  ·exact append_make_hi H h
  ·cases h
 ·exact same h
 ·exact same h
 ·exact same h
 ·exact same h
 ·rename_i t r x k
  cases hd : deleteV P m t x k with
  | none => simp [hd] at h
  | some y =>
   simp only [hd, Option.map_some, Option.some.injEq, Prod.mk.injEq] at h
   obtain ⟨_, rfl⟩ := h
   exact delete_hi H hd
 ·cases h
theorem builtin_sound (S : Sim kp cx m w) {b : Builtin} {ts : Array TypeId} {args : List V} {cargs : List Value} {v : V} (ha : VRelL cx w args cargs) (ty : TypeId) (cs : Array Bool) (h : builtinV P m b ts.toList args = some (v, m')) :
  StepRes kp P cx m w v m' (builtin b ts ty cs cargs.toArray) := by
 unfold builtinV at h
 split at h
 ·rename_i t u s x hts
  match cargs, ha with
  | [c1, c2], ha =>
   simp only [VRelL] at ha
   have hts' : ts = #[t, u] := by
    apply Array.ext'
    simpa using hts
   subst hts'
   split at h
   ·rename_i e2 hd
    exact (append_sound S ha.1 ha.2.1 (.inl ⟨e2, hd⟩) h).step
   ·rename_i hd
    exact (append_sound S ha.1 ha.2.1 (.inr hd) h).step
   ·rename_i k2 hd
    exact (append_make_sound S ha.1 ha.2.1 hd h).step
   ·cases h
  | [], ha => simp [VRelL] at ha
  | [_], ha => simp [VRelL] at ha
  | _ :: _ :: _ :: _, ha => simp [VRelL] at ha
 ·rename_i t ts' x xs hts
  cases cargs with
  | nil => simp [VRelL] at ha
  | cons c1 cargs =>
   simp only [VRelL] at ha
   have ht : ts[0]? = some t := by rw [← Array.getElem?_toList, hts]; rfl
   cases hq : lenV P m t x with
   | none => simp [hq] at h
   | some r =>
    simp only [hq, Option.map_some, Option.some.injEq, Prod.mk.injEq] at h
    obtain ⟨rfl, rfl⟩ := h
    exact (len_sound S ht _ (by simp) ty ha.1 hq).step
 ·rename_i t ts' x xs hts
  cases cargs with
  | nil => simp [VRelL] at ha
  | cons c1 cargs =>
   simp only [VRelL] at ha
   have ht : ts[0]? = some t := by rw [← Array.getElem?_toList, hts]; rfl
   cases hq : capV P t x with
   | none => simp [hq] at h
   | some r =>
    simp only [hq, Option.map_some, Option.some.injEq, Prod.mk.injEq] at h
    obtain ⟨rfl, rfl⟩ := h
    exact (cap_sound S ht _ (by simp) ty ha.1 hq).step
 ·rename_i x xs
  cases cargs with
  | nil => simp [VRelL] at ha
  | cons c1 cargs =>
   simp only [VRelL] at ha
   cases hq : foldV maxV x xs with
   | none => simp [hq] at h
   | some r =>
    simp only [hq, Option.map_some, Option.some.injEq, Prod.mk.injEq] at h
    obtain ⟨rfl, rfl⟩ := h
    obtain ⟨cv, h1, h2⟩ := fold_sound (P := P) (fun x y v a b => max2_sound x y v a b) xs cargs x r c1 ha.1 ha.2 hq
    exact OpRes.step (OpRes.same S (cv := cv) (by simpa [Builtin.max_] using h1) h2)
 ·rename_i x xs
  cases cargs with
  | nil => simp [VRelL] at ha
  | cons c1 cargs =>
   simp only [VRelL] at ha
   cases hq : foldV minV x xs with
   | none => simp [hq] at h
   | some r =>
    simp only [hq, Option.map_some, Option.some.injEq, Prod.mk.injEq] at h
    obtain ⟨rfl, rfl⟩ := h
    obtain ⟨cv, h1, h2⟩ := fold_sound (P := P) (fun x y v a b => min2_sound x y v a b) xs cargs x r c1 ha.1 ha.2 hq
    exact OpRes.step (OpRes.same S (cv := cv) (by simpa [Builtin.min_] using h1) h2)
 ·rename_i t ts' x k hts
  cases hd : deleteV P m t x k with
  | none => simp [hd] at h
  | some y =>
   simp only [hd, Option.map_some, Option.some.injEq, Prod.mk.injEq] at h
   obtain ⟨rfl, rfl⟩ := h
   match cargs, ha with
   | [c1, c2], ha =>
    simp only [VRelL] at ha
    have ht : ts[0]? = some t := by rw [← Array.getElem?_toList, hts]; rfl
    obtain ⟨w', h1, h2, h3⟩ := delete_sound S ts ht ty ha.1 ha.2.1 hd
    refine ⟨.value (.tuple #[]), .tuple #[], w', cx, ?_, .inl rfl, ⟨#[], rfl, by simp [VRelL]⟩, h2, h3⟩
    simp only [builtin, List.toArray, Sem.run_bind]
    rw [h1]
    rfl
   | [], ha => simp [VRelL] at ha
   | [_], ha => simp [VRelL] at ha
   | _ :: _ :: _ :: _, ha => simp [VRelL] at ha
 ·cases h
end
end Go.Proofs.YtpdgbhjhodhkiaaGreatDoor.AI
namespace Go.Proofs.YtpdgbhjhodhkiaaGreatDoor.AI
open Go
variable {kp : Kp}
def Enters (P : Program) (f : FuncId) : Prop := ∀ (args : Array Value) (w : World), (callFunc f args).run P w = .ok (.enter f args) w
def RetPost (kp : Kp) (n : Nat) (cx : Cx) (m : Mem) (w : World) (v : V) (m' : Mem) (e : Ending) (w' : World) : Prop :=
 ∃ cv cx', e = .returned cv ∧ VRel cx' w' v cv ∧ Sim kp cx' m' w' ∧ HiOk m' ∧ Ev n cx m w cx' m' w'
structure CallOk (kp : Kp) (cfg : Cfg) (call : Call) : Prop where
 fn : ∀ f args m v m', call (.fn f) args m = some (v, m') → Enters cfg.P f ∧ ∀ cx w (cargs : Array Value), Sim kp cx m w → HiOk m → VRelL cx w args cargs.toList →
  CallsIn Fence.wide 0 cfg.P f cargs w (RetPost kp m.A.length cx m w v m')
 yld : ∀ l args m v m', call (.yld l) args m = some (v, m') → ∀ cx w (cargs : Array Value), Sim kp cx m w → HiOk m → VRelL cx w args cargs.toList → ∀ c, cx.fo l = some c →
  ∃ fn tmps assign body, (Instr.yield c cargs).run cfg.P w = .ok (.round c fn tmps assign body) w ∧ RoundIn Fence.wide 0 cfg.P c fn tmps assign body w (RetPost kp m.A.length cx m w v m')
def ExtOk (kp : Kp) (cfg : Cfg) : Prop := ∀ f args v, cfg.ext f args = some v → args.all V.pure = true → V.pure v = true → Enters cfg.P f ∧ ∀ cx w (cargs : Array Value), (∀ c, w.heap.size ≤ c → cx.own c = .non) → (∀ c o, kp c = some o → w.heap[c]? = some o) → VRelL cx w args cargs.toList →
 CallsIn Fence.wide 0 cfg.P f cargs w fun e w' => ∃ cv, e = .returned cv ∧ VRel cx w' v cv ∧ w.heap.size ≤ w'.heap.size ∧ (∀ c, c < w.heap.size → w'.heap[c]? = w.heap[c]?) ∧ w'.os = w.os ∧ w'.tape = w.tape ∧ w'.output = w.output
section
variable {cfg : Cfg} {cx : Cx} {m : Mem} {w : World}
theorem shut_pure {lo : Nat} {v v' : V} (h : (if V.pure v = true then some v else none) = some v') : v' = v ∧ V.pure v = true := by
 split at h
 ·rename_i hp
  injection h with h
  exact ⟨h.symm, hp⟩
 ·cases h
mutual
theorem shut_relU (U : Nat → Prop) (S : Sim kp cx m w) {lo : Nat} (hlo : m.lb ≤ lo) {cxN : Cx} (hN : ∀ blk, blk < w.heap.size → (cx.own blk = .non ∨ ∃ b, U b ∧ cx.own blk = .b b) → cxN.own blk = .non) : ∀ (v : V) (v' : V) (cv : Value), (∀ b ∈ V.used v, U b) → VRel cx w v cv → shut m.B lo v = some v' → VRel cxN w v' cv ∧ V.pure v' = true
 | .sl b ver off len, v', cv, hu, h, hs => by
  simp only [shut] at hs
  split at hs
  ·rename_i sz ver' fz cs hB
   split at hs
   ·rename_i hc
    cases hsub : sub cs off (len * sz) with
    | none => simp [hsub] at hs
    | some l =>
     simp only [hsub, Option.map_some] at hs
     injection hs with hs
     subst hs
     obtain ⟨g1, rfl, g3⟩ := sub_some hsub
     have hb := S.B b _ hB
     simp only [BOk] at hb
     obtain ⟨k1, k2, k3, k4, arr, t, k5, k6, k7, k8⟩ := hb
     simp only [VRel] at h
     obtain ⟨h1, h2, a, cap, rfl, h4, h45, h5⟩ := h
     obtain ⟨h6, h7⟩ := h5 (by omega)
     refine ⟨?_, rfl⟩
     simp only [VRel]
     refine ⟨a, cap, rfl, h4, by simp, ?_⟩
     rcases h7 with h7 | rfl
     ·left
      have h0 : len = 0 := by omega
      simp [h0]
     ·right
      have hlt := lt_of_heap k5
      refine ⟨_, off, rfl, hlt, hN _ hlt ?_, RowRel.of_get fun i x hx => ?_⟩
      ·rw [k3, ownB]
       split
       ·exact .inl rfl
       ·rw [if_neg (by omega)]
        exact .inr ⟨b, hu b (by simp [V.used]), rfl⟩
      ·rw [List.getElem?_take] at hx
       split at hx
       ·rw [List.getElem?_drop] at hx
        have hp := pureL_get _ (k4 trivial) hx
        refine ⟨hp, ?_⟩
        obtain ⟨cv, h8, h9⟩ := VRelL.get _ k8 hx
        refine ⟨cv, ?_, VRel.onP ⟨fun c hc ho => ⟨rfl, hN c hc (.inl ho)⟩, Nat.le_refl _⟩ x cv hp h9⟩
        rw [cell_block k5, ← Array.getElem?_toList]
        rw [List.getElem?_take] at h8
        split at h8
        ·exact h8
        ·cases h8
       ·cases hx
   ·cases hs
  ·cases hs
 | .agg cs, v', cv, hu, h, hs => by
  simp only [shut] at hs
  cases hq : shutL m.B lo cs with
  | none => simp [hq] at hs
  | some l =>
   simp only [hq, Option.map_some] at hs
   injection hs with hs
   subst hs
   simp only [VRel] at h
   obtain ⟨arr, rfl, h⟩ := h
   obtain ⟨h1, h2⟩ := shutL_relU U S hlo hN cs l arr.toList (fun b hb => hu b (by simpa only [V.used] using hb)) h hq
   exact ⟨⟨arr, rfl, h1⟩, h2⟩
 | .tup cs, v', cv, hu, h, hs => by
  simp only [shut] at hs
  cases hq : shutL m.B lo cs with
  | none => simp [hq] at hs
  | some l =>
   simp only [hq, Option.map_some] at hs
   injection hs with hs
   subst hs
   simp only [VRel] at h
   obtain ⟨arr, rfl, h⟩ := h
   obtain ⟨h1, h2⟩ := shutL_relU U S hlo hN cs l arr.toList (fun b hb => hu b (by simpa only [V.used] using hb)) h hq
   exact ⟨⟨arr, rfl, h1⟩, h2⟩
 | .undef, v', cv, hu, h, hs | .bool _, v', cv, hu, h, hs | .int _ _, v', cv, hu, h, hs | .str _, v', cv, hu, h, hs | .nilp, v', cv, hu, h, hs | .ptr _ _, v', cv, hu, h, hs | .bptr _ _ _, v', cv, hu, h, hs | .rp _ _, v', cv, hu, h, hs
 | .nils, v', cv, hu, h, hs | .ro _ _ _, v', cv, hu, h, hs | .nilm, v', cv, hu, h, hs | .map _, v', cv, hu, h, hs | .nilf, v', cv, hu, h, hs | .fn _ _, v', cv, hu, h, hs | .yld _, v', cv, hu, h, hs | .nili, v', cv, hu, h, hs | .ifc _ _, v', cv, hu, h, hs => by
  simp only [shut] at hs
  obtain ⟨rfl, hp⟩ := shut_pure (lo := lo) hs
  exact ⟨VRel.onP ⟨fun c hc ho => ⟨rfl, hN c hc (.inl ho)⟩, Nat.le_refl _⟩ _ cv hp h, hp⟩
theorem shutL_relU (U : Nat → Prop) (S : Sim kp cx m w) {lo : Nat} (hlo : m.lb ≤ lo) {cxN : Cx} (hN : ∀ blk, blk < w.heap.size → (cx.own blk = .non ∨ ∃ b, U b ∧ cx.own blk = .b b) → cxN.own blk = .non) : ∀ (vs : List V) (vs' : List V) (cvs : List Value), (∀ b ∈ usedL vs, U b) → VRelL cx w vs cvs → shutL m.B lo vs = some vs' → VRelL cxN w vs' cvs ∧ pureL vs' = true
 | [], vs', cvs, hu, h, hs => by
  simp only [shutL] at hs
  injection hs with hs
  subst hs
  cases cvs with
  | nil => exact ⟨by simp [VRelL], rfl⟩
  | cons _ _ => simp [VRelL] at h
 | v :: vs, vs', cvs, hu, h, hs => by
  cases cvs with
  | nil => simp [VRelL] at h
  | cons c cvs =>
   simp only [VRelL] at h
   simp only [shutL] at hs
   cases h1 : shut m.B lo v with
   | none => simp [h1] at hs
   | some x =>
    cases h2 : shutL m.B lo vs with
    | none => simp [h1, h2] at hs
    | some xs =>
     simp only [h1, h2] at hs
     injection hs with hs
     subst hs
     obtain ⟨g1, g2⟩ := shut_relU U S hlo hN v x c (fun b hb => hu b (by simp only [usedL, List.mem_append]; exact .inl hb)) h.1 h1
     obtain ⟨g3, g4⟩ := shutL_relU U S hlo hN vs xs cvs (fun b hb => hu b (by simp only [usedL, List.mem_append]; exact .inr hb)) h.2 h2
     exact ⟨⟨g1, g3⟩, by simp [pureL, g2, g4]⟩
end
theorem shut_rel (S : Sim kp cx m w) {lo : Nat} (hlo : m.lb ≤ lo) {cxN : Cx} (hN : ∀ blk, blk < w.heap.size → (cx.own blk = .non ∨ ∃ b, cx.own blk = .b b) → cxN.own blk = .non) (v : V) (v' : V) (cv : Value) (h : VRel cx w v cv) (hs : shut m.B lo v = some v') : VRel cxN w v' cv ∧ V.pure v' = true :=
 shut_relU (fun _ => True) S hlo (fun blk hb ho => hN blk hb (ho.imp id fun ⟨b, _, h⟩ => ⟨b, h⟩)) v v' cv (fun _ _ => trivial) h hs
mutual
theorem shut_used {B : List BB} {lo : Nat} : ∀ {v v' : V}, shut B lo v = some v' → ∀ b ∈ V.used v, ∃ sz ver fz cs, B[b]? = some (.cells sz ver true fz cs) ∧ lo ≤ b
 | .sl b ver off len, v', hs, b', hb => by
  simp only [V.used, List.mem_singleton] at hb
  subst hb
  simp only [shut] at hs
  split at hs
  ·rename_i sz ver' fz cs hB
   split at hs
   ·rename_i hc
    exact ⟨sz, ver', fz, cs, hB, hc.2⟩
   ·cases hs
  ·cases hs
 | .agg cs, v', hs, b', hb => by
  simp only [shut] at hs
  obtain ⟨l, h1, _⟩ := Option.map_eq_some_iff.1 hs
  exact shutL_used h1 b' (by simpa only [V.used] using hb)
 | .tup cs, v', hs, b', hb => by
  simp only [shut] at hs
  obtain ⟨l, h1, _⟩ := Option.map_eq_some_iff.1 hs
  exact shutL_used h1 b' (by simpa only [V.used] using hb)
 | .undef, _, _, _, hb | .bool _, _, _, _, hb | .int _ _, _, _, _, hb | .str _, _, _, _, hb | .nilp, _, _, _, hb | .ptr _ _, _, _, _, hb | .bptr _ _ _, _, _, _, hb | .rp _ _, _, _, _, hb
 | .nils, _, _, _, hb | .ro _ _ _, _, _, _, hb | .nilm, _, _, _, hb | .map _, _, _, _, hb | .nilf, _, _, _, hb | .fn _ _, _, _, _, hb | .yld _, _, _, _, hb | .nili, _, _, _, hb | .ifc _ _, _, _, _, hb => by
  simp [V.used] at hb
theorem shutL_used {B : List BB} {lo : Nat} : ∀ {vs vs' : List V}, shutL B lo vs = some vs' → ∀ b ∈ usedL vs, ∃ sz ver fz cs, B[b]? = some (.cells sz ver true fz cs) ∧ lo ≤ b
 | [], _, _, _, hb => by simp [usedL] at hb
 | v :: vs, vs', hs, b, hb => by
  simp only [shutL] at hs
  split at hs
  ·rename_i x xs h1 h2
   simp only [usedL, List.mem_append] at hb
   rcases hb with hb | hb
   ·exact shut_used h1 b hb
   ·exact shutL_used h2 b hb
  ·cases hs
end
theorem frzB_get (bs : List Nat) : ∀ (i : Nat) (B : List BB) (j : Nat), (frzB bs i B)[j]? = (B[j]?).map fun x => if bs.contains (i + j) then x.frz else x
 | _, [], j => by simp [frzB]
 | i, x :: B, 0 => by simp [frzB]
 | i, x :: B, j + 1 => by
  simp only [frzB, List.getElem?_cons_succ, frzB_get bs (i + 1) B j]
  rw [show i + 1 + j = i + (j + 1) by omega]
theorem frzB_length (bs : List Nat) : ∀ (i : Nat) (B : List BB), (frzB bs i B).length = B.length
 | _, [] => rfl
 | i, x :: B => by simp [frzB, frzB_length bs (i + 1) B]
def Cx.frz (bs : List Nat) (cx : Cx) : Cx := { cx with own := fun c => match cx.own c with
 | .b b => if bs.contains b then .non else .b b
 | o => o }
theorem frz_non {bs : List Nat} {c : Nat} (h : cx.own c = .non) : (cx.frz bs).own c = .non := by simp [Cx.frz, h]
theorem frz_later (bs : List Nat) (w : World) : Later cx w (cx.frz bs) w := ⟨Nat.le_refl _, fun _ _ => ⟨Nat.le_refl _, fun _ => rfl⟩, fun _ _ h => h, fun c _ h => ⟨rfl, frz_non h⟩, Nat.le_refl _⟩
theorem frz_hi {x : BB} : x.frz.hi = x.hi := by
 unfold BB.frz
 split <;> rfl
theorem frz_sim (S : Sim kp cx m w) {bs : List Nat} (hbs : ∀ b ∈ bs, ∃ sz ver fz cs, m.B[b]? = some (.cells sz ver true fz cs) ∧ m.lb ≤ b) : Sim kp (cx.frz bs) { m with B := frzB bs 0 m.B } w where
 A i cs h c hc := by
  obtain ⟨⟨arr, t, h1, h2⟩, h3⟩ := S.A i cs h c hc
  refine ⟨⟨arr, t, h1, VRelL.on (n := m.A.length) (frz_later bs w) (fun _ _ _ h => h) _ _ (VRelL.maxA S.fa _ _ h2) h2⟩, ?_⟩
  simp only [Cx.frz, h3, ownA]
  split <;> (rename_i e; split at e <;> first | (cases e; done) | rfl)
 fa := S.fa
 B b x h := by
  simp only at h
  rw [frzB_get, Nat.zero_add] at h
  obtain ⟨y, hy, rfl⟩ := Option.map_eq_some_iff.1 h
  have hb := S.B b y hy
  cases y with
  | cells sz ver pu fz cs =>
   simp only [BOk] at hb
   obtain ⟨h1, h2, h3, h4, arr, t, h5, h6, h7, h8⟩ := hb
   have h8' := VRelL.on (n := m.A.length) (frz_later bs w) (fun _ _ _ h => h) _ _ (VRelL.maxA S.fa _ _ h8) h8
   cases hc : bs.contains b with
   | true =>
    have hm : b ∈ bs := by simpa using hc
    obtain ⟨sz', ver', fz', cs', g1, g2⟩ := hbs b hm
    rw [hy] at g1
    injection g1 with g1
    injection g1 with g3 g4 g5 g6 g7
    subst g5
    simp only [if_true, BB.frz, BOk]
    refine ⟨h1, h2, ?_, fun _ => h4 rfl, arr, t, h5, h6, h7, h8'⟩
    simp only [Cx.frz, h3, ownB, if_true]
    cases fz
    ·simp only [Bool.false_eq_true, if_false]
     rw [if_neg (by omega)]
     simp [hm]
    ·simp
   | false =>
    simp only [Bool.false_eq_true, if_false, BOk]
    refine ⟨h1, h2, ?_, h4, arr, t, h5, h6, h7, h8'⟩
    simp only [Cx.frz, h3, ownB]
    cases fz
    ·simp only [Bool.false_eq_true, if_false]
     by_cases hlt : b < m.lb
     ·simp [hlt]
     ·have hnm : b ∉ bs := by simpa using hc
      simp [hlt, hnm]
    ·simp
  | map es =>
   have e : (if bs.contains b = true then (BB.map es).frz else BB.map es) = BB.map es := by split <;> rfl
   rw [e]
   simp only [BOk] at hb ⊢
   obtain ⟨c, fs, clk, h1, h2, h3, h4⟩ := hb
   refine ⟨c, fs, clk, h1, h2, EsRel.on (n := m.A.length) (frz_later bs w) (fun _ _ _ h => h) _ _ (EsRel.maxA S.fa _ _ h3) h3, ?_⟩
   simp only [Cx.frz, h4, ownO]
   split <;> (rename_i e; split at e <;> first | (cases e; done) | rfl)
  | loop s p tm ps as bo =>
   have e : (if bs.contains b = true then (BB.loop s p tm ps as bo).frz else BB.loop s p tm ps as bo) = BB.loop s p tm ps as bo := by split <;> rfl
   rw [e]
   simp only [BOk] at hb ⊢
   obtain ⟨c, fn, D, tmps, h1, h2, h3, h4⟩ := hb
   refine ⟨c, fn, D, tmps, h1, h2, VRelL.on (n := m.A.length) (frz_later bs w) (fun _ _ _ h => h) _ _ (VRelL.maxA S.fa _ _ h3) h3, ?_⟩
   simp only [Cx.frz, h4, ownO]
   split <;> (rename_i e; split at e <;> first | (cases e; done) | rfl)
 nb := by simp only [frzB_length]; exact S.nb
 fo b c h := by simp only [frzB_length]; exact S.fo b c h
 fresh c hc := frz_non (S.fresh c hc)
 la := S.la
 lb := by simp only [frzB_length]; exact S.lb
 kept := S.kpt (frz_later bs w).zero
theorem frz_hiOk (H : HiOk m) (bs : List Nat) : HiOk { m with B := frzB bs 0 m.B } := ⟨H.A, fun b x h => by
 simp only at h
 rw [frzB_get] at h
 obtain ⟨y, hy, rfl⟩ := Option.map_eq_some_iff.1 h
 have := H.B b y hy
 split
 ·rw [frz_hi]; exact this
 ·exact this⟩
theorem frz_ev (S : Sim kp cx m w) (bs : List Nat) : Ev m.A.length cx m w (cx.frz bs) { m with B := frzB bs 0 m.B } w where
 fa _ _ := rfl
 un _ _ _ := rfl
 ln := Nat.le_refl _
 nb := Nat.le_refl _
 vb _ _ := ⟨Nat.le_refl _, fun _ => rfl⟩
 fo _ _ h := h
 non c _ h := ⟨rfl, frz_non h⟩
 prot c h := ⟨rfl, by simp [Cx.frz, h]⟩
 dm c h := ⟨rfl, by simp [Cx.frz, h]⟩
 size := Nat.le_refl _
 os := rfl
 tape := rfl
 output := rfl
 la := rfl
 lb := rfl
def Cx.bare (keepB : Bool) (cx : Cx) : Cx := { fa := fun _ => none, fb := fun _ => (0, 0, 0), vb := fun _ => 0, nb := 0, fo := fun _ => none, own := fun c => match cx.own c with
 | .non => .non
 | .b b => if keepB then .prot else .non
 | _ => .prot }
theorem bare_sim (S : Sim kp cx m w) (k : Bool) : Sim kp (cx.bare k) Mem.empty w where
 A i cs h := by simp [Mem.empty] at h
 fa i c h := by simp [Cx.bare] at h
 B b x h := by simp [Mem.empty] at h
 nb := rfl
 fo b c h := by simp [Cx.bare] at h
 fresh c hc := by simp [Cx.bare, S.fresh c hc]
 la := Nat.le_refl _
 lb := Nat.le_refl _
 kept c o h := ⟨(S.kept c o h).1, by simp [Cx.bare, (S.kept c o h).2.1], (S.kept c o h).2.2⟩
theorem bare_non {k : Bool} {c : Nat} (h : cx.own c = .non) : (cx.bare k).own c = .non := by simp [Cx.bare, h]
theorem bare_heap {k : Bool} {cx' : Cx} {m' : Mem} {w' : World} (S : Sim kp cx m w) (E : Ev 0 (cx.bare k) Mem.empty w cx' m' w') (c : Nat) (hc : c < w.heap.size) : w'.heap[c]? = w.heap[c]? := by
 cases ho : (cx.bare k).own c with
 | non => exact (E.non c hc ho).1
 | prot => exact (E.prot c ho).1
 | dm => simp only [Cx.bare] at ho; split at ho <;> (try split at ho) <;> cases ho
 | a i => simp only [Cx.bare] at ho; split at ho <;> (try split at ho) <;> cases ho
 | b i => simp only [Cx.bare] at ho; split at ho <;> (try split at ho) <;> cases ho
 | o i => simp only [Cx.bare] at ho; split at ho <;> (try split at ho) <;> cases ho
theorem scalar1 {v : V} {cv : Value} {cx cx' : Cx} {w w' : World} (h : VRel cx w v cv) (hs : scalar0 v = true) : VRel cx' w' v cv := by
 cases v
 case ro cells n full =>
  cases cells with
  | nil =>
   simp only [VRel] at h ⊢
   obtain ⟨a, cap, h1, h2, h3, _⟩ := h
   exact ⟨a, cap, h1, h2, h3, .inl trivial⟩
  | cons c cs => simp [scalar0] at hs
 all_goals simp only [scalar0, Bool.false_eq_true] at hs <;> simpa [VRel] using h
theorem scalarL {cx cx' : Cx} {w w' : World} : ∀ (vs : List V) (cvs : List Value), VRelL cx w vs cvs → vs.all scalar0 = true → VRelL cx' w' vs cvs
 | [], [], _, _ => by simp [VRelL]
 | [], _ :: _, h, _ => by simp [VRelL] at h
 | _ :: _, [], h, _ => by simp [VRelL] at h
 | v :: vs, c :: cvs, h, hs => by
  simp only [VRelL] at h ⊢
  simp only [List.all_cons, Bool.and_eq_true] at hs
  exact ⟨scalar1 h.1 hs.1, scalarL vs cvs h.2 hs.2⟩
theorem scalar_rel {v : V} {cv : Value} {cx cx' : Cx} {w w' : World} (h : VRel cx w v cv) (hs : scalarV v = true) : VRel cx' w' v cv := by
 unfold scalarV at hs
 split at hs
 ·simp only [VRel] at h ⊢
  obtain ⟨arr, h1, h2⟩ := h
  exact ⟨arr, h1, scalarL _ _ h2 hs⟩
 ·exact scalar1 h hs
mutual
theorem shut_id (B : List BB) (lo : Nat) : ∀ (v : V), V.pure v = true → shut B lo v = some v
 | .undef, _ | .bool _, _ | .int _ _, _ | .str _, _ | .nilp, _ | .rp _ _, _ | .nils, _ | .ro _ _ _, _ | .nilm, _ | .nilf, _ | .nili, _ => by simp [shut, V.pure]
 | .ptr _ _, h | .bptr _ _ _, h | .sl _ _ _ _, h | .map _, h | .yld _, h => by simp [V.pure] at h
 | .fn f cs, h => by simp only [shut, h, if_true]
 | .ifc t v, h => by simp only [shut, h, if_true]
 | .agg cs, h => by simp only [V.pure] at h; simp [shut, shutL_id B lo cs h]
 | .tup cs, h => by simp only [V.pure] at h; simp [shut, shutL_id B lo cs h]
theorem shutL_id (B : List BB) (lo : Nat) : ∀ (vs : List V), pureL vs = true → shutL B lo vs = some vs
 | [], _ => rfl
 | v :: vs, h => by
  simp only [pureL, Bool.and_eq_true] at h
  simp [shutL, shut_id B lo v h.1, shutL_id B lo vs h.2]
end
def Cx.held (cx : Cx) : Cx := { cx with own := fun c => match cx.own c with
 | .non => .non
 | _ => .prot }
theorem held_non {c : Nat} : cx.held.own c = .non ↔ cx.own c = .non := by
 simp only [Cx.held]
 split <;> simp_all
theorem held_later (w : World) : Later cx w cx.held w := ⟨Nat.le_refl _, fun _ _ => ⟨Nat.le_refl _, fun _ => rfl⟩, fun _ _ h => h, fun c _ h => ⟨rfl, held_non.2 h⟩, Nat.le_refl _⟩
theorem held_sim (S : Sim kp cx m w) : Sim kp cx.held { m with la := m.A.length, lb := m.B.length } w where
 A i cs h c hc := by
  obtain ⟨⟨arr, t, h1, h2⟩, h3⟩ := S.A i cs h c hc
  have hi := (List.getElem?_eq_some_iff.1 h).1
  refine ⟨⟨arr, t, h1, VRelL.on (n := m.A.length) (held_later w) (fun _ _ _ h => h) _ _ (VRelL.maxA S.fa _ _ h2) h2⟩, ?_⟩
  simp only [Cx.held, h3, ownA]
  rw [if_pos hi]
  split <;> first | rfl | (rename_i e; split at e <;> cases e)
 fa := S.fa
 B b x h := by
  have hb := S.B b x h
  have hlt := (List.getElem?_eq_some_iff.1 h).1
  cases x with
  | cells sz ver pu fz cs =>
   simp only [BOk] at hb ⊢
   obtain ⟨h1, h2, h3, h4, arr, t, h5, h6, h7, h8⟩ := hb
   refine ⟨h1, h2, ?_, h4, arr, t, h5, h6, h7, VRelL.on (n := m.A.length) (held_later w) (fun _ _ _ h => h) _ _ (VRelL.maxA S.fa _ _ h8) h8⟩
   simp only [Cx.held, h3, ownB]
   cases fz
   ·simp only [Bool.false_eq_true, if_false]
    rw [if_pos hlt]
    split <;> first | rfl | (rename_i e; split at e <;> cases e)
   ·simp
  | map es =>
   simp only [BOk] at hb ⊢
   obtain ⟨c, fs, clk, h1, h2, h3, h4⟩ := hb
   refine ⟨c, fs, clk, h1, h2, EsRel.on (n := m.A.length) (held_later w) (fun _ _ _ h => h) _ _ (EsRel.maxA S.fa _ _ h3) h3, ?_⟩
   simp only [Cx.held, h4, ownO]
   rw [if_pos hlt]
   split <;> first | rfl | (rename_i e; split at e <;> cases e)
  | loop s p tm ps as bo =>
   simp only [BOk] at hb ⊢
   obtain ⟨c, fn, D, tmps, h1, h2, h3, h4⟩ := hb
   refine ⟨c, fn, D, tmps, h1, h2, VRelL.on (n := m.A.length) (held_later w) (fun _ _ _ h => h) _ _ (VRelL.maxA S.fa _ _ h3) h3, ?_⟩
   simp only [Cx.held, h4, ownO]
   rw [if_pos hlt]
   split <;> first | rfl | (rename_i e; split at e <;> cases e)
 nb := S.nb
 fo := S.fo
 fresh c hc := held_non.2 (S.fresh c hc)
 la := Nat.le_refl _
 lb := Nat.le_refl _
 kept := S.kpt (held_later w).zero
theorem held_heap {cx' : Cx} {m2 m' : Mem} {w' : World} {n : Nat} (E : Ev n cx.held m2 w cx' m' w') (c : Nat) (hc : c < w.heap.size) : w'.heap[c]? = w.heap[c]? := by
 cases ho : cx.own c with
 | non => exact (E.non c hc (held_non.2 ho)).1
 | _ => exact (E.prot c (by simp [Cx.held, ho])).1
theorem doCall_sound {call : Call} (C : CallOk kp cfg call) (X : ExtOk kp cfg) (S : Sim kp cx m w) (H : HiOk m) {draw : Bool} {f : FuncId} {args : List V} {cargs : Array Value} {v : V} {m' : Mem} (ha : VRelL cx w args cargs.toList)
  (h : doCall cfg call draw f args m = some (v, m')) : Enters cfg.P f ∧ CallsIn Fence.wide 0 cfg.P f cargs w (RetPost kp m.A.length cx m w v m') := by
 unfold doCall at h
 split at h
 ·split at h
  ·cases h
  ·obtain ⟨h1, h2⟩ := C.fn f args m v m' h
   exact ⟨h1, h2 cx w cargs S H ha⟩
 ·cases hx : cfg.ext f args with
  | none => simp [hx] at h
  | some r =>
   simp only [hx, Option.bind_some] at h
   split at h
   ·rename_i hp
    injection h with h; injection h with h1 h2; subst h1 h2
    obtain ⟨g1, g2⟩ := X f args r hx hp.1 hp.2
    refine ⟨g1, (g2 cx w cargs S.fresh (fun c o h => (S.kept c o h).2.2) ha).mono ?_⟩
    rintro e w' ⟨cv, rfl, h3, h4, h5, h6, h7, h8⟩
    obtain ⟨S', E'⟩ := sim_grow S h4 h5 h6 h7 h8
    exact ⟨cv, cx, rfl, h3, S', H, E'⟩
   ·cases h
 ·cases hs : shutL m.B m.lb args with
  | none => simp [hs] at h
  | some args' =>
   simp only [hs, Option.bind_some] at h
   cases hc : call (.fn f) args' Mem.empty with
   | none => simp [hc] at h
   | some r =>
    obtain ⟨v0, m0⟩ := r
    simp only [hc, Option.bind_some] at h
    cases hv : shut m0.B 0 v0 with
    | none => simp [hv] at h
    | some v1 =>
     simp only [hv, Option.bind_some] at h
     split at h
     ·rename_i hcond
      injection h with h; injection h with h1 h2; subst h1 h2
      obtain ⟨g1, g2⟩ := C.fn f args' Mem.empty v0 m0 hc
      refine ⟨g1, ?_⟩
      have hfin : ∀ (k : Bool), VRelL (cx.bare k) w args' cargs.toList → (k = false → scalarV v1 = true) → CallsIn Fence.wide 0 cfg.P f cargs w (RetPost kp m.A.length cx m w v1 m) := by
       intro k hk hks
       refine (g2 (cx.bare k) w cargs (bare_sim S k) HiOk.empty hk).mono ?_
       rintro e w' ⟨cv, cx', rfl, h3, S0, H0, E0⟩
       have hheap := bare_heap S E0
       obtain ⟨S', E'⟩ := sim_grow S E0.size hheap E0.os E0.tape E0.output
       refine ⟨cv, cx, rfl, ?_, S', H, E'⟩
       have hlb0 : m0.lb ≤ 0 := by rw [E0.lb]; exact Nat.le_refl _
       cases k with
       | false =>
        have := shut_rel (cxN := { cx' with own := fun _ => .non }) S0 hlb0 (fun _ _ _ => rfl) v0 v1 cv h3 hv
        exact scalar_rel this.1 (hks rfl)
       | true =>
        refine (shut_rel (cxN := cx) S0 hlb0 (fun blk hblk ho => ?_) v0 v1 cv h3 hv).1
        rcases Nat.lt_or_ge blk w.heap.size with hlt | hge
        ·cases hob : cx.own blk with
         | non => rfl
         | _ =>
          have hp : (cx.bare true).own blk = .prot := by simp [Cx.bare, hob]
          have := (E0.prot blk hp).2
          rcases ho with ho | ⟨b, ho⟩ <;> rw [this] at ho <;> cases ho
        ·exact S.fresh blk hge
      cases hp : pureL args with
      | true =>
       have hid := shutL_id m.B m.lb args hp
       rw [hs] at hid
       injection hid with hid
       subst hid
       exact hfin true (VRelL.onP ⟨fun c hc ho => ⟨rfl, bare_non ho⟩, Nat.le_refl _⟩ _ _ hp ha) (by simp)
      | false =>
       refine hfin false ?_ (fun _ => by simpa [hp] using hcond)
       refine (shutL_relU (fun _ => True) (cxN := cx.bare false) S (Nat.le_refl _) (fun blk hblk ho => ?_) args args' cargs.toList (fun _ _ => trivial) ha hs).1
       rcases ho with ho | ⟨b, _, ho⟩
       ·exact bare_non ho
       ·simp [Cx.bare, ho]
     ·rename_i hcond
      split at h
      ·cases h
      ·injection h with h; injection h with h1 h2; subst h1 h2
       obtain ⟨g1, g2⟩ := C.fn f args' Mem.empty v0 m0 hc
       refine ⟨g1, ?_⟩
       have hbs := shutL_used hs
       have SF := frz_sim S hbs
       have hargs := (shutL_relU (fun b => b ∈ usedL args) (cxN := (cx.frz (usedL args)).bare true) S (Nat.le_refl _) (fun blk hblk ho => by
        rcases ho with ho | ⟨b, hb, ho⟩
        ·exact bare_non (frz_non ho)
        ·exact bare_non (by simp [Cx.frz, ho, hb])) args args' cargs.toList (fun _ h => h) ha hs).1
       refine (g2 ((cx.frz (usedL args)).bare true) w cargs (bare_sim SF true) HiOk.empty hargs).mono ?_
       rintro e w' ⟨cv, cx', rfl, h3, S0, H0, E0⟩
       have hheap := bare_heap SF E0
       obtain ⟨S', E'⟩ := sim_grow SF E0.size hheap E0.os E0.tape E0.output
       have hlb0 : m0.lb ≤ 0 := by rw [E0.lb]; exact Nat.le_refl _
       refine ⟨cv, cx.frz (usedL args), rfl, ?_, S', frz_hiOk H _, (frz_ev S _).trans E' (Nat.le_refl _)⟩
       refine (shut_rel (cxN := cx.frz (usedL args)) S0 hlb0 (fun blk hblk ho => ?_) v0 v1 cv h3 hv).1
       rcases Nat.lt_or_ge blk w.heap.size with hlt | hge
       ·cases hob : (cx.frz (usedL args)).own blk with
        | non => rfl
        | _ =>
         have hp : ((cx.frz (usedL args)).bare true).own blk = .prot := by simp [Cx.bare, hob]
         have := (E0.prot blk hp).2
         rcases ho with ho | ⟨b, ho⟩ <;> rw [this] at ho <;> cases ho
       ·exact SF.fresh blk hge
 ·cases hc : call (.fn f) args { m with la := m.A.length, lb := m.B.length } with
  | none => simp [hc] at h
  | some r =>
   obtain ⟨v0, m0⟩ := r
   simp only [hc, Option.bind_some] at h
   cases hv : shut m0.B m.B.length v0 with
   | none => simp [hv] at h
   | some v1 =>
    simp only [hv, Option.map_some] at h
    injection h with h; injection h with h1 h2; subst h1 h2
    obtain ⟨g1, g2⟩ := C.fn f args _ v0 m0 hc
    refine ⟨g1, (g2 cx.held w cargs (held_sim S) ⟨H.A, H.B⟩ (VRelL.on (n := m.A.length) (held_later w) (fun _ _ _ h => h) _ _ (VRelL.maxA S.fa _ _ ha) ha)).mono ?_⟩
    rintro e w' ⟨cv, cx', rfl, h3, S0, H0, E0⟩
    obtain ⟨S', E'⟩ := sim_grow S E0.size (held_heap E0) E0.os E0.tape E0.output
    refine ⟨cv, cx, rfl, ?_, S', H, E'⟩
    refine (shut_rel (cxN := cx) S0 (by rw [E0.lb]; exact Nat.le_refl _) (fun blk hblk ho => ?_) v0 v1 cv h3 hv).1
    rcases Nat.lt_or_ge blk w.heap.size with hlt | hge
    ·cases hob : cx.own blk with
     | non => rfl
     | _ =>
      have hp : cx.held.own blk = .prot := by simp [Cx.held, hob]
      have := (E0.prot blk hp).2
      rcases ho with ho | ⟨b, ho⟩ <;> rw [this] at ho <;> cases ho
    ·exact S.fresh blk hge
end
end Go.Proofs.YtpdgbhjhodhkiaaGreatDoor.AI
namespace Go.Proofs.YtpdgbhjhodhkiaaGreatDoor.AI
open Go
variable {kp : Kp}
def DfRel (lo : Nat) (cx : Cx) (w : World) : List (TypeId × V × V) → List Deferred → Prop
 | df, [] => df = []
 | df, d :: ds => (∃ D, d = { target := .collected D, args := #[] } ∧ cx.own D = .dm ∧ w.heap[D]? = some (.deferred (some [])) ∧ (lo ≤ D ∧ ∀ d' ∈ ds, ∀ D', d'.target = .collected D' → D' < D) ∧ DfRel lo cx w df ds) ∨
   ∃ t x k rest ts ty cs vx vk, df = (t, x, k) :: rest ∧ d = { target := .builtin .delete ts ty cs, args := #[vx, vk] } ∧ ts[0]? = some t ∧ VRel cx w x vx ∧ VRel cx w k vk ∧ DfRel lo cx w rest ds
structure FRel (kp : Kp) (lo : Nat) (cx : Cx) (st : St) (act : Act) (w : World) : Prop where
 sim : Sim kp cx st.mem w
 hi : HiOk st.mem
 tm : VRelL cx w st.tm act.tmps.toList
 df : DfRel lo cx w st.df act.defers
def RdOk (F : Fence) (rd : Bool) : Prop := (rd = false ∧ F = Fence.wide) ∨ (rd = true ∧ ∃ l, F = Fence.wide.inRound l)
theorem RdOk.fn {F : Fence} {rd : Bool} (h : RdOk F rd) (f : FuncId) : F.fn f := by
 rcases h with ⟨_, rfl⟩ | ⟨_, l, rfl⟩ <;> trivial
theorem RdOk.depth {F : Fence} {rd : Bool} (h : RdOk F rd) : F.depth.isSome = true → 1 ≤ 0 := by
 rcases h with ⟨_, rfl⟩ | ⟨_, l, rfl⟩ <;> simp [Fence.wide, Fence.inRound]
theorem RdOk.calls {F : Fence} {rd : Bool} (h : RdOk F rd) {P : Program} {f : FuncId} {args : Array Value} {w : World} {R : Ending → World → Prop} (hc : CallsIn Fence.wide 0 P f args w R) : CallsIn F 0 P f args w R := by
 rcases h with ⟨_, rfl⟩ | ⟨_, l, rfl⟩
 ·exact hc
 ·exact hc
theorem RdOk.rounds {F : Fence} {rd : Bool} (h : RdOk F rd) {P : Program} {l : Nat} {f : FuncId} {tmps : Array Value} {as bo : Code} {w : World} {R : Ending → World → Prop} (hc : RoundIn Fence.wide 0 P l f tmps as bo w R) : RoundIn F 0 P l f tmps as bo w R := by
 rcases h with ⟨_, rfl⟩ | ⟨_, l, rfl⟩
 ·exact hc
 ·exact hc
section
variable {lo : Nat} {cx cx' : Cx} {m m' : Mem} {w w' : World}
theorem DfRel.on (L : Later cx w cx' w') {n : Nat} (hfa : ∀ i c, i < n → cx.fa i = some c → cx'.fa i = some c) (hmax : ∀ (x : V) (v : Value), VRel cx w x v → V.maxA x ≤ n) (hdm : ∀ c, cx.own c = .dm → w'.heap[c]? = w.heap[c]? ∧ cx'.own c = .dm) :
  ∀ (ds : List Deferred) (df : List (TypeId × V × V)), DfRel lo cx w df ds → DfRel lo cx' w' df ds
 | [], df, h => h
 | d :: ds, df, h => by
  simp only [DfRel] at h ⊢
  rcases h with ⟨D, h1, h2, h3, hlo, h4⟩ | ⟨t, x, k, rest, ts, ty, cs, vx, vk, h1, h2, h3, h4, h5, h6⟩
  ·have := hdm D h2
   exact .inl ⟨D, h1, this.2, this.1.trans h3, hlo, DfRel.on L hfa hmax hdm ds df h4⟩
  ·exact .inr ⟨t, x, k, rest, ts, ty, cs, vx, vk, h1, h2, h3, VRel.on L hfa x vx (hmax x vx h4) h4, VRel.on L hfa k vk (hmax k vk h5) h5, DfRel.on L hfa hmax hdm ds rest h6⟩
theorem Ev.dfs (E : Ev m.A.length cx m w cx' m' w') (S : Sim kp cx m w) {ds : List Deferred} {df : List (TypeId × V × V)} (h : DfRel lo cx w df ds) : DfRel lo cx' w' df ds :=
 DfRel.on E.later (n := m.A.length) (fun i c hi hc => (E.fa i hi).trans hc) (fun x v hv => VRel.maxA S.fa x v hv) E.dm ds df h
theorem put_rel {tm : List V} {a : Act} {d : Option Tmp} {x : V} {v : Value} (h : VRelL cx w tm a.tmps.toList) (hx : VRel cx w x v) : VRelL cx w (putV tm d x) (a.put d v).tmps.toList := by
 cases d with
 | none => exact h
 | some d =>
  simp only [putV, Act.put, Array.toList_setIfInBounds]
  exact VRelL.set d h hx
theorem put_df {a : Act} {d : Option Tmp} {v : Value} : (a.put d v).defers = a.defers := by cases d <;> rfl
theorem undef_rel : VRel cx w (.tup []) undef := ⟨#[], rfl, by simp [VRelL]⟩
theorem guard_sound {ops : Array Oper} {tm : List V} {tmps : Array Value} {o : Oper} {b : Bool} (h : VRelL cx w tm tmps.toList) (hg : guardV ops tm o = some b) : Region.wanted o (yielded ops tmps) = b := by
 unfold guardV at hg
 unfold Region.wanted
 split at hg
 ·rename_i hn
  rw [hn]
  injection hg
 ·rename_i j want hn
  rw [hn]
  simp only [yielded]
  split at hg
  ·rename_i hd
   rw [hd]
   injection hg with hg
  ·rename_i d hd
   rw [hd]
   simp only [Option.bind_some]
   split at hg
   ·rename_i b' hb
    injection hg with hg
    subst hg
    obtain ⟨v, h1, h2⟩ := VRelL.get d h hb
    simp only [VRel] at h2
    subst h2
    have h1' : tmps[d]? = some (.bool b') := by simpa using h1
    rw [h1']
    simp
   ·rename_i hb
    injection hg with hg
    subst hg
    obtain ⟨v, h1, h2⟩ := VRelL.get d h hb
    simp only [VRel] at h2
    obtain ⟨arr, rfl, _⟩ := h2
    have h1' : tmps[d]? = some (.tuple arr) := by simpa using h1
    rw [h1']
    rfl
   ·cases hg
theorem slot_lt {ops : Array Oper} {i j : Nat} {o : Oper} (hi : ops[i]? = some o) (ha : isAlloc o = true) (hij : i < j) : slotOf ops i < slotOf ops j := by
 unfold slotOf
 have hil : i < ops.toList.length := by
  have := (Array.getElem?_eq_some_iff.1 hi).1
  simpa using this
 have h1 : ops.toList.take (i + 1) = ops.toList.take i ++ [o] := by
  rw [List.take_succ_eq_append_getElem hil]
  congr 2
  have := (Array.getElem?_eq_some_iff.1 hi).2
  simpa using this
 have h2 : (ops.toList.take (i + 1)).countP isAlloc = (ops.toList.take i).countP isAlloc + 1 := by
  rw [h1, List.countP_append]
  simp [ha]
 have h3 : (ops.toList.take (i + 1)).countP isAlloc ≤ (ops.toList.take j).countP isAlloc := by
  have : ops.toList.take (i + 1) = (ops.toList.take j).take (i + 1) := by rw [List.take_take, Nat.min_eq_left (by omega)]
  rw [this]
  exact List.Sublist.countP_le (List.take_sublist _ _)
 omega
theorem slot_ne {ops : Array Oper} {i j : Nat} {o o' : Oper} (hi : ops[i]? = some o) (ha : isAlloc o = true) (hj : ops[j]? = some o') (hb : isAlloc o' = true) (hij : i ≠ j) : slotOf ops i ≠ slotOf ops j := by
 rcases Nat.lt_or_gt_of_ne hij with h | h
 ·exact Nat.ne_of_lt (slot_lt hi ha h)
 ·exact (Nat.ne_of_lt (slot_lt hj hb h)).symm
end
structure RInv (kp : Kp) (lo : Nat) (P : Program) (ops : Array Oper) (X : Nat → Prop) (cx0 : Cx) (m0 : Mem) (w0 : World) (cx : Cx) (st : St) (act : Act) (w : World) : Prop where
 fr : FRel kp lo cx st act w
 ev : Ev m0.A.length cx0 m0 w0 cx st.mem w
 la : m0.la ≤ m0.A.length
 un : ∀ i o t, ops[i]? = some o → o.op = .alloc t → ¬ X i → cx.fa (m0.A.length + slotOf ops i) = none ∧ ∃ z, zeroCellsV P t = some z ∧ st.mem.A[m0.A.length + slotOf ops i]? = some z
section
variable {lo : Nat} {cfg : Cfg} {call : Call} {ops : Array Oper} {X : Nat → Prop} {cx0 : Cx} {m0 : Mem} {w0 : World} {cx : Cx} {st : St} {act : Act} {w : World}
theorem rinv_after {cx' : Cx} {w' : World} {m' : Mem} {i : Nat} {d : Option Tmp} {v : V} {df' : List (TypeId × V × V)} {act' : Act} (R : RInv kp lo cfg.P ops X cx0 m0 w0 cx st act w) (S' : Sim kp cx' m' w') (H' : HiOk m') (E : Ev st.mem.A.length cx st.mem w cx' m' w')
  (htm : VRelL cx' w' (putV st.tm d v) act'.tmps.toList) (hdf : DfRel lo cx' w' df' act'.defers) :
  RInv kp lo cfg.P ops (fun j => X j ∨ j = i) cx0 m0 w0 cx' { st with tm := putV st.tm d v, mem := m', df := df' } act' w' := by
 refine ⟨⟨S', H', htm, hdf⟩, R.ev.trans E R.ev.ln, R.la, fun j o t ho ht hX => ?_⟩
 obtain ⟨h1, z, h2, h3⟩ := R.un j o t ho ht (fun h => hX (.inl h))
 have hlt := (List.getElem?_eq_some_iff.1 h3).1
 exact ⟨(E.fa _ hlt).trans h1, z, h2, (E.un _ hlt h1).trans h3⟩
theorem res_of_step {P : Program} {o : Oper} {F : Fence} {rd : Bool} (hF : RdOk F rd) {m' : Mem} {v : V} {a : Act} {m : Mem} (h : StepRes kp P cx m w v m' (execOp a.eval o)) (hd : ∀ c, o.op ≠ .defer c) {K : Act → World → Prop} {Q : Exit → Act → World → Prop}
  (hK : ∀ cv w' cx', VRel cx' w' v cv → Sim kp cx' m' w' → Ev m.A.length cx m w cx' m' w' → K (a.put o.dst cv) w') : o.wpIn F 0 P a w K Q := by
 obtain ⟨nx, cv, w', cx', h1, h2, h3, h4, h5⟩ := h
 refine ⟨fun f _ => hF.fn f, ?_⟩
 rw [Oper.semAt_eq _ _ _ hd, h1]
 rcases h2 with rfl | ⟨rfl, rfl⟩
 ·exact hK cv w' cx' h3 h4 h5
 ·exact hK undef w' cx' h3 h4 h5
theorem opQ_opV {P : Program} {draw : Bool} {m : Mem} {slot : Nat} {ρ : Operand → V} {op : Op} {r : V × Mem} (h : opQ P draw m slot ρ op = some r) : opV P m slot ρ op = some r := by
 unfold opQ at h
 split at h
 ·simp only [opV]
  split at h
  ·rename_i sz cs hb
   rw [hb]
   split at h
   ·rename_i hp
    simp only [hp, if_true]
    exact h
   ·cases h
  ·cases h
 ·exact h
theorem val_step {P : Program} {o : Oper} {a : Act} (c : Go.Call) (ho : o.op = .call c) (f : Operand) (hf : c.callee = .value f) {fn : Fn} {arr : Array Value} (he : a.eval f = .func fn #[] arr) (w : World) :
  (execOp a.eval o).run P w = (invoke (.fn fn arr) (c.args.map a.eval)).run P w := by
 simp only [execOp, ho, resolve, hf, Sem.run_bind, he, Deferred.ofValue, Sem.run_pure, Result.andThen_ok, Array.empty_append]
theorem step_sound (C : CallOk kp cfg call) (Xt : ExtOk kp cfg) {F : Fence} (hF : RdOk F st.rd) {draw : Bool} {i : Nat} {o : Oper} (hi : ops[i]? = some o) (hX : ¬ X i) (R : RInv kp lo cfg.P ops X cx0 m0 w0 cx st act w) {st' : St}
  (h : stepAt cfg call draw ops m0.A.length i st = some st') {K : Act → World → Prop} {Q : Exit → Act → World → Prop} (hK : ∀ cx' act' w', st'.rd = st.rd → RInv kp lo cfg.P ops (fun j => X j ∨ j = i) cx0 m0 w0 cx' st' act' w' → K act' w') :
  wpOpIn F 0 cfg.P ops Q i K act w := by
 unfold stepAt at h
 unfold wpOpIn
 simp only [hi] at h ⊢
 have hρ : ∀ x, VRel cx w (evalO st.tm x) (act.eval x) := fun x => evalO_rel R.fr.tm x
 split at h
 ·cases h
 ·rename_i hg
  injection h with h
  subst h
  rw [guard_sound R.fr.tm hg]
  simp only [Bool.false_eq_true, if_false]
  refine ⟨fun f _ => hF.fn f, hK cx _ w rfl ?_⟩
  have := rinv_after (i := i) (d := o.dst) (v := .tup []) (df' := st.df) (act' := act.put o.dst undef) (m' := st.mem) R R.fr.sim R.fr.hi (Ev.refl _ _ _ _ (Nat.le_refl _)) (put_rel R.fr.tm undef_rel) (by rw [put_df]; exact R.fr.df)
  exact this
 ·rename_i hg
  rw [guard_sound R.fr.tm hg]
  simp only [if_true]
  have done : ∀ {m' : Mem} {v : V}, HiOk m' → (∀ c, o.op ≠ .defer c) → StepRes kp cfg.P cx st.mem w v m' (execOp act.eval o) → st' = { st with tm := putV st.tm o.dst v, mem := m' } → o.wpIn F 0 cfg.P act w K Q := by
   intro m' v H' hd hs e
   subst e
   refine res_of_step hF hs hd fun cv w' cx' h1 h2 h3 => hK cx' _ w' rfl ?_
   exact rinv_after (i := i) (df' := st.df) R h2 H' h3 (put_rel (h3.vals R.fr.sim R.fr.tm) h1) (by rw [put_df]; exact h3.dfs R.fr.sim R.fr.df)
  split at h
  ·
   rename_i c hop
   have hnd : ∀ c, o.op ≠ .defer c := fun c e => by rw [hop] at e; cases e
   cases hc : callV cfg call draw (evalO st.tm) st.mem c with
   | none => simp [hc] at h
   | some r =>
    obtain ⟨v, m'⟩ := r
    simp only [hc, Option.map_some] at h
    injection h with h
    have hargs : VRelL cx w (c.args.toList.map (evalO st.tm)) (c.args.map act.eval).toList := by rw [Array.toList_map]; exact vrelL_map hρ _
    unfold callV at hc
    split at hc
    ·rename_i b hb
     refine done (builtin_hi R.fr.hi hc) hnd ?_ h.symm
     have hs := builtin_sound R.fr.sim (cargs := (c.args.map act.eval).toList) hargs o.type (c.args.map fun | .const _ => true | _ => false) hc
     have e : execOp act.eval o = builtin b c.argTypes o.type (c.args.map fun | .const _ => true | _ => false) (c.args.map act.eval) := by
      simp only [execOp, hop, resolve, hb]
      rfl
     rw [e]
     rw [Array.toArray_toList] at hs
     exact hs
    ·rename_i f hf
     have hfv := hρ f
     split at hc
     ·rename_i g caps he
      rw [he] at hfv
      simp only [VRel] at hfv
      obtain ⟨arr, hfe, hcaps⟩ := hfv
      have hall : VRelL cx w (c.args.toList.map (evalO st.tm) ++ caps) (c.args.map act.eval ++ arr).toList := by rw [Array.toList_append]; exact VRelL.append hargs hcaps
      obtain ⟨g1, g2⟩ := doCall_sound C Xt R.fr.sim R.fr.hi hall hc
      refine ⟨fun f _ => hF.fn f, ?_⟩
      rw [Oper.semAt_eq _ _ _ hnd, val_step c hop f hf hfe w]
      simp only [invoke]
      rw [g1]
      simp only [Oper.uponIn]
      refine ⟨hF.depth, hF.calls (g2.mono ?_)⟩
      rintro e w' ⟨cv, cx', rfl, h1, h2, h3, h4⟩
      subst h
      exact hK cx' _ w' rfl (rinv_after (i := i) (df' := st.df) R h2 h3 h4 (put_rel (h4.vals R.fr.sim R.fr.tm) h1) (by rw [put_df]; exact h4.dfs R.fr.sim R.fr.df))
     ·rename_i l he
      rw [he] at hfv
      simp only [VRel] at hfv
      obtain ⟨cl, hfo, hfe⟩ := hfv
      split at hc
      ·cases hc
      ·obtain ⟨fn, tmps, as, bo, g1, g2⟩ := C.yld l _ _ _ _ hc cx w (c.args.map act.eval) R.fr.sim R.fr.hi hargs cl hfo
       refine ⟨fun f _ => hF.fn f, ?_⟩
       rw [Oper.semAt_eq _ _ _ hnd, val_step c hop f hf hfe w]
       simp only [invoke]
       rw [g1]
       simp only [Oper.uponIn]
       refine ⟨hF.depth, hF.rounds (g2.mono ?_)⟩
       rintro e w' ⟨cv, cx', rfl, h1, h2, h3, h4⟩
       subst h
       exact hK cx' _ w' rfl (rinv_after (i := i) (df' := st.df) R h2 h3 h4 (put_rel (h4.vals R.fr.sim R.fr.tm) h1) (by rw [put_df]; exact h4.dfs R.fr.sim R.fr.df))
     ·cases hc
    ·cases hc
  ·
   rename_i args argTypes hop
   split at h
   ·rename_i t ts x k hts hargs
    split at h
    ·cases h
    ·rename_i hrd
     have hrd' : st.rd = false := by
      cases hr : st.rd
      ·rfl
      ·simp [hr] at hrd
     injection h with h
     subst h
     have hF' : F = Fence.wide := by
      rcases hF with ⟨_, h⟩ | ⟨h, _⟩
      ·exact h
      ·rw [hrd'] at h; cases h
     subst hF'
     refine ⟨fun f _ => trivial, ?_⟩
     have hro : Fence.wide.round = none := rfl
     rw [hro, Oper.semAt_none]
     have hrel : VRelL cx w [x, k] (args.map act.eval).toList := by
      rw [← hargs, Array.toList_map]
      exact vrelL_map hρ _
     have hpair : ∃ vx vk, args.map act.eval = #[vx, vk] ∧ VRel cx w x vx ∧ VRel cx w k vk := by
      match hq : (args.map act.eval).toList, hrel with
      | [vx, vk], hrel =>
       simp only [VRelL] at hrel
       exact ⟨vx, vk, by apply Array.ext'; simpa using hq, hrel.1, hrel.2.1⟩
      | [], hrel => simp [VRelL] at hrel
      | [_], hrel => simp [VRelL] at hrel
      | _ :: _ :: _ :: _, hrel => simp [VRelL] at hrel
     obtain ⟨vx, vk, hpe, hvx, hvk⟩ := hpair
     obtain ⟨cs, he⟩ : ∃ cs, (execOp act.eval o).run cfg.P w = .ok (.defer { target := .builtin .delete argTypes o.type cs, args := #[vx, vk] }) w := by
      refine ⟨args.map fun | .const _ => true | _ => false, ?_⟩
      simp only [execOp, hop, resolve, Sem.run_bind, Sem.run_pure, Result.andThen_ok, hpe]
      rfl
     rw [he]
     simp only [Oper.uponIn]
     have ht : argTypes[0]? = some t := by rw [← Array.getElem?_toList, hts]; rfl
     refine hK cx _ w rfl (rinv_after (i := i) R R.fr.sim R.fr.hi (Ev.refl _ _ _ _ (Nat.le_refl _)) (put_rel R.fr.tm undef_rel) ?_)
     rw [put_df]
     simp only [DfRel]
     exact .inr ⟨t, x, k, st.df, argTypes, o.type, _, vx, vk, rfl, rfl, ht, hvx, hvk, R.fr.df⟩
   ·cases h
  ·
   rename_i hnc hndel
   cases hq : opQ cfg.P draw st.mem (m0.A.length + slotOf ops i) (evalO st.tm) o.op with
   | none => simp [hq] at h
   | some r =>
    obtain ⟨v, m'⟩ := r
    simp only [hq, Option.map_some] at h
    injection h with h
    replace hq := opQ_opV hq
    have hnd : ∀ c, o.op ≠ .defer c := fun c e => by rw [e] at hq; simp [opV] at hq
    by_cases hal : ∃ t, o.op = .alloc t
    ·obtain ⟨t, hal⟩ := hal
     rw [hal] at hq
     simp only [opV] at hq
     injection hq with hq; injection hq with h1 h2; subst h1 h2
     obtain ⟨hun, z, hz, hzA⟩ := R.un i o t hi hal hX
     obtain ⟨inf, zv, hinf, hzv, rfl, hzc⟩ := zeroCells_some hz
     have hla : st.mem.la ≤ m0.A.length + slotOf ops i := by rw [R.ev.la]; have := R.la; omega
     obtain ⟨cx', k1, k2, k3, k4⟩ := sim_alloc_slot R.fr.sim hzA hun hla zv.cells t (map_ofConst0_rel _)
     refine ⟨fun f _ => hF.fn f, ?_⟩
     rw [Oper.semAt_eq _ _ _ hnd]
     have he : (execOp act.eval o).run cfg.P w = .ok (.value (.pointer (some ⟨w.heap.size, 0, none⟩))) (w.alloc (.cells zv.cells t)) := by
      simp [execOp, hal, Instr.alloc, r_zero hinf hzv, newVar, newRow]
     rw [he]
     simp only [Oper.uponIn]
     subst h
     have hfa : ∀ k c, k < st.mem.A.length → cx.fa k = some c → cx'.fa k = some c := fun k c _ hk => by
      rw [k2 k (fun e => by subst e; rw [hun] at hk; cases hk)]
      exact hk
     have hdm : ∀ c, cx.own c = .dm → (w.alloc (.cells zv.cells t)).heap[c]? = w.heap[c]? ∧ cx'.own c = .dm := fun c hc => by
      have hlt := R.fr.sim.lt_own (c := c) (by rw [hc]; simp)
      exact ⟨heap_alloc_lt w _ hlt, (k4.own c (Nat.ne_of_lt hlt)).trans hc⟩
     refine hK cx' _ _ rfl ⟨⟨k3, R.fr.hi, put_rel (VRelL.on k4.later hfa _ _ (VRelL.maxA R.fr.sim.fa _ _ R.fr.tm) R.fr.tm) ⟨_, k1, rfl⟩, by
      rw [put_df]
      exact DfRel.on k4.later hfa (fun x v hv => VRel.maxA R.fr.sim.fa x v hv) hdm _ _ R.fr.df⟩, ?_, R.la, ?_⟩
     ·refine R.ev.trans (n2 := m0.A.length) ?_ (Nat.le_refl _)
      exact { fa := fun k hk => k2 k (by omega), un := fun _ _ _ => rfl, ln := R.ev.ln, nb := k4.later.nb, vb := k4.later.vb, fo := k4.later.fo, non := k4.later.non
              prot := fun c hc => by
               have hlt := R.fr.sim.lt_own (c := c) (by rw [hc]; simp)
               exact ⟨heap_alloc_lt w _ hlt, (k4.own c (Nat.ne_of_lt hlt)).trans hc⟩
              dm := hdm, size := k4.later.size, os := rfl, tape := rfl, output := rfl, la := rfl, lb := rfl }
     ·intro j o' t' ho' ht' hXj
      have hij : i ≠ j := fun e => hXj (.inr e.symm)
      obtain ⟨h1, z', h2, h3⟩ := R.un j o' t' ho' ht' (fun h => hXj (.inl h))
      have hne := slot_ne hi (by simp [isAlloc, hal]) ho' (by simp [isAlloc, ht']) hij
      exact ⟨(k2 _ (by omega)).trans h1, z', h2, h3⟩
    ·exact done (opV_hi R.fr.hi hq) hnd (opV_sound R.fr.sim hρ hq (fun t e => hal ⟨t, e⟩)) h.symm
end
end Go.Proofs.YtpdgbhjhodhkiaaGreatDoor.AI
namespace Go.Proofs.YtpdgbhjhodhkiaaGreatDoor.AI
open Go
variable {kp : Kp}
section
variable {cfg : Cfg} {call : Call} {ops : Array Oper}
theorem evalO_set {tm : List V} {d : Tmp} {x : V} {o : Operand} (h : o ≠ .tmp d) : evalO (tm.set d x) o = evalO tm o := by
 cases o with
 | tmp t =>
  have ht : d ≠ t := fun e => h (by rw [e])
  simp [evalO, List.getElem?_set_ne ht]
 | const _ => rfl
 | func _ => rfl
 | global _ => rfl
theorem evalO_putV {tm : List V} {d : Option Tmp} {x : V} {o : Operand} (h : ∀ t, d = some t → o ≠ .tmp t) : evalO (putV tm d x) o = evalO tm o := by
 cases d with
 | none => rfl
 | some d => exact evalO_set (h d rfl)
theorem pairs_congr {ρ ρ' : Operand → V} {ps : Array (Nat × Operand)} (h : ∀ x ∈ ps.toList.map (·.2), ρ x = ρ' x) :
  (ps.toList.map fun (i, x) => (i, ρ x)) = ps.toList.map fun (i, x) => (i, ρ' x) :=
 List.map_congr_left fun p hm => by
  obtain ⟨i, x⟩ := p
  simp only [h x (List.mem_map.2 ⟨(i, x), hm, rfl⟩)]
theorem opt_congr {ρ ρ' : Operand → V} {x : Option Operand} (h : ∀ y ∈ x.toArray, ρ y = ρ' y) : x.map ρ = x.map ρ' := by
 cases x with
 | none => rfl
 | some y => simp [h y (by simp)]
theorem opV_congr {P : Program} {m : Mem} {slot : Nat} {ρ ρ' : Operand → V} (op : Op) (h : ∀ x ∈ op.operands, ρ x = ρ' x) : opV P m slot ρ op = opV P m slot ρ' op := by
 cases op <;> simp only [Op.operands] at h
 case build t ps => simp only [opV, pairs_congr (fun x hx => h x (by simpa using hx))]
 case buildSlice t n ps => simp only [opV, pairs_congr (fun x hx => h x (by simpa using hx))]
 case makeFunc fn first captured =>
  cases fn <;> simp only [opV]
  rw [List.map_congr_left (l := captured.toList) fun x hx => h x (by simp at hx; simp [hx])]
 case makeMap t r => cases r <;> rfl
 case slice t x lo hi mx =>
  simp only [opV]
  rw [h x (by simp), opt_congr (x := lo) fun y hy => h y (by simp [hy]), opt_congr (x := hi) fun y hy => h y (by simp [hy]), opt_congr (x := mx) fun y hy => h y (by simp [hy])]
 all_goals (first | rfl | (simp_all [opV]; done))
theorem callV_congr {draw : Bool} {m : Mem} {ρ ρ' : Operand → V} (c : Go.Call) (h : ∀ x ∈ c.operands, ρ x = ρ' x) : callV cfg call draw ρ m c = callV cfg call draw ρ' m c := by
 have ha : c.args.toList.map ρ = c.args.toList.map ρ' := List.map_congr_left fun x hx => h x (by simp at hx; simp [Call.operands, hx])
 unfold callV
 cases hc : c.callee with
 | builtin b => simp only [ha]
 | value f => simp only [ha, h f (by simp [Call.operands, hc])]
 | invoke r k => rfl
def stepCore (cfg : Cfg) (call : Call) (slot : Nat) (o : Oper) (g : Option Bool) (ρ : Operand → V) (m : Mem) : Option (V × Mem) :=
 match g with
 | none => none
 | some false => some (.tup [], m)
 | some true =>
  match o.op with
  | .call c => callV cfg call true ρ m c
  | op => opQ cfg.P true m slot ρ op
theorem stepAt_draw {base i : Nat} {o : Oper} {st : St} (hi : ops[i]? = some o) :
  stepAt cfg call true ops base i st = (stepCore cfg call (base + slotOf ops i) o (guardV ops st.tm o) (evalO st.tm) st.mem).map fun (v, m) => { st with tm := putV st.tm o.dst v, mem := m } := by
 unfold stepAt stepCore
 simp only [hi]
 cases hg : guardV ops st.tm o with
 | none => rfl
 | some b =>
  cases b
  ·rfl
  ·simp only
   cases hop : o.op <;> try rfl
   case defer c =>
    obtain ⟨callee, args, argTypes⟩ := c
    simp only [opQ, opV, Option.map_none]
    split
    ·rename_i h
     cases h
    ·split
     ·simp
     ·rfl
    ·simp [opQ, opV]
theorem opQ_congr {P : Program} {m : Mem} {slot : Nat} {ρ ρ' : Operand → V} (op : Op) (h : ∀ x ∈ op.operands, ρ x = ρ' x) : opQ P true m slot ρ op = opQ P true m slot ρ' op := by
 unfold opQ
 split
 ·simp only [Op.operands] at h
  rw [pairs_congr (fun x hx => h x (by simpa using hx))]
 ·exact opV_congr _ h
theorem opQ_keeps {P : Program} {m m' : Mem} {slot : Nat} {ρ : Operand → V} {op : Op} {v : V} (hc : clsOf op ≠ .writes) (h : opQ P true m slot ρ op = some (v, m')) : m' = m := by
 have hm : ∀ {x : Option V}, x.map (·, m) = some (v, m') → m' = m := by
  intro x hx
  cases x with
  | none => cases hx
  | some y => simp at hx; exact hx.2.symm
 cases op
 case buildSlice t len ps =>
  simp only [opQ] at h
  split at h
  ·split at h
   ·simp at h
    exact h.2.symm
   ·cases h
  ·cases h
 case makeFunc fn first captured =>
  cases fn <;> simp only [opQ, opV] at h <;> first | (cases h; done) | skip
  split at h
  ·simp at h; exact h.2.symm
  ·cases h
 all_goals first | (exact absurd rfl hc) | (simp only [opQ, opV] at h) <;> first | exact hm h | (simp at h; try exact h.2.symm) | skip
 all_goals (repeat' split at h) <;> first | (cases h; done) | (simp at h; exact h.2.symm) | (exact hm h)
theorem opQ_any {P : Program} {m m' : Mem} {slot : Nat} {ρ : Operand → V} {op : Op} (hc : clsOf op = .pure) : opQ P true m' slot ρ op = (opQ P true m slot ρ op).map fun (v, _) => (v, m') := by
 have hm : ∀ {x : Option V}, x.map (·, m') = (x.map (·, m)).map fun (v, _) => (v, m') := by
  intro x
  cases x <;> rfl
 cases op
 case buildSlice t len ps =>
  simp only [opQ]
  split
  ·split <;> rfl
  ·rfl
 case makeFunc fn first captured =>
  cases fn <;> simp only [opQ, opV] <;> first | rfl | skip
  split <;> rfl
 all_goals first | (cases hc; done) | (simp only [opQ, opV]) <;> first | exact hm | rfl | skip
 all_goals (repeat' split) <;> first | rfl | exact hm | skip
theorem callV_keeps {m m' : Mem} {ρ : Operand → V} {c : Go.Call} {v : V} (hc : clsOf (.call c) ≠ .writes) (h : callV cfg call true ρ m c = some (v, m')) : m' = m := by
 have hm : ∀ {x : Option V}, x.map (·, m) = some (v, m') → m' = m := by
  intro x hx
  cases x with
  | none => cases hx
  | some y => simp at hx; exact hx.2.symm
 obtain ⟨callee, args, ts⟩ := c
 have hd : ∀ f as, doCall cfg call true f as m = some (v, m') → m' = m := by
  intro f as h
  unfold doCall at h
  split at h
  ·simp at h
  ·obtain ⟨x, _, h⟩ := Option.bind_eq_some_iff.1 h
   split at h
   ·simp at h; exact h.2.symm
   ·cases h
  ·obtain ⟨as', _, h⟩ := Option.bind_eq_some_iff.1 h
   obtain ⟨⟨x, m2⟩, _, h⟩ := Option.bind_eq_some_iff.1 h
   obtain ⟨y, _, h⟩ := Option.bind_eq_some_iff.1 h
   split at h
   ·simp at h; exact h.2.symm
   ·simp at h
  ·obtain ⟨⟨x, m2⟩, _, h⟩ := Option.bind_eq_some_iff.1 h
   exact hm h
 unfold callV at h
 cases callee with
 | builtin b =>
  simp only at h
  cases b <;> first | (exact absurd rfl hc) | skip
  all_goals
   unfold builtinV at h
   split at h <;> first | (exact hm h) | (cases h; done) | contradiction
 | value f =>
  simp only at h
  split at h
  ·exact hd _ _ h
  ·simp at h
  ·cases h
 | invoke r k => cases h
theorem core_keeps {slot : Nat} {o : Oper} {g : Option Bool} {ρ : Operand → V} {m m' : Mem} {v : V} (hc : clsOf o.op ≠ .writes) (h : stepCore cfg call slot o g ρ m = some (v, m')) : m' = m := by
 unfold stepCore at h
 split at h
 ·cases h
 ·simp at h; exact h.2.symm
 ·split at h
  ·rename_i c ho
   rw [ho] at hc
   exact callV_keeps hc h
  ·exact opQ_keeps hc h
theorem core_any {slot : Nat} {o : Oper} {g : Option Bool} {ρ : Operand → V} {m : Mem} (hc : clsOf o.op = .pure) (m' : Mem) : stepCore cfg call slot o g ρ m' = (stepCore cfg call slot o g ρ m).map fun (v, _) => (v, m') := by
 unfold stepCore
 split
 ·rfl
 ·rfl
 ·split
  ·rename_i c ho
   rw [ho] at hc
   obtain ⟨callee, args, ts⟩ := c
   cases callee with
   | builtin b => cases b <;> cases hc
   | value f => cases hc
   | invoke r k => cases hc
  ·exact opQ_any hc
theorem core_congr {slot : Nat} {o : Oper} {g : Option Bool} {ρ ρ' : Operand → V} {m : Mem} (h : ∀ x ∈ o.op.operands, ρ x = ρ' x) : stepCore cfg call slot o g ρ m = stepCore cfg call slot o g ρ' m := by
 unfold stepCore
 split
 ·rfl
 ·rfl
 ·split
  ·rename_i c ho
   rw [ho] at h
   exact callV_congr c h
  ·exact opQ_congr _ h
theorem names_dst {o : Oper} {d : Tmp} (h : o.dst = some d) : d ∈ namesOf ops o := by simp [namesOf, h]
theorem guard_putV {o : Oper} {tm : List V} {d : Option Tmp} {x : V} (h : ∀ t, d = some t → t ∉ namesOf ops o) : guardV ops (putV tm d x) o = guardV ops tm o := by
 cases d with
 | none => rfl
 | some d =>
  unfold guardV
  cases hg : o.guard with
  | none => rfl
  | some gw =>
   obtain ⟨j, want⟩ := gw
   simp only
   cases ht : (ops[j]?).bind (·.dst) with
   | none => rfl
   | some t =>
    have hne : d ≠ t := fun e => h d rfl (by subst e; simp [namesOf, hg, ht])
    simp [putV, List.getElem?_set_ne hne]
theorem rho_putV {o : Oper} {tm : List V} {d : Option Tmp} {y : V} (h : ∀ t, d = some t → t ∉ namesOf ops o) : ∀ x ∈ o.op.operands, evalO (putV tm d y) x = evalO tm x := fun x hx =>
 evalO_putV fun t ht e => h t ht (by
  subst e
  simp only [namesOf, List.mem_append, List.mem_filterMap]
  exact .inl (.inr ⟨.tmp t, by simpa using hx, rfl⟩))
theorem putV_comm {tm : List V} {a b : Option Tmp} {x y : V} (h : ∀ d, a = some d → b ≠ some d) : putV (putV tm a x) b y = putV (putV tm b y) a x := by
 cases a with
 | none => rfl
 | some a =>
  cases b with
  | none => rfl
  | some b => exact List.set_comm _ _ (fun e => h a rfl (by rw [e]))
theorem clash_spec {a b : Oper} (h : clash cfg ops a b = false) :
  (∀ d, a.dst = some d → d ∉ namesOf ops b) ∧ (∀ d, b.dst = some d → d ∉ namesOf ops a) ∧ (apart cfg ops a.op b.op = true ∨ ((clsOf a.op = .writes → clsOf b.op = .pure) ∧ (clsOf b.op = .writes → clsOf a.op = .pure))) := by
 unfold clash at h
 simp only [Bool.or_eq_false_iff, Bool.and_eq_false_iff] at h
 obtain ⟨⟨h1, h2⟩, h3⟩ := h
 refine ⟨fun d hd => ?_, fun d hd => ?_, ?_⟩
 ·rw [hd] at h1
  simpa using h1
 ·rw [hd] at h2
  simpa using h2
 ·rcases h3 with h3 | h3
  ·exact .inl (by simpa using h3)
  ·refine .inr ⟨fun hw => ?_, fun hw => ?_⟩
   ·have h3 := h3.1
    simpa [hw] using h3
   ·have h3 := h3.2
    simpa [hw] using h3
theorem storeA_B {P : Program} {m m' : Mem} {slot : Nat} {ρ : Operand → V} {op : Op} {v : V} (hs : storesA ops op = true) (hc : chkQ P ops ρ op = true) (h : opQ P true m slot ρ op = some (v, m')) : m'.B = m.B ∧ m'.lb = m.lb := by
 unfold storesA at hs
 split at hs
 ·rename_i t p x
  simp only [chkQ, hs, Bool.not_true, Bool.false_or, Bool.and_eq_true] at hc
  replace hc := hc.1
  simp only [opQ, opV] at h
  obtain ⟨m2, h1, h2⟩ := Option.map_eq_some_iff.1 h
  simp only [Prod.mk.injEq] at h2
  obtain ⟨rfl, rfl⟩ := h2
  unfold ptrV at hc
  split at hc
  ·rename_i i off hp
   rw [hp] at h1
   unfold storeV at h1
   split at h1
   ·split at h1
    ·unfold wrCells at h1
     simp only at h1
     split at h1
     ·split at h1
      ·injection h1 with h1
       subst h1
       exact ⟨rfl, rfl⟩
      ·cases h1
     ·cases h1
    ·cases h1
   ·cases h1
  ·cases hc
 ·cases hs
theorem contents_B {m m' : Mem} (hB : m'.B = m.B) (sz : Nat) (x : V) : contents m' sz x = contents m sz x := by
 cases x <;> simp only [contents, hB]
theorem readB_op {P : Program} {m m' : Mem} {slot : Nat} {ρ : Operand → V} {op : Op} (hr : readsB cfg ops op = true) (hP : P = cfg.P) (hn : ∀ c, op ≠ .call c) (hc : chkQ P ops ρ op = true) (hB : m'.B = m.B) : opQ P true m' slot ρ op = (opQ P true m slot ρ op).map fun (v, _) => (v, m') := by
 have hm : ∀ {x : Option V}, x.map (·, m') = (x.map (·, m)).map fun (v, _) => (v, m') := by
  intro x
  cases x <;> rfl
 cases op <;> first | (cases hr; done) | skip
 case load t p =>
  simp only [readsB] at hr
  subst hP
  simp only [chkQ, hr, Bool.not_true, Bool.false_or] at hc
  simp only [opQ, opV]
  have e : loadV cfg.P m' t (ρ p) = loadV cfg.P m t (ρ p) := by
   have e1 : ∀ n, rdCells m' (ρ p) n = rdCells m (ρ p) n := by
    intro n
    unfold rowPV at hc
    split at hc
    ·rename_i hp; rw [hp]; simp only [rdCells, hB]
    ·rename_i hp; rw [hp]; rfl
    ·cases hc
   simp only [loadV, e1]
  rw [e]
  exact hm
 case lookup t x k ok =>
  simp only [opQ, opV]
  have e : lookupV P m' t (ρ x) (ρ k) ok = lookupV P m t (ρ x) (ρ k) ok := by simp only [lookupV, hB]
  rw [e]
  exact hm
 case slice t x lo hi mx =>
  simp only [opQ, opV]
  have e : sliceV P m' t (ρ x) (lo.map ρ) (hi.map ρ) (mx.map ρ) = sliceV P m t (ρ x) (lo.map ρ) (hi.map ρ) (mx.map ρ) := by simp only [sliceV, hB]
  rw [e]
  exact hm
 case convert s d x =>
  simp only [opQ, opV]
  have e : convV P m' s d (ρ x) = convV P m s d (ρ x) := by simp only [convV, contents_B hB]
  rw [e]
  exact hm
 case call c => exact absurd rfl (hn c)
theorem readB_call {m m' : Mem} {ρ : Operand → V} {c : Go.Call} (hr : readsB cfg ops (.call c) = true) (hρ : ∀ f, ρ (.func f) = .fn f []) (hB : m'.B = m.B) (hl : m'.lb = m.lb) : callV cfg call true ρ m' c = (callV cfg call true ρ m c).map fun (v, _) => (v, m') := by
 have hm : ∀ {x : Option V}, x.map (·, m') = (x.map (·, m)).map fun (v, _) => (v, m') := by
  intro x
  cases x <;> rfl
 obtain ⟨callee, args, ts⟩ := c
 cases callee with
 | builtin b =>
  cases b <;> first | (cases hr; done) | skip
  simp only [callV, builtinV]
  have e : ∀ t x, lenV cfg.P m' t x = lenV cfg.P m t x := by intro t x; simp only [lenV, hB]
  split <;> first | contradiction | (rw [e]; exact hm) | rfl
 | invoke r k => cases hr
 | value o =>
  cases o <;> first | (cases hr; done) | skip
  rename_i f
  simp only [readsB, Bool.or_eq_true, beq_iff_eq] at hr
  simp only [callV, hρ]
  unfold doCall
  rcases hr with hr | hr
  ·simp only [hr, hB, hl]
   cases h1 : shutL m.B m.lb (args.toList.map ρ ++ []) with
   | none => rfl
   | some as =>
    simp only [Option.bind_some]
    cases h2 : call (.fn f) as Mem.empty with
    | none => rfl
    | some x =>
     obtain ⟨v, m2⟩ := x
     simp only [Option.bind_some]
     cases h3 : shut m2.B 0 v with
     | none => rfl
     | some v' =>
      simp only [Option.bind_some]
      split <;> simp
  ·simp only [hr]
   cases h1 : cfg.ext f (args.toList.map ρ ++ []) with
   | none => rfl
   | some v =>
    simp only [Option.bind_some]
    split <;> rfl
theorem core_readB {slot : Nat} {o : Oper} {g : Option Bool} {ρ : Operand → V} {m m' : Mem} (hr : readsB cfg ops o.op = true) (hρ : ∀ f, ρ (.func f) = .fn f []) (hc : g = some true → chkQ cfg.P ops ρ o.op = true) (hB : m'.B = m.B) (hl : m'.lb = m.lb) :
  stepCore cfg call slot o g ρ m' = (stepCore cfg call slot o g ρ m).map fun (v, _) => (v, m') := by
 unfold stepCore
 split
 ·rfl
 ·rfl
 ·split
  ·rename_i c ho
   rw [ho] at hr
   exact readB_call hr hρ hB hl
  ·rename_i hn
   exact readB_op hr rfl (fun c e => hn c e) (hc rfl) hB
theorem core_storeA {slot : Nat} {o : Oper} {g : Option Bool} {ρ : Operand → V} {m m' : Mem} {v : V} (hs : storesA ops o.op = true) (hc : g = some true → chkQ cfg.P ops ρ o.op = true) (h : stepCore cfg call slot o g ρ m = some (v, m')) : m'.B = m.B ∧ m'.lb = m.lb := by
 unfold stepCore at h
 split at h
 ·cases h
 ·simp at h; obtain ⟨_, rfl⟩ := h; exact ⟨rfl, rfl⟩
 ·split at h
  ·rename_i c ho
   rw [ho] at hs
   cases hs
  ·exact storeA_B hs (hc rfl) h
theorem readsB_cls {op : Op} (h : readsB cfg ops op = true) : clsOf op ≠ .writes := by
 cases op <;> first | (cases h; done) | (intro e; cases e; done) | skip
 rename_i c
 obtain ⟨callee, args, ts⟩ := c
 cases callee with
 | builtin b => cases b <;> first | (cases h; done) | (intro e; cases e; done)
 | value o => intro e; cases e
 | invoke r k => cases h
theorem chkAt_eq {i : Nat} {o : Oper} {st : St} (hi : ops[i]? = some o) : chkAt cfg.P ops i st = true ↔ (guardV ops st.tm o = some true → chkQ cfg.P ops (evalO st.tm) o.op = true) := by
 unfold chkAt
 simp only [hi]
 split
 ·rename_i h; simp [h]
 ·rename_i h; exact ⟨fun _ e => absurd e h, fun _ => rfl⟩
theorem chkQ_congr {P : Program} {ρ ρ' : Operand → V} {op : Op} (h : ∀ x ∈ op.operands, ρ x = ρ' x) (hw : ∀ w, (ops.toList.any fun q => q.dst == some w) = false → ρ (.tmp w) = ρ' (.tmp w)) : chkQ P ops ρ op = chkQ P ops ρ' op := by
 cases op <;> simp only [chkQ]
 case load t p => rw [h p (by simp [Op.operands])]
 case store t p x =>
  have hp := h p (by simp [Op.operands])
  rw [hp]
  congr 1
  refine List.all_congr rfl fun q => ?_
  cases ha : apartV ops (.store t p x) q.op with
  | false => rfl
  | true =>
   simp only [Bool.not_true, Bool.false_or]
   unfold apartV at ha
   split at ha
   ·rename_i u w e1 e2
    simp only [e2, disjO]
    simp only [Bool.and_eq_true, Bool.not_eq_true'] at ha
    rw [hp, hw _ ha.2]
   ·cases ha
theorem stay {a : Nat} {oa : Oper} {tm : List V} {x : V} (ha : ops[a]? = some oa) : ∀ w, (ops.toList.any fun q => q.dst == some w) = false → evalO (putV tm oa.dst x) (.tmp w) = evalO tm (.tmp w) := fun w hw =>
 evalO_putV fun t ht e => by
  injection e with e
  subst e
  have : (ops.toList.any fun q => q.dst == some w) = true := List.any_eq_true.2 ⟨oa, by
   have := List.mem_of_getElem? (by rw [Array.getElem?_toList]; exact ha)
   exact this, by rw [ht]; simp⟩
  rw [hw] at this
  cases this
theorem apartV_go {P : Program} {m m' : Mem} {slot slot' : Nat} {ρ : Operand → V} {op : Op} {ob : Oper} {b : Nat} {v : V} (hb : ops[b]? = some ob) (ha : apartV ops op ob.op = true) (hc : chkQ P ops ρ op = true) (h : opQ P true m slot ρ op = some (v, m')) :
  opQ P true m' slot' ρ ob.op = (opQ P true m slot' ρ ob.op).map fun (v, _) => (v, m') := by
 have ha0 := ha
 unfold apartV at ha
 split at ha
 ·rename_i t u x t' w e2
  rw [e2] at ha0
  have hmem : ob ∈ ops.toList := List.mem_of_getElem? (by rw [Array.getElem?_toList]; exact hb)
  simp only [chkQ, Bool.and_eq_true, List.all_eq_true] at hc
  have hd := hc.2 ob hmem
  rw [e2, ha0] at hd
  simp only [Bool.not_true, Bool.false_or, disjO] at hd
  simp only [opQ, opV] at h
  obtain ⟨m2, h1, h2⟩ := Option.map_eq_some_iff.1 h
  simp only [Prod.mk.injEq] at h2
  obtain ⟨rfl, rfl⟩ := h2
  have key : ∀ n, rdCells m2 (ρ (.tmp w)) n = rdCells m (ρ (.tmp w)) n := by
   intro n
   unfold storeV at h1
   split at h1
   ·split at h1
    ·unfold wrCells at h1
     unfold disj at hd
     split at hd
     ·rename_i i o j o' ep er
      simp only [ep] at h1
      rw [er]
      split at h1
      ·split at h1
       ·injection h1 with h1
        subst h1
        have hne : i ≠ j := by
         intro e
         subst e
         simp at hd
        simp only [rdCells, List.getElem?_set_ne hne]
       ·cases h1
      ·cases h1
     ·rename_i i o _ _ _ ep er
      simp only [ep] at h1
      rw [er]
      split at h1
      ·split at h1
       ·injection h1 with h1
        subst h1
        rfl
       ·cases h1
      ·cases h1
     ·rename_i i o _ _ ep er
      rw [er]
      rfl
     ·cases hd
    ·cases h1
   ·cases h1
  rw [e2]
  simp only [opQ, opV]
  have e : loadV P m2 t' (ρ (.tmp w)) = loadV P m t' (ρ (.tmp w)) := by simp only [loadV, key]
  rw [e]
  cases loadV P m t' (ρ (.tmp w)) <;> rfl
 ·cases ha
theorem apartV_cls {a b : Op} (h : apartV ops a b = true) : clsOf b ≠ .writes := by
 unfold apartV at h
 split at h
 ·intro e; cases e
 ·cases h
theorem core_apartV {slot slot' : Nat} {oa ob : Oper} {b : Nat} {g g' : Option Bool} {ρ : Operand → V} {m m' : Mem} {v : V} (hb : ops[b]? = some ob) (ha : apartV ops oa.op ob.op = true) (hc : g = some true → chkQ cfg.P ops ρ oa.op = true) (h : stepCore cfg call slot oa g ρ m = some (v, m')) :
  stepCore cfg call slot' ob g' ρ m' = (stepCore cfg call slot' ob g' ρ m).map fun (v, _) => (v, m') := by
 have hnc : ∀ c, ob.op ≠ .call c := by
  intro c e
  rw [e] at ha
  unfold apartV at ha
  split at ha
  ·rename_i h1 h2; cases h2
  ·cases ha
 unfold stepCore
 split
 ·rfl
 ·rfl
 ·split
  ·rename_i c ho
   exact absurd ho (hnc c)
  ·unfold stepCore at h
   split at h
   ·cases h
   ·simp at h
    obtain ⟨_, rfl⟩ := h
    cases h9 : opQ cfg.P true m slot' ρ ob.op with
    | none => rfl
    | some x =>
     obtain ⟨a, b'⟩ := x
     have := opQ_keeps (apartV_cls ha) h9
     subst this
     rfl
   ·split at h
    ·rename_i c ho
     rw [ho] at ha
     unfold apartV at ha
     split at ha
     ·rename_i h1 h2; cases h1
     ·cases ha
    ·exact apartV_go hb ha (hc rfl) h
theorem swap {base a b : Nat} {oa ob : Oper} {st s1 s2 : St} (ha : ops[a]? = some oa) (hb : ops[b]? = some ob) (hcl : clash cfg ops oa ob = false)
  (q1 : chkAt cfg.P ops a st = true) (h1 : stepAt cfg call true ops base a st = some s1) (q2 : chkAt cfg.P ops b s1 = true) (h2 : stepAt cfg call true ops base b s1 = some s2) :
  ∃ s', chkAt cfg.P ops b st = true ∧ stepAt cfg call true ops base b st = some s' ∧ chkAt cfg.P ops a s' = true ∧ stepAt cfg call true ops base a s' = some s2 := by
 obtain ⟨n1, n2, w12⟩ := clash_spec hcl
 rw [stepAt_draw ha] at h1
 obtain ⟨⟨va, ma⟩, c1, e1⟩ := Option.map_eq_some_iff.1 h1
 simp only at e1
 subst e1
 rw [stepAt_draw hb] at h2
 obtain ⟨⟨vb, mb⟩, c2, e2⟩ := Option.map_eq_some_iff.1 h2
 simp only at e2 c2
 subst e2
 rw [chkAt_eq ha] at q1
 rw [chkAt_eq hb] at q2
 simp only at q2
 rw [guard_putV n1, chkQ_congr (rho_putV n1) (stay ha)] at q2
 rw [guard_putV n1, core_congr (rho_putV n1)] at c2
 have hcomm : ∀ x y, putV (putV st.tm oa.dst x) ob.dst y = putV (putV st.tm ob.dst y) oa.dst x := fun x y => putV_comm fun d hd e => n1 d hd (names_dst e)
 have fin : ∀ mb', stepCore cfg call (base + slotOf ops b) ob (guardV ops st.tm ob) (evalO st.tm) st.mem = some (vb, mb') →
   stepCore cfg call (base + slotOf ops a) oa (guardV ops st.tm oa) (evalO st.tm) mb' = some (va, mb) →
   ∃ s', chkAt cfg.P ops b st = true ∧ stepAt cfg call true ops base b st = some s' ∧ chkAt cfg.P ops a s' = true ∧ stepAt cfg call true ops base a s' = some { st with tm := putV (putV st.tm oa.dst va) ob.dst vb, mem := mb } := by
  intro mb' k1 k2
  refine ⟨{ st with tm := putV st.tm ob.dst vb, mem := mb' }, ?_, ?_, ?_, ?_⟩
  ·rw [chkAt_eq hb]; exact q2
  ·rw [stepAt_draw hb, k1]
   rfl
  ·rw [chkAt_eq ha]
   simp only
   rw [guard_putV n2, chkQ_congr (rho_putV n2) (stay hb)]
   exact q1
  ·rw [stepAt_draw ha]
   simp only
   rw [guard_putV n2, core_congr (rho_putV n2), k2, hcomm]
   rfl
 have hρ : ∀ f, evalO st.tm (.func f) = .fn f [] := fun _ => rfl
 rcases w12 with hap | ⟨w1, w2⟩
 ·unfold apart at hap
  simp only [Bool.or_eq_true, Bool.and_eq_true] at hap
  rcases hap with (⟨sa, rb⟩ | ⟨sb, ra⟩) | hap | hap
  ·obtain ⟨eB, el⟩ := core_storeA sa q1 c1
   rw [core_readB rb hρ q2 eB el] at c2
   obtain ⟨⟨x, mx⟩, k1, k2⟩ := Option.map_eq_some_iff.1 c2
   simp only [Prod.mk.injEq] at k2
   obtain ⟨rfl, rfl⟩ := k2
   have := core_keeps (readsB_cls rb) k1
   subst this
   exact fin _ k1 c1
  ·have hma := core_keeps (readsB_cls ra) c1
   subst hma
   obtain ⟨eB, el⟩ := core_storeA sb q2 c2
   refine fin mb c2 ?_
   rw [core_readB ra hρ q1 eB el, c1]
   rfl
  ·rw [core_apartV hb hap q1 c1] at c2
   obtain ⟨⟨x, mx⟩, k1, k2⟩ := Option.map_eq_some_iff.1 c2
   simp only [Prod.mk.injEq] at k2
   obtain ⟨rfl, rfl⟩ := k2
   have := core_keeps (apartV_cls hap) k1
   subst this
   exact fin _ k1 c1
  ·have hma := core_keeps (apartV_cls hap) c1
   subst hma
   refine fin mb c2 ?_
   rw [core_apartV ha hap q2 c2, c1]
   rfl
 by_cases hwa : clsOf oa.op = .writes
 ·have hb' := w1 hwa
  rw [core_any hb' (m := st.mem) ma] at c2
  obtain ⟨⟨x, mx⟩, k1, k2⟩ := Option.map_eq_some_iff.1 c2
  simp only [Prod.mk.injEq] at k2
  obtain ⟨rfl, rfl⟩ := k2
  have := core_keeps (by rw [hb']; exact fun h => nomatch h) k1
  subst this
  exact fin _ k1 c1
 ·have hma := core_keeps hwa c1
  subst hma
  refine fin mb c2 ?_
  by_cases hwb : clsOf ob.op = .writes
  ·rw [core_any (w2 hwb) (m := st.mem) mb, c1]
   rfl
  ·have := core_keeps hwb c2
   subst this
   exact c1
theorem runOps_cons {draw : Bool} {base i : Nat} {l : List Nat} {st f : St} : runOps cfg call draw ops base (i :: l) st = some f ↔ ((draw = true → chkAt cfg.P ops i st = true) ∧ ∃ s, stepAt cfg call draw ops base i st = some s ∧ runOps cfg call draw ops base l s = some f) := by
 simp only [runOps]
 constructor
 ·intro h
  split at h
  ·cases h
  ·rename_i hc
   exact ⟨fun hd => by simpa [hd] using hc, Option.bind_eq_some_iff.1 h⟩
 ·rintro ⟨hc, h⟩
  rw [if_neg (by
   intro hb
   simp only [Bool.and_eq_true, Bool.not_eq_true'] at hb
   rw [hc hb.1] at hb
   cases hb.2)]
  exact Option.bind_eq_some_iff.2 h
theorem hoist {base i : Nat} {oi : Oper} (hi : ops[i]? = some oi) {U2 : List Nat} {f : St} : ∀ (U1 : List Nat) (st : St), (∀ u ∈ U1, ∃ ou, ops[u]? = some ou ∧ clash cfg ops ou oi = false) →
  runOps cfg call true ops base (U1 ++ i :: U2) st = some f → ∃ st', chkAt cfg.P ops i st = true ∧ stepAt cfg call true ops base i st = some st' ∧ runOps cfg call true ops base (U1 ++ U2) st' = some f
 | [], st, _, h => by
  simp only [List.nil_append] at h ⊢
  obtain ⟨hc, s, h1, h2⟩ := runOps_cons.1 h
  exact ⟨s, hc rfl, h1, h2⟩
 | u :: U1, st, hU, h => by
  simp only [List.cons_append] at h ⊢
  obtain ⟨hc, s, h1, h2⟩ := runOps_cons.1 h
  obtain ⟨s', h3, h4, h5⟩ := hoist hi U1 s (fun u hu => hU u (List.mem_cons_of_mem _ hu)) h2
  obtain ⟨ou, hou, hcl⟩ := hU u (List.mem_cons_self ..)
  obtain ⟨s'', k1, k2, k3, k4⟩ := swap hou hi hcl (hc rfl) h1 h3 h4
  exact ⟨s'', k1, k2, runOps_cons.2 ⟨fun _ => k3, s', k4, h5⟩⟩
inductive Reach (ops : Array Oper) : Nat → Nat → Prop
 | one {j : Nat} {o : Oper} {e : Edge} : ops[j]? = some o → e ∈ o.after → Region.binds .any e = true → Reach ops j e.on
 | more {j k : Nat} {o : Oper} {e : Edge} : ops[j]? = some o → e ∈ o.after → Region.binds .any e = true → Reach ops e.on k → Reach ops j k
theorem oneBef_bit {look : Nat → Nat} {i : Nat} : ∀ (l : List Edge) (s : Nat), (l.foldl (fun s e => if Region.binds .any e then s ||| 2 ^ e.on ||| look e.on else s) s).testBit i = true →
  s.testBit i = true ∨ ∃ e ∈ l, Region.binds .any e = true ∧ (e.on = i ∨ (look e.on).testBit i = true)
 | [], s, h => .inl h
 | e :: l, s, h => by
  simp only [List.foldl_cons] at h
  rcases oneBef_bit l _ h with h | ⟨e', h1, h2, h3⟩
  ·split at h
   ·rename_i hb
    simp only [Nat.testBit_or, Bool.or_eq_true, Nat.testBit_two_pow, decide_eq_true_eq] at h
    rcases h with (h | h) | h
    ·exact .inl h
    ·exact .inr ⟨e, List.mem_cons_self .., hb, .inl h⟩
    ·exact .inr ⟨e, List.mem_cons_self .., hb, .inr h⟩
   ·exact .inl h
  ·exact .inr ⟨e', List.mem_cons_of_mem _ h1, h2, h3⟩
theorem forceN_eq {α : Type} (n : Nat) (k : Nat → α) : forceN n k = k n := by cases n <;> rfl
theorem befs_reach : ∀ (l : List Oper) (done : List Oper) (acc : List Nat), ops.toList = done ++ l → acc.length = done.length → (∀ j i, (acc.getD j 0).testBit i = true → Reach ops j i) →
  ∀ j i, ((befs l acc).getD j 0).testBit i = true → Reach ops j i
 | [], done, acc, _, _, h, j, i, hb => h j i hb
 | o :: l, done, acc, he, hl, h, j, i, hb => by
  rw [befs, forceN_eq] at hb
  refine befs_reach l (done ++ [o]) (acc ++ [oneBef (fun i => acc.getD i 0) o]) (by simp [he]) (by simp [hl]) (fun j i hb => ?_) j i hb
  rcases Nat.lt_trichotomy j acc.length with hj | hj | hj
  ·refine h j i ?_
   rw [List.getD_eq_getElem?_getD] at hb ⊢
   rw [List.getElem?_append_left hj] at hb
   exact hb
  ·subst hj
   have ho : ops[acc.length]? = some o := by
    rw [← Array.getElem?_toList, he, List.getElem?_append_right (by omega)]
    simp [hl]
   rw [List.getD_eq_getElem?_getD, List.getElem?_append_right (Nat.le_refl _)] at hb
   simp only [Nat.sub_self, List.getElem?_cons_zero, Option.getD_some] at hb
   unfold oneBef at hb
   rcases oneBef_bit (look := fun i => acc.getD i 0) _ _ hb with hz | ⟨e, h1, h2, h3⟩
   ·simp at hz
   ·have h1 : e ∈ o.after := by simpa using h1
    rcases h3 with h3 | h3
    ·subst h3
     exact .one ho h1 h2
    ·exact .more ho h1 h2 (h _ _ h3)
  ·rw [List.getD_eq_getElem?_getD, List.getElem?_eq_none (by simp; omega)] at hb
   simp at hb
theorem drawOk_spec (h : drawOk cfg ops = true) : (∀ j o, ops[j]? = some o → ∀ e ∈ o.after, Region.binds .any e = true → e.on < j) ∧
  (∀ i j a b, i < j → ops[i]? = some a → ops[j]? = some b → clash cfg ops a b = false ∨ Reach ops j i) := by
 unfold drawOk at h
 have key : ∀ (j : Nat) (b : Oper), ops[j]? = some b → (b, j) ∈ ops.toList.zipIdx := fun j b hb => by
  rw [List.mem_zipIdx_iff_getElem?]
  simpa using hb
 simp only [List.all_eq_true] at h
 constructor
 ·intro j o ho e he hb
  have h1 := h _ (key j o ho)
  simp only [Bool.and_eq_true, List.all_eq_true] at h1
  have h2 := h1.1 e (by simpa using he)
  simpa [hb, Nat.blt_eq] using h2
 ·intro i j a b hij ha hb
  have h1 := h _ (key j b hb)
  simp only [Bool.and_eq_true, List.all_eq_true] at h1
  have h2 := h1.2 _ (key i a ha)
  have hlt : Nat.blt i j = true := by rw [Nat.blt_eq]; exact hij
  simp only [hlt, Bool.not_true, Bool.false_or, Bool.or_eq_true, Bool.not_eq_true'] at h2
  rcases h2 with h2 | h2
  ·exact .inl h2
  ·exact .inr (befs_reach (ops := ops) ops.toList [] [] (by simp) rfl (fun j i h => by simp at h) j i h2)
end
end Go.Proofs.YtpdgbhjhodhkiaaGreatDoor.AI
namespace Go.Proofs.YtpdgbhjhodhkiaaGreatDoor.AI
open Go
variable {kp : Kp}
section
variable {lo : Nat} {cfg : Cfg} {call : Call} {ops : Array Oper} {cx0 : Cx} {m0 : Mem} {w0 : World}
theorem RInv.weaken {P : Program} {X Y : Nat → Prop} {cx : Cx} {st : St} {act : Act} {w : World} (R : RInv kp lo P ops X cx0 m0 w0 cx st act w) (h : ∀ i, X i → Y i) : RInv kp lo P ops Y cx0 m0 w0 cx st act w :=
 ⟨R.fr, R.ev, R.la, fun i o t ho ht hY => R.un i o t ho ht fun hX => hY (h i hX)⟩
theorem runOps_sound (C : CallOk kp cfg call) (Xt : ExtOk kp cfg) {F : Fence} {draw : Bool} {st' : St} {Q : Exit → Act → World → Prop} : ∀ (l : List Nat) (X : Nat → Prop) (cx : Cx) (st : St) (act : Act) (w : World), RdOk F st.rd → l.Nodup → (∀ i ∈ l, ¬ X i) →
  RInv kp lo cfg.P ops X cx0 m0 w0 cx st act w → runOps cfg call draw ops m0.A.length l st = some st' →
  (∀ cx' act' w' X', st'.rd = st.rd → RInv kp lo cfg.P ops X' cx0 m0 w0 cx' st' act' w' → Q .normal act' w') → wpOpsIn F 0 cfg.P ops Q l act w
 | [], X, cx, st, act, w, hF, _, _, R, h, hK => by
  simp only [runOps] at h
  injection h with h
  subst h
  exact hK cx act w X rfl R
 | i :: l, X, cx, st, act, w, hF, hnd, hX, R, h, hK => by
  rw [wpOpsIn_cons]
  obtain ⟨_, s, h1, h2⟩ := runOps_cons.1 h
  have hnd' := List.nodup_cons.1 hnd
  cases hi : ops[i]? with
  | none =>
   unfold wpOpIn
   unfold stepAt at h1
   simp only [hi] at h1 ⊢
   injection h1 with h1
   subst h1
   exact runOps_sound C Xt l X cx st act w hF hnd'.2 (fun j hj => hX j (List.mem_cons_of_mem _ hj)) R h2 hK
  | some o =>
   refine step_sound C Xt hF hi (hX i (List.mem_cons_self ..)) R h1 fun cx' act' w' hrd R' => ?_
   refine runOps_sound C Xt l _ cx' s act' w' (by rw [hrd]; exact hF) hnd'.2 (fun j hj => ?_) R' h2 (fun cx'' act'' w'' X' hrd' R'' => hK cx'' act'' w'' X' (hrd'.trans hrd) R'')
   rintro (h | h)
   ·exact hX j (List.mem_cons_of_mem _ hj) h
   ·exact hnd'.1 (h ▸ hj)
def unl (ops : Array Oper) (listed : Array Bool) : List Nat := (List.range ops.size).filter fun i => !listed.getD i true
theorem reach_listed {listed : Array Bool} (hcl : ∀ (j : Nat) (o : Oper), ops[j]? = some o → listed.getD j false = true → ∀ e ∈ o.after, Region.binds .any e = true → listed.getD e.on false = true) {j i : Nat} (hr : Reach ops j i) :
  (∀ (o : Oper), ops[j]? = some o → ∀ e ∈ o.after, Region.binds .any e = true → listed.getD e.on false = true) → listed.getD i false = true := by
 induction hr with
 | one ho he hb => exact fun h => h _ ho _ he hb
 | more ho he hb _ ih => exact fun h => ih fun o' ho' => hcl _ o' ho' (h _ ho _ he hb)
theorem range_split {n i : Nat} (h : i < n) : List.range n = List.range i ++ i :: List.range' (i + 1) (n - i - 1) := by
 rw [List.range_eq_range', List.range_eq_range']
 have h1 : List.range' 0 n = List.range' 0 i ++ List.range' i (n - i) := by
  rw [show List.range' i (n - i) = List.range' (0 + 1 * i) (n - i) by simp, List.range'_append]
  congr 1
  omega
 rw [h1]
 congr 1
 have h2 : n - i = (n - i - 1) + 1 := by omega
 rw [h2, List.range'_succ]
 rfl
theorem unl_split {listed : Array Bool} {i : Nat} (hi : i < ops.size) (hl : listed.getD i true = false) : ∃ U1 U2, unl ops listed = U1 ++ i :: U2 ∧ unl ops (listed.setIfInBounds i true) = U1 ++ U2 ∧ (∀ u ∈ U1, u < i ∧ listed.getD u true = false) := by
 have hne : ∀ j, j ≠ i → (listed.setIfInBounds i true).getD j true = listed.getD j true := fun j hj => getD_set_ne true (Ne.symm hj)
 have hsi : (listed.setIfInBounds i true).getD i true = true := by
  by_cases h : i < listed.size
  ·simp [h]
  ·simp [h]
 refine ⟨(List.range i).filter fun i => !listed.getD i true, (List.range' (i + 1) (ops.size - i - 1)).filter fun i => !listed.getD i true, ?_, ?_, ?_⟩
 ·unfold unl
  rw [range_split hi, List.filter_append, List.filter_cons]
  simp only [hl, Bool.not_false, if_true]
 ·unfold unl
  rw [range_split hi, List.filter_append, List.filter_cons]
  simp only [hsi, Bool.not_true, Bool.false_eq_true, if_false]
  congr 1
  ·exact List.filter_congr fun j hj => by
    have : j < i := List.mem_range.1 hj
    rw [hne j (by omega)]
  ·exact List.filter_congr fun j hj => by
    have := (List.mem_range'_1.1 hj).1
    rw [hne j (by omega)]
 ·intro u hu
  rw [List.mem_filter, List.mem_range] at hu
  exact ⟨hu.1, by simpa using hu.2⟩
theorem draw_sound (C : CallOk kp cfg call) (Xt : ExtOk kp cfg) {F : Fence} (hd : drawOk cfg ops = true) {st' : St} {Q : Exit → Act → World → Prop} : ∀ (fuel : Nat) (listed : Array Bool) (cx : Cx) (st : St) (act : Act) (w : World), RdOk F st.rd →
  listed.size = ops.size → (unl ops listed).length ≤ fuel →
  (∀ (j : Nat) (o : Oper), ops[j]? = some o → listed.getD j false = true → ∀ e ∈ o.after, Region.binds .any e = true → listed.getD e.on false = true) →
  RInv kp lo cfg.P ops (fun j => listed.getD j true = true) cx0 m0 w0 cx st act w → runOps cfg call true ops m0.A.length (unl ops listed) st = some st' →
  (∀ cx' act' w' X', st'.rd = st.rd → RInv kp lo cfg.P ops X' cx0 m0 w0 cx' st' act' w' → Q .normal act' w') → wpAnyIn F 0 cfg.P .any ops Q fuel listed act w := by
 obtain ⟨hback, hcl⟩ := drawOk_spec hd
 have dflt : ∀ (listed : Array Bool) (j : Nat), listed.size = ops.size → j < ops.size → listed.getD j true = listed.getD j false := fun listed j hs hj => by
  simp [Array.getD, hs, hj]
 have done : ∀ (listed : Array Bool), listed.size = ops.size → Region.ready .any ops listed = [] → unl ops listed = [] := by
  intro listed hs hr
  have all : ∀ j, j < ops.size → listed.getD j false = true := by
   intro j
   induction j using Nat.strongRecOn with
   | ind j ih =>
    intro hj
    cases hlj : listed.getD j false
    ·exfalso
     have hm : j ∈ Region.ready .any ops listed := by
      rw [mem_ready]
      refine ⟨(dflt listed j hs hj).trans hlj, ops[j], Array.getElem?_eq_getElem hj, fun e he hb => ?_⟩
      have := hback j _ (Array.getElem?_eq_getElem hj) e he hb
      exact ih e.on this (by omega)
     rw [hr] at hm
     cases hm
    ·rfl
  unfold unl
  rw [List.filter_eq_nil_iff]
  intro j hj
  have hj := List.mem_range.1 hj
  rw [dflt listed j hs hj, all j hj]
  simp
 have fin : ∀ (listed : Array Bool) (cx : Cx) (st : St) (act : Act) (w : World), unl ops listed = [] → RInv kp lo cfg.P ops (fun j => listed.getD j true = true) cx0 m0 w0 cx st act w →
   runOps cfg call true ops m0.A.length (unl ops listed) st = some st' → (∀ cx' act' w' X', st'.rd = st.rd → RInv kp lo cfg.P ops X' cx0 m0 w0 cx' st' act' w' → Q .normal act' w') → Q .normal act w := by
  intro listed cx st act w hu R hrun hK
  rw [hu] at hrun
  simp only [runOps] at hrun
  injection hrun with hrun
  subst hrun
  exact hK cx act w _ rfl R
 intro fuel
 induction fuel with
 | zero =>
  intro listed cx st act w hF hs hf hlc R hrun hK
  have hu : unl ops listed = [] := List.length_eq_zero_iff.1 (by omega)
  refine ⟨?_, fin listed cx st act w hu R hrun hK⟩
  rw [List.eq_nil_iff_forall_not_mem]
  intro j hj
  obtain ⟨h1, o, ho, _⟩ := mem_ready.1 hj
  have : j ∈ unl ops listed := List.mem_filter.2 ⟨List.mem_range.2 (Array.getElem?_eq_some_iff.1 ho).1, by rw [h1]; rfl⟩
  rw [hu] at this
  cases this
 | succ fuel ih =>
  intro listed cx st act w hF hs hf hlc R hrun hK
  refine ⟨fun hr => fin listed cx st act w (done listed hs hr) R hrun hK, fun i hi => ?_⟩
  obtain ⟨h1, o, ho, hall⟩ := mem_ready.1 hi
  have hlt : i < ops.size := (Array.getElem?_eq_some_iff.1 ho).1
  obtain ⟨U1, U2, e1, e2, e3⟩ := unl_split hlt h1
  have hall' : ∀ (o' : Oper), ops[i]? = some o' → ∀ e ∈ o'.after, Region.binds .any e = true → listed.getD e.on false = true := fun o' ho' => by
   rw [ho] at ho'
   injection ho' with ho'
   subst ho'
   exact hall
  rw [e1] at hrun
  obtain ⟨s, _, k1, k2⟩ := hoist ho U1 st (fun u hu => by
   obtain ⟨g1, g2⟩ := e3 u hu
   have hul : u < ops.size := by omega
   refine ⟨ops[u], Array.getElem?_eq_getElem hul, ?_⟩
   rcases hcl u i _ _ g1 (Array.getElem?_eq_getElem hul) ho with h | h
   ·exact h
   ·have := reach_listed hlc h hall'
    rw [dflt listed u hs hul, this] at g2
    cases g2) hrun
  refine step_sound C Xt hF ho (by rw [h1]; simp) R k1 fun cx' act' w' hrd R' => ?_
  refine ih (listed.setIfInBounds i true) cx' s act' w' (by rw [hrd]; exact hF) (by simpa using hs) ?_ ?_ (R'.weaken fun j hj => ?_) (by rw [e2]; exact k2) (fun cx'' act'' w'' X' hrd' R'' => hK cx'' act'' w'' X' (hrd'.trans hrd) R'')
  ·rw [e2]
   rw [e1] at hf
   simp only [List.length_append, List.length_cons] at hf ⊢
   omega
  ·intro j o' hj hl e he hb
   by_cases hji : j = i
   ·subst hji
    exact getD_set_true (hall' o' hj e he hb)
   ·rw [getD_set_ne false (Ne.symm hji)] at hl
    exact getD_set_true (hlc j o' hj hl e he hb)
  ·by_cases hji : j = i
   ·subst hji
    simp [hs, hlt]
   ·rw [getD_set_ne true (Ne.symm hji)]
    exact hj.resolve_right hji
end
end Go.Proofs.YtpdgbhjhodhkiaaGreatDoor.AI
namespace Go.Proofs.YtpdgbhjhodhkiaaGreatDoor.AI
open Go
variable {kp : Kp}
section
variable {lo : Nat} {cfg : Cfg} {call : Call}
theorem preAlloc_get {P : Program} : ∀ (l : List Oper) (zs : List (List V)), preAlloc P l = some zs → ∀ (i : Nat) (o : Oper) (t : TypeId), l[i]? = some o → o.op = .alloc t → ∃ z, zeroCellsV P t = some z ∧ zs[(l.take i).countP isAlloc]? = some z
 | [], zs, h, i, o, t, ho, ht => by simp at ho
 | x :: l, zs, h, i, o, t, ho, ht => by
  simp only [preAlloc] at h
  split at h
  ·rename_i t' hx
   split at h
   ·rename_i z r hz hr
    injection h with h
    subst h
    cases i with
    | zero =>
     simp only [List.getElem?_cons_zero, Option.some.injEq] at ho
     subst ho
     rw [hx] at ht
     injection ht with ht
     subst ht
     exact ⟨z, hz, by simp⟩
    | succ i =>
     simp only [List.getElem?_cons_succ] at ho
     obtain ⟨z', h1, h2⟩ := preAlloc_get l r hr i o t ho ht
     refine ⟨z', h1, ?_⟩
     have hxa : isAlloc x = true := by simp [isAlloc, hx]
     simp only [List.take_succ_cons, List.countP_cons, hxa, if_true, List.getElem?_cons_succ]
     exact h2
   ·cases h
  ·rename_i hx
   cases i with
   | zero =>
    simp only [List.getElem?_cons_zero, Option.some.injEq] at ho
    subst ho
    exact absurd ht (hx t)
   | succ i =>
    simp only [List.getElem?_cons_succ] at ho
    obtain ⟨z', h1, h2⟩ := preAlloc_get l zs h i o t ho ht
    refine ⟨z', h1, ?_⟩
    have hxa : isAlloc x = false := by
     unfold isAlloc
     split
     ·rename_i t' e
      exact absurd e (hx t')
     ·rfl
    simp only [List.take_succ_cons, List.countP_cons, hxa, Bool.false_eq_true, if_false, Nat.add_zero]
    exact h2
theorem preAlloc_max {P : Program} : ∀ (l : List Oper) (zs : List (List V)), preAlloc P l = some zs → ∀ z ∈ zs, maxAL z = 0
 | [], zs, h, z, hz => by
  simp only [preAlloc] at h
  injection h with h
  subst h
  cases hz
 | x :: l, zs, h, z, hz => by
  simp only [preAlloc] at h
  split at h
  ·split at h
   ·rename_i z0 r hz0 hr
    injection h with h
    subst h
    rcases List.mem_cons.1 hz with rfl | hz
    ·obtain ⟨i, zv, _, _, rfl, _⟩ := zeroCells_some hz0
     exact map_ofConst0_maxA _
    ·exact preAlloc_max l r hr z hz
   ·cases h
  ·exact preAlloc_max l zs h z hz
theorem sim_pushAs {cx : Cx} {m : Mem} {w : World} (S : Sim kp cx m w) (zs : List (List V)) : Sim kp cx { m with A := m.A ++ zs } w ∧ Ev m.A.length cx m w cx { m with A := m.A ++ zs } w := by
 refine ⟨⟨fun i cs h c hc => ?_, fun i c hc => ?_, S.B, S.nb, S.fo, S.fresh, ?_, S.lb, S.kept⟩, ?_⟩
 ·have hlt := S.fa i c hc
  simp only at h
  rw [List.getElem?_append_left hlt] at h
  exact S.A i cs h c hc
 ·have := S.fa i c hc
  simp only [List.length_append]
  omega
 ·have := S.la
  simp only [List.length_append]
  omega
 ·exact { Ev.refl cx m w m.A.length (Nat.le_refl _) with un := fun i hi _ => List.getElem?_append_left hi, ln := by simp, la := rfl, lb := rfl }
theorem FRel.heap {cx : Cx} {st : St} {act : Act} {w w' : World} (R : FRel kp lo cx st act w) (hh : w'.heap = w.heap) : FRel kp lo cx st act w' :=
 ⟨R.sim.heap hh, R.hi, VRelL.on (n := st.mem.A.length) (later_heap hh) (fun _ _ _ h => h) _ _ (VRelL.maxA R.sim.fa _ _ R.tm) R.tm,
  DfRel.on (later_heap hh) (n := st.mem.A.length) (fun _ _ _ h => h) (fun x v hv => VRel.maxA R.sim.fa x v hv) (fun c hc => ⟨by rw [hh], hc⟩) _ _ R.df⟩
theorem region_init {P : Program} {ops : Array Oper} {cx : Cx} {st : St} {act : Act} {w : World} {zs : List (List V)} {X : Nat → Prop} (R : FRel kp lo cx st act w) (hz : preAlloc P ops.toList = some zs) :
  RInv kp lo P ops X cx st.mem w cx { st with mem := { st.mem with A := st.mem.A ++ zs } } act w := by
 obtain ⟨S', E⟩ := sim_pushAs R.sim zs
 refine ⟨⟨S', R.hi.pushAs (preAlloc_max _ _ hz), R.tm, R.df⟩, E, R.sim.la, fun i o t ho ht _ => ⟨?_, ?_⟩⟩
 ·cases hc : cx.fa (st.mem.A.length + slotOf ops i) with
  | none => rfl
  | some c => exact absurd (R.sim.fa _ c hc) (by omega)
 ·obtain ⟨z, h1, h2⟩ := preAlloc_get _ _ hz i o t (by simpa using ho) ht
  refine ⟨z, h1, ?_⟩
  simp only
  rw [List.getElem?_append_right (by omega)]
  simpa [slotOf] using h2
theorem reg_sound (C : CallOk kp cfg call) (Xt : ExtOk kp cfg) (hm : cfg.P.follows .mixedOrders = true) {F : Fence} {id : Nat} {ops : Array Oper} {draw : Bool} {cx : Cx} {st st' : St} {act : Act} {w : World} {e : Ex}
  (hF : RdOk F st.rd) (R : FRel kp lo cx st act w) (h : regV cfg call draw ops st = some (e, st')) {Q : Exit → Act → World → Prop}
  (hK : ∀ cx' act' w', st'.rd = st.rd → FRel kp lo cx' st' act' w' → Ev st.mem.A.length cx st.mem w cx' st'.mem w' → Q .normal act' w') : e = .normal ∧ (Code.region id ops draw).wpIn F 0 cfg.P Q act w := by
 simp only [regV] at h
 split at h
 ·cases h
 ·rename_i hd
  split at h
  ·cases h
  ·rename_i zs hz
   obtain ⟨s, h1, h2⟩ := Option.map_eq_some_iff.1 h
   injection h2 with h2 h3
   subst h2 h3
   refine ⟨rfl, ?_⟩
   cases draw with
   | false =>
    refine wpIn_region (runOps_sound C Xt (List.range ops.size) (fun _ => False) cx { st with mem := { st.mem with A := st.mem.A ++ zs } } act w hF List.nodup_range (fun _ _ h => h) (region_init R hz) h1 fun cx' act' w' X' hrd R' => ?_)
    exact hK cx' act' w' hrd R'.fr R'.ev
   | true =>
    have hd' : drawOk cfg ops = true := by simpa using hd
    refine wpIn_region_any hm ?_
    have R1 : FRel kp lo cx st act { w with drawn := w.drawn + 1 } := R.heap rfl
    have E1 : Ev st.mem.A.length cx st.mem w cx st.mem { w with drawn := w.drawn + 1 } := Ev.heap rfl rfl rfl rfl
    have hu : unl ops (Array.replicate ops.size false) = List.range ops.size := by
     unfold unl
     rw [List.filter_eq_self]
     intro i hi
     have := List.mem_range.1 hi
     simp [this]
    refine draw_sound C Xt hd' (m0 := st.mem) (w0 := { w with drawn := w.drawn + 1 }) (cx0 := cx) (st' := s) ops.size (Array.replicate ops.size false) cx { st with mem := { st.mem with A := st.mem.A ++ zs } } act _ hF (by simp) (by rw [hu]; simp) (fun j o _ hl => ?_) (region_init R1 hz) (by rw [hu]; exact h1)
     (fun cx' act' w' X' hrd R' => hK cx' act' w' hrd R'.fr (E1.trans R'.ev (Nat.le_refl _)))
    by_cases hj : j < ops.size
    ·simp [hj] at hl
    ·simp [hj] at hl
theorem sealAt_used {m : Mem} {ts : List Tmp} : ∀ (vs : List V) (i : Nat), ∀ b ∈ (sealAt m ts i vs).2, ∃ sz ver fz cs, m.B[b]? = some (.cells sz ver true fz cs) ∧ m.lb ≤ b
 | [], i, b, hb => by simp [sealAt] at hb
 | v :: vs, i, b, hb => by
  simp only [sealAt] at hb
  split at hb
  ·split at hb
   ·split at hb
    ·rename_i b' ver off len v' hs
     rcases List.mem_cons.1 hb with rfl | hb
     ·exact shut_used hs b (by simp [V.used])
     ·exact sealAt_used vs (i + 1) b hb
    ·exact sealAt_used vs (i + 1) b hb
   ·exact sealAt_used vs (i + 1) b hb
  ·exact sealAt_used vs (i + 1) b hb
theorem sealAt_rel {cx : Cx} {m : Mem} {w : World} (S : Sim kp cx m w) {ts : List Tmp} {us : List Nat} : ∀ (vs : List V) (i : Nat) (cvs : List Value), (∀ b ∈ (sealAt m ts i vs).2, b ∈ us) → VRelL cx w vs cvs → VRelL (cx.frz us) w (sealAt m ts i vs).1 cvs
 | [], i, cvs, hu, h => by
  cases cvs with
  | nil => simp [sealAt, VRelL]
  | cons _ _ => simp [VRelL] at h
 | v :: vs, i, cvs, hu, h => by
  cases cvs with
  | nil => simp [VRelL] at h
  | cons c cvs =>
   simp only [VRelL] at h
   have hv : VRel (cx.frz us) w v c := VRel.on (n := m.A.length) (frz_later us w) (fun _ _ _ h => h) _ _ (VRel.maxA S.fa _ _ h.1) h.1
   simp only [sealAt] at hu ⊢
   split
   ·rename_i hc
    rw [if_pos hc] at hu
    split
    ·rename_i b ver off len
     split
     ·rename_i v' hs
      simp only [hs] at hu
      simp only [VRelL]
      refine ⟨?_, sealAt_rel S vs (i + 1) cvs (fun b hb => hu b (List.mem_cons_of_mem _ hb)) h.2⟩
      refine (shut_relU (fun b => b ∈ us) S (Nat.le_refl _) (fun blk hblk ho => ?_) _ v' c (fun b' hb' => ?_) h.1 hs).1
      ·rcases ho with ho | ⟨b2, hb2, ho⟩
       ·exact frz_non ho
       ·simp [Cx.frz, ho, hb2]
      ·simp only [V.used, List.mem_singleton] at hb'
       subst hb'
       exact hu b' List.mem_cons_self
     ·rename_i hs
      simp only [hs] at hu
      simp only [VRelL]
      exact ⟨hv, sealAt_rel S vs (i + 1) cvs hu h.2⟩
    ·rename_i hne
     simp only [VRelL]
     refine ⟨hv, sealAt_rel S vs (i + 1) cvs (fun b hb => hu b ?_) h.2⟩
     split
     ·rename_i b2 ver off len
      exact absurd rfl (hne _ _ _ _)
     ·exact hb
   ·rename_i hc
    rw [if_neg hc] at hu
    simp only [VRelL]
    exact ⟨hv, sealAt_rel S vs (i + 1) cvs hu h.2⟩
theorem seal_sound {cx : Cx} {st : St} {act : Act} {w : World} (R : FRel kp lo cx st act w) (ts : List Tmp) :
  ∃ cx', FRel kp lo cx' (sealSt ts st) act w ∧ Ev st.mem.A.length cx st.mem w cx' (sealSt ts st).mem w ∧ (sealSt ts st).mem.A = st.mem.A ∧ (sealSt ts st).rd = st.rd := by
 unfold sealSt
 split
 ·exact ⟨cx, R, Ev.refl _ _ _ _ (Nat.le_refl _), rfl, rfl⟩
 ·refine ⟨cx.frz (sealAt st.mem ts 0 st.tm).2, ⟨frz_sim R.sim (sealAt_used _ _), frz_hiOk R.hi _, sealAt_rel R.sim _ _ _ (fun _ h => h) R.tm, ?_⟩, frz_ev R.sim _, rfl, rfl⟩
  exact DfRel.on (frz_later _ w) (n := st.mem.A.length) (fun _ _ _ h => h) (fun x v hv => VRel.maxA R.sim.fa x v hv) (fun c hc => ⟨rfl, by simp [Cx.frz, hc]⟩) _ _ R.df
theorem region_sound (C : CallOk kp cfg call) (Xt : ExtOk kp cfg) (hm : cfg.P.follows .mixedOrders = true) {F : Fence} {loop : (St → Option (Ex × St)) → St → Option (Ex × St)} {id : Nat} {ops : Array Oper} {draw : Bool} {cx : Cx} {st st' : St} {act : Act} {w : World} {e : Ex}
  (hF : RdOk F st.rd) (R : FRel kp lo cx st act w) (h : exec cfg call loop (.region id ops draw) st = some (e, st')) {Q : Exit → Act → World → Prop}
  (hK : ∀ cx' act' w', st'.rd = st.rd → FRel kp lo cx' st' act' w' → Ev st.mem.A.length cx st.mem w cx' st'.mem w' → Q .normal act' w') : e = .normal ∧ (Code.region id ops draw).wpIn F 0 cfg.P Q act w := by
 simp only [exec] at h
 obtain ⟨cx1, R1, E1, hA, hrd⟩ := seal_sound R (sealTs cfg ops.toList)
 refine reg_sound C Xt hm (by rw [hrd]; exact hF) R1 h fun cx' act' w' hr R' E' => ?_
 exact hK cx' act' w' (hr.trans hrd) R' (E1.trans (hA ▸ E') (Nat.le_refl _))
theorem sim_trunc {cx : Cx} {m : Mem} {w : World} (S : Sim kp cx m w) (H : HiOk m) {n : Nat} (hn : n ≤ m.A.length) (hh : m.hi ≤ n) (hla : m.la ≤ n) :
  ∃ cx', Sim kp cx' { m with A := m.A.take n } w ∧ HiOk { m with A := m.A.take n } ∧ (∀ i c, i < n → cx.fa i = some c → cx'.fa i = some c) ∧ Ev n cx m w cx' { m with A := m.A.take n } w := by
 let cx' : Cx := { cx with fa := fun i => if i < n then cx.fa i else none, own := fun c => match cx.own c with | .a i => if i < n then .a i else .non | x => x }
 have hfa : ∀ i, i < n → cx'.fa i = cx.fa i := fun i hi => by simp [cx', hi]
 have hfa' : ∀ i c, i < n → cx.fa i = some c → cx'.fa i = some c := fun i c hi hc => (hfa i hi).trans hc
 have hown : ∀ c, (∀ i, cx.own c = .a i → i < n) → cx'.own c = cx.own c := fun c h => by
  simp only [cx']
  split
  ·rename_i i e
   rw [if_pos (h i e), e]
  ·rfl
 have L : Later cx w cx' w := ⟨Nat.le_refl _, fun _ _ => ⟨Nat.le_refl _, fun _ => rfl⟩, fun _ _ h => h, fun c _ h => ⟨rfl, by rw [hown c (fun i e => by rw [h] at e; cases e)]; exact h⟩, Nat.le_refl _⟩
 refine ⟨cx', ⟨fun i cs h c hc => ?_, fun i c hc => ?_, fun b x hb => ?_, S.nb, S.fo, fun c hc => ?_, ?_, S.lb, S.kpt L.zero⟩, H.takeA n, hfa', ?_⟩
 ·have hi : i < n := by
   have := (List.getElem?_eq_some_iff.1 h).1
   simp only [List.length_take] at this
   omega
  rw [hfa i hi] at hc
  simp only at h
  rw [List.getElem?_take_of_lt hi] at h
  obtain ⟨⟨arr, t, h1, h2⟩, h3⟩ := S.A i cs h c hc
  refine ⟨⟨arr, t, h1, VRelL.on L hfa' cs _ (Nat.le_trans (H.A i cs h) hh) h2⟩, ?_⟩
  rw [hown c (fun j e => by
   rw [h3] at e
   unfold ownA at e
   split at e
   ·cases e
   ·injection e with e
    omega)]
  exact h3
 ·have hi : i < n := by
   by_cases h : i < n
   ·exact h
   ·simp [cx', h] at hc
  simp only [List.length_take]
  omega
 ·have hx := S.B b x hb
  have hm := Nat.le_trans (H.B b x hb) hh
  cases x with
  | cells sz ver pu fz cs =>
   simp only [BOk, BB.hi] at hx hm ⊢
   obtain ⟨h1, h2, h3, h4, arr, t, h5, h6, h7, h8⟩ := hx
   refine ⟨h1, h2, ?_, h4, arr, t, h5, h6, h7, VRelL.on L hfa' cs _ hm h8⟩
   exact (hown _ (fun j e => by
    rw [h3] at e
    unfold ownB at e
    split at e
    ·cases e
    ·split at e <;> cases e)).trans h3
  | map es =>
   simp only [BOk, BB.hi] at hx hm ⊢
   obtain ⟨c, fs, clk, h1, h2, h3, h4⟩ := hx
   refine ⟨c, fs, clk, h1, h2, EsRel.on L hfa' es _ hm h3, ?_⟩
   exact (hown _ (fun j e => by
    rw [h4] at e
    unfold ownO at e
    split at e <;> cases e)).trans h4
  | loop s p tm ps as bo =>
   simp only [BOk, BB.hi] at hx hm ⊢
   obtain ⟨c, fn, D, tmps, h1, h2, h3, h4⟩ := hx
   refine ⟨c, fn, D, tmps, h1, h2, VRelL.on L hfa' tm _ hm h3, ?_⟩
   exact (hown _ (fun j e => by
    rw [h4] at e
    unfold ownO at e
    split at e <;> cases e)).trans h4
 ·have := S.fresh c hc
  rw [hown c (fun i e => by rw [this] at e; cases e)]
  exact this
 ·simp only [List.length_take]
  omega
 ·exact { fa := hfa, un := fun i hi _ => List.getElem?_take_of_lt hi, ln := by simp only [List.length_take]; omega, nb := Nat.le_refl _, vb := fun _ _ => ⟨Nat.le_refl _, fun _ => rfl⟩, fo := fun _ _ h => h
          non := L.non, prot := fun c h => ⟨rfl, by rw [hown c (fun i e => by rw [h] at e; cases e)]; exact h⟩, dm := fun c h => ⟨rfl, by rw [hown c (fun i e => by rw [h] at e; cases e)]; exact h⟩
          size := Nat.le_refl _, os := rfl, tape := rfl, output := rfl, la := rfl, lb := rfl }
theorem reset_rel {cx : Cx} {w : World} : ∀ (es cs : List V) (vs : List Value), VRelL cx w cs vs → VRelL cx w (resetTm es cs) vs
 | [], cs, vs, h => by simpa [resetTm] using h
 | e :: es, [], vs, h => by simpa [resetTm] using h
 | e :: es, c :: cs, [], h => by simp [VRelL] at h
 | e :: es, c :: cs, v :: vs, h => by
  simp only [VRelL] at h
  have ih := reset_rel es cs vs h.2
  simp only [resetTm, VRelL]
  refine ⟨?_, ih⟩
  split
  ·simp [VRel]
  ·simp [VRel]
  ·exact h.1
theorem DfRel.trunc {cx cx' : Cx} {w w' : World} (L : Later cx w cx' w') {n : Nat} (hfa : ∀ i c, i < n → cx.fa i = some c → cx'.fa i = some c) (hdm : ∀ c, cx.own c = .dm → w'.heap[c]? = w.heap[c]? ∧ cx'.own c = .dm) :
  ∀ (ds : List Deferred) (df : List (TypeId × V × V)), maxAD df ≤ n → DfRel lo cx w df ds → DfRel lo cx' w' df ds
 | [], df, _, h => h
 | d :: ds, df, hn, h => by
  simp only [DfRel] at h ⊢
  rcases h with ⟨D, h1, h2, h3, hlo, h4⟩ | ⟨t, x, k, rest, ts, ty, cs, vx, vk, h1, h2, h3, h4, h5, h6⟩
  ·have := hdm D h2
   exact .inl ⟨D, h1, this.2, this.1.trans h3, hlo, DfRel.trunc L hfa hdm ds df hn h4⟩
  ·subst h1
   simp only [maxAD] at hn
   exact .inr ⟨t, x, k, rest, ts, ty, cs, vx, vk, rfl, h2, h3, VRel.on L hfa x vx (by omega) h4, VRel.on L hfa k vk (by omega) h5, DfRel.trunc L hfa hdm ds rest (by omega) h6⟩
theorem gc_sound {cx0 cx : Cx} {st st1 : St} {act : Act} {w0 w : World} (R : FRel kp lo cx st1 act w) (E : Ev st.mem.A.length cx0 st.mem w0 cx st1.mem w) (hla : st.mem.la ≤ st.mem.A.length) :
  ∃ cx', FRel kp lo cx' (gcSt st st1) act w ∧ Ev st.mem.A.length cx0 st.mem w0 cx' (gcSt st st1).mem w := by
 unfold gcSt
 simp only
 split
 ·rename_i h
  obtain ⟨h1, h2, h3⟩ := h
  obtain ⟨cx', S', H', hfa, E'⟩ := sim_trunc R.sim R.hi E.ln h1 (by rw [E.la]; exact hla)
  exact ⟨cx', ⟨S', H', VRelL.on E'.later hfa _ _ h2 (reset_rel _ _ _ R.tm), DfRel.trunc E'.later hfa E'.dm _ _ h3 R.df⟩, E.trans E' (Nat.le_refl _)⟩
 ·exact ⟨cx, ⟨R.sim, R.hi, reset_rel _ _ _ R.tm, R.df⟩, E⟩
theorem gc_rd {st st1 : St} : (gcSt st st1).rd = st1.rd := rfl
end
end Go.Proofs.YtpdgbhjhodhkiaaGreatDoor.AI
namespace Go.Proofs.YtpdgbhjhodhkiaaGreatDoor.AI
open Go
variable {kp : Kp}
def exOf : Ex → Exit
 | .normal => .normal
 | .exit id => .exit id
 | .ret => .ret
def LoopOk (loop : (St → Option (Ex × St)) → St → Option (Ex × St)) : Prop := ∀ g st r, loop g st = some r → ∃ n, loopN g n st = some r
theorem loopN_ok (n : Nat) : LoopOk (fun g => loopN g n) := fun g st r h => ⟨n, h⟩
theorem loopW_ok : LoopOk loopW := fun g st r h => by
 unfold loopW at h
 split at h
 ·rename_i hex
  injection h with h
  have := hex.choose_spec
  rw [h] at this
  exact this
 ·cases h
section
variable {lo : Nat} {cfg : Cfg} {call : Call} {loop : (St → Option (Ex × St)) → St → Option (Ex × St)}
def Keeps (kp : Kp) (lo : Nat) (cx : Cx) (st : St) (w : World) (st' : St) (K : Act → World → Prop) : Prop :=
 ∀ cx' act' w', st'.rd = st.rd → FRel kp lo cx' st' act' w' → Ev st.mem.A.length cx st.mem w cx' st'.mem w' → K act' w'
def Sound (kp : Kp) (lo : Nat) (cfg : Cfg) (call : Call) (loop : (St → Option (Ex × St)) → St → Option (Ex × St)) (c : Code) : Prop :=
 ∀ (F : Fence) (cx : Cx) (st : St) (act : Act) (w : World) (e : Ex) (st' : St) (Q : Exit → Act → World → Prop), RdOk F st.rd → lo ≤ w.heap.size → FRel kp lo cx st act w → exec cfg call loop c st = some (e, st') →
  Keeps kp lo cx st w st' (Q (exOf e)) → c.wpIn F 0 cfg.P Q act w
theorem rounds_sound {c : Code} (ih : Sound kp lo cfg call loop c) {F : Fence} {Q : Exit → Act → World → Prop} : ∀ (n : Nat) (cx : Cx) (st : St) (act : Act) (w : World) (e : Ex) (st' : St), RdOk F st.rd → lo ≤ w.heap.size → FRel kp lo cx st act w → loopN (exec cfg call loop c) n st = some (e, st') →
  Keeps kp lo cx st w st' (Q (exOf e)) → Code.roundsIn F 0 cfg.P c Q n act w
 | 0, cx, st, act, w, e, st', _, _, _, h, _ => by simp [loopN] at h
 | n + 1, cx, st, act, w, e, st', hF, hlo, R, h, hK => by
  rw [roundsIn_succ]
  simp only [loopN] at h
  split at h
  ·rename_i st1 h1
   refine ih F cx st act w .normal st1 _ hF hlo R h1 fun cx1 act1 w1 hrd R1 E1 => ?_
   simp only [exOf, Exit.then]
   obtain ⟨cx2, R2, E2⟩ := gc_sound R1 E1 R.sim.la
   refine rounds_sound ih n cx2 (gcSt st st1) act1 w1 e st' (by rw [gc_rd, hrd]; exact hF) (Nat.le_trans hlo E1.size) R2 h fun cx3 act3 w3 hrd3 R3 E3 => ?_
   exact hK cx3 act3 w3 (hrd3.trans (gc_rd.trans hrd)) R3 (E2.trans E3 E2.ln)
  ·rename_i e1 st1 hne h1
   injection h with h
   injection h with h2 h3
   subst h2 h3
   refine ih F cx st act w e1 st1 _ hF hlo R h1 fun cx1 act1 w1 hrd R1 E1 => ?_
   obtain ⟨cx2, R2, E2⟩ := gc_sound R1 E1 R.sim.la
   have := hK cx2 act1 w1 (gc_rd.trans hrd) R2 E2
   cases e1 with
   | normal => exact absurd rfl hne
   | exit id => exact this
   | ret => exact this
  ·cases h
theorem sim_alloc_dm {cx : Cx} {m : Mem} {w : World} (S : Sim kp cx m w) (o : Obj) :
  ∃ cx', cx'.own w.heap.size = .dm ∧ Sim kp cx' m (w.alloc o) ∧ Ev m.A.length cx m w cx' m (w.alloc o) := by
 have K : Keep w.heap.size cx.nb cx w (cx.withOwn w.heap.size .dm) (w.alloc o) := keep_alloc o (Nat.le_refl _) (fun _ _ => ⟨rfl, rfl⟩) (fun _ _ h => h) (fun c hc => by simp [Cx.withOwn, hc])
 refine ⟨cx.withOwn w.heap.size .dm, by simp [Cx.withOwn], ⟨fun i cs h => ?_, S.fa, fun b x h => ?_, S.nb, S.fo, fun c hc => ?_, S.la, S.lb, S.kpt K.later.zero⟩, ev_alloc S K (fun _ _ => rfl) (Nat.le_refl _) (fun _ _ _ => rfl) rfl rfl⟩
 ·have hx := S.A i cs h
  intro c hc
  exact AOk.keep (n := m.A.length) K (fun _ _ _ h => h) (AOk.max S hx hc) hx rfl (fun h => absurd h (Nat.lt_irrefl _)) c hc
 ·exact BOk.keep (n := m.A.length) K (fun _ _ _ h => h) (BB.hi_le S h) (S.not_nb h) (S.lt_nb h) (S.B b x h) (fun h => absurd h (Nat.lt_irrefl _))
 ·have : w.heap.size + 1 ≤ c := by simpa using hc
  simp only [Cx.withOwn]
  rw [if_neg (by omega)]
  exact S.fresh c (by omega)
theorem DfRel.mark_lt {cx : Cx} {m : Mem} {w : World} (S : Sim kp cx m w) : ∀ (ds : List Deferred) (df : List (TypeId × V × V)), DfRel lo cx w df ds → ∀ d' ∈ ds, ∀ D', d'.target = .collected D' → D' < w.heap.size
 | [], df, h, d', hd', D', hD' => by cases hd'
 | d :: ds, df, h, d', hd', D', hD' => by
  simp only [DfRel] at h
  rcases h with ⟨D, h1, h2, h3, hlo, h4⟩ | ⟨t, x, k, rest, ts, ty, cs, vx, vk, h1, h2, h3, h4, h5, h6⟩
  ·rcases List.mem_cons.1 hd' with rfl | hd'
   ·subst h1
    injection hD' with hD'
    subst hD'
    exact S.lt_own (by rw [h2]; simp)
   ·exact DfRel.mark_lt S ds df h4 d' hd' D' hD'
  ·rcases List.mem_cons.1 hd' with rfl | hd'
   ·subst h2
    cases hD'
   ·exact DfRel.mark_lt S ds rest h6 d' hd' D' hD'
theorem exec_sound (C : CallOk kp cfg call) (Xt : ExtOk kp cfg) (hm : cfg.P.follows .mixedOrders = true) (L : LoopOk loop) : ∀ c : Code, Sound kp lo cfg call loop c
 | .skip, F, cx, st, act, w, e, st', Q, hF, hlo, R, h, hK => by
  simp only [exec] at h
  injection h with h; injection h with h1 h2; subst h1 h2
  exact wpIn_skip (hK cx act w rfl R (Ev.refl _ _ _ _ (Nat.le_refl _)))
 | .label l, F, cx, st, act, w, e, st', Q, hF, hlo, R, h, hK => by
  simp only [exec] at h
  injection h with h; injection h with h1 h2; subst h1 h2
  exact wpIn_label (hK cx act w rfl R (Ev.refl _ _ _ _ (Nat.le_refl _)))
 | .region id ops draw, F, cx, st, act, w, e, st', Q, hF, hlo, R, h, hK => by
  obtain ⟨he, hw⟩ := region_sound (Q := fun x a w => (x = .normal → ∃ cx', st'.rd = st.rd ∧ FRel kp lo cx' st' a w ∧ ∃ w0, w0 = w ∧ True) ∧ (∀ (y : Exit), y = x → x = .normal)) C Xt hm hF R h (fun cx' act' w' hrd R' E' => ⟨fun _ => ⟨cx', hrd, R', w', rfl, trivial⟩, fun _ _ => rfl⟩)
  subst he
  exact (region_sound C Xt hm hF R h hK).2
 | .seq a b, F, cx, st, act, w, e, st', Q, hF, hlo, R, h, hK => by
  simp only [exec] at h
  refine wpIn_seq ?_
  split at h
  ·rename_i st1 h1
   refine exec_sound C Xt hm L a F cx st act w .normal st1 _ hF hlo R h1 fun cx1 act1 w1 hrd R1 E1 => ?_
   simp only [exOf, Exit.then]
   refine exec_sound C Xt hm L b F cx1 st1 act1 w1 e st' Q (by rw [hrd]; exact hF) (Nat.le_trans hlo E1.size) R1 h fun cx2 act2 w2 hrd2 R2 E2 => ?_
   exact hK cx2 act2 w2 (hrd2.trans hrd) R2 (E1.trans E2 E1.ln)
  ·rename_i hne
   refine exec_sound C Xt hm L a F cx st act w e st' _ hF hlo R h fun cx1 act1 w1 hrd R1 E1 => ?_
   cases e with
   | normal => exact absurd h (hne st')
   | exit id => exact hK cx1 act1 w1 hrd R1 E1
   | ret => exact hK cx1 act1 w1 hrd R1 E1
 | .cond c a b, F, cx, st, act, w, e, st', Q, hF, hlo, R, h, hK => by
  simp only [exec] at h
  have hc := evalO_rel R.tm c
  split at h
  ·rename_i hv
   rw [hv] at hc
   simp only [VRel] at hc
   exact wpIn_cond_true hc (exec_sound C Xt hm L a F cx st act w e st' Q hF hlo R h hK)
  ·rename_i hv
   rw [hv] at hc
   simp only [VRel] at hc
   exact wpIn_cond_false hc (exec_sound C Xt hm L b F cx st act w e st' Q hF hlo R h hK)
  ·cases h
 | .block id c, F, cx, st, act, w, e, st', Q, hF, hlo, R, h, hK => by
  simp only [exec] at h
  refine wpIn_block ?_
  split at h
  ·rename_i id' st1 h1
   refine exec_sound C Xt hm L c F cx st act w (.exit id') st1 _ hF hlo R h1 fun cx1 act1 w1 hrd R1 E1 => ?_
   simp only [exOf, Exit.inBlock]
   split at h
   ·rename_i hid
    injection h with h; injection h with h2 h3; subst h2 h3
    rw [if_pos hid]
    exact hK cx1 act1 w1 hrd R1 E1
   ·rename_i hid
    injection h with h; injection h with h2 h3; subst h2 h3
    rw [if_neg hid]
    exact hK cx1 act1 w1 hrd R1 E1
  ·rename_i hne
   refine exec_sound C Xt hm L c F cx st act w e st' _ hF hlo R h fun cx1 act1 w1 hrd R1 E1 => ?_
   cases e with
   | normal => exact hK cx1 act1 w1 hrd R1 E1
   | exit id' => exact absurd h (hne id' st')
   | ret => exact hK cx1 act1 w1 hrd R1 E1
 | .loop c, F, cx, st, act, w, e, st', Q, hF, hlo, R, h, hK => by
  simp only [exec] at h
  obtain ⟨n, hn⟩ := L _ _ _ h
  exact wpIn_loop_rounds n (rounds_sound (exec_sound C Xt hm L c) n cx st act w e st' hF hlo R hn hK)
 | .exit id, F, cx, st, act, w, e, st', Q, hF, hlo, R, h, hK => by
  simp only [exec] at h
  injection h with h; injection h with h1 h2; subst h1 h2
  exact wpIn_exit (hK cx act w rfl R (Ev.refl _ _ _ _ (Nat.le_refl _)))
 | .ret, F, cx, st, act, w, e, st', Q, hF, hlo, R, h, hK => by
  simp only [exec] at h
  injection h with h; injection h with h1 h2; subst h1 h2
  exact wpIn_ret (hK cx act w rfl R (Ev.refl _ _ _ _ (Nat.le_refl _)))
 | .rangeFunc f ps assign body, F, cx, st, act, w, e, st', Q, hF, hlo, R, h, hK => by
  simp only [exec] at h
  split at h
  ·cases h
  ·rename_i hrd0
   have hrd : st.rd = false := by simpa using hrd0
   have hFw : F = Fence.wide := by
    rcases hF with ⟨_, h⟩ | ⟨h, _⟩
    ·exact h
    ·rw [hrd] at h; cases h
   subst hFw
   split at h
   ·rename_i g caps hg
    split at h
    ·rename_i v m hcall
     split at h
     ·rename_i s pend tm ps' as' bo' hB
      split at h
      ·cases h
      ·rename_i hbusy
       obtain ⟨hent, hcalls⟩ := C.fn _ _ _ _ _ hcall
       have hgv := evalO_rel R.tm f
       rw [hg] at hgv
       simp only [VRel] at hgv
       obtain ⟨arr, hgv, hcaps⟩ := hgv
       refine wpIn_rangeFunc fun fn _ => ?_
       obtain ⟨cx1, hdm1, S1, E1⟩ := sim_alloc_dm R.sim (.deferred (some []))
       have htm1 : VRelL cx1 (w.alloc (.deferred (some []))) st.tm act.tmps.toList := E1.vals R.sim R.tm
       obtain ⟨cx2, hfo2, S2, E2⟩ := sim_push_O S1 (.loop .ready none st.tm ps.toList assign body) (max st.mem.hi (maxAL st.tm))
        (.loop { state := .ready, pending := none, fn := fn, tmps := act.tmps, params := ps, assign := assign, body := body, defers := w.heap.size })
        (fun cx' hfo hown hl hfa hheap => by
          simp only [BOk]
          refine ⟨_, fn, w.heap.size, act.tmps, hfo, ?_, VRelL.on (n := st.mem.A.length) hl (fun i c _ hc => by rw [hfa]; exact hc) _ _ (VRelL.maxA S1.fa _ _ htm1) htm1, ?_⟩
          ·rw [hheap]
          ·rw [hown, ownO, if_neg (by have := R.sim.lb; omega)])
       have hE12 : Ev st.mem.A.length cx st.mem w cx2 _ _ := E1.trans E2 (Nat.le_refl _)
       have hl1 : (w.alloc (.deferred (some []))).heap.size = w.heap.size + 1 := by simp
       rw [hl1] at hfo2
       refine ⟨w.heap.size + 1, [{ target := .collected w.heap.size, args := #[] }], ((w.alloc (.deferred (some []))).alloc (.loop { state := .ready, pending := none, fn := fn, tmps := act.tmps, params := ps, assign := assign, body := body, defers := w.heap.size })), { target := .fn (.func g) arr, args := #[.func (.yield (w.heap.size + 1)) #[] #[]] }, ((w.alloc (.deferred (some []))).alloc (.loop { state := .ready, pending := none, fn := fn, tmps := act.tmps, params := ps, assign := assign, body := body, defers := w.heap.size })), g, #[.func (.yield (w.heap.size + 1)) #[] #[]] ++ arr, ((w.alloc (.deferred (some []))).alloc (.loop { state := .ready, pending := none, fn := fn, tmps := act.tmps, params := ps, assign := assign, body := body, defers := w.heap.size })),
        run_enterLoop_outer fn act.tmps ps assign body, ?_, fun f' _ => trivial, ?_, (fun h => by cases h), ?_⟩
       ·simp only [resolve, rangeCall, Sem.run_bind, hgv, Deferred.ofValue, Sem.run_pure, Result.andThen_ok, Array.empty_append]
        simp [Act.eval, Frame.eval]
       ·simp only [invoke]
        exact hent _ _
       ·have hargs : VRelL cx2 ((w.alloc (.deferred (some []))).alloc (.loop { state := .ready, pending := none, fn := fn, tmps := act.tmps, params := ps, assign := assign, body := body, defers := w.heap.size }))
          (.yld st.mem.B.length :: caps) (#[Value.func (.yield (w.heap.size + 1)) #[] #[]] ++ arr).toList := by
         simp only [Array.toList_append, List.cons_append, List.nil_append, VRelL, VRel]
         exact ⟨⟨_, hfo2, rfl⟩, hE12.vals R.sim hcaps⟩
        have hH2 : HiOk { st.mem with B := st.mem.B ++ [.loop .ready none st.tm ps.toList assign body], hi := max st.mem.hi (maxAL st.tm) } := R.hi.pushB (by omega) (by simp only [BB.hi]; omega)
        refine (hcalls cx2 _ _ S2 hH2 hargs).mono ?_
        rintro e3 w3 ⟨cv, cx3, rfl, _, S3, H3, E3⟩
        have hbk := S3.B _ _ hB
        simp only [BOk] at hbk
        obtain ⟨c, fn', D', tmps', h1, h2, h3, h4⟩ := hbk
        have hc : c = w.heap.size + 1 := by
         have := E3.fo _ _ hfo2
         rw [h1] at this
         injection this
        subst hc
        have hlb : m.lb ≤ st.mem.B.length := by rw [E3.lb]; exact R.sim.lb
        have hend := run_endLoop (P := cfg.P) h2 (by exact hbusy)
        obtain ⟨S4, E4⟩ := sim_set_O (y := .loop .exhausted pend tm ps' as' bo') (o := .loop { state := .exhausted, pending := pend, fn := fn', tmps := tmps', params := ps'.toArray, assign := as', body := bo', defers := D' }) S3 hB hlb h1 h4 (lt_of_heap h2) (fun hl hheap => by
         simp only [BOk]
         exact ⟨_, fn', D', tmps', h1, hheap, VRelL.on (n := m.A.length) hl (fun _ _ _ h => h) _ _ (VRelL.maxA S3.fa _ _ h3) h3, h4⟩) m.hi
        have Eall : Ev st.mem.A.length cx st.mem w cx3 { m with B := m.B.set st.mem.B.length (.loop .exhausted pend tm ps' as' bo') } (putO w3 (w.heap.size + 1) (.loop { state := .exhausted, pending := pend, fn := fn', tmps := tmps', params := ps'.toArray, assign := as', body := bo', defers := D' })) :=
         hE12.trans ((E3.trans E4 E3.ln).mono (Nat.le_refl _)) (Nat.le_refl _)
        have H4 : HiOk { m with B := m.B.set st.mem.B.length (.loop .exhausted pend tm ps' as' bo') } := H3.setB (Nat.le_refl _) (by have := H3.B _ _ hB; simpa only [BB.hi] using this)
        have R4 : FRel kp lo cx3 { st with mem := { m with B := m.B.set st.mem.B.length (.loop .exhausted pend tm ps' as' bo') } } { act with defers := [{ target := .collected w.heap.size, args := #[] }] ++ act.defers }
          (putO w3 (w.heap.size + 1) (.loop { state := .exhausted, pending := pend, fn := fn', tmps := tmps', params := ps'.toArray, assign := as', body := bo', defers := D' })) := by
         refine ⟨S4, H4, Eall.vals R.sim R.tm, ?_⟩
         simp only [List.cons_append, List.nil_append, DfRel]
         refine .inl ⟨w.heap.size, rfl, ?_, ?_, ⟨hlo, fun d' hd' D' hD' => DfRel.mark_lt R.sim _ _ R.df d' hd' D' hD'⟩, Eall.dfs R.sim R.df⟩
         ·have := (E2.dm _ hdm1).2
          have := (E3.dm _ this).2
          exact (E4.dm _ this).2
         ·have e2 := E2.dm _ hdm1
          have e3 := E3.dm _ e2.2
          have e4 := E4.dm _ e3.2
          rw [e4.1, e3.1, e2.1]
          exact heap_alloc_new w _
        refine ⟨pend, _, hend, ?_⟩
        cases pend with
        | none =>
         simp only at h
         injection h with h; injection h with g1 g2; subst g1 g2
         exact hK cx3 _ _ rfl R4 Eall
        | some j =>
         cases j <;> simp only at h <;> first | (cases h; done) | skip
         ·injection h with h; injection h with g1 g2; subst g1 g2
          exact wpIn_exit (hK cx3 _ _ rfl R4 Eall)
         ·injection h with h; injection h with g1 g2; subst g1 g2
          exact wpIn_ret (hK cx3 _ _ rfl R4 Eall)
     ·cases h
    ·cases h
   ·cases h
 | .scope _, F, cx, st, act, w, e, st', Q, hF, hlo, R, h, hK => by simp [exec] at h
 | .goto _, F, cx, st, act, w, e, st', Q, hF, hlo, R, h, hK => by simp [exec] at h
 | .refuse _, F, cx, st, act, w, e, st', Q, hF, hlo, R, h, hK => by simp [exec] at h
end
end Go.Proofs.YtpdgbhjhodhkiaaGreatDoor.AI
namespace Go.Proofs.YtpdgbhjhodhkiaaGreatDoor.AI
open Go
variable {kp : Kp}
theorem step_builtin {P : Program} {fr : Frame} {cs : List Frame} {w w' : World} {d : Deferred} {ds : List Deferred} {b : Builtin} {ts : Array TypeId} {ty : TypeId} {cb : Array Bool} {v : Value} (hm : fr.mode = .returning) (hd : fr.defers = d :: ds)
  (ht : d.target = .builtin b ts ty cb) (hi : (invoke d.target d.args).run P w = .ok (.value v) w') : step P (lone fr cs w) = .next (lone { fr with defers := ds } cs w') := by
 obtain ⟨t, a⟩ := d
 simp only at ht hi
 subst ht
 refine step_lone_go ?_
 simp [stepG, unwind, callDeferred, hm, hd, hi]
theorem wide_room (n : Nat) : Fence.wide.room n := fun _ h => nomatch h
def LeavesB (P : Program) (fn : Func) (tmps : Array Value) (R : Ending → World → Prop) : List Deferred → World → Prop
 | [], w => ∃ v, (results fn tmps).run P w = .ok v w ∧ R (.returned v) w
 | d :: ds, w => (∃ r w', d.target = .collected r ∧ (Instr.takeDeferred r).run P w = .ok [] w' ∧ LeavesB P fn tmps R ds w') ∨
   ∃ b ts ty cb v w', d.target = .builtin b ts ty cb ∧ (invoke d.target d.args).run P w = .ok (.value v) w' ∧ LeavesB P fn tmps R ds w'
theorem leavesB_steps {P : Program} {fn : Func} {tmps : Array Value} {R : Ending → World → Prop} : ∀ (ds : List Deferred) (w : World) (fr : Frame) (cs : List Frame), fr.mode = .returning → fr.defers = ds → fr.tmps = tmps → P.funcs[fr.fn]? = some fn → fr.kind = .normal →
  LeavesB P fn tmps R ds w → ∃ e w' fr', R e w' ∧ ComesIn (Machine.fenced P Fence.wide) P (lone fr cs w) (lone fr' cs w') e ∧ fr'.fn = fr.fn ∧ fr'.leaving P w' e
 | [], w, fr, cs, hm, hd, ht, hf, hk, h => by
  obtain ⟨v, hr, hR⟩ := h
  exact ⟨.returned v, w, fr, hR, StepsIn.refl _, rfl, hm, hd, hk, fn, hf, ht ▸ hr⟩
 | d :: ds, w, fr, cs, hm, hd, ht, hf, hk, h => by
  have hrun : fr.mode ≠ .run := by rw [hm]; exact fun h => nomatch h
  have i1 : (lone fr cs w).fenced P Fence.wide := fenced_out (n := 0) trivial (wide_room _) hrun hd (fun _ _ => trivial)
  rcases h with ⟨r, w', htar, htake, hrest⟩ | ⟨b, ts, ty, cb, v, w', htar, hinv, hrest⟩
  ·have h1 := step_collected (cs := cs) hrun hd htar htake
   obtain ⟨e', w'', fr', hR', hs', hfn', hl'⟩ := leavesB_steps ds w' { fr with defers := [] ++ ds } cs hm rfl ht hf hk hrest
   exact ⟨e', w'', fr', hR', ComesIn.of_steps (.one i1 h1) hs', hfn', hl'⟩
  ·have h1 := step_builtin (cs := cs) hm hd htar hinv
   obtain ⟨e', w'', fr', hR', hs', hfn', hl'⟩ := leavesB_steps ds w' { fr with defers := ds } cs hm rfl ht hf hk hrest
   exact ⟨e', w'', fr', hR', ComesIn.of_steps (.one i1 h1) hs', hfn', hl'⟩
def bodyPostB (P : Program) (fn : Func) (R : Ending → World → Prop) : Exit → Act → World → Prop
 | .normal, a, w | .ret, a, w => LeavesB P fn a.tmps R a.defers w
 | _, _, _ => False
theorem callsIn_of_body {P : Program} {f : FuncId} {fn : Func} {c : Code} {args : Array Value} {w : World} {R : Ending → World → Prop} (hf : P.funcs[f]? = some fn) (hb : fn.body = some c)
  (h : c.wpIn Fence.wide 0 P (bodyPostB P fn R) { tmps := args ++ Array.replicate (fn.ntmps - args.size) undef, defers := [] } w) : CallsIn Fence.wide 0 P f args w R := by
 refine ⟨trivial, fun cs hr => ?_⟩
 obtain ⟨e, a', w', hq, harr⟩ := h { (default : Frame) with fn := f, kind := .normal, roundOf := none } [] cs rfl trivial hr
 have henter : Frame.enter P f args .normal = ({ (default : Frame) with fn := f, kind := .normal, roundOf := none } : Frame).atR { tmps := args ++ Array.replicate (fn.ntmps - args.size) undef, defers := [] } [.code c] := by
  simp [Frame.enter, Frame.atR, hf, hb]
 rw [← henter] at harr
 cases e with
 | normal =>
  obtain ⟨e', w'', fr', hR, hs, hfn, hl⟩ := leavesB_steps a'.defers w' { ({ (default : Frame) with fn := f, kind := .normal, roundOf := none } : Frame).atR a' [] with mode := .returning } cs rfl rfl rfl hf rfl hq
  exact ⟨e', w'', fr', hR, ComesIn.of_steps (StepsIn.trans harr (.one (fenced_calm (fr := ({ (default : Frame) with fn := f, kind := .normal, roundOf := none } : Frame).atR a' []) (n := 0) trivial (wide_room _) rfl) (stepR_end rfl))) hs, hfn, hl⟩
 | ret =>
  obtain ⟨todo, hs₀⟩ := harr.1 rfl
  obtain ⟨e', w'', fr', hR, hs, hfn, hl⟩ := leavesB_steps a'.defers w' { ({ (default : Frame) with fn := f, kind := .normal, roundOf := none } : Frame).atR a' todo with mode := .returning } cs rfl rfl rfl hf rfl hq
  exact ⟨e', w'', fr', hR, ComesIn.of_steps hs₀ hs, hfn, hl⟩
 | panic chain => exact hq.elim
 | exit id => exact hq.elim
 | goto l => exact hq.elim
 | outgrown => exact hq.elim
section
variable {P : Program} {cx : Cx} {m m' : Mem} {w : World}
theorem loadVar_same (S : Sim kp cx m w) {t : TypeId} {p v : V} {cp : Value} (hp : VRel cx w p cp) (h : loadV P m t p = some v) : ∃ cv, (asAddr cp >>= loadVar t).run P w = .ok cv w ∧ VRel cx w v cv := by
 unfold loadV at h
 cases hi : P.info? t with
 | none => simp [hi] at h
 | some i =>
  cases hd : P.underlying t with
  | none => simp [hi, hd] at h
  | some d =>
   simp only [hi, hd] at h
   split at h
   ·rename_i ha
    cases hr : rdCells m p i.size with
    | none => simp [hr] at h
    | some cs =>
     simp only [hr, Option.map_some] at h
     injection h with h
     subst h
     obtain ⟨c, off, vs, rfl, h1, h2, h3⟩ := rd_sound S hp hr
     refine ⟨.agg vs.toArray, ?_, ⟨vs.toArray, rfl, by simpa using h2⟩⟩
     have hl := r_cells (P := P) (w := w) ⟨c, off, none⟩ vs (fun j v hj => by rw [add_none]; exact h3 j v hj)
     simp [asAddr, loadVar, r_agg hd, ha, r_size hi, ← h1, hl]
   ·rename_i ha
    cases hr : rdCells m p 1 with
    | none => simp [hr] at h
    | some cs =>
     simp only [hr, Option.bind_some] at h
     match cs, h with
     | [x], h =>
      injection h with h
      subst h
      obtain ⟨c, off, vs, rfl, h1, h2, h3⟩ := rd_sound S hp hr
      match vs, h1, h2 with
      | [u], _, h2 =>
       simp only [VRelL] at h2
       have hc := h3 0 u (by simp)
       refine ⟨u, ?_, h2.1⟩
       simp [asAddr, loadVar, r_agg hd, ha]
       rw [show off + 0 = off from rfl] at hc
       simp [hc]
def oneResult (tmps : Array Value) : ResultVar → Sem Value
 | .tmp t => pure (tmps.getD t undef)
 | .cell a t => asAddr (tmps.getD a undef) >>= loadVar t
theorem results_list (S : Sim kp cx m w) {tm : List V} {tmps : Array Value} (ht : VRelL cx w tm tmps.toList) : ∀ (rs : List ResultVar) (vs : List V), resultsV P m tm rs = some vs → ∃ us, (rs.mapM (oneResult tmps)).run P w = .ok us w ∧ VRelL cx w vs us
 | [], vs, h => by
  simp only [resultsV] at h
  injection h with h
  subst h
  exact ⟨[], by simp, by simp [VRelL]⟩
 | r :: rs, vs, h => by
  simp only [resultsV] at h
  split at h
  ·rename_i v vs' hv hvs
   injection h with h
   subst h
   obtain ⟨us, h1, h2⟩ := results_list S ht rs vs' hvs
   have h3 : ∃ u, (oneResult tmps r).run P w = .ok u w ∧ VRel cx w v u := by
    have hget : ∀ i, tmps.getD i undef = tmps.toList.getD i undef := fun i => by simp [Array.getD_eq_getD_getElem?, List.getD_eq_getElem?_getD]
    cases r with
    | tmp t =>
     simp only at hv
     injection hv with hv
     subst hv
     refine ⟨tmps.getD t undef, rfl, ?_⟩
     rw [hget]
     exact ht.getD t
    | cell a t =>
     simp only at hv
     refine loadVar_same S ?_ hv
     rw [hget]
     exact ht.getD a
   obtain ⟨u, h3, h4⟩ := h3
   refine ⟨u :: us, ?_, ?_⟩
   ·rw [List.mapM_cons]
    simp only [Sem.run_bind, h3, Result.andThen_ok, h1, Sem.run_pure]
   ·simp only [VRelL]
    exact ⟨h4, h2⟩
  ·cases h
theorem results_sound (S : Sim kp cx m w) {fn : Func} {tm : List V} {tmps : Array Value} (ht : VRelL cx w tm tmps.toList) {vs : List V} (h : resultsV P m tm fn.results.toList = some vs) : ∃ v, (results fn tmps).run P w = .ok v w ∧ VRel cx w (tupV vs) v := by
 obtain ⟨us, h1, h2⟩ := results_list S ht _ _ h
 have he : (results fn tmps) = (fn.results.mapM (oneResult tmps)) >>= fun vs => pure (if h : vs.size = 1 then vs[0] else .tuple vs) := by
  unfold results
  congr 1
 rw [he, Array.mapM_eq_mapM_toList]
 refine ⟨if h : us.toArray.size = 1 then us.toArray[0] else .tuple us.toArray, ?_, ?_⟩
 ·rw [map_eq_pure_bind]
  simp only [Sem.run_bind, h1, Result.andThen_ok, Sem.run_pure]
 match vs, us, h2 with
 | [], [], _ => exact ⟨#[], rfl, by simp [VRelL]⟩
 | [v], [u], h2 =>
  simp only [VRelL] at h2
  exact h2.1
 | v :: v2 :: vs, u :: u2 :: us, h2 =>
  simp only [tupV]
  exact ⟨(u :: u2 :: us).toArray, by simp, by simpa using h2⟩
 | [], _ :: _, h2 => simp [VRelL] at h2
 | _ :: _, [], h2 => simp [VRelL] at h2
 | [_], _ :: _ :: _, h2 => simp [VRelL] at h2
 | _ :: _ :: _, [_], h2 => simp [VRelL] at h2
end
end Go.Proofs.YtpdgbhjhodhkiaaGreatDoor.AI
namespace Go.Proofs.YtpdgbhjhodhkiaaGreatDoor.AI
open Go
variable {kp : Kp}
section
variable {P : Program}
theorem drop_mark {cx0 cx : Cx} {m0 m : Mem} {w0 w : World} {D : Nat} (S0 : Sim kp cx0 m0 w0) (S : Sim kp cx m w) (E : Ev m0.A.length cx0 m0 w0 cx m w) (hD : cx.own D = .dm) (hlo : w0.heap.size ≤ D) (o : Obj) :
  ∃ cx', Sim kp cx' m (putO w D o) ∧ Ev m0.A.length cx0 m0 w0 cx' m (putO w D o) ∧ Later cx w cx' (putO w D o) ∧ cx'.fa = cx.fa ∧ (∀ c, c ≠ D → cx'.own c = cx.own c) := by
 have hown : ∀ c, c ≠ D → (cx.withOwn D .non).own c = cx.own c := fun c hc => by simp [Cx.withOwn, hc]
 have hheap : ∀ c, c ≠ D → (putO w D o).heap[c]? = w.heap[c]? := fun c hc => putO_other hc
 have L : Later cx w (cx.withOwn D .non) (putO w D o) := ⟨Nat.le_refl _, fun _ _ => ⟨Nat.le_refl _, fun _ => rfl⟩, fun _ _ h => h, fun c _ h => by
  have hc : c ≠ D := fun e => by subst e; rw [hD] at h; cases h
  exact ⟨hheap c hc, (hown c hc).trans h⟩, by rw [putO_size]; exact Nat.le_refl _⟩
 have hfa : ∀ i c, i < m.A.length → cx.fa i = some c → (cx.withOwn D .non).fa i = some c := fun _ _ _ h => h
 have ne : ∀ c, cx.own c ≠ .dm → c ≠ D := fun c h e => h (e ▸ hD)
 refine ⟨cx.withOwn D .non, ⟨fun i cs h c hc => ?_, S.fa, fun b x hb => ?_, S.nb, S.fo, fun c hc => ?_, S.la, S.lb, S.kpt L.zero⟩, ?_, L, rfl, hown⟩
 ·obtain ⟨⟨arr, t, h1, h2⟩, h3⟩ := S.A i cs h c hc
  have hc' : c ≠ D := ne c (by rw [h3]; unfold ownA; split <;> simp)
  exact ⟨⟨arr, t, (hheap c hc').trans h1, VRelL.on L hfa cs _ (VRelL.maxA S.fa _ _ h2) h2⟩, (hown c hc').trans h3⟩
 ·have hx := S.B b x hb
  cases x with
  | cells sz ver pu fz cs =>
   simp only [BOk] at hx ⊢
   obtain ⟨h1, h2, h3, h4, arr, t, h5, h6, h7, h8⟩ := hx
   have hc' : (cx.fb b).1 ≠ D := ne _ (by rw [h3]; unfold ownB; split <;> (try split) <;> simp)
   exact ⟨h1, h2, (hown _ hc').trans h3, h4, arr, t, (hheap _ hc').trans h5, h6, h7, VRelL.on L hfa cs _ (VRelL.maxA S.fa _ _ h8) h8⟩
  | map es =>
   simp only [BOk] at hx ⊢
   obtain ⟨c, fs, clk, h1, h2, h3, h4⟩ := hx
   have hc' : c ≠ D := ne _ (by rw [h4]; unfold ownO; split <;> simp)
   exact ⟨c, fs, clk, h1, (hheap _ hc').trans h2, EsRel.on L hfa es _ (EsRel.maxA S.fa _ _ h3) h3, (hown _ hc').trans h4⟩
  | loop s p tm ps as bo =>
   simp only [BOk] at hx ⊢
   obtain ⟨c, fn, D', tmps, h1, h2, h3, h4⟩ := hx
   have hc' : c ≠ D := ne _ (by rw [h4]; unfold ownO; split <;> simp)
   exact ⟨c, fn, D', tmps, h1, (hheap _ hc').trans h2, VRelL.on L hfa tm _ (VRelL.maxA S.fa _ _ h3) h3, (hown _ hc').trans h4⟩
 ·simp only [Cx.withOwn]
  split
  ·rfl
  ·rw [putO_size] at hc
   exact S.fresh c hc
 ·have key : ∀ c, c < w0.heap.size → c ≠ D := fun c hc => by omega
  exact { E with
   non := fun c hc h => ⟨(hheap c (key c hc)).trans (E.non c hc h).1, (hown c (key c hc)).trans (E.non c hc h).2⟩
   prot := fun c h => by
    have hc := S0.lt_own (c := c) (by rw [h]; simp)
    exact ⟨(hheap c (key c hc)).trans (E.prot c h).1, (hown c (key c hc)).trans (E.prot c h).2⟩
   dm := fun c h => by
    have hc := S0.lt_own (c := c) (by rw [h]; simp)
    exact ⟨(hheap c (key c hc)).trans (E.dm c h).1, (hown c (key c hc)).trans (E.dm c h).2⟩
   size := by rw [putO_size]; exact E.size }
theorem DfRel.below {lo : Nat} {cx cx' : Cx} {w w' : World} {D : Nat} (L : Later cx w cx' w') {n : Nat} (hfa : ∀ i c, i < n → cx.fa i = some c → cx'.fa i = some c) (hmax : ∀ (x : V) (v : Value), VRel cx w x v → V.maxA x ≤ n)
  (hdm : ∀ c, c ≠ D → w'.heap[c]? = w.heap[c]? ∧ cx'.own c = cx.own c) : ∀ (ds : List Deferred) (df : List (TypeId × V × V)), (∀ d' ∈ ds, ∀ D', d'.target = .collected D' → D' < D) → DfRel lo cx w df ds → DfRel lo cx' w' df ds
 | [], df, _, h => h
 | d :: ds, df, hlt, h => by
  simp only [DfRel] at h ⊢
  have hlt' : ∀ d' ∈ ds, ∀ D', d'.target = .collected D' → D' < D := fun d' hd' => hlt d' (List.mem_cons_of_mem _ hd')
  rcases h with ⟨D1, h1, h2, h3, hlo, h4⟩ | ⟨t, x, k, rest, ts, ty, cs, vx, vk, h1, h2, h3, h4, h5, h6⟩
  ·have := hlt d (List.mem_cons_self ..) D1 (by rw [h1])
   have hk := hdm D1 (by omega)
   exact .inl ⟨D1, h1, hk.2.trans h2, hk.1.trans h3, hlo, DfRel.below L hfa hmax hdm ds df hlt' h4⟩
  ·exact .inr ⟨t, x, k, rest, ts, ty, cs, vx, vk, h1, h2, h3, VRel.on L hfa x vx (hmax x vx h4) h4, VRel.on L hfa k vk (hmax k vk h5) h5, DfRel.below L hfa hmax hdm ds rest hlt' h6⟩
theorem leaves_sound {fn : Func} {tm : List V} {tmps : Array Value} {R : Ending → World → Prop} {cx0 : Cx} {m0 m1 : Mem} {w0 : World} {vs : List V} (S0 : Sim kp cx0 m0 w0) (hres : resultsV P m1 tm fn.results.toList = some vs)
  (hR : ∀ cx1 w1 v, Sim kp cx1 m1 w1 → HiOk m1 → Ev m0.A.length cx0 m0 w0 cx1 m1 w1 → VRel cx1 w1 (tupV vs) v → R (.returned v) w1) :
  ∀ (ds : List Deferred) (df : List (TypeId × V × V)) (cx : Cx) (m : Mem) (w : World), Sim kp cx m w → HiOk m → Ev m0.A.length cx0 m0 w0 cx m w → VRelL cx w tm tmps.toList → DfRel w0.heap.size cx w df ds → runDf P df m = some m1 → LeavesB P fn tmps R ds w
 | [], df, cx, m, w, S, H, E, ht, hd, hr => by
  simp only [DfRel] at hd
  subst hd
  simp only [runDf] at hr
  injection hr with hr
  subst hr
  obtain ⟨v, h1, h2⟩ := results_sound S ht hres
  exact ⟨v, h1, hR cx w v S H E h2⟩
 | d :: ds, df, cx, m, w, S, H, E, ht, hd, hr => by
  simp only [DfRel] at hd
  rcases hd with ⟨D, h1, h2, h3, ⟨hlo, hlt⟩, h4⟩ | ⟨t, x, k, rest, ts, ty, cs, vx, vk, h1, h2, h3, h4, h5, h6⟩
  ·obtain ⟨cx', S', E', L, hfa, hown⟩ := drop_mark S0 S E h2 hlo (.deferred none)
   refine .inl ⟨D, _, by rw [h1], run_takeDeferred h3, ?_⟩
   refine leaves_sound S0 hres hR ds df cx' m _ S' H E' ?_ ?_ hr
   ·exact VRelL.on L (n := m.A.length) (fun i c _ hc => by rw [hfa]; exact hc) _ _ (VRelL.maxA S.fa _ _ ht) ht
   ·exact DfRel.below (D := D) L (n := m.A.length) (fun i c _ hc => by rw [hfa]; exact hc) (fun x v hv => VRel.maxA S.fa x v hv) (fun c hc => ⟨putO_other hc, hown c hc⟩) ds df hlt h4
  ·subst h1
   simp only [runDf] at hr
   obtain ⟨m2, hm2, hr⟩ := Option.bind_eq_some_iff.1 hr
   obtain ⟨w2, g1, g2, g3⟩ := delete_sound S ts h3 ty h4 h5 hm2
   have hH : HiOk m2 := builtin_hi (b := .delete) (ts := [t]) (args := [x, k]) (v := .tup []) H (P := P) (by simp [builtinV, hm2])
   refine .inr ⟨.delete, ts, ty, cs, .tuple #[], w2, by rw [h2], ?_, ?_⟩
   ·rw [h2]
    simp only [invoke, builtin, Sem.run_bind, g1, Result.andThen_ok, Sem.run_pure]
   ·exact leaves_sound S0 hres hR ds rest cx m2 w2 g2 hH (E.trans g3 E.ln) (g3.vals S ht) (g3.dfs S h6) hr
end
end Go.Proofs.YtpdgbhjhodhkiaaGreatDoor.AI
namespace Go.Proofs.YtpdgbhjhodhkiaaGreatDoor.AI
open Go
variable {kp : Kp}
def OkOk (cfg : Cfg) : Prop := ∀ f, cfg.ok f = true → Enters cfg.P f
section
variable {cfg : Cfg} {call : Call} {loop : (St → Option (Ex × St)) → St → Option (Ex × St)}
theorem trunc_ret {cx cx1 : Cx} {m m1 : Mem} {w w1 : World} {v : V} {cv : Value} (S : Sim kp cx m w) (S1 : Sim kp cx1 m1 w1) (H1 : HiOk m1) (E : Ev m.A.length cx m w cx1 m1 w1) (hv : VRel cx1 w1 v cv) :
  RetPost kp m.A.length cx m w v (truncA m.A.length v m1) (.returned cv) w1 := by
 unfold truncA
 split
 ·rename_i h
  obtain ⟨h1, h2, h3⟩ := h
  obtain ⟨cx2, S2, H2, hfa, E2⟩ := sim_trunc S1 H1 h3 h1 (by rw [E.la]; exact S.la)
  exact ⟨cv, cx2, rfl, VRel.on E2.later hfa v cv h2 hv, S2, H2, E.trans E2 (Nat.le_refl _)⟩
 ·exact ⟨cv, cx1, rfl, hv, S1, H1, E⟩
theorem fn_sound (C : CallOk kp cfg call) (Xt : ExtOk kp cfg) (hm : cfg.P.follows .mixedOrders = true) (L : LoopOk loop) (hok : OkOk cfg) {f : FuncId} {args : List V} {m m' : Mem} {v : V} (h : callF cfg call loop (.fn f) args m = some (v, m')) :
  Enters cfg.P f ∧ ∀ cx w (cargs : Array Value), Sim kp cx m w → HiOk m → VRelL cx w args cargs.toList → CallsIn Fence.wide 0 cfg.P f cargs w (RetPost kp m.A.length cx m w v m') := by
 unfold callF at h
 simp only at h
 split at h
 ·rename_i fn hf
  split at h
  ·rename_i c hb
   split at h
   ·rename_i hk
    refine ⟨hok f hk, fun cx w cargs S H ha => ?_⟩
    obtain ⟨⟨e, st1⟩, h1, h2⟩ := Option.bind_eq_some_iff.1 h
    have R0 : FRel kp w.heap.size cx (enterSt fn args m) { tmps := cargs ++ Array.replicate (fn.ntmps - cargs.size) undef, defers := [] } w := by
     refine ⟨S, H, ?_, rfl⟩
     simp only [enterSt, Array.toList_append, Array.toList_replicate]
     have hl : args.length = cargs.size := by rw [ha.length]; simp
     rw [hl]
     exact VRelL.append ha (VRelL.replicate undef_rel _)
    refine callsIn_of_body hf hb (exec_sound C Xt hm L c Fence.wide cx _ _ w e st1 _ (.inl ⟨rfl, rfl⟩) (Nat.le_refl _) R0 h1 fun cx1 act1 w1 _ R1 E1 => ?_)
    have fin : ∀ m1 vs, runDf cfg.P st1.df st1.mem = some m1 → resultsV cfg.P m1 st1.tm fn.results.toList = some vs → v = tupV vs → m' = truncA m.A.length (tupV vs) m1 →
      LeavesB cfg.P fn act1.tmps (RetPost kp m.A.length cx m w v m') act1.defers w1 := by
     intro m1 vs k1 k2 k3 k4
     subst k3 k4
     exact leaves_sound S k2 (fun cx2 w2 cv S2 H2 E2 hv => trunc_ret S S2 H2 E2 hv) act1.defers st1.df cx1 st1.mem w1 R1.sim R1.hi E1 R1.tm R1.df k1
    cases e with
    | exit id => simp [leaveV] at h2
    | normal =>
     simp only [leaveV] at h2
     obtain ⟨m1, k1, h2⟩ := Option.bind_eq_some_iff.1 h2
     obtain ⟨vs, k2, h2⟩ := Option.map_eq_some_iff.1 h2
     injection h2 with k3 k4
     exact fin m1 vs k1 k2 k3.symm k4.symm
    | ret =>
     simp only [leaveV] at h2
     obtain ⟨m1, k1, h2⟩ := Option.bind_eq_some_iff.1 h2
     obtain ⟨vs, k2, h2⟩ := Option.map_eq_some_iff.1 h2
     injection h2 with k3 k4
     exact fin m1 vs k1 k2 k3.symm k4.symm
   ·cases h
  ·cases h
 ·cases h
theorem setMany_rel {cx : Cx} {w : World} : ∀ (ps : List Tmp) (args : List V) (vs : List Value) (tm : List V) (tmps : Array Value), VRelL cx w tm tmps.toList → VRelL cx w args vs →
  VRelL cx w (setMany tm ps args) ((ps.zip vs).foldl (fun (tmps : Array Value) (p : Tmp × Value) => tmps.setIfInBounds p.1 p.2) tmps).toList
 | [], args, vs, tm, tmps, h, _ => by simpa [setMany] using h
 | p :: ps, [], [], tm, tmps, h, _ => by simpa [setMany] using h
 | p :: ps, [], _ :: _, tm, tmps, _, k => by simp [VRelL] at k
 | p :: ps, _ :: _, [], tm, tmps, _, k => by simp [VRelL] at k
 | p :: ps, a :: args, v :: vs, tm, tmps, h, k => by
  simp only [VRelL] at k
  simp only [setMany, List.zip_cons_cons, List.foldl_cons]
  refine setMany_rel ps args vs _ _ ?_ k.2
  rw [Array.toList_setIfInBounds]
  exact VRelL.set p h k.1
theorem yld_sound (C : CallOk kp cfg call) (Xt : ExtOk kp cfg) (hm : cfg.P.follows .mixedOrders = true) (L : LoopOk loop) {l : Nat} {args : List V} {m m' : Mem} {v : V} (h : callF cfg call loop (.yld l) args m = some (v, m')) :
  ∀ cx w (cargs : Array Value), Sim kp cx m w → HiOk m → VRelL cx w args cargs.toList → ∀ c, cx.fo l = some c →
   ∃ fn tmps assign body, (Instr.yield c cargs).run cfg.P w = .ok (.round c fn tmps assign body) w ∧ RoundIn Fence.wide 0 cfg.P c fn tmps assign body w (RetPost kp m.A.length cx m w v m') := by
 intro cx w cargs S H ha c hc
 unfold callF at h
 simp only at h
 split at h
 ·rename_i pend0 tm ps as bo hB
  split at h
  ·rename_i hcond
   obtain ⟨hlen, hlb⟩ := hcond
   split at h
   ·rename_i st1 h1
    split at h
    ·rename_i pend' tm' ps' as' bo' hB1
     obtain ⟨⟨e, st2⟩, h2, h3⟩ := Option.bind_eq_some_iff.1 h
     have hbk := S.B _ _ hB
     simp only [BOk] at hbk
     obtain ⟨c0, fn, D, tmps, g1, g2, g3, g4⟩ := hbk
     have : c0 = c := by rw [hc] at g1; injection g1 with g1; exact g1.symm
     subst this
     have hsz : cargs.size = ps.toArray.size := by
      have := ha.length
      simp at this ⊢
      omega
     refine ⟨fn, _, as, bo, run_yield g2 hsz, roundIn_of_wpIn trivial ?_⟩
     have R0 : FRel kp 0 cx { tm := setMany tm ps args, mem := m, df := [], rd := true } { tmps := (ps.toArray.zip cargs).foldl (fun tmps (t, a) => tmps.setIfInBounds t a) tmps, defers := [] } w := by
      refine ⟨S, H, ?_, rfl⟩
      simp only
      rw [← Array.foldl_toList, Array.toList_zip]
      exact setMany_rel ps args cargs.toList tm tmps g3 ha
     refine exec_sound C Xt hm L as (Fence.wide.inRound c0) cx _ _ w .normal st1 _ (.inr ⟨rfl, c0, rfl⟩) (Nat.zero_le _) R0 h1 fun cx1 act1 w1 hrd R1 E1 => ?_
     simp only [exOf, Exit.then]
     have hbk1 := R1.sim.B _ _ hB1
     simp only [BOk] at hbk1
     obtain ⟨c1, fn1, D1, tmps1, k1, k2, k3, k4⟩ := hbk1
     have hc1 : c1 = c0 := by
      have := E1.fo _ _ hc
      rw [k1] at this
      injection this
     subst hc1
     have hlb1 : st1.mem.lb ≤ l := by rw [E1.lb]; exact hlb
     refine ⟨_, run_beginRound k2 rfl, ?_⟩
     obtain ⟨S2, E2⟩ := sim_set_O (y := .loop .busy pend' tm' ps' as' bo') (o := .loop { state := .busy, pending := pend', fn := fn1, tmps := tmps1, params := ps'.toArray, assign := as', body := bo', defers := D1 }) R1.sim hB1 hlb1 k1 k4 (lt_of_heap k2) (fun hl hheap => by
      simp only [BOk]
      exact ⟨_, fn1, D1, tmps1, k1, hheap, VRelL.on (n := st1.mem.A.length) hl (fun _ _ _ h => h) _ _ (VRelL.maxA R1.sim.fa _ _ k3) k3, k4⟩) st1.mem.hi
     have H2 : HiOk { st1.mem with B := st1.mem.B.set l (.loop .busy pend' tm' ps' as' bo') } := R1.hi.setB (Nat.le_refl _) (by have := R1.hi.B _ _ hB1; simpa only [BB.hi] using this)
     have R2 : FRel kp 0 cx1 { st1 with mem := { st1.mem with B := st1.mem.B.set l (.loop .busy pend' tm' ps' as' bo') } } act1 (putO w1 c1 (.loop { state := .busy, pending := pend', fn := fn1, tmps := tmps1, params := ps'.toArray, assign := as', body := bo', defers := D1 })) :=
      ⟨S2, H2, E2.vals R1.sim R1.tm, E2.dfs R1.sim R1.df⟩
     refine exec_sound C Xt hm L bo (Fence.wide.inRound c1) cx1 { st1 with mem := { st1.mem with B := st1.mem.B.set l (.loop .busy pend' tm' ps' as' bo') } } act1 _ e st2 _ (.inr ⟨hrd, c1, rfl⟩) (Nat.zero_le _) R2 h2 fun cx3 act3 w3 hrd3 R3 E3 => ?_
     have E13 : Ev m.A.length cx m w cx3 st2.mem w3 := (E1.trans E2 E1.ln).trans E3 (E1.trans E2 E1.ln).ln
     unfold endRoundV at h3
     simp only at h3
     split at h3
     ·rename_i s3 pend3 tm3 ps3 as3 bo3 hB3
      split at h3
      ·rename_i hlb3
       have hbk3 := R3.sim.B _ _ hB3
       simp only [BOk] at hbk3
       obtain ⟨c3, fn3, D3, tmps3, q1, q2, q3, q4⟩ := hbk3
       have hc3 : c3 = c1 := by
        have := E13.fo _ _ hc
        rw [q1] at this
        injection this
       subst hc3
       have key : ∀ (jump : Option Code) (s : LoopState), s = (if jump.isNone then .ready else .done) → v = .bool jump.isNone → m' = truncA m.A.length v { st2.mem with B := st2.mem.B.set l (.loop s jump tm3 ps3 as3 bo3) } →
         ∃ cv w', (Instr.endRound c3 jump).run cfg.P w3 = .ok cv w' ∧ RetPost kp m.A.length cx m w v m' (.returned cv) w' := by
        intro jump s hs hv hm'
        subst hs hm'
        refine ⟨_, _, run_endRound jump q2, ?_⟩
        obtain ⟨S4, E4⟩ := sim_set_O (y := .loop (if jump.isNone then .ready else .done) jump tm3 ps3 as3 bo3) (o := .loop { state := if jump.isNone then .ready else .done, pending := jump, fn := fn3, tmps := tmps3, params := ps3.toArray, assign := as3, body := bo3, defers := D3 }) R3.sim hB3 hlb3 q1 q4 (lt_of_heap q2) (fun hl hheap => by
         simp only [BOk]
         exact ⟨_, fn3, D3, tmps3, q1, hheap, VRelL.on (n := st2.mem.A.length) hl (fun _ _ _ h => h) _ _ (VRelL.maxA R3.sim.fa _ _ q3) q3, q4⟩) st2.mem.hi
        have H4 : HiOk { st2.mem with B := st2.mem.B.set l (.loop (if jump.isNone then .ready else .done) jump tm3 ps3 as3 bo3) } := R3.hi.setB (Nat.le_refl _) (by have := R3.hi.B _ _ hB3; simpa only [BB.hi] using this)
        refine trunc_ret S S4 H4 (E13.trans E4 E13.ln) ?_
        rw [hv]
        simp only [VRel]
       cases e with
       | normal =>
        injection h3 with h3; injection h3 with hv hm'
        exact key none .ready rfl hv.symm (by rw [← hv]; exact hm'.symm)
       | ret =>
        injection h3 with h3; injection h3 with hv hm'
        exact key (some .ret) .done rfl hv.symm (by rw [← hv]; exact hm'.symm)
       | exit id =>
        injection h3 with h3; injection h3 with hv hm'
        exact key (some (.exit id)) .done rfl hv.symm (by rw [← hv]; exact hm'.symm)
      ·cases h3
     ·cases h3
    ·cases h
   ·cases h
  ·cases h
 ·cases h
theorem callF_ok (C : CallOk kp cfg call) (Xt : ExtOk kp cfg) (hm : cfg.P.follows .mixedOrders = true) (L : LoopOk loop) (hok : OkOk cfg) : CallOk kp cfg (callF cfg call loop) :=
 ⟨fun f args m v m' h => fn_sound C Xt hm L hok h, fun l args m v m' h => yld_sound C Xt hm L h⟩
theorem callN_ok (Xt : ExtOk kp cfg) (hm : cfg.P.follows .mixedOrders = true) (hok : OkOk cfg) : ∀ n, CallOk kp cfg (callN cfg n)
 | 0 => ⟨fun f args m v m' h => by simp [callN] at h, fun l args m v m' h => by simp [callN] at h⟩
 | n + 1 => callF_ok (callN_ok Xt hm hok n) Xt hm (loopN_ok n) hok
theorem callW_ok (Xt : ExtOk kp cfg) (hm : cfg.P.follows .mixedOrders = true) (hok : OkOk cfg) : CallOk kp cfg (callW cfg) := by
 have key : ∀ t args m r, callW cfg t args m = some r → ∃ n, callN cfg n t args m = some r := by
  intro t args m r h
  unfold callW at h
  split at h
  ·rename_i hex
   injection h with h
   have := hex.choose_spec
   rw [h] at this
   exact this
  ·cases h
 refine ⟨fun f args m v m' h => ?_, fun l args m v m' h => ?_⟩
 ·obtain ⟨n, hn⟩ := key _ _ _ _ h
  exact (callN_ok Xt hm hok n).fn f args m v m' hn
 ·obtain ⟨n, hn⟩ := key _ _ _ _ h
  exact (callN_ok Xt hm hok n).yld l args m v m' hn
end
end Go.Proofs.YtpdgbhjhodhkiaaGreatDoor.AI
namespace Go.Proofs.YtpdgbhjhodhkiaaGreatDoor.AI
open Go
variable {kp : Kp}
abbrev Loop := (St → Option (Ex × St)) → St → Option (Ex × St)
def CallLe (c c' : Call) : Prop := ∀ t a m r, c t a m = some r → c' t a m = some r
def FunLe {α β : Type} (g g' : α → Option β) : Prop := ∀ s r, g s = some r → g' s = some r
def LoopLe (l l' : Loop) : Prop := ∀ g g', FunLe g g' → ∀ st r, l g st = some r → l' g' st = some r
section
variable {cfg : Cfg} {call call' : Call}
theorem doCall_mono (h : CallLe call call') {draw : Bool} {f : FuncId} {args : List V} {m : Mem} {r : V × Mem} (k : doCall cfg call draw f args m = some r) : doCall cfg call' draw f args m = some r := by
 unfold doCall at k ⊢
 split at k
 ·split at k
  ·cases k
  ·rename_i hd
   rw [if_neg hd]
   exact h _ _ _ _ k
 ·exact k
 ·obtain ⟨a, h1, k⟩ := Option.bind_eq_some_iff.1 k
  obtain ⟨b, h2, k⟩ := Option.bind_eq_some_iff.1 k
  exact Option.bind_eq_some_iff.2 ⟨a, h1, Option.bind_eq_some_iff.2 ⟨b, h _ _ _ _ h2, k⟩⟩
 ·obtain ⟨b, h2, k⟩ := Option.bind_eq_some_iff.1 k
  exact Option.bind_eq_some_iff.2 ⟨b, h _ _ _ _ h2, k⟩
theorem callV_mono (h : CallLe call call') {draw : Bool} {ρ : Operand → V} {m : Mem} {c : Go.Call} {r : V × Mem} (k : callV cfg call draw ρ m c = some r) : callV cfg call' draw ρ m c = some r := by
 unfold callV at k ⊢
 split at k
 ·exact k
 ·split at k
  ·exact doCall_mono h k
  ·split at k
   ·cases k
   ·rename_i hd
    rw [if_neg hd]
    exact h _ _ _ _ k
  ·cases k
 ·cases k
theorem stepAt_mono (h : CallLe call call') {draw : Bool} {ops : Array Oper} {base i : Nat} {st st' : St} (k : stepAt cfg call draw ops base i st = some st') : stepAt cfg call' draw ops base i st = some st' := by
 unfold stepAt at k ⊢
 split at k
 ·exact k
 ·split at k
  ·cases k
  ·exact k
  ·split at k
   ·obtain ⟨x, h1, h2⟩ := Option.map_eq_some_iff.1 k
    rw [callV_mono h h1]
    rw [← h2]
    rfl
   ·exact k
   ·exact k
theorem runOps_mono (h : CallLe call call') {draw : Bool} {ops : Array Oper} {base : Nat} : ∀ (l : List Nat) (st st' : St), runOps cfg call draw ops base l st = some st' → runOps cfg call' draw ops base l st = some st'
 | [], _, _, k => k
 | i :: l, st, st', k => by
  obtain ⟨hc, s, h1, h2⟩ := runOps_cons.1 k
  exact runOps_cons.2 ⟨hc, s, stepAt_mono h h1, runOps_mono h l s st' h2⟩
theorem exec_mono {loop loop' : Loop} (h : CallLe call call') (hl : LoopLe loop loop') : ∀ (c : Code) (st : St) (r : Ex × St), exec cfg call loop c st = some r → exec cfg call' loop' c st = some r
 | .skip, _, _, k => k
 | .label _, _, _, k => k
 | .region id ops draw, st, r, k => by
  simp only [exec, regV] at k ⊢
  split at k
  ·cases k
  ·rename_i hd
   rw [if_neg hd]
   split at k
   ·cases k
   ·obtain ⟨x, h1, h2⟩ := Option.map_eq_some_iff.1 k
    exact Option.map_eq_some_iff.2 ⟨x, runOps_mono h _ _ _ h1, h2⟩
 | .seq a b, st, r, k => by
  simp only [exec] at k ⊢
  split at k
  ·rename_i st1 h1
   rw [exec_mono h hl a st _ h1]
   exact exec_mono h hl b st1 r k
  ·rename_i hne
   rw [exec_mono h hl a st _ k]
   split
   ·rename_i st1 e
    injection e with e
    subst e
    exact absurd k (hne st1)
   ·rfl
 | .cond c a b, st, r, k => by
  simp only [exec] at k ⊢
  split at k
  ·exact exec_mono h hl a st r k
  ·exact exec_mono h hl b st r k
  ·cases k
 | .block id c, st, r, k => by
  simp only [exec] at k ⊢
  split at k
  ·rename_i id' st1 h1
   rw [exec_mono h hl c st _ h1]
   exact k
  ·rename_i hne
   rw [exec_mono h hl c st _ k]
   split
   ·rename_i id' st1 e
    injection e with e
    subst e
    exact absurd k (hne id' st1)
   ·rfl
 | .loop c, st, r, k => by
  simp only [exec] at k ⊢
  exact hl _ _ (fun s r k => exec_mono h hl c s r k) st r k
 | .exit id, _, _, k => k
 | .ret, _, _, k => k
 | .rangeFunc f ps assign body, st, r, k => by
  simp only [exec] at k ⊢
  split at k
  ·cases k
  ·rename_i hd
   rw [if_neg hd]
   split at k
   ·split at k
    ·rename_i v m h1
     rw [h _ _ _ _ h1]
     exact k
    ·cases k
   ·cases k
 | .scope _, _, _, k => k
 | .goto _, _, _, k => k
 | .refuse _, _, _, k => k
theorem loopN_mono {g g' : St → Option (Ex × St)} (h : FunLe g g') : ∀ (n n' : Nat) (st : St) (r : Ex × St), n ≤ n' → loopN g n st = some r → loopN g' n' st = some r
 | 0, _, _, _, _, k => by simp [loopN] at k
 | n + 1, 0, _, _, hn, _ => by omega
 | n + 1, n' + 1, st, r, hn, k => by
  simp only [loopN] at k ⊢
  split at k
  ·rename_i st1 h1
   rw [h _ _ h1]
   exact loopN_mono h n n' _ r (by omega) k
  ·rename_i e st1 hne h1
   rw [h _ _ h1]
   cases e with
   | normal => exact absurd rfl hne
   | exit id => exact k
   | ret => exact k
  ·cases k
theorem callF_mono {loop loop' : Loop} (h : CallLe call call') (hl : LoopLe loop loop') : CallLe (callF cfg call loop) (callF cfg call' loop') := by
 intro t args m r k
 cases t with
 | fn f =>
  simp only [callF] at k ⊢
  split at k
  ·split at k
   ·split at k
    ·rename_i hok
     rw [if_pos hok]
     obtain ⟨x, h1, h2⟩ := Option.bind_eq_some_iff.1 k
     exact Option.bind_eq_some_iff.2 ⟨x, exec_mono h hl _ _ _ h1, h2⟩
    ·cases k
   ·cases k
  ·cases k
 | yld l =>
  simp only [callF] at k ⊢
  split at k
  ·split at k
   ·rename_i hc
    rw [if_pos hc]
    split at k
    ·rename_i st1 h1
     rw [exec_mono h hl _ _ _ h1]
     simp only
     split at k
     ·obtain ⟨x, h2, h3⟩ := Option.bind_eq_some_iff.1 k
      exact Option.bind_eq_some_iff.2 ⟨x, exec_mono h hl _ _ _ h2, h3⟩
     ·cases k
    ·cases k
   ·cases k
  ·cases k
def loopF (n : Nat) : Loop := fun g => loopN g n
theorem loopF_le {n n' : Nat} (h : n ≤ n') : LoopLe (loopF n) (loopF n') := fun g g' hg st r k => loopN_mono hg n n' st r h k
theorem callN_succ (n : Nat) : callN cfg (n + 1) = callF cfg (callN cfg n) (loopF n) := rfl
theorem callN_le1 : ∀ n, CallLe (callN cfg n) (callN cfg (n + 1))
 | 0 => fun t a m r k => by simp [callN] at k
 | n + 1 => by
  rw [callN_succ, callN_succ (n + 1)]
  exact callF_mono (callN_le1 n) (loopF_le (Nat.le_succ n))
theorem callN_le {n n' : Nat} (h : n ≤ n') : CallLe (callN cfg n) (callN cfg n') := by
 induction h with
 | refl => exact fun _ _ _ _ k => k
 | step _ ih => exact fun t a m r k => callN_le1 _ t a m r (ih t a m r k)
theorem callW_of {n : Nat} {t : Tgt} {a : List V} {m : Mem} {r : V × Mem} (k : callN cfg n t a m = some r) : callW cfg t a m = some r := by
 unfold callW
 have hex : ∃ r n, callN cfg n t a m = some r := ⟨r, n, k⟩
 rw [dif_pos hex]
 obtain ⟨n', k'⟩ := hex.choose_spec
 have e1 := callN_le (Nat.le_max_left n n') t a m _ k
 have e2 := callN_le (Nat.le_max_right n n') t a m _ k'
 rw [e1] at e2
 injection e2 with e2
 rw [← e2]
theorem callW_some {t : Tgt} {a : List V} {m : Mem} {r : V × Mem} (h : callW cfg t a m = some r) : ∃ n, callN cfg n t a m = some r := by
 unfold callW at h
 split at h
 ·rename_i hex
  injection h with h
  have := hex.choose_spec
  rw [h] at this
  exact this
 ·cases h
theorem loopW_of {g : St → Option (Ex × St)} {n : Nat} {st : St} {r : Ex × St} (k : loopN g n st = some r) : loopW g st = some r := by
 unfold loopW
 have hex : ∃ r n, loopN g n st = some r := ⟨r, n, k⟩
 rw [dif_pos hex]
 obtain ⟨n', k'⟩ := hex.choose_spec
 have e1 := loopN_mono (g := g) (g' := g) (fun _ _ h => h) n (max n n') st r (Nat.le_max_left _ _) k
 have e2 := loopN_mono (g := g) (g' := g) (fun _ _ h => h) n' (max n n') st _ (Nat.le_max_right _ _) k'
 rw [e1] at e2
 injection e2 with e2
 rw [← e2]
theorem loopW_le : ∀ n, LoopLe (loopF n) loopW := fun n g g' hg st r k => loopW_of (loopN_mono hg n n st r (Nat.le_refl n) k)
theorem callW_le (n : Nat) : CallLe (callN cfg n) (callW cfg) := fun t a m r k => callW_of k
theorem loopW_eq (g : St → Option (Ex × St)) (st : St) : loopW g st = (match g st with
  | some (.normal, st1) => loopW g (gcSt st st1)
  | some (e, st1) => some (e, gcSt st st1)
  | none => none) := by
 cases hg : g st with
 | none =>
  simp only
  cases hl : loopW g st with
  | none => rfl
  | some r =>
   obtain ⟨n, hn⟩ := loopW_ok g st r hl
   cases n with
   | zero => simp [loopN] at hn
   | succ n => simp [loopN, hg] at hn
 | some x =>
  obtain ⟨e, st1⟩ := x
  cases e with
  | normal =>
   simp only
   cases hl : loopW g st with
   | some r =>
    obtain ⟨n, hn⟩ := loopW_ok g st r hl
    cases n with
    | zero => simp [loopN] at hn
    | succ n =>
     simp only [loopN, hg] at hn
     exact (loopW_of hn).symm
   | none =>
    cases hl' : loopW g (gcSt st st1) with
    | none => rfl
    | some r =>
     obtain ⟨n, hn⟩ := loopW_ok g _ r hl'
     have : loopN g (n + 1) st = some r := by simp only [loopN, hg]; exact hn
     rw [loopW_of this] at hl
     cases hl
  | exit id => exact loopW_of (n := 1) (by simp only [loopN, hg])
  | ret => exact loopW_of (n := 1) (by simp only [loopN, hg])
theorem doCall_cont {draw : Bool} {f : FuncId} {args : List V} {m : Mem} {r : V × Mem} (k : doCall cfg (callW cfg) draw f args m = some r) : ∃ n, doCall cfg (callN cfg n) draw f args m = some r := by
 unfold doCall at k ⊢
 split at k
 ·split at k
  ·cases k
  ·rename_i hd
   obtain ⟨n, hn⟩ := callW_some k
   exact ⟨n, by rw [if_neg hd]; exact hn⟩
 ·exact ⟨0, k⟩
 ·obtain ⟨a, h1, k⟩ := Option.bind_eq_some_iff.1 k
  obtain ⟨b, h2, k⟩ := Option.bind_eq_some_iff.1 k
  obtain ⟨n, hn⟩ := callW_some h2
  exact ⟨n, Option.bind_eq_some_iff.2 ⟨a, h1, Option.bind_eq_some_iff.2 ⟨b, hn, k⟩⟩⟩
 ·obtain ⟨b, h2, k⟩ := Option.bind_eq_some_iff.1 k
  obtain ⟨n, hn⟩ := callW_some h2
  exact ⟨n, Option.bind_eq_some_iff.2 ⟨b, hn, k⟩⟩
theorem callV_cont {draw : Bool} {ρ : Operand → V} {m : Mem} {c : Go.Call} {r : V × Mem} (k : callV cfg (callW cfg) draw ρ m c = some r) : ∃ n, callV cfg (callN cfg n) draw ρ m c = some r := by
 unfold callV at k ⊢
 split at k
 ·exact ⟨0, k⟩
 ·split at k
  ·exact doCall_cont k
  ·split at k
   ·cases k
   ·rename_i hd
    obtain ⟨n, hn⟩ := callW_some k
    exact ⟨n, by rw [if_neg hd]; exact hn⟩
  ·cases k
 ·cases k
theorem stepAt_cont {draw : Bool} {ops : Array Oper} {base i : Nat} {st st' : St} (k : stepAt cfg (callW cfg) draw ops base i st = some st') : ∃ n, stepAt cfg (callN cfg n) draw ops base i st = some st' := by
 unfold stepAt at k ⊢
 split at k
 ·exact ⟨0, k⟩
 ·split at k
  ·cases k
  ·exact ⟨0, k⟩
  ·split at k
   ·obtain ⟨x, h1, h2⟩ := Option.map_eq_some_iff.1 k
    obtain ⟨n, hn⟩ := callV_cont h1
    exact ⟨n, by rw [hn, ← h2]; rfl⟩
   ·exact ⟨0, k⟩
   ·exact ⟨0, k⟩
theorem runOps_cont {draw : Bool} {ops : Array Oper} {base : Nat} : ∀ (l : List Nat) (st st' : St), runOps cfg (callW cfg) draw ops base l st = some st' → ∃ n, runOps cfg (callN cfg n) draw ops base l st = some st'
 | [], _, _, k => ⟨0, k⟩
 | i :: l, st, st', k => by
  obtain ⟨hc, s, h1, h2⟩ := runOps_cons.1 k
  obtain ⟨n1, k1⟩ := stepAt_cont h1
  obtain ⟨n2, k2⟩ := runOps_cont l s st' h2
  exact ⟨max n1 n2, runOps_cons.2 ⟨hc, s, stepAt_mono (callN_le (Nat.le_max_left _ _)) k1, runOps_mono (callN_le (Nat.le_max_right _ _)) l s st' k2⟩⟩
def execN (cfg : Cfg) (n : Nat) : Code → St → Option (Ex × St) := exec cfg (callN cfg n) (loopF n)
theorem execN_le {n n' : Nat} (h : n ≤ n') (c : Code) : FunLe (execN cfg n c) (execN cfg n' c) := fun s r k => exec_mono (callN_le h) (loopF_le h) c s r k
theorem exec_cont : ∀ (c : Code) (st : St) (r : Ex × St), exec cfg (callW cfg) loopW c st = some r → ∃ n, execN cfg n c st = some r
 | .skip, _, _, k => ⟨0, k⟩
 | .label _, _, _, k => ⟨0, k⟩
 | .region id ops draw, st, r, k => by
  simp only [exec, execN, regV] at k ⊢
  split at k
  ·cases k
  ·rename_i hd
   split at k
   ·cases k
   ·obtain ⟨x, h1, h2⟩ := Option.map_eq_some_iff.1 k
    obtain ⟨n, hn⟩ := runOps_cont _ _ _ h1
    exact ⟨n, by rw [if_neg hd]; exact Option.map_eq_some_iff.2 ⟨x, hn, h2⟩⟩
 | .seq a b, st, r, k => by
  simp only [exec] at k
  split at k
  ·rename_i st1 h1
   obtain ⟨n1, k1⟩ := exec_cont a st _ h1
   obtain ⟨n2, k2⟩ := exec_cont b st1 r k
   refine ⟨max n1 n2, ?_⟩
   have e1 := execN_le (Nat.le_max_left n1 n2) a _ _ k1
   have e2 := execN_le (Nat.le_max_right n1 n2) b _ _ k2
   simp only [execN, exec] at e1 e2 ⊢
   rw [e1]
   exact e2
  ·rename_i hne
   obtain ⟨n1, k1⟩ := exec_cont a st r k
   refine ⟨n1, ?_⟩
   simp only [execN, exec] at k1 ⊢
   rw [k1]
   split
   ·rename_i st1 e
    injection e with e
    subst e
    exact absurd k (hne st1)
   ·rfl
 | .cond c a b, st, r, k => by
  simp only [exec] at k
  split at k
  ·rename_i hv
   obtain ⟨n, hn⟩ := exec_cont a st r k
   exact ⟨n, by simp only [execN, exec, hv] at hn ⊢; exact hn⟩
  ·rename_i hv
   obtain ⟨n, hn⟩ := exec_cont b st r k
   exact ⟨n, by simp only [execN, exec, hv] at hn ⊢; exact hn⟩
  ·cases k
 | .block id c, st, r, k => by
  simp only [exec] at k
  split at k
  ·rename_i id' st1 h1
   obtain ⟨n, hn⟩ := exec_cont c st _ h1
   refine ⟨n, ?_⟩
   simp only [execN, exec] at hn ⊢
   rw [hn]
   exact k
  ·rename_i hne
   obtain ⟨n, hn⟩ := exec_cont c st r k
   refine ⟨n, ?_⟩
   simp only [execN, exec] at hn ⊢
   rw [hn]
   split
   ·rename_i id' st1 e
    injection e with e
    subst e
    exact absurd k (hne id' st1)
   ·rfl
 | .loop c, st, r, k => by
  simp only [exec] at k
  obtain ⟨j, hj⟩ := loopW_ok _ _ _ k
  have key : ∀ (j : Nat) (st : St), loopN (exec cfg (callW cfg) loopW c) j st = some r → ∃ n, loopN (execN cfg n c) n st = some r := by
   intro j
   induction j with
   | zero => intro st h; simp [loopN] at h
   | succ j ih =>
    intro st h
    simp only [loopN] at h
    split at h
    ·rename_i st1 h1
     obtain ⟨n1, k1⟩ := exec_cont c st _ h1
     obtain ⟨n2, k2⟩ := ih _ h
     refine ⟨max n1 n2 + 1, ?_⟩
     simp only [loopN]
     rw [execN_le (show n1 ≤ max n1 n2 + 1 by omega) c _ _ k1]
     exact loopN_mono (execN_le (show n2 ≤ max n1 n2 + 1 by omega) c) n2 (max n1 n2) _ r (Nat.le_max_right _ _) k2
    ·rename_i e st1 hne h1
     obtain ⟨n1, k1⟩ := exec_cont c st _ h1
     refine ⟨n1 + 1, ?_⟩
     simp only [loopN]
     rw [execN_le (Nat.le_succ n1) c _ _ k1]
     cases e with
     | normal => exact absurd rfl hne
     | exit id => exact h
     | ret => exact h
    ·cases h
  exact key j st hj
 | .exit id, _, _, k => ⟨0, k⟩
 | .ret, _, _, k => ⟨0, k⟩
 | .rangeFunc f ps assign body, st, r, k => by
  simp only [exec] at k
  split at k
  ·cases k
  ·rename_i hd
   split at k
   ·rename_i g caps hg
    split at k
    ·rename_i v m h1
     obtain ⟨n, hn⟩ := callW_some h1
     refine ⟨n, ?_⟩
     simp only [execN, exec]
     rw [if_neg hd]
     simp only [hg, hn]
     exact k
    ·cases k
   ·cases k
 | .scope _, _, _, k => by simp [exec] at k
 | .goto _, _, _, k => by simp [exec] at k
 | .refuse _, _, _, k => by simp [exec] at k
theorem callW_fn {f : FuncId} {fn : Func} {c : Code} {args : List V} {m : Mem} (hf : cfg.P.funcs[f]? = some fn) (hb : fn.body = some c) (hok : cfg.ok f = true) :
  callW cfg (.fn f) args m = (exec cfg (callW cfg) loopW c (enterSt fn args m)).bind (leaveV cfg.P fn m.A.length) := by
 have e : ∀ call loop, callF cfg call loop (.fn f) args m = (exec cfg call loop c (enterSt fn args m)).bind (leaveV cfg.P fn m.A.length) := fun call loop => by
  simp only [callF, hf, hb, hok, if_true]
 cases h : (exec cfg (callW cfg) loopW c (enterSt fn args m)).bind (leaveV cfg.P fn m.A.length) with
 | some r =>
  obtain ⟨x, h1, h2⟩ := Option.bind_eq_some_iff.1 h
  obtain ⟨n, hn⟩ := exec_cont c _ _ h1
  refine callW_of (n := n + 1) ?_
  rw [callN_succ, e]
  exact Option.bind_eq_some_iff.2 ⟨x, hn, h2⟩
 | none =>
  cases hw : callW cfg (.fn f) args m with
  | none => rfl
  | some r =>
   obtain ⟨n, hn⟩ := callW_some hw
   cases n with
   | zero => simp [callN] at hn
   | succ n =>
    rw [callN_succ, e] at hn
    obtain ⟨x, h1, h2⟩ := Option.bind_eq_some_iff.1 hn
    have h1' := exec_mono (callW_le n) (loopW_le n) c _ _ h1
    rw [h1'] at h
    simp only [Option.bind_some] at h
    rw [h] at h2
    cases h2
end
end Go.Proofs.YtpdgbhjhodhkiaaGreatDoor.AI
