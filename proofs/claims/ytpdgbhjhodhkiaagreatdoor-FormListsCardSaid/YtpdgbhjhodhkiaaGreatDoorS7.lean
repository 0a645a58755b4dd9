/- Slices, fields, building, conversions. -/
import Derived.Test.YtpdgbhjhodhkiaaGreatDoorS6
import Derived.Laws.BytesArg
set_option linter.unusedVariables false
set_option linter.unusedSimpArgs false
namespace Go.Proofs.YtpdgbhjhodhkiaaGreatDoor.AI
open Go
variable {kp : Kp}

section
variable {P : Program} {cx : Cx} {m : Mem} {w : World}

theorem OpRes.grow {v : V} {s : Sem Value} {cv : Value} {w' : World} (S : Sim kp cx m w) (h : s.run P w = .ok cv w') (hs : w.heap.size ≤ w'.heap.size) (hh : ∀ c, c < w.heap.size → w'.heap[c]? = w.heap[c]?) (ho : w'.os = w.os) (ht : w'.tape = w.tape) (hp : w'.output = w.output)
    (hv : VRel cx w' v cv) : OpRes kp P cx m w v m s := by
  obtain ⟨S', E'⟩ := sim_grow S hs hh ho ht hp
  exact ⟨cv, w', cx, h, hv, S', E'⟩

/-! ### The contents of a slice, or a string -/
theorem bytes_rel (l : List UInt8) : VRelL cx w (l.map fun b => V.int .u8 b.toNat) (l.map fun b => Value.int .u8 b.toNat) := by
  induction l with
  | nil => simp [VRelL]
  | cons b l ih => simp only [List.map_cons, VRelL, VRel]; exact ⟨trivial, ih⟩
theorem contents_sound (S : Sim kp cx m w) {sz n : Nat} {x : V} {cs : List V} {cv : Value} (hx : VRel cx w x cv) (h : contents m sz x = some (n, cs)) :
    cs.length = n * sz ∧ (Builtin.lenOf cv).run P w = .ok n w ∧ ∃ vs : List Value, VRelL cx w cs vs ∧ (Builtin.firstCells sz n cv).run P w = .ok vs.toArray w := by
  unfold contents at h
  split at h
  · injection h with h; injection h with h1 h2; subst h1 h2
    simp only [VRel] at hx
    subst hx
    exact ⟨by simp, by simp [Builtin.lenOf], [], by simp [VRelL], by simp [Builtin.firstCells]⟩
  · rename_i cells k full
    split at h
    · rename_i e
      injection h with h; injection h with h1 h2; subst h1 h2
      simp only [VRel] at hx
      obtain ⟨a, cap, rfl, _, _, hr⟩ := hx
      refine ⟨e.symm, by simp [Builtin.lenOf], ?_⟩
      rcases hr with rfl | ⟨blk, o, rfl, _, _, hr⟩
      · have : k * sz = 0 := by simpa using e
        refine ⟨[], by simp [VRelL], ?_⟩
        cases a with
        | none => simp [Builtin.firstCells]
        | some a => simp [Builtin.firstCells, this, loadCells, loadCellsFrom]
      · obtain ⟨vs, h5, h6⟩ := RowRel.list hr
        refine ⟨vs, h5, ?_⟩
        have hl := r_cells (P := P) (w := w) ⟨blk, o, none⟩ vs (fun j v hj => by rw [add_none]; exact h6 j v hj)
        simp [Builtin.firstCells, e, h5.length, hl]
    · cases h
  · rename_i b ver off len
    cases hB : m.B[b]? with
    | none => simp [hB] at h
    | some y =>
      cases y with
      | map _ => simp [hB] at h
      | loop _ _ _ _ _ _ => simp [hB] at h
      | cells sz' ver' pu fz xs =>
        simp only [hB] at h
        split at h
        · rename_i e
          cases hs : sub xs off (len * sz) with
          | none => simp [hs] at h
          | some l =>
            simp only [hs, Option.map_some] at h
            injection h with h; injection h with h1 h2; subst h1 h2
            obtain ⟨g1, rfl, g3⟩ := sub_some hs
            simp only [VRel] at hx
            obtain ⟨k1, k2, a, cap, rfl, k4, _, k5⟩ := hx
            have hb := S.B b _ hB
            simp only [BOk] at hb
            obtain ⟨j1, j2, _, _, arr, t, j5, _, j7, j8⟩ := hb
            refine ⟨g3, by simp [Builtin.lenOf], ?_⟩
            have h6 := VRelL.take (len * sz) (VRelL.drop off j8)
            obtain ⟨_, hc⟩ := k5 (by omega)
            rcases hc with hc | rfl
            · have h0 : len = 0 := by omega
              subst h0
              refine ⟨[], by simp [VRelL], ?_⟩
              cases a with
              | none => simp [Builtin.firstCells]
              | some a => simp [Builtin.firstCells, loadCells, loadCellsFrom]
            · refine ⟨_, h6, ?_⟩
              have hlen : (((arr.toList.take xs.length).drop off).take (len * sz)).length = len * sz := by rw [← h6.length, g3]
              have hl := r_cells (P := P) (w := w) ⟨(cx.fb b).1, off, none⟩ (((arr.toList.take xs.length).drop off).take (len * sz)) (fun j v hj => by
                rw [add_none, cell_block j5, ← Array.getElem?_toList]
                rw [List.getElem?_take] at hj
                split at hj
                · rw [List.getElem?_drop, List.getElem?_take] at hj
                  split at hj
                  · exact hj
                  · cases hj
                · cases hj)
              rw [hlen] at hl
              simp only [Builtin.firstCells]
              exact hl
        · cases h
  · rename_i s
    split at h
    · rename_i e
      subst e
      injection h with h; injection h with h1 h2; subst h1 h2
      simp only [VRel] at hx
      subst hx
      refine ⟨by rw [List.length_map, Array.length_toList, Nat.mul_one]; rfl, by simp [Builtin.lenOf], _, bytes_rel s.data.toList, ?_⟩
      simp only [Builtin.firstCells, Sem.run_pure]
      congr 1
      have : s.extract 0 s.size = s := by simp
      rw [this]
      apply Array.ext'
      simp
    · cases h
  · cases h

theorem u8s_rel : ∀ {cs : List V} {xs : List Int} {vs : List Value}, u8sOf cs = some xs → VRelL cx w cs vs → vs = xs.map (Value.int .u8)
  | [], xs, vs, h, hv => by
    simp [u8sOf] at h
    subst h
    cases vs with
    | nil => rfl
    | cons _ _ => simp [VRelL] at hv
  | .int .u8 n :: r, xs, vs, h, hv => by
    simp only [u8sOf] at h
    cases hr : u8sOf r with
    | none => simp [hr] at h
    | some ys =>
      simp only [hr, Option.map_some] at h
      injection h with h
      subst h
      cases vs with
      | nil => simp [VRelL] at hv
      | cons v vs =>
        simp only [VRelL, VRel] at hv
        rw [hv.1, u8s_rel hr hv.2]
        rfl
  | .undef :: _, _, _, h, _ | .bool _ :: _, _, _, h, _ | .str _ :: _, _, _, h, _ | .nilp :: _, _, _, h, _ | .ptr _ _ :: _, _, _, h, _ | .bptr _ _ _ :: _, _, _, h, _ | .rp _ _ :: _, _, _, h, _
  | .nils :: _, _, _, h, _ | .sl _ _ _ _ :: _, _, _, h, _ | .ro _ _ _ :: _, _, _, h, _ | .nilm :: _, _, _, h, _ | .map _ :: _, _, _, h, _ | .nilf :: _, _, _, h, _ | .fn _ _ :: _, _, _, h, _ | .yld _ :: _, _, _, h, _
  | .nili :: _, _, _, h, _ | .ifc _ _ :: _, _, _, h, _ | .agg _ :: _, _, _, h, _ | .tup _ :: _, _, _, h, _ => by simp [u8sOf] at h
  | .int .i8 _ :: _, _, _, h, _ | .int .i16 _ :: _, _, _, h, _ | .int .i32 _ :: _, _, _, h, _ | .int .i64 _ :: _, _, _, h, _ | .int .u16 _ :: _, _, _, h, _ | .int .u32 _ :: _, _, _, h, _ | .int .u64 _ :: _, _, _, h, _ => by simp [u8sOf] at h

theorem bytesTo_run {src dst e : TypeId} (hs : P.underlying src = some (.slice e)) (he : P.underlying e = some (.int .u8)) (hd : P.underlying dst = some .string) {a : Option Addr} {n cap : Nat} {xs : List Int}
    (hf : (Builtin.firstCells 1 n (.slice a n cap)).run P w = .ok (xs.map (Value.int .u8)).toArray w) : (convert src dst (.slice a n cap)).run P w = .ok (.string (strOfNums xs)) w := by
  rw [run_convert_bytes_string w src dst e a n cap hs he hd]
  cases a with
  | none =>
    simp [Builtin.firstCells] at hf
    subst hf
    simp [Conv.bytesToString, strOfNums]
    rfl
  | some a =>
    simp only [Builtin.firstCells, Nat.mul_one] at hf
    rw [run_bytesToString w a n cap xs hf, foldl_push_bytes]
    simp [strOfNums, ByteArray.empty, ByteArray.emptyWithCapacity]
    rfl

theorem conv_sound (S : Sim kp cx m w) {src dst : TypeId} {x v : V} {cv : Value} (hx : VRel cx w x cv) (h : convV P m src dst x = some v) : OpRes kp P cx m w v m (convert src dst cv) := by
  unfold convV at h
  split at h
  · rename_i e hs hd
    split at h
    · rename_i he
      injection h with h
      subst h
      simp only [VRel] at hx
      subst hx
      exact OpRes.same S (bytesTo_run (xs := []) hs he hd (by simp [Builtin.firstCells])) (by simp [VRel, strOfNums]; rfl)
    · rename_i cells n full he
      cases hc : contents m 1 (.ro cells n full) with
      | none => simp [hc] at h
      | some p =>
        obtain ⟨k, cs⟩ := p
        simp only [hc, Option.bind_some] at h
        cases hu : u8sOf cs with
        | none => simp [hu] at h
        | some xs =>
          simp only [hu, Option.map_some] at h
          injection h with h
          subst h
          obtain ⟨_, h2, vs, h3, h4⟩ := contents_sound (P := P) S hx hc
          have hv := u8s_rel hu h3
          subst hv
          simp only [VRel] at hx
          obtain ⟨a, cap, rfl, _⟩ := hx
          have hk : n = k := by simpa [Builtin.lenOf] using h2
          subst hk
          exact OpRes.same S (bytesTo_run hs he hd h4) (by simp [VRel])
    · rename_i b ver off len he
      cases hc : contents m 1 (.sl b ver off len) with
      | none => simp [hc] at h
      | some p =>
        obtain ⟨k, cs⟩ := p
        simp only [hc, Option.bind_some] at h
        cases hu : u8sOf cs with
        | none => simp [hu] at h
        | some xs =>
          simp only [hu, Option.map_some] at h
          injection h with h
          subst h
          obtain ⟨_, h2, vs, h3, h4⟩ := contents_sound (P := P) S hx hc
          have hv := u8s_rel hu h3
          subst hv
          simp only [VRel] at hx
          obtain ⟨_, _, a, cap, rfl, _⟩ := hx
          have hk : len = k := by simpa [Builtin.lenOf] using h2
          subst hk
          exact OpRes.same S (bytesTo_run hs he hd h4) (by simp [VRel])
    · cases h
  · rename_i k k' n hs hd
    injection h with h
    subst h
    simp only [VRel] at hx
    subst hx
    exact OpRes.same S (cv := .int k (k.wrap n)) (by simp [convert, r_und hs, r_und hd, Conv.intToInt]) (by simp [VRel])
  · rename_i s hs hd
    injection h with h
    subst h
    simp only [VRel] at hx
    subst hx
    exact OpRes.same S (cv := .string s) (by simp [convert, r_und hs, r_und hd]) (by simp [VRel])
  · rename_i e s hs hd
    split at h
    · rename_i he
      split at h
      · rename_i hsz
        injection h with h
        subst h
        simp only [VRel] at hx
        subst hx
        -- a new row, whose capacity is drawn, marked as one that a string may share
        generalize hcap : Question.cut (.appendCap s.size 0 e) (w.tape w.drawn (.appendCap s.size 0 e)) = cap
        generalize harr : (s.data.map fun b => Value.int .u8 b.toNat) ++ Array.replicate (cap - s.size) (Value.int .u8 0) = arr
        have hn : (w.drew.alloc (.cells arr e)).heap[w.heap.size]? = some (.cells arr e (0, 0)) := heap_alloc_new w.drew _
        have hsh : (w.drew.alloc (.cells arr e)).shape? w.heap.size = some (e, arr.size) := by simp only [World.shape?, hn]
        have hrun : (convert src dst (.string s)).run P w = .ok (.slice (some ⟨w.heap.size, 0, none⟩) s.size cap) ((w.drew.alloc (.cells arr e)).freeze { block := w.heap.size, off := arr.size } 1) := by
          simp [convert, r_und hs, r_und hd, r_und he, Conv.stringToBytes, Question.forced, hcap, harr, newRow, markStringish, hsh]
        have hfz : ((w.drew.alloc (.cells arr e)).freeze { block := w.heap.size, off := arr.size } 1).heap = (w.drew.alloc (.cells arr e)).heap.modify w.heap.size (fun
            | .cells c elem (lo, hi) => .cells c elem (if lo == hi then (arr.size, arr.size + 1) else (min lo arr.size, max hi (arr.size + 1)))
            | o => o) := rfl
        have hheap : ∀ c, c < w.heap.size → ((w.drew.alloc (.cells arr e)).freeze { block := w.heap.size, off := arr.size } 1).heap[c]? = w.heap[c]? := by
          intro c hc
          rw [hfz, Array.getElem?_modify, if_neg (by omega)]
          exact heap_alloc_lt w.drew _ hc
        have hnew : ((w.drew.alloc (.cells arr e)).freeze { block := w.heap.size, off := arr.size } 1).heap[w.heap.size]? = some (.cells arr e (arr.size, arr.size + 1)) := by
          rw [hfz, Array.getElem?_modify, if_pos rfl, hn]
          rfl
        have hsize : w.heap.size ≤ ((w.drew.alloc (.cells arr e)).freeze { block := w.heap.size, off := arr.size } 1).heap.size := by
          rw [hfz]
          simp
        refine OpRes.grow S hrun hsize hheap rfl rfl rfl ?_
        simp only [VRel]
        refine ⟨_, cap, rfl, by rw [← hcap]; simp only [Question.cut]; omega, by simp, ?_⟩
        refine .inr ⟨w.heap.size, 0, rfl, lt_of_heap hnew, S.fresh _ (Nat.le_refl _), RowRel.of_get fun i x hi => ?_⟩
        have hil : i < s.data.toList.length := by
          have := (List.getElem?_eq_some_iff.1 hi).1
          simpa using this
        rw [List.getElem?_map, List.getElem?_eq_getElem hil] at hi
        simp only [Option.map_some] at hi
        injection hi with hi
        subst hi
        refine ⟨by simp [V.pure], _, ?_, by simp only [VRel]; rfl⟩
        rw [cell_block hnew, ← harr]
        have hil2 : i < s.data.size := by simpa using hil
        rw [Nat.zero_add, Array.getElem?_append_left (by simpa using hil2)]
        simp
        exact ⟨_, Array.getElem?_eq_getElem hil2, rfl⟩
      · cases h
    · cases h
  · cases h
end
end Go.Proofs.YtpdgbhjhodhkiaaGreatDoor.AI
