/- What is stored leads to blocks below 'hi' alone; builtins. -/
import Derived.Test.YtpdgbhjhodhkiaaGreatDoorS12
set_option linter.unusedVariables false
set_option linter.unusedSimpArgs false
namespace Go.Proofs.YtpdgbhjhodhkiaaGreatDoor.AI
open Go
variable {kp : Kp}

section
variable {P : Program} {m m' : Mem}
theorem HiOk.setA (H : HiOk m) {i : Nat} {cs : List V} {h : Nat} (hm : m.hi ≤ h) (hc : maxAL cs ≤ h) : HiOk { m with A := m.A.set i cs, hi := h } :=
  ⟨fun k xs hk => by
    simp only at hk
    rw [List.getElem?_set] at hk
    split at hk
    · split at hk
      · injection hk with hk; subst hk; exact hc
      · cases hk
    · exact Nat.le_trans (H.A k xs hk) hm, fun b x hb => Nat.le_trans (H.B b x hb) hm⟩
theorem HiOk.setB (H : HiOk m) {i : Nat} {y : BB} {h : Nat} (hm : m.hi ≤ h) (hc : y.hi ≤ h) : HiOk { m with B := m.B.set i y, hi := h } :=
  ⟨fun k xs hk => Nat.le_trans (H.A k xs hk) hm, fun b x hb => by
    simp only at hb
    rw [List.getElem?_set] at hb
    split at hb
    · split at hb
      · injection hb with hb; subst hb; exact hc
      · cases hb
    · exact Nat.le_trans (H.B b x hb) hm⟩
theorem HiOk.pushA (H : HiOk m) {cs : List V} {h : Nat} (hm : m.hi ≤ h) (hc : maxAL cs ≤ h) : HiOk { m with A := m.A ++ [cs], hi := h } :=
  ⟨fun k xs hk => by
    simp only at hk
    rw [List.getElem?_append] at hk
    split at hk
    · exact Nat.le_trans (H.A k xs hk) hm
    · have : xs ∈ [cs] := List.mem_of_getElem? hk
      simp at this
      subst this
      exact hc, fun b x hb => Nat.le_trans (H.B b x hb) hm⟩
theorem HiOk.pushB (H : HiOk m) {y : BB} {h : Nat} (hm : m.hi ≤ h) (hc : y.hi ≤ h) : HiOk { m with B := m.B ++ [y], hi := h } :=
  ⟨fun k xs hk => Nat.le_trans (H.A k xs hk) hm, fun b x hb => by
    simp only at hb
    rw [List.getElem?_append] at hb
    split at hb
    · exact Nat.le_trans (H.B b x hb) hm
    · have : x ∈ [y] := List.mem_of_getElem? hb
      simp at this
      subst this
      exact hc⟩
theorem HiOk.pushAs (H : HiOk m) {zs : List (List V)} (hz : ∀ z, z ∈ zs → maxAL z = 0) : HiOk { m with A := m.A ++ zs } :=
  ⟨fun k xs hk => by
    simp only at hk
    rw [List.getElem?_append] at hk
    split at hk
    · exact H.A k xs hk
    · have := hz xs (List.mem_of_getElem? hk)
      simp only
      omega, H.B⟩
theorem HiOk.takeA (H : HiOk m) (n : Nat) : HiOk { m with A := m.A.take n } :=
  ⟨fun k xs hk => by
    simp only at hk
    rw [List.getElem?_take] at hk
    split at hk
    · exact H.A k xs hk
    · exact absurd hk (by simp), H.B⟩
theorem HiOk.empty : HiOk Mem.empty := ⟨fun _ _ h => by simp [Mem.empty] at h, fun _ _ h => by simp [Mem.empty] at h⟩
theorem maxAL_modify {es : List (V × V)} {k v : V} (j : Nat) : maxAL ((es.modify j fun _ => (k, v)).map (·.2)) ≤ max (maxAL (es.map (·.2))) (V.maxA v) := by
  induction es generalizing j with
  | nil => simp [maxAL]
  | cons e es ih =>
    cases j with
    | zero => simp only [List.modify_zero_cons, List.map_cons, maxAL]; omega
    | succ j =>
      have := ih j
      simp only [List.modify_succ_cons, List.map_cons, maxAL]
      omega
theorem maxAL_erase {es : List (V × V)} (j : Nat) : maxAL ((es.eraseIdx j).map (·.2)) ≤ maxAL (es.map (·.2)) := by
  induction es generalizing j with
  | nil => simp
  | cons e es ih =>
    cases j with
    | zero => simp only [List.eraseIdx_cons_zero, List.map_cons, maxAL]; omega
    | succ j =>
      have := ih j
      simp only [List.eraseIdx_cons_succ, List.map_cons, maxAL]
      omega

theorem wr_hi (H : HiOk m) {p : V} {cs : List V} (h : wrCells m p cs = some m') : HiOk m' := by
  cases p <;> simp only [wrCells] at h <;> try cases h
  case ptr i off =>
    split at h
    · rename_i old hA
      split at h
      · injection h with h
        subst h
        refine H.setA (by omega) ?_
        have h1 := maxAL_splice_le (old := old) (cs := cs) off
        have h2 := H.A i old hA
        omega
      · cases h
    · cases h
  case bptr b ver off =>
    split at h
    · rename_i sz ver' pu old hB
      split at h
      · injection h with h
        subst h
        refine H.setB (by omega) ?_
        have h1 := maxAL_splice_le (old := old) (cs := cs) off
        have h2 := H.B b _ hB
        simp only [BB.hi] at h2 ⊢
        omega
      · cases h
    · cases h
theorem update_hi (H : HiOk m) {t : TypeId} {x k v : V} (h : updateV P m t x k v = some m') : HiOk m' := by
  unfold updateV at h
  split at h
  · split at h
    · rename_i d es hd hB
      split at h
      · split at h
        · injection h with h
          subst h
          refine H.setB (by omega) ?_
          have h2 := H.B _ _ hB
          simp only [BB.hi] at h2 ⊢
          rename_i i _ _
          have := maxAL_modify (es := es) (k := k) (v := v) i
          omega
        · injection h with h
          subst h
          refine H.setB (by omega) ?_
          have h2 := H.B _ _ hB
          simp only [BB.hi] at h2 ⊢
          rw [List.map_append, maxAL_append]
          simp only [List.map_cons, List.map_nil, maxAL]
          omega
        · cases h
      · cases h
    · cases h
  · cases h
theorem delete_hi (H : HiOk m) {t : TypeId} {x k : V} (h : deleteV P m t x k = some m') : HiOk m' := by
  unfold deleteV at h
  split at h
  · split at h
    · rename_i d es hd hB
      split at h
      · split at h
        · injection h with h
          subst h
          refine H.setB (Nat.le_refl _) ?_
          have h2 := H.B _ _ hB
          simp only [BB.hi] at h2 ⊢
          rename_i i _ _
          have := maxAL_erase (es := es) i
          omega
        · injection h with h
          subst h
          exact H
        · cases h
      · cases h
    · cases h
  · cases h
theorem append_make_hi (H : HiOk m) {t : TypeId} {s x v : V} (h : appendMakeV P m t s x = some (v, m')) : HiOk m' := by
  unfold appendMakeV at h
  split at h
  · split at h
    · rename_i i z hi hz
      obtain ⟨i2, zv, hi2, hz2, rfl, _⟩ := zeroCells_some hz
      split at h
      · split at h
        · injection h with h; injection h with h1 h2; subst h1 h2
          exact H
        · injection h with h; injection h with h1 h2; subst h1 h2
          refine H.pushB (Nat.le_refl _) ?_
          simp only [BB.hi]
          have := repl_maxA (zv.cells.toList.map ofConst0) (Int.toNat (by assumption))
          have h0 := map_ofConst0_maxA zv.cells.toList
          omega
      · cases h
    · cases h
  · cases h
theorem append_hi (H : HiOk m) {t : TypeId} {s x v : V} (h : appendV P m t s x = some (v, m')) : HiOk m' := by
  unfold appendV at h
  split at h
  · split at h
    · cases h
    · split at h
      · rename_i n new z hcon hz
        split at h
        · cases h
        · split at h
          · split at h <;> first | (injection h with h; injection h with h1 h2; subst h2; exact H) | cases h
          · split at h
            · split at h
              · injection h with h; injection h with h1 h2; subst h2
                exact H.pushB (by omega) (by simp only [BB.hi]; omega)
              · cases h
            · rename_i cells k
              split at h
              · rename_i hcond
                injection h with h; injection h with h1 h2; subst h2
                refine H.pushB (by omega) ?_
                simp only [BB.hi, maxAL_append]
                omega
              · cases h
            · split at h
              · rename_i sz ver' pu cs hB
                split at h
                · have h2 := H.B _ _ hB
                  simp only [BB.hi] at h2
                  split at h
                  · injection h with h; injection h with h3 h4; subst h4
                    refine H.setB (by omega) ?_
                    simp only [BB.hi]
                    exact Nat.le_trans (maxAL_splice_le _) (by omega)
                  · split at h
                    · injection h with h; injection h with h3 h4; subst h4
                      refine H.setB (by omega) ?_
                      simp only [BB.hi, maxAL_append]
                      omega
                    · cases h
                · cases h
              · cases h
            · cases h
      · cases h
  · cases h
theorem makeSlice_hi (H : HiOk m) {t : TypeId} {l c v : V} (h : makeSliceV P m t l c = some (v, m')) : HiOk m' := by
  unfold makeSliceV at h
  split at h
  · split at h
    · rename_i i z hi hz
      split at h
      · injection h with h; injection h with h1 h2; subst h2
        obtain ⟨i2, zv, _, _, rfl, _⟩ := zeroCells_some hz
        refine H.pushB (Nat.le_refl _) ?_
        simp only [BB.hi]
        have := repl_maxA (zv.cells.toList.map ofConst0)
        exact Nat.le_trans (this _) (by rw [map_ofConst0_maxA]; omega)
      · cases h
    · cases h
  · cases h
theorem opV_hi (H : HiOk m) {ρ : Operand → V} {slot : Nat} {o : Op} {v : V} (h : opV P m slot ρ o = some (v, m')) : HiOk m' := by
  have same : ∀ {a : Option V}, a.map (·, m) = some (v, m') → HiOk m' := by
    intro a ha
    cases a with
    | none => cases ha
    | some a => simp only [Option.map_some, Option.some.injEq, Prod.mk.injEq] at ha; obtain ⟨_, rfl⟩ := ha; exact H
  have unit : ∀ {a : Option Mem} (_ : ∀ x, a = some x → HiOk x), a.map (V.tup [], ·) = some (v, m') → HiOk m' := by
    intro a hx ha
    cases a with
    | none => cases ha
    | some a => simp only [Option.map_some, Option.some.injEq, Prod.mk.injEq] at ha; obtain ⟨_, rfl⟩ := ha; exact hx _ rfl
  cases o <;> simp only [opV] at h <;> try cases h
  case move => exact H
  case assign => exact H
  case alloc => exact H
  case pick => split at h <;> first | (injection h with h; injection h with h1 h2; subst h2; exact H) | cases h
  case box t x =>
    split at h
    · split at h
      · injection h with h; injection h with h1 h2; subst h2
        exact H.pushA (by omega) (by omega)
      · cases h
    · cases h
  case build => exact same h
  case buildSlice =>
    split at h
    · split at h
      · injection h with h; injection h with h1 h2; subst h2
        exact H
      · injection h with h; injection h with h1 h2; subst h2
        exact H.pushB (by omega) (by simp only [BB.hi]; omega)
    · cases h
  case load => exact same h
  case store t p x =>
    refine unit (fun y hy => ?_) h
    unfold storeV at hy
    split at hy
    · split at hy
      · exact wr_hi H hy
      · cases hy
    · cases hy
  case nilCheck => split at h <;> first | (injection h with h; injection h with h1 h2; subst h2; exact H) | cases h
  case binOp => exact same h
  case unOp => exact same h
  case convert => exact same h
  case makeInterface => split at h <;> first | (injection h with h; injection h with h1 h2; subst h2; exact H) | cases h
  case makeFunc fn first cap =>
    cases fn <;> simp only [opV] at h <;> try cases h
    split at h
    · injection h with h; injection h with h1 h2; subst h2; exact H
    · cases h
  case makeMap t r =>
    cases r with
    | some _ => simp only [opV] at h; cases h
    | none =>
      simp only [opV] at h
      split at h
      · injection h with h; injection h with h1 h2; subst h2
        exact H.pushB (Nat.le_refl _) (by simp [BB.hi, maxAL])
      · cases h
  case makeSlice => exact makeSlice_hi H h
  case slice => exact same h
  case fieldAddr => exact same h
  case field => exact same h
  case indexAddr => exact same h
  case index => exact same h
  case lookup => exact same h
  case mapUpdate => exact unit (fun y hy => update_hi H hy) h
  case insert => exact unit (fun y hy => update_hi H hy) h
  case extract =>
    split at h
    · exact same h
    · cases h

/-! ### Builtins -/
variable {cx : Cx} {w : World}
theorem len_sound (S : Sim kp cx m w) {t : TypeId} {x v : V} {cv : Value} {ts : Array TypeId} (ht : ts[0]? = some t) (args : Array Value) (ha : args[0]? = some cv) (ty : TypeId) (hx : VRel cx w x cv) (h : lenV P m t x = some v) : OpRes kp P cx m w v m (Builtin.len_ ts ty args) := by
  unfold lenV at h
  split at h <;> try cases h
  · rename_i s hd
    simp only [VRel] at hx
    subst hx
    exact OpRes.same S (cv := .int .i64 s.size) (by simp [Builtin.len_, ht, ha, r_und hd, goInt]) (by simp [VRel])
  · rename_i n e hd
    exact OpRes.same S (cv := .int .i64 n) (by
      simp only [Builtin.len_, ht, ha, Sem.run_bind, r_und hd, Result.andThen_ok]
      rfl) (by simp [VRel])
  · rename_i e hd
    simp only [VRel] at hx
    subst hx
    exact OpRes.same S (cv := .int .i64 0) (by simp [Builtin.len_, ht, ha, r_und hd, goInt]) (by simp [VRel])
  · rename_i e cells n full hd
    simp only [VRel] at hx
    obtain ⟨a, cap, rfl, _⟩ := hx
    exact OpRes.same S (cv := .int .i64 n) (by simp [Builtin.len_, ht, ha, r_und hd, goInt]) (by simp [VRel])
  · rename_i e b ver off n hd
    simp only [VRel] at hx
    obtain ⟨_, _, a, cap, rfl, _⟩ := hx
    exact OpRes.same S (cv := .int .i64 n) (by simp [Builtin.len_, ht, ha, r_und hd, goInt]) (by simp [VRel])
  · rename_i k e hd
    simp only [VRel] at hx
    subst hx
    exact OpRes.same S (cv := .int .i64 0) (by simp [Builtin.len_, ht, ha, r_und hd, goInt]) (by simp [VRel])
  · rename_i k e b hd
    split at h <;> try cases h
    rename_i es hB
    have hb := S.B b _ hB
    simp only [BOk] at hb
    obtain ⟨c, fs, clk, h1, h2, h3, _⟩ := hb
    simp only [VRel] at hx
    obtain ⟨c', h4, rfl⟩ := hx
    rw [h1] at h4
    injection h4 with h4
    subst h4
    have hl := h3.length
    exact OpRes.same S (cv := .int .i64 es.length) (by simp [Builtin.len_, ht, ha, r_und hd, goInt, MapKept.run_getObj_map h2, hl]) (by simp [VRel])
theorem cap_sound (S : Sim kp cx m w) {t : TypeId} {x v : V} {cv : Value} {ts : Array TypeId} (ht : ts[0]? = some t) (args : Array Value) (ha : args[0]? = some cv) (ty : TypeId) (hx : VRel cx w x cv) (h : capV P t x = some v) : OpRes kp P cx m w v m (Builtin.cap_ ts ty args) := by
  unfold capV at h
  split at h <;> try cases h
  · rename_i e hd
    simp only [VRel] at hx
    subst hx
    exact OpRes.same S (cv := .int .i64 0) (by simp [Builtin.cap_, ht, ha, r_und hd, goInt]) (by simp [VRel])
  · rename_i e cells n hd
    simp only [VRel] at hx
    obtain ⟨a, cap, rfl, _, hf, _⟩ := hx
    have := hf trivial
    subst this
    exact OpRes.same S (cv := .int .i64 cap) (by simp [Builtin.cap_, ht, ha, r_und hd, goInt]) (by simp [VRel])
theorem fold_sound {f : V → V → Option V} {g : Value → Value → Sem Value} (hf : ∀ x y v cx' cy, VRel cx w x cx' → VRel cx w y cy → f x y = some v → ∃ cv, (g cx' cy).run P w = .ok cv w ∧ VRel cx w v cv) :
    ∀ (l : List V) (cl : List Value) (x v : V) (c : Value), VRel cx w x c → VRelL cx w l cl → foldV f x l = some v → ∃ cv, (cl.foldlM g c).run P w = .ok cv w ∧ VRel cx w v cv
  | [], [], x, v, c, hx, _, h => by
    simp only [foldV] at h
    injection h with h
    subst h
    exact ⟨c, by simp, hx⟩
  | [], _ :: _, _, _, _, _, h, _ => by simp [VRelL] at h
  | _ :: _, [], _, _, _, _, h, _ => by simp [VRelL] at h
  | y :: l, d :: cl, x, v, c, hx, hl, h => by
    simp only [VRelL] at hl
    simp only [foldV] at h
    cases hq : f x y with
    | none => simp [hq] at h
    | some z =>
      simp only [hq, Option.bind_some] at h
      obtain ⟨cz, h1, h2⟩ := hf x y z c d hx hl.1 hq
      obtain ⟨cv, h3, h4⟩ := fold_sound hf l cl z v cz h2 hl.2 h
      exact ⟨cv, by simp [h1, h3], h4⟩
theorem max2_sound (x y v : V) (cx' cy : Value) (hx : VRel cx w x cx') (hy : VRel cx w y cy) (h : maxV x y = some v) : ∃ cv, (Builtin.max2 cx' cy).run P w = .ok cv w ∧ VRel cx w v cv := by
  unfold maxV at h
  split at h <;> try cases h
  simp only [VRel] at hx hy
  subst hx hy
  exact ⟨_, by simp [Builtin.max2]; rfl, by simp [VRel]⟩
theorem min2_sound (x y v : V) (cx' cy : Value) (hx : VRel cx w x cx') (hy : VRel cx w y cy) (h : minV x y = some v) : ∃ cv, (Builtin.min2 cx' cy).run P w = .ok cv w ∧ VRel cx w v cv := by
  unfold minV at h
  split at h <;> try cases h
  simp only [VRel] at hx hy
  subst hx hy
  exact ⟨_, by simp [Builtin.min2]; rfl, by simp [VRel]⟩
theorem builtin_hi (H : HiOk m) {b : Builtin} {ts : List TypeId} {args : List V} {v : V} (h : builtinV P m b ts args = some (v, m')) : HiOk m' := by
  have same : ∀ {a : Option V}, a.map (·, m) = some (v, m') → HiOk m' := by
    intro a ha
    cases a with
    | none => cases ha
    | some a => simp only [Option.map_some, Option.some.injEq, Prod.mk.injEq] at ha; obtain ⟨_, rfl⟩ := ha; exact H
  unfold builtinV at h
  split at h
  · split at h
    · exact append_hi H h
    · exact append_hi H h
    · exact append_make_hi H h
    · cases h
  · exact same h
  · exact same h
  · exact same h
  · exact same h
  · rename_i t r x k
    cases hd : deleteV P m t x k with
    | none => simp [hd] at h
    | some y =>
      simp only [hd, Option.map_some, Option.some.injEq, Prod.mk.injEq] at h
      obtain ⟨_, rfl⟩ := h
      exact delete_hi H hd
  · cases h
theorem builtin_sound (S : Sim kp cx m w) {b : Builtin} {ts : Array TypeId} {args : List V} {cargs : List Value} {v : V} (ha : VRelL cx w args cargs) (ty : TypeId) (cs : Array Bool) (h : builtinV P m b ts.toList args = some (v, m')) :
    StepRes kp P cx m w v m' (builtin b ts ty cs cargs.toArray) := by
  unfold builtinV at h
  split at h
  · rename_i t u s x hts
    match cargs, ha with
    | [c1, c2], ha =>
      simp only [VRelL] at ha
      have hts' : ts = #[t, u] := by
        apply Array.ext'
        simpa using hts
      subst hts'
      split at h
      · rename_i e2 hd
        exact (append_sound S ha.1 ha.2.1 (.inl ⟨e2, hd⟩) h).step
      · rename_i hd
        exact (append_sound S ha.1 ha.2.1 (.inr hd) h).step
      · rename_i k2 hd
        exact (append_make_sound S ha.1 ha.2.1 hd h).step
      · cases h
    | [], ha => simp [VRelL] at ha
    | [_], ha => simp [VRelL] at ha
    | _ :: _ :: _ :: _, ha => simp [VRelL] at ha
  · rename_i t ts' x xs hts
    cases cargs with
    | nil => simp [VRelL] at ha
    | cons c1 cargs =>
      simp only [VRelL] at ha
      have ht : ts[0]? = some t := by rw [← Array.getElem?_toList, hts]; rfl
      cases hq : lenV P m t x with
      | none => simp [hq] at h
      | some r =>
        simp only [hq, Option.map_some, Option.some.injEq, Prod.mk.injEq] at h
        obtain ⟨rfl, rfl⟩ := h
        exact (len_sound S ht _ (by simp) ty ha.1 hq).step
  · rename_i t ts' x xs hts
    cases cargs with
    | nil => simp [VRelL] at ha
    | cons c1 cargs =>
      simp only [VRelL] at ha
      have ht : ts[0]? = some t := by rw [← Array.getElem?_toList, hts]; rfl
      cases hq : capV P t x with
      | none => simp [hq] at h
      | some r =>
        simp only [hq, Option.map_some, Option.some.injEq, Prod.mk.injEq] at h
        obtain ⟨rfl, rfl⟩ := h
        exact (cap_sound S ht _ (by simp) ty ha.1 hq).step
  · rename_i x xs
    cases cargs with
    | nil => simp [VRelL] at ha
    | cons c1 cargs =>
      simp only [VRelL] at ha
      cases hq : foldV maxV x xs with
      | none => simp [hq] at h
      | some r =>
        simp only [hq, Option.map_some, Option.some.injEq, Prod.mk.injEq] at h
        obtain ⟨rfl, rfl⟩ := h
        obtain ⟨cv, h1, h2⟩ := fold_sound (P := P) (fun x y v a b => max2_sound x y v a b) xs cargs x r c1 ha.1 ha.2 hq
        exact OpRes.step (OpRes.same S (cv := cv) (by simpa [Builtin.max_] using h1) h2)
  · rename_i x xs
    cases cargs with
    | nil => simp [VRelL] at ha
    | cons c1 cargs =>
      simp only [VRelL] at ha
      cases hq : foldV minV x xs with
      | none => simp [hq] at h
      | some r =>
        simp only [hq, Option.map_some, Option.some.injEq, Prod.mk.injEq] at h
        obtain ⟨rfl, rfl⟩ := h
        obtain ⟨cv, h1, h2⟩ := fold_sound (P := P) (fun x y v a b => min2_sound x y v a b) xs cargs x r c1 ha.1 ha.2 hq
        exact OpRes.step (OpRes.same S (cv := cv) (by simpa [Builtin.min_] using h1) h2)
  · rename_i t ts' x k hts
    cases hd : deleteV P m t x k with
    | none => simp [hd] at h
    | some y =>
      simp only [hd, Option.map_some, Option.some.injEq, Prod.mk.injEq] at h
      obtain ⟨rfl, rfl⟩ := h
      match cargs, ha with
      | [c1, c2], ha =>
        simp only [VRelL] at ha
        have ht : ts[0]? = some t := by rw [← Array.getElem?_toList, hts]; rfl
        obtain ⟨w', h1, h2, h3⟩ := delete_sound S ts ht ty ha.1 ha.2.1 hd
        refine ⟨.value (.tuple #[]), .tuple #[], w', cx, ?_, .inl rfl, ⟨#[], rfl, by simp [VRelL]⟩, h2, h3⟩
        simp only [builtin, List.toArray, Sem.run_bind]
        rw [h1]
        rfl
      | [], ha => simp [VRelL] at ha
      | [_], ha => simp [VRelL] at ha
      | _ :: _ :: _ :: _, ha => simp [VRelL] at ha
  · cases h
end
end Go.Proofs.YtpdgbhjhodhkiaaGreatDoor.AI
