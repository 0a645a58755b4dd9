/- A region whole; what is struck from the memory. -/
import Derived.Test.YtpdgbhjhodhkiaaGreatDoorS17
import Derived.RangeFuncRecord
set_option linter.unusedVariables false
set_option linter.unusedSimpArgs false
namespace Go.Proofs.YtpdgbhjhodhkiaaGreatDoor.AI
open Go
variable {kp : Kp}

section
variable {lo : Nat} {cfg : Cfg} {call : Call}

theorem preAlloc_get {P : Program} : ∀ (l : List Oper) (zs : List (List V)), preAlloc P l = some zs → ∀ (i : Nat) (o : Oper) (t : TypeId), l[i]? = some o → o.op = .alloc t → ∃ z, zeroCellsV P t = some z ∧ zs[(l.take i).countP isAlloc]? = some z
  | [], zs, h, i, o, t, ho, ht => by simp at ho
  | x :: l, zs, h, i, o, t, ho, ht => by
    simp only [preAlloc] at h
    split at h
    · rename_i t' hx
      split at h
      · rename_i z r hz hr
        injection h with h
        subst h
        cases i with
        | zero =>
          simp only [List.getElem?_cons_zero, Option.some.injEq] at ho
          subst ho
          rw [hx] at ht
          injection ht with ht
          subst ht
          exact ⟨z, hz, by simp⟩
        | succ i =>
          simp only [List.getElem?_cons_succ] at ho
          obtain ⟨z', h1, h2⟩ := preAlloc_get l r hr i o t ho ht
          refine ⟨z', h1, ?_⟩
          have hxa : isAlloc x = true := by simp [isAlloc, hx]
          simp only [List.take_succ_cons, List.countP_cons, hxa, if_true, List.getElem?_cons_succ]
          exact h2
      · cases h
    · rename_i hx
      cases i with
      | zero =>
        simp only [List.getElem?_cons_zero, Option.some.injEq] at ho
        subst ho
        exact absurd ht (hx t)
      | succ i =>
        simp only [List.getElem?_cons_succ] at ho
        obtain ⟨z', h1, h2⟩ := preAlloc_get l zs h i o t ho ht
        refine ⟨z', h1, ?_⟩
        have hxa : isAlloc x = false := by
          unfold isAlloc
          split
          · rename_i t' e
            exact absurd e (hx t')
          · rfl
        simp only [List.take_succ_cons, List.countP_cons, hxa, Bool.false_eq_true, if_false, Nat.add_zero]
        exact h2
theorem preAlloc_max {P : Program} : ∀ (l : List Oper) (zs : List (List V)), preAlloc P l = some zs → ∀ z ∈ zs, maxAL z = 0
  | [], zs, h, z, hz => by
    simp only [preAlloc] at h
    injection h with h
    subst h
    cases hz
  | x :: l, zs, h, z, hz => by
    simp only [preAlloc] at h
    split at h
    · split at h
      · rename_i z0 r hz0 hr
        injection h with h
        subst h
        rcases List.mem_cons.1 hz with rfl | hz
        · obtain ⟨i, zv, _, _, rfl, _⟩ := zeroCells_some hz0
          exact map_ofConst0_maxA _
        · exact preAlloc_max l r hr z hz
      · cases h
    · exact preAlloc_max l zs h z hz

theorem sim_pushAs {cx : Cx} {m : Mem} {w : World} (S : Sim kp cx m w) (zs : List (List V)) : Sim kp cx { m with A := m.A ++ zs } w ∧ Ev m.A.length cx m w cx { m with A := m.A ++ zs } w := by
  refine ⟨⟨fun i cs h c hc => ?_, fun i c hc => ?_, S.B, S.nb, S.fo, S.fresh, ?_, S.lb, S.kept⟩, ?_⟩
  · have hlt := S.fa i c hc
    simp only at h
    rw [List.getElem?_append_left hlt] at h
    exact S.A i cs h c hc
  · have := S.fa i c hc
    simp only [List.length_append]
    omega
  · have := S.la
    simp only [List.length_append]
    omega
  · exact { Ev.refl cx m w m.A.length (Nat.le_refl _) with un := fun i hi _ => List.getElem?_append_left hi, ln := by simp, la := rfl, lb := rfl }

theorem FRel.heap {cx : Cx} {st : St} {act : Act} {w w' : World} (R : FRel kp lo cx st act w) (hh : w'.heap = w.heap) : FRel kp lo cx st act w' :=
  ⟨R.sim.heap hh, R.hi, VRelL.on (n := st.mem.A.length) (later_heap hh) (fun _ _ _ h => h) _ _ (VRelL.maxA R.sim.fa _ _ R.tm) R.tm,
    DfRel.on (later_heap hh) (n := st.mem.A.length) (fun _ _ _ h => h) (fun x v hv => VRel.maxA R.sim.fa x v hv) (fun c hc => ⟨by rw [hh], hc⟩) _ _ R.df⟩

theorem region_init {P : Program} {ops : Array Oper} {cx : Cx} {st : St} {act : Act} {w : World} {zs : List (List V)} {X : Nat → Prop} (R : FRel kp lo cx st act w) (hz : preAlloc P ops.toList = some zs) :
    RInv kp lo P ops X cx st.mem w cx { st with mem := { st.mem with A := st.mem.A ++ zs } } act w := by
  obtain ⟨S', E⟩ := sim_pushAs R.sim zs
  refine ⟨⟨S', R.hi.pushAs (preAlloc_max _ _ hz), R.tm, R.df⟩, E, R.sim.la, fun i o t ho ht _ => ⟨?_, ?_⟩⟩
  · cases hc : cx.fa (st.mem.A.length + slotOf ops i) with
    | none => rfl
    | some c => exact absurd (R.sim.fa _ c hc) (by omega)
  · obtain ⟨z, h1, h2⟩ := preAlloc_get _ _ hz i o t (by simpa using ho) ht
    refine ⟨z, h1, ?_⟩
    simp only
    rw [List.getElem?_append_right (by omega)]
    simpa [slotOf] using h2

theorem reg_sound (C : CallOk kp cfg call) (Xt : ExtOk kp cfg) (hm : cfg.P.follows .mixedOrders = true) {F : Fence} {id : Nat} {ops : Array Oper} {draw : Bool} {cx : Cx} {st st' : St} {act : Act} {w : World} {e : Ex}
    (hF : RdOk F st.rd) (R : FRel kp lo cx st act w) (h : regV cfg call draw ops st = some (e, st')) {Q : Exit → Act → World → Prop}
    (hK : ∀ cx' act' w', st'.rd = st.rd → FRel kp lo cx' st' act' w' → Ev st.mem.A.length cx st.mem w cx' st'.mem w' → Q .normal act' w') : e = .normal ∧ (Code.region id ops draw).wpIn F 0 cfg.P Q act w := by
  simp only [regV] at h
  split at h
  · cases h
  · rename_i hd
    split at h
    · cases h
    · rename_i zs hz
      obtain ⟨s, h1, h2⟩ := Option.map_eq_some_iff.1 h
      injection h2 with h2 h3
      subst h2 h3
      refine ⟨rfl, ?_⟩
      cases draw with
      | false =>
        refine wpIn_region (runOps_sound C Xt (List.range ops.size) (fun _ => False) cx { st with mem := { st.mem with A := st.mem.A ++ zs } } act w hF List.nodup_range (fun _ _ h => h) (region_init R hz) h1 fun cx' act' w' X' hrd R' => ?_)
        exact hK cx' act' w' hrd R'.fr R'.ev
      | true =>
        have hd' : drawOk ops = true := by simpa using hd
        refine wpIn_region_any hm ?_
        have R1 : FRel kp lo cx st act { w with drawn := w.drawn + 1 } := R.heap rfl
        have E1 : Ev st.mem.A.length cx st.mem w cx st.mem { w with drawn := w.drawn + 1 } := Ev.heap rfl rfl rfl rfl
        have hu : unl ops (Array.replicate ops.size false) = List.range ops.size := by
          unfold unl
          rw [List.filter_eq_self]
          intro i hi
          have := List.mem_range.1 hi
          simp [this]
        refine draw_sound C Xt hd' (m0 := st.mem) (w0 := { w with drawn := w.drawn + 1 }) (cx0 := cx) (st' := s) ops.size (Array.replicate ops.size false) cx { st with mem := { st.mem with A := st.mem.A ++ zs } } act _ hF (by simp) (by rw [hu]; simp) (fun j o _ hl => ?_) (region_init R1 hz) (by rw [hu]; exact h1)
          (fun cx' act' w' X' hrd R' => hK cx' act' w' hrd R'.fr (E1.trans R'.ev (Nat.le_refl _)))
        by_cases hj : j < ops.size
        · simp [hj] at hl
        · simp [hj] at hl

/-! ### What a region closes off at its begin -/
theorem sealAt_used {m : Mem} {ts : List Tmp} : ∀ (vs : List V) (i : Nat), ∀ b ∈ (sealAt m ts i vs).2, ∃ sz ver fz cs, m.B[b]? = some (.cells sz ver true fz cs) ∧ m.lb ≤ b
  | [], i, b, hb => by simp [sealAt] at hb
  | v :: vs, i, b, hb => by
    simp only [sealAt] at hb
    split at hb
    · split at hb
      · split at hb
        · rename_i b' ver off len v' hs
          rcases List.mem_cons.1 hb with rfl | hb
          · exact shut_used hs b (by simp [V.used])
          · exact sealAt_used vs (i + 1) b hb
        · exact sealAt_used vs (i + 1) b hb
      · exact sealAt_used vs (i + 1) b hb
    · exact sealAt_used vs (i + 1) b hb
theorem sealAt_rel {cx : Cx} {m : Mem} {w : World} (S : Sim kp cx m w) {ts : List Tmp} {us : List Nat} : ∀ (vs : List V) (i : Nat) (cvs : List Value), (∀ b ∈ (sealAt m ts i vs).2, b ∈ us) → VRelL cx w vs cvs → VRelL (cx.frz us) w (sealAt m ts i vs).1 cvs
  | [], i, cvs, hu, h => by
    cases cvs with
    | nil => simp [sealAt, VRelL]
    | cons _ _ => simp [VRelL] at h
  | v :: vs, i, cvs, hu, h => by
    cases cvs with
    | nil => simp [VRelL] at h
    | cons c cvs =>
      simp only [VRelL] at h
      have hv : VRel (cx.frz us) w v c := VRel.on (n := m.A.length) (frz_later us w) (fun _ _ _ h => h) _ _ (VRel.maxA S.fa _ _ h.1) h.1
      simp only [sealAt] at hu ⊢
      split
      · rename_i hc
        rw [if_pos hc] at hu
        split
        · rename_i b ver off len
          split
          · rename_i v' hs
            simp only [hs] at hu
            simp only [VRelL]
            refine ⟨?_, sealAt_rel S vs (i + 1) cvs (fun b hb => hu b (List.mem_cons_of_mem _ hb)) h.2⟩
            refine (shut_relU (fun b => b ∈ us) S (Nat.le_refl _) (fun blk hblk ho => ?_) _ v' c (fun b' hb' => ?_) h.1 hs).1
            · rcases ho with ho | ⟨b2, hb2, ho⟩
              · exact frz_non ho
              · simp [Cx.frz, ho, hb2]
            · simp only [V.used, List.mem_singleton] at hb'
              subst hb'
              exact hu b' List.mem_cons_self
          · rename_i hs
            simp only [hs] at hu
            simp only [VRelL]
            exact ⟨hv, sealAt_rel S vs (i + 1) cvs hu h.2⟩
        · rename_i hne
          simp only [VRelL]
          refine ⟨hv, sealAt_rel S vs (i + 1) cvs (fun b hb => hu b ?_) h.2⟩
          split
          · rename_i b2 ver off len
            exact absurd rfl (hne _ _ _ _)
          · exact hb
      · rename_i hc
        rw [if_neg hc] at hu
        simp only [VRelL]
        exact ⟨hv, sealAt_rel S vs (i + 1) cvs hu h.2⟩
theorem seal_sound {cx : Cx} {st : St} {act : Act} {w : World} (R : FRel kp lo cx st act w) (ts : List Tmp) :
    ∃ cx', FRel kp lo cx' (sealSt ts st) act w ∧ Ev st.mem.A.length cx st.mem w cx' (sealSt ts st).mem w ∧ (sealSt ts st).mem.A = st.mem.A ∧ (sealSt ts st).rd = st.rd := by
  unfold sealSt
  split
  · exact ⟨cx, R, Ev.refl _ _ _ _ (Nat.le_refl _), rfl, rfl⟩
  · refine ⟨cx.frz (sealAt st.mem ts 0 st.tm).2, ⟨frz_sim R.sim (sealAt_used _ _), frz_hiOk R.hi _, sealAt_rel R.sim _ _ _ (fun _ h => h) R.tm, ?_⟩, frz_ev R.sim _, rfl, rfl⟩
    exact DfRel.on (frz_later _ w) (n := st.mem.A.length) (fun _ _ _ h => h) (fun x v hv => VRel.maxA R.sim.fa x v hv) (fun c hc => ⟨rfl, by simp [Cx.frz, hc]⟩) _ _ R.df
theorem region_sound (C : CallOk kp cfg call) (Xt : ExtOk kp cfg) (hm : cfg.P.follows .mixedOrders = true) {F : Fence} {loop : (St → Option (Ex × St)) → St → Option (Ex × St)} {id : Nat} {ops : Array Oper} {draw : Bool} {cx : Cx} {st st' : St} {act : Act} {w : World} {e : Ex}
    (hF : RdOk F st.rd) (R : FRel kp lo cx st act w) (h : exec cfg call loop (.region id ops draw) st = some (e, st')) {Q : Exit → Act → World → Prop}
    (hK : ∀ cx' act' w', st'.rd = st.rd → FRel kp lo cx' st' act' w' → Ev st.mem.A.length cx st.mem w cx' st'.mem w' → Q .normal act' w') : e = .normal ∧ (Code.region id ops draw).wpIn F 0 cfg.P Q act w := by
  simp only [exec] at h
  obtain ⟨cx1, R1, E1, hA, hrd⟩ := seal_sound R (sealTs cfg ops.toList)
  refine reg_sound C Xt hm (by rw [hrd]; exact hF) R1 h fun cx' act' w' hr R' E' => ?_
  exact hK cx' act' w' (hr.trans hrd) R' (E1.trans (hA ▸ E') (Nat.le_refl _))

/-! ### What is struck -/
theorem sim_trunc {cx : Cx} {m : Mem} {w : World} (S : Sim kp cx m w) (H : HiOk m) {n : Nat} (hn : n ≤ m.A.length) (hh : m.hi ≤ n) (hla : m.la ≤ n) :
    ∃ cx', Sim kp cx' { m with A := m.A.take n } w ∧ HiOk { m with A := m.A.take n } ∧ (∀ i c, i < n → cx.fa i = some c → cx'.fa i = some c) ∧ Ev n cx m w cx' { m with A := m.A.take n } w := by
  let cx' : Cx := { cx with fa := fun i => if i < n then cx.fa i else none, own := fun c => match cx.own c with | .a i => if i < n then .a i else .non | x => x }
  have hfa : ∀ i, i < n → cx'.fa i = cx.fa i := fun i hi => by simp [cx', hi]
  have hfa' : ∀ i c, i < n → cx.fa i = some c → cx'.fa i = some c := fun i c hi hc => (hfa i hi).trans hc
  have hown : ∀ c, (∀ i, cx.own c = .a i → i < n) → cx'.own c = cx.own c := fun c h => by
    simp only [cx']
    split
    · rename_i i e
      rw [if_pos (h i e), e]
    · rfl
  have L : Later cx w cx' w := ⟨Nat.le_refl _, fun _ _ => ⟨Nat.le_refl _, fun _ => rfl⟩, fun _ _ h => h, fun c _ h => ⟨rfl, by rw [hown c (fun i e => by rw [h] at e; cases e)]; exact h⟩, Nat.le_refl _⟩
  refine ⟨cx', ⟨fun i cs h c hc => ?_, fun i c hc => ?_, fun b x hb => ?_, S.nb, S.fo, fun c hc => ?_, ?_, S.lb, S.kpt L.zero⟩, H.takeA n, hfa', ?_⟩
  · have hi : i < n := by
      have := (List.getElem?_eq_some_iff.1 h).1
      simp only [List.length_take] at this
      omega
    rw [hfa i hi] at hc
    simp only at h
    rw [List.getElem?_take_of_lt hi] at h
    obtain ⟨⟨arr, t, h1, h2⟩, h3⟩ := S.A i cs h c hc
    refine ⟨⟨arr, t, h1, VRelL.on L hfa' cs _ (Nat.le_trans (H.A i cs h) hh) h2⟩, ?_⟩
    rw [hown c (fun j e => by
      rw [h3] at e
      unfold ownA at e
      split at e
      · cases e
      · injection e with e
        omega)]
    exact h3
  · have hi : i < n := by
      by_cases h : i < n
      · exact h
      · simp [cx', h] at hc
    simp only [List.length_take]
    omega
  · have hx := S.B b x hb
    have hm := Nat.le_trans (H.B b x hb) hh
    cases x with
    | cells sz ver pu fz cs =>
      simp only [BOk, BB.hi] at hx hm ⊢
      obtain ⟨h1, h2, h3, h4, arr, t, h5, h6, h7, h8⟩ := hx
      refine ⟨h1, h2, ?_, h4, arr, t, h5, h6, h7, VRelL.on L hfa' cs _ hm h8⟩
      exact (hown _ (fun j e => by
        rw [h3] at e
        unfold ownB at e
        split at e
        · cases e
        · split at e <;> cases e)).trans h3
    | map es =>
      simp only [BOk, BB.hi] at hx hm ⊢
      obtain ⟨c, fs, clk, h1, h2, h3, h4⟩ := hx
      refine ⟨c, fs, clk, h1, h2, EsRel.on L hfa' es _ hm h3, ?_⟩
      exact (hown _ (fun j e => by
        rw [h4] at e
        unfold ownO at e
        split at e <;> cases e)).trans h4
    | loop s p tm ps as bo =>
      simp only [BOk, BB.hi] at hx hm ⊢
      obtain ⟨c, fn, D, tmps, h1, h2, h3, h4⟩ := hx
      refine ⟨c, fn, D, tmps, h1, h2, VRelL.on L hfa' tm _ hm h3, ?_⟩
      exact (hown _ (fun j e => by
        rw [h4] at e
        unfold ownO at e
        split at e <;> cases e)).trans h4
  · have := S.fresh c hc
    rw [hown c (fun i e => by rw [this] at e; cases e)]
    exact this
  · simp only [List.length_take]
    omega
  · exact { fa := hfa, un := fun i hi _ => List.getElem?_take_of_lt hi, ln := by simp only [List.length_take]; omega, nb := Nat.le_refl _, vb := fun _ _ => ⟨Nat.le_refl _, fun _ => rfl⟩, fo := fun _ _ h => h
            non := L.non, prot := fun c h => ⟨rfl, by rw [hown c (fun i e => by rw [h] at e; cases e)]; exact h⟩, dm := fun c h => ⟨rfl, by rw [hown c (fun i e => by rw [h] at e; cases e)]; exact h⟩
            size := Nat.le_refl _, os := rfl, tape := rfl, output := rfl, la := rfl, lb := rfl }

theorem reset_rel {cx : Cx} {w : World} : ∀ (es cs : List V) (vs : List Value), VRelL cx w cs vs → VRelL cx w (resetTm es cs) vs
  | [], cs, vs, h => by simpa [resetTm] using h
  | e :: es, [], vs, h => by simpa [resetTm] using h
  | e :: es, c :: cs, [], h => by simp [VRelL] at h
  | e :: es, c :: cs, v :: vs, h => by
    simp only [VRelL] at h
    have ih := reset_rel es cs vs h.2
    simp only [resetTm, VRelL]
    refine ⟨?_, ih⟩
    split
    · simp [VRel]
    · simp [VRel]
    · exact h.1

theorem DfRel.trunc {cx cx' : Cx} {w w' : World} (L : Later cx w cx' w') {n : Nat} (hfa : ∀ i c, i < n → cx.fa i = some c → cx'.fa i = some c) (hdm : ∀ c, cx.own c = .dm → w'.heap[c]? = w.heap[c]? ∧ cx'.own c = .dm) :
    ∀ (ds : List Deferred) (df : List (TypeId × V × V)), maxAD df ≤ n → DfRel lo cx w df ds → DfRel lo cx' w' df ds
  | [], df, _, h => h
  | d :: ds, df, hn, h => by
    simp only [DfRel] at h ⊢
    rcases h with ⟨D, h1, h2, h3, hlo, h4⟩ | ⟨t, x, k, rest, ts, ty, cs, vx, vk, h1, h2, h3, h4, h5, h6⟩
    · have := hdm D h2
      exact .inl ⟨D, h1, this.2, this.1.trans h3, hlo, DfRel.trunc L hfa hdm ds df hn h4⟩
    · subst h1
      simp only [maxAD] at hn
      exact .inr ⟨t, x, k, rest, ts, ty, cs, vx, vk, rfl, h2, h3, VRel.on L hfa x vx (by omega) h4, VRel.on L hfa k vk (by omega) h5, DfRel.trunc L hfa hdm ds rest (by omega) h6⟩

theorem gc_sound {cx0 cx : Cx} {st st1 : St} {act : Act} {w0 w : World} (R : FRel kp lo cx st1 act w) (E : Ev st.mem.A.length cx0 st.mem w0 cx st1.mem w) (hla : st.mem.la ≤ st.mem.A.length) :
    ∃ cx', FRel kp lo cx' (gcSt st st1) act w ∧ Ev st.mem.A.length cx0 st.mem w0 cx' (gcSt st st1).mem w := by
  unfold gcSt
  simp only
  split
  · rename_i h
    obtain ⟨h1, h2, h3⟩ := h
    obtain ⟨cx', S', H', hfa, E'⟩ := sim_trunc R.sim R.hi E.ln h1 (by rw [E.la]; exact hla)
    exact ⟨cx', ⟨S', H', VRelL.on E'.later hfa _ _ h2 (reset_rel _ _ _ R.tm), DfRel.trunc E'.later hfa E'.dm _ _ h3 R.df⟩, E.trans E' (Nat.le_refl _)⟩
  · exact ⟨cx, ⟨R.sim, R.hi, reset_rel _ _ _ R.tm, R.df⟩, E⟩
theorem gc_rd {st st1 : St} : (gcSt st st1).rd = st1.rd := rfl
end
end Go.Proofs.YtpdgbhjhodhkiaaGreatDoor.AI
