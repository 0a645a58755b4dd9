/- One operation of a region, as the walk's calculus asks it. -/
import Derived.Test.YtpdgbhjhodhkiaaGreatDoorS14
set_option linter.unusedVariables false
set_option linter.unusedSimpArgs false
namespace Go.Proofs.YtpdgbhjhodhkiaaGreatDoor.AI
open Go
variable {kp : Kp}

/-- The deferred calls of an activation: deletes, and marks of loops over functions. -/
def DfRel (lo : Nat) (cx : Cx) (w : World) : List (TypeId × V × V) → List Deferred → Prop
  | df, [] => df = []
  | df, d :: ds => (∃ D, d = { target := .collected D, args := #[] } ∧ cx.own D = .dm ∧ w.heap[D]? = some (.deferred (some [])) ∧ (lo ≤ D ∧ ∀ d' ∈ ds, ∀ D', d'.target = .collected D' → D' < D) ∧ DfRel lo cx w df ds) ∨
      ∃ t x k rest ts ty cs vx vk, df = (t, x, k) :: rest ∧ d = { target := .builtin .delete ts ty cs, args := #[vx, vk] } ∧ ts[0]? = some t ∧ VRel cx w x vx ∧ VRel cx w k vk ∧ DfRel lo cx w rest ds

structure FRel (kp : Kp) (lo : Nat) (cx : Cx) (st : St) (act : Act) (w : World) : Prop where
  sim : Sim kp cx st.mem w
  hi : HiOk st.mem
  tm : VRelL cx w st.tm act.tmps.toList
  df : DfRel lo cx w st.df act.defers

def RdOk (F : Fence) (rd : Bool) : Prop := (rd = false ∧ F = Fence.wide) ∨ (rd = true ∧ ∃ l, F = Fence.wide.inRound l)
theorem RdOk.fn {F : Fence} {rd : Bool} (h : RdOk F rd) (f : FuncId) : F.fn f := by
  rcases h with ⟨_, rfl⟩ | ⟨_, l, rfl⟩ <;> trivial
theorem RdOk.depth {F : Fence} {rd : Bool} (h : RdOk F rd) : F.depth.isSome = true → 1 ≤ 0 := by
  rcases h with ⟨_, rfl⟩ | ⟨_, l, rfl⟩ <;> simp [Fence.wide, Fence.inRound]
theorem RdOk.calls {F : Fence} {rd : Bool} (h : RdOk F rd) {P : Program} {f : FuncId} {args : Array Value} {w : World} {R : Ending → World → Prop} (hc : CallsIn Fence.wide 0 P f args w R) : CallsIn F 0 P f args w R := by
  rcases h with ⟨_, rfl⟩ | ⟨_, l, rfl⟩
  · exact hc
  · exact hc
theorem RdOk.rounds {F : Fence} {rd : Bool} (h : RdOk F rd) {P : Program} {l : Nat} {f : FuncId} {tmps : Array Value} {as bo : Code} {w : World} {R : Ending → World → Prop} (hc : RoundIn Fence.wide 0 P l f tmps as bo w R) : RoundIn F 0 P l f tmps as bo w R := by
  rcases h with ⟨_, rfl⟩ | ⟨_, l, rfl⟩
  · exact hc
  · exact hc

section
variable {lo : Nat} {cx cx' : Cx} {m m' : Mem} {w w' : World}
theorem DfRel.on (L : Later cx w cx' w') {n : Nat} (hfa : ∀ i c, i < n → cx.fa i = some c → cx'.fa i = some c) (hmax : ∀ (x : V) (v : Value), VRel cx w x v → V.maxA x ≤ n) (hdm : ∀ c, cx.own c = .dm → w'.heap[c]? = w.heap[c]? ∧ cx'.own c = .dm) :
    ∀ (ds : List Deferred) (df : List (TypeId × V × V)), DfRel lo cx w df ds → DfRel lo cx' w' df ds
  | [], df, h => h
  | d :: ds, df, h => by
    simp only [DfRel] at h ⊢
    rcases h with ⟨D, h1, h2, h3, hlo, h4⟩ | ⟨t, x, k, rest, ts, ty, cs, vx, vk, h1, h2, h3, h4, h5, h6⟩
    · have := hdm D h2
      exact .inl ⟨D, h1, this.2, this.1.trans h3, hlo, DfRel.on L hfa hmax hdm ds df h4⟩
    · exact .inr ⟨t, x, k, rest, ts, ty, cs, vx, vk, h1, h2, h3, VRel.on L hfa x vx (hmax x vx h4) h4, VRel.on L hfa k vk (hmax k vk h5) h5, DfRel.on L hfa hmax hdm ds rest h6⟩
theorem Ev.dfs (E : Ev m.A.length cx m w cx' m' w') (S : Sim kp cx m w) {ds : List Deferred} {df : List (TypeId × V × V)} (h : DfRel lo cx w df ds) : DfRel lo cx' w' df ds :=
  DfRel.on E.later (n := m.A.length) (fun i c hi hc => (E.fa i hi).trans hc) (fun x v hv => VRel.maxA S.fa x v hv) E.dm ds df h
theorem put_rel {tm : List V} {a : Act} {d : Option Tmp} {x : V} {v : Value} (h : VRelL cx w tm a.tmps.toList) (hx : VRel cx w x v) : VRelL cx w (putV tm d x) (a.put d v).tmps.toList := by
  cases d with
  | none => exact h
  | some d =>
    simp only [putV, Act.put, Array.toList_setIfInBounds]
    exact VRelL.set d h hx
theorem put_df {a : Act} {d : Option Tmp} {v : Value} : (a.put d v).defers = a.defers := by cases d <;> rfl
theorem undef_rel : VRel cx w (.tup []) undef := ⟨#[], rfl, by simp [VRelL]⟩
theorem guard_sound {ops : Array Oper} {tm : List V} {tmps : Array Value} {o : Oper} {b : Bool} (h : VRelL cx w tm tmps.toList) (hg : guardV ops tm o = some b) : Region.wanted o (yielded ops tmps) = b := by
  unfold guardV at hg
  unfold Region.wanted
  split at hg
  · rename_i hn
    rw [hn]
    injection hg
  · rename_i j want hn
    rw [hn]
    simp only [yielded]
    split at hg
    · rename_i hd
      rw [hd]
      injection hg with hg
    · rename_i d hd
      rw [hd]
      simp only [Option.bind_some]
      split at hg
      · rename_i b' hb
        injection hg with hg
        subst hg
        obtain ⟨v, h1, h2⟩ := VRelL.get d h hb
        simp only [VRel] at h2
        subst h2
        have h1' : tmps[d]? = some (.bool b') := by simpa using h1
        rw [h1']
        simp
      · rename_i hb
        injection hg with hg
        subst hg
        obtain ⟨v, h1, h2⟩ := VRelL.get d h hb
        simp only [VRel] at h2
        obtain ⟨arr, rfl, _⟩ := h2
        have h1' : tmps[d]? = some (.tuple arr) := by simpa using h1
        rw [h1']
        rfl
      · cases hg
theorem slot_lt {ops : Array Oper} {i j : Nat} {o : Oper} (hi : ops[i]? = some o) (ha : isAlloc o = true) (hij : i < j) : slotOf ops i < slotOf ops j := by
  unfold slotOf
  have hil : i < ops.toList.length := by
    have := (Array.getElem?_eq_some_iff.1 hi).1
    simpa using this
  have h1 : ops.toList.take (i + 1) = ops.toList.take i ++ [o] := by
    rw [List.take_succ_eq_append_getElem hil]
    congr 2
    have := (Array.getElem?_eq_some_iff.1 hi).2
    simpa using this
  have h2 : (ops.toList.take (i + 1)).countP isAlloc = (ops.toList.take i).countP isAlloc + 1 := by
    rw [h1, List.countP_append]
    simp [ha]
  have h3 : (ops.toList.take (i + 1)).countP isAlloc ≤ (ops.toList.take j).countP isAlloc := by
    have : ops.toList.take (i + 1) = (ops.toList.take j).take (i + 1) := by rw [List.take_take, Nat.min_eq_left (by omega)]
    rw [this]
    exact List.Sublist.countP_le (List.take_sublist _ _)
  omega
theorem slot_ne {ops : Array Oper} {i j : Nat} {o o' : Oper} (hi : ops[i]? = some o) (ha : isAlloc o = true) (hj : ops[j]? = some o') (hb : isAlloc o' = true) (hij : i ≠ j) : slotOf ops i ≠ slotOf ops j := by
  rcases Nat.lt_or_gt_of_ne hij with h | h
  · exact Nat.ne_of_lt (slot_lt hi ha h)
  · exact (Nat.ne_of_lt (slot_lt hj hb h)).symm
end

/-- A region under way: the operations of X have been done. -/
structure RInv (kp : Kp) (lo : Nat) (P : Program) (ops : Array Oper) (X : Nat → Prop) (cx0 : Cx) (m0 : Mem) (w0 : World) (cx : Cx) (st : St) (act : Act) (w : World) : Prop where
  fr : FRel kp lo cx st act w
  ev : Ev m0.A.length cx0 m0 w0 cx st.mem w
  la : m0.la ≤ m0.A.length
  un : ∀ i o t, ops[i]? = some o → o.op = .alloc t → ¬ X i → cx.fa (m0.A.length + slotOf ops i) = none ∧ ∃ z, zeroCellsV P t = some z ∧ st.mem.A[m0.A.length + slotOf ops i]? = some z

section
variable {lo : Nat} {cfg : Cfg} {call : Call} {ops : Array Oper} {X : Nat → Prop} {cx0 : Cx} {m0 : Mem} {w0 : World} {cx : Cx} {st : St} {act : Act} {w : World}
theorem rinv_after {cx' : Cx} {w' : World} {m' : Mem} {i : Nat} {d : Option Tmp} {v : V} {df' : List (TypeId × V × V)} {act' : Act} (R : RInv kp lo cfg.P ops X cx0 m0 w0 cx st act w) (S' : Sim kp cx' m' w') (H' : HiOk m') (E : Ev st.mem.A.length cx st.mem w cx' m' w')
    (htm : VRelL cx' w' (putV st.tm d v) act'.tmps.toList) (hdf : DfRel lo cx' w' df' act'.defers) :
    RInv kp lo cfg.P ops (fun j => X j ∨ j = i) cx0 m0 w0 cx' { st with tm := putV st.tm d v, mem := m', df := df' } act' w' := by
  refine ⟨⟨S', H', htm, hdf⟩, R.ev.trans E R.ev.ln, R.la, fun j o t ho ht hX => ?_⟩
  obtain ⟨h1, z, h2, h3⟩ := R.un j o t ho ht (fun h => hX (.inl h))
  have hlt := (List.getElem?_eq_some_iff.1 h3).1
  exact ⟨(E.fa _ hlt).trans h1, z, h2, (E.un _ hlt h1).trans h3⟩

theorem res_of_step {P : Program} {o : Oper} {F : Fence} {rd : Bool} (hF : RdOk F rd) {m' : Mem} {v : V} {a : Act} {m : Mem} (h : StepRes kp P cx m w v m' (execOp a.eval o)) (hd : ∀ c, o.op ≠ .defer c) {K : Act → World → Prop} {Q : Exit → Act → World → Prop}
    (hK : ∀ cv w' cx', VRel cx' w' v cv → Sim kp cx' m' w' → Ev m.A.length cx m w cx' m' w' → K (a.put o.dst cv) w') : o.wpIn F 0 P a w K Q := by
  obtain ⟨nx, cv, w', cx', h1, h2, h3, h4, h5⟩ := h
  refine ⟨fun f _ => hF.fn f, ?_⟩
  rw [Oper.semAt_eq _ _ _ hd, h1]
  rcases h2 with rfl | ⟨rfl, rfl⟩
  · exact hK cv w' cx' h3 h4 h5
  · exact hK undef w' cx' h3 h4 h5

theorem opQ_opV {P : Program} {draw : Bool} {m : Mem} {slot : Nat} {ρ : Operand → V} {op : Op} {r : V × Mem} (h : opQ P draw m slot ρ op = some r) : opV P m slot ρ op = some r := by
  unfold opQ at h
  split at h
  · simp only [opV]
    split at h
    · rename_i sz cs hb
      rw [hb]
      split at h
      · rename_i hp
        simp only [hp, if_true]
        exact h
      · cases h
    · cases h
  · exact h

theorem val_step {P : Program} {o : Oper} {a : Act} (c : Go.Call) (ho : o.op = .call c) (f : Operand) (hf : c.callee = .value f) {fn : Fn} {arr : Array Value} (he : a.eval f = .func fn #[] arr) (w : World) :
    (execOp a.eval o).run P w = (invoke (.fn fn arr) (c.args.map a.eval)).run P w := by
  simp only [execOp, ho, resolve, hf, Sem.run_bind, he, Deferred.ofValue, Sem.run_pure, Result.andThen_ok, Array.empty_append]

/-- One operation. -/
theorem step_sound (C : CallOk kp cfg call) (Xt : ExtOk kp cfg) {F : Fence} (hF : RdOk F st.rd) {draw : Bool} {i : Nat} {o : Oper} (hi : ops[i]? = some o) (hX : ¬ X i) (R : RInv kp lo cfg.P ops X cx0 m0 w0 cx st act w) {st' : St}
    (h : stepAt cfg call draw ops m0.A.length i st = some st') {K : Act → World → Prop} {Q : Exit → Act → World → Prop} (hK : ∀ cx' act' w', st'.rd = st.rd → RInv kp lo cfg.P ops (fun j => X j ∨ j = i) cx0 m0 w0 cx' st' act' w' → K act' w') :
    wpOpIn F 0 cfg.P ops Q i K act w := by
  unfold stepAt at h
  unfold wpOpIn
  simp only [hi] at h ⊢
  have hρ : ∀ x, VRel cx w (evalO st.tm x) (act.eval x) := fun x => evalO_rel R.fr.tm x
  split at h
  · cases h
  · rename_i hg
    injection h with h
    subst h
    rw [guard_sound R.fr.tm hg]
    simp only [Bool.false_eq_true, if_false]
    refine ⟨fun f _ => hF.fn f, hK cx _ w rfl ?_⟩
    have := rinv_after (i := i) (d := o.dst) (v := .tup []) (df' := st.df) (act' := act.put o.dst undef) (m' := st.mem) R R.fr.sim R.fr.hi (Ev.refl _ _ _ _ (Nat.le_refl _)) (put_rel R.fr.tm undef_rel) (by rw [put_df]; exact R.fr.df)
    exact this
  · rename_i hg
    rw [guard_sound R.fr.tm hg]
    simp only [if_true]
    have done : ∀ {m' : Mem} {v : V}, HiOk m' → (∀ c, o.op ≠ .defer c) → StepRes kp cfg.P cx st.mem w v m' (execOp act.eval o) → st' = { st with tm := putV st.tm o.dst v, mem := m' } → o.wpIn F 0 cfg.P act w K Q := by
      intro m' v H' hd hs e
      subst e
      refine res_of_step hF hs hd fun cv w' cx' h1 h2 h3 => hK cx' _ w' rfl ?_
      exact rinv_after (i := i) (df' := st.df) R h2 H' h3 (put_rel (h3.vals R.fr.sim R.fr.tm) h1) (by rw [put_df]; exact h3.dfs R.fr.sim R.fr.df)
    split at h
    · -- a call
      rename_i c hop
      have hnd : ∀ c, o.op ≠ .defer c := fun c e => by rw [hop] at e; cases e
      cases hc : callV cfg call draw (evalO st.tm) st.mem c with
      | none => simp [hc] at h
      | some r =>
        obtain ⟨v, m'⟩ := r
        simp only [hc, Option.map_some] at h
        injection h with h
        have hargs : VRelL cx w (c.args.toList.map (evalO st.tm)) (c.args.map act.eval).toList := by rw [Array.toList_map]; exact vrelL_map hρ _
        unfold callV at hc
        split at hc
        · rename_i b hb
          refine done (builtin_hi R.fr.hi hc) hnd ?_ h.symm
          have hs := builtin_sound R.fr.sim (cargs := (c.args.map act.eval).toList) hargs o.type (c.args.map fun | .const _ => true | _ => false) hc
          have e : execOp act.eval o = builtin b c.argTypes o.type (c.args.map fun | .const _ => true | _ => false) (c.args.map act.eval) := by
            simp only [execOp, hop, resolve, hb]
            rfl
          rw [e]
          rw [Array.toArray_toList] at hs
          exact hs
        · rename_i f hf
          have hfv := hρ f
          split at hc
          · rename_i g caps he
            rw [he] at hfv
            simp only [VRel] at hfv
            obtain ⟨arr, hfe, hcaps⟩ := hfv
            have hall : VRelL cx w (c.args.toList.map (evalO st.tm) ++ caps) (c.args.map act.eval ++ arr).toList := by rw [Array.toList_append]; exact VRelL.append hargs hcaps
            obtain ⟨g1, g2⟩ := doCall_sound C Xt R.fr.sim R.fr.hi hall hc
            refine ⟨fun f _ => hF.fn f, ?_⟩
            rw [Oper.semAt_eq _ _ _ hnd, val_step c hop f hf hfe w]
            simp only [invoke]
            rw [g1]
            simp only [Oper.uponIn]
            refine ⟨hF.depth, hF.calls (g2.mono ?_)⟩
            rintro e w' ⟨cv, cx', rfl, h1, h2, h3, h4⟩
            subst h
            exact hK cx' _ w' rfl (rinv_after (i := i) (df' := st.df) R h2 h3 h4 (put_rel (h4.vals R.fr.sim R.fr.tm) h1) (by rw [put_df]; exact h4.dfs R.fr.sim R.fr.df))
          · rename_i l he
            rw [he] at hfv
            simp only [VRel] at hfv
            obtain ⟨cl, hfo, hfe⟩ := hfv
            split at hc
            · cases hc
            · obtain ⟨fn, tmps, as, bo, g1, g2⟩ := C.yld l _ _ _ _ hc cx w (c.args.map act.eval) R.fr.sim R.fr.hi hargs cl hfo
              refine ⟨fun f _ => hF.fn f, ?_⟩
              rw [Oper.semAt_eq _ _ _ hnd, val_step c hop f hf hfe w]
              simp only [invoke]
              rw [g1]
              simp only [Oper.uponIn]
              refine ⟨hF.depth, hF.rounds (g2.mono ?_)⟩
              rintro e w' ⟨cv, cx', rfl, h1, h2, h3, h4⟩
              subst h
              exact hK cx' _ w' rfl (rinv_after (i := i) (df' := st.df) R h2 h3 h4 (put_rel (h4.vals R.fr.sim R.fr.tm) h1) (by rw [put_df]; exact h4.dfs R.fr.sim R.fr.df))
          · cases hc
        · cases hc
    · -- a deferred delete
      rename_i args argTypes hop
      split at h
      · rename_i t ts x k hts hargs
        split at h
        · cases h
        · rename_i hrd
          have hrd' : st.rd = false := by
            cases hr : st.rd
            · rfl
            · simp [hr] at hrd
          injection h with h
          subst h
          have hF' : F = Fence.wide := by
            rcases hF with ⟨_, h⟩ | ⟨h, _⟩
            · exact h
            · rw [hrd'] at h; cases h
          subst hF'
          refine ⟨fun f _ => trivial, ?_⟩
          have hro : Fence.wide.round = none := rfl
          rw [hro, Oper.semAt_none]
          have hrel : VRelL cx w [x, k] (args.map act.eval).toList := by
            rw [← hargs, Array.toList_map]
            exact vrelL_map hρ _
          have hpair : ∃ vx vk, args.map act.eval = #[vx, vk] ∧ VRel cx w x vx ∧ VRel cx w k vk := by
            match hq : (args.map act.eval).toList, hrel with
            | [vx, vk], hrel =>
              simp only [VRelL] at hrel
              exact ⟨vx, vk, by apply Array.ext'; simpa using hq, hrel.1, hrel.2.1⟩
            | [], hrel => simp [VRelL] at hrel
            | [_], hrel => simp [VRelL] at hrel
            | _ :: _ :: _ :: _, hrel => simp [VRelL] at hrel
          obtain ⟨vx, vk, hpe, hvx, hvk⟩ := hpair
          obtain ⟨cs, he⟩ : ∃ cs, (execOp act.eval o).run cfg.P w = .ok (.defer { target := .builtin .delete argTypes o.type cs, args := #[vx, vk] }) w := by
            refine ⟨args.map fun | .const _ => true | _ => false, ?_⟩
            simp only [execOp, hop, resolve, Sem.run_bind, Sem.run_pure, Result.andThen_ok, hpe]
            rfl
          rw [he]
          simp only [Oper.uponIn]
          have ht : argTypes[0]? = some t := by rw [← Array.getElem?_toList, hts]; rfl
          refine hK cx _ w rfl (rinv_after (i := i) R R.fr.sim R.fr.hi (Ev.refl _ _ _ _ (Nat.le_refl _)) (put_rel R.fr.tm undef_rel) ?_)
          rw [put_df]
          simp only [DfRel]
          exact .inr ⟨t, x, k, st.df, argTypes, o.type, _, vx, vk, rfl, rfl, ht, hvx, hvk, R.fr.df⟩
      · cases h
    · -- any other operation
      rename_i hnc hndel
      cases hq : opQ cfg.P draw st.mem (m0.A.length + slotOf ops i) (evalO st.tm) o.op with
      | none => simp [hq] at h
      | some r =>
        obtain ⟨v, m'⟩ := r
        simp only [hq, Option.map_some] at h
        injection h with h
        replace hq := opQ_opV hq
        have hnd : ∀ c, o.op ≠ .defer c := fun c e => by rw [e] at hq; simp [opV] at hq
        by_cases hal : ∃ t, o.op = .alloc t
        · obtain ⟨t, hal⟩ := hal
          rw [hal] at hq
          simp only [opV] at hq
          injection hq with hq; injection hq with h1 h2; subst h1 h2
          obtain ⟨hun, z, hz, hzA⟩ := R.un i o t hi hal hX
          obtain ⟨inf, zv, hinf, hzv, rfl, hzc⟩ := zeroCells_some hz
          have hla : st.mem.la ≤ m0.A.length + slotOf ops i := by rw [R.ev.la]; have := R.la; omega
          obtain ⟨cx', k1, k2, k3, k4⟩ := sim_alloc_slot R.fr.sim hzA hun hla zv.cells t (map_ofConst0_rel _)
          refine ⟨fun f _ => hF.fn f, ?_⟩
          rw [Oper.semAt_eq _ _ _ hnd]
          have he : (execOp act.eval o).run cfg.P w = .ok (.value (.pointer (some ⟨w.heap.size, 0, none⟩))) (w.alloc (.cells zv.cells t)) := by
            simp [execOp, hal, Instr.alloc, r_zero hinf hzv, newVar, newRow]
          rw [he]
          simp only [Oper.uponIn]
          subst h
          have hfa : ∀ k c, k < st.mem.A.length → cx.fa k = some c → cx'.fa k = some c := fun k c _ hk => by
            rw [k2 k (fun e => by subst e; rw [hun] at hk; cases hk)]
            exact hk
          have hdm : ∀ c, cx.own c = .dm → (w.alloc (.cells zv.cells t)).heap[c]? = w.heap[c]? ∧ cx'.own c = .dm := fun c hc => by
            have hlt := R.fr.sim.lt_own (c := c) (by rw [hc]; simp)
            exact ⟨heap_alloc_lt w _ hlt, (k4.own c (Nat.ne_of_lt hlt)).trans hc⟩
          refine hK cx' _ _ rfl ⟨⟨k3, R.fr.hi, put_rel (VRelL.on k4.later hfa _ _ (VRelL.maxA R.fr.sim.fa _ _ R.fr.tm) R.fr.tm) ⟨_, k1, rfl⟩, by
            rw [put_df]
            exact DfRel.on k4.later hfa (fun x v hv => VRel.maxA R.fr.sim.fa x v hv) hdm _ _ R.fr.df⟩, ?_, R.la, ?_⟩
          · refine R.ev.trans (n2 := m0.A.length) ?_ (Nat.le_refl _)
            exact { fa := fun k hk => k2 k (by omega), un := fun _ _ _ => rfl, ln := R.ev.ln, nb := k4.later.nb, vb := k4.later.vb, fo := k4.later.fo, non := k4.later.non
                    prot := fun c hc => by
                      have hlt := R.fr.sim.lt_own (c := c) (by rw [hc]; simp)
                      exact ⟨heap_alloc_lt w _ hlt, (k4.own c (Nat.ne_of_lt hlt)).trans hc⟩
                    dm := hdm, size := k4.later.size, os := rfl, tape := rfl, output := rfl, la := rfl, lb := rfl }
          · intro j o' t' ho' ht' hXj
            have hij : i ≠ j := fun e => hXj (.inr e.symm)
            obtain ⟨h1, z', h2, h3⟩ := R.un j o' t' ho' ht' (fun h => hXj (.inl h))
            have hne := slot_ne hi (by simp [isAlloc, hal]) ho' (by simp [isAlloc, ht']) hij
            exact ⟨(k2 _ (by omega)).trans h1, z', h2, h3⟩
        · exact done (opV_hi R.fr.hi hq) hnd (opV_sound R.fr.sim hρ hq (fun t e => hal ⟨t, e⟩)) h.symm
end
end Go.Proofs.YtpdgbhjhodhkiaaGreatDoor.AI
