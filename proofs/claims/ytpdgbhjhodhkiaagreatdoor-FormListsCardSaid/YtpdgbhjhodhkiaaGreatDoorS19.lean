/- Code, as the walk's calculus asks it. -/
import Derived.Test.YtpdgbhjhodhkiaaGreatDoorS18
import Derived.LoopNIn
set_option linter.unusedVariables false
set_option linter.unusedSimpArgs false
namespace Go.Proofs.YtpdgbhjhodhkiaaGreatDoor.AI
open Go
variable {kp : Kp}

def exOf : Ex → Exit
  | .normal => .normal
  | .exit id => .exit id
  | .ret => .ret

def LoopOk (loop : (St → Option (Ex × St)) → St → Option (Ex × St)) : Prop := ∀ g st r, loop g st = some r → ∃ n, loopN g n st = some r
theorem loopN_ok (n : Nat) : LoopOk (fun g => loopN g n) := fun g st r h => ⟨n, h⟩
theorem loopW_ok : LoopOk loopW := fun g st r h => by
  unfold loopW at h
  split at h
  · rename_i hex
    injection h with h
    have := hex.choose_spec
    rw [h] at this
    exact this
  · cases h

section
variable {lo : Nat} {cfg : Cfg} {call : Call} {loop : (St → Option (Ex × St)) → St → Option (Ex × St)}

/-- What a run of code must keep. -/
def Keeps (kp : Kp) (lo : Nat) (cx : Cx) (st : St) (w : World) (st' : St) (K : Act → World → Prop) : Prop :=
  ∀ cx' act' w', st'.rd = st.rd → FRel kp lo cx' st' act' w' → Ev st.mem.A.length cx st.mem w cx' st'.mem w' → K act' w'

def Sound (kp : Kp) (lo : Nat) (cfg : Cfg) (call : Call) (loop : (St → Option (Ex × St)) → St → Option (Ex × St)) (c : Code) : Prop :=
  ∀ (F : Fence) (cx : Cx) (st : St) (act : Act) (w : World) (e : Ex) (st' : St) (Q : Exit → Act → World → Prop), RdOk F st.rd → lo ≤ w.heap.size → FRel kp lo cx st act w → exec cfg call loop c st = some (e, st') →
    Keeps kp lo cx st w st' (Q (exOf e)) → c.wpIn F 0 cfg.P Q act w

theorem rounds_sound {c : Code} (ih : Sound kp lo cfg call loop c) {F : Fence} {Q : Exit → Act → World → Prop} : ∀ (n : Nat) (cx : Cx) (st : St) (act : Act) (w : World) (e : Ex) (st' : St), RdOk F st.rd → lo ≤ w.heap.size → FRel kp lo cx st act w → loopN (exec cfg call loop c) n st = some (e, st') →
    Keeps kp lo cx st w st' (Q (exOf e)) → Code.roundsIn F 0 cfg.P c Q n act w
  | 0, cx, st, act, w, e, st', _, _, _, h, _ => by simp [loopN] at h
  | n + 1, cx, st, act, w, e, st', hF, hlo, R, h, hK => by
    rw [roundsIn_succ]
    simp only [loopN] at h
    split at h
    · rename_i st1 h1
      refine ih F cx st act w .normal st1 _ hF hlo R h1 fun cx1 act1 w1 hrd R1 E1 => ?_
      simp only [exOf, Exit.then]
      obtain ⟨cx2, R2, E2⟩ := gc_sound R1 E1 R.sim.la
      refine rounds_sound ih n cx2 (gcSt st st1) act1 w1 e st' (by rw [gc_rd, hrd]; exact hF) (Nat.le_trans hlo E1.size) R2 h fun cx3 act3 w3 hrd3 R3 E3 => ?_
      exact hK cx3 act3 w3 (hrd3.trans (gc_rd.trans hrd)) R3 (E2.trans E3 E2.ln)
    · rename_i e1 st1 hne h1
      injection h with h
      injection h with h2 h3
      subst h2 h3
      refine ih F cx st act w e1 st1 _ hF hlo R h1 fun cx1 act1 w1 hrd R1 E1 => ?_
      obtain ⟨cx2, R2, E2⟩ := gc_sound R1 E1 R.sim.la
      have := hK cx2 act1 w1 (gc_rd.trans hrd) R2 E2
      cases e1 with
      | normal => exact absurd rfl hne
      | exit id => exact this
      | ret => exact this
    · cases h

theorem sim_alloc_dm {cx : Cx} {m : Mem} {w : World} (S : Sim kp cx m w) (o : Obj) :
    ∃ cx', cx'.own w.heap.size = .dm ∧ Sim kp cx' m (w.alloc o) ∧ Ev m.A.length cx m w cx' m (w.alloc o) := by
  have K : Keep w.heap.size cx.nb cx w (cx.withOwn w.heap.size .dm) (w.alloc o) := keep_alloc o (Nat.le_refl _) (fun _ _ => ⟨rfl, rfl⟩) (fun _ _ h => h) (fun c hc => by simp [Cx.withOwn, hc])
  refine ⟨cx.withOwn w.heap.size .dm, by simp [Cx.withOwn], ⟨fun i cs h => ?_, S.fa, fun b x h => ?_, S.nb, S.fo, fun c hc => ?_, S.la, S.lb, S.kpt K.later.zero⟩, ev_alloc S K (fun _ _ => rfl) (Nat.le_refl _) (fun _ _ _ => rfl) rfl rfl⟩
  · have hx := S.A i cs h
    intro c hc
    exact AOk.keep (n := m.A.length) K (fun _ _ _ h => h) (AOk.max S hx hc) hx rfl (fun h => absurd h (Nat.lt_irrefl _)) c hc
  · exact BOk.keep (n := m.A.length) K (fun _ _ _ h => h) (BB.hi_le S h) (S.not_nb h) (S.lt_nb h) (S.B b x h) (fun h => absurd h (Nat.lt_irrefl _))
  · have : w.heap.size + 1 ≤ c := by simpa using hc
    simp only [Cx.withOwn]
    rw [if_neg (by omega)]
    exact S.fresh c (by omega)

theorem DfRel.mark_lt {cx : Cx} {m : Mem} {w : World} (S : Sim kp cx m w) : ∀ (ds : List Deferred) (df : List (TypeId × V × V)), DfRel lo cx w df ds → ∀ d' ∈ ds, ∀ D', d'.target = .collected D' → D' < w.heap.size
  | [], df, h, d', hd', D', hD' => by cases hd'
  | d :: ds, df, h, d', hd', D', hD' => by
    simp only [DfRel] at h
    rcases h with ⟨D, h1, h2, h3, hlo, h4⟩ | ⟨t, x, k, rest, ts, ty, cs, vx, vk, h1, h2, h3, h4, h5, h6⟩
    · rcases List.mem_cons.1 hd' with rfl | hd'
      · subst h1
        injection hD' with hD'
        subst hD'
        exact S.lt_own (by rw [h2]; simp)
      · exact DfRel.mark_lt S ds df h4 d' hd' D' hD'
    · rcases List.mem_cons.1 hd' with rfl | hd'
      · subst h2
        cases hD'
      · exact DfRel.mark_lt S ds rest h6 d' hd' D' hD'

theorem exec_sound (C : CallOk kp cfg call) (Xt : ExtOk kp cfg) (hm : cfg.P.follows .mixedOrders = true) (L : LoopOk loop) : ∀ c : Code, Sound kp lo cfg call loop c
  | .skip, F, cx, st, act, w, e, st', Q, hF, hlo, R, h, hK => by
    simp only [exec] at h
    injection h with h; injection h with h1 h2; subst h1 h2
    exact wpIn_skip (hK cx act w rfl R (Ev.refl _ _ _ _ (Nat.le_refl _)))
  | .label l, F, cx, st, act, w, e, st', Q, hF, hlo, R, h, hK => by
    simp only [exec] at h
    injection h with h; injection h with h1 h2; subst h1 h2
    exact wpIn_label (hK cx act w rfl R (Ev.refl _ _ _ _ (Nat.le_refl _)))
  | .region id ops draw, F, cx, st, act, w, e, st', Q, hF, hlo, R, h, hK => by
    obtain ⟨he, hw⟩ := region_sound (Q := fun x a w => (x = .normal → ∃ cx', st'.rd = st.rd ∧ FRel kp lo cx' st' a w ∧ ∃ w0, w0 = w ∧ True) ∧ (∀ (y : Exit), y = x → x = .normal)) C Xt hm hF R h (fun cx' act' w' hrd R' E' => ⟨fun _ => ⟨cx', hrd, R', w', rfl, trivial⟩, fun _ _ => rfl⟩)
    subst he
    exact (region_sound C Xt hm hF R h hK).2
  | .seq a b, F, cx, st, act, w, e, st', Q, hF, hlo, R, h, hK => by
    simp only [exec] at h
    refine wpIn_seq ?_
    split at h
    · rename_i st1 h1
      refine exec_sound C Xt hm L a F cx st act w .normal st1 _ hF hlo R h1 fun cx1 act1 w1 hrd R1 E1 => ?_
      simp only [exOf, Exit.then]
      refine exec_sound C Xt hm L b F cx1 st1 act1 w1 e st' Q (by rw [hrd]; exact hF) (Nat.le_trans hlo E1.size) R1 h fun cx2 act2 w2 hrd2 R2 E2 => ?_
      exact hK cx2 act2 w2 (hrd2.trans hrd) R2 (E1.trans E2 E1.ln)
    · rename_i hne
      refine exec_sound C Xt hm L a F cx st act w e st' _ hF hlo R h fun cx1 act1 w1 hrd R1 E1 => ?_
      cases e with
      | normal => exact absurd h (hne st')
      | exit id => exact hK cx1 act1 w1 hrd R1 E1
      | ret => exact hK cx1 act1 w1 hrd R1 E1
  | .cond c a b, F, cx, st, act, w, e, st', Q, hF, hlo, R, h, hK => by
    simp only [exec] at h
    have hc := evalO_rel R.tm c
    split at h
    · rename_i hv
      rw [hv] at hc
      simp only [VRel] at hc
      exact wpIn_cond_true hc (exec_sound C Xt hm L a F cx st act w e st' Q hF hlo R h hK)
    · rename_i hv
      rw [hv] at hc
      simp only [VRel] at hc
      exact wpIn_cond_false hc (exec_sound C Xt hm L b F cx st act w e st' Q hF hlo R h hK)
    · cases h
  | .block id c, F, cx, st, act, w, e, st', Q, hF, hlo, R, h, hK => by
    simp only [exec] at h
    refine wpIn_block ?_
    split at h
    · rename_i id' st1 h1
      refine exec_sound C Xt hm L c F cx st act w (.exit id') st1 _ hF hlo R h1 fun cx1 act1 w1 hrd R1 E1 => ?_
      simp only [exOf, Exit.inBlock]
      split at h
      · rename_i hid
        injection h with h; injection h with h2 h3; subst h2 h3
        rw [if_pos hid]
        exact hK cx1 act1 w1 hrd R1 E1
      · rename_i hid
        injection h with h; injection h with h2 h3; subst h2 h3
        rw [if_neg hid]
        exact hK cx1 act1 w1 hrd R1 E1
    · rename_i hne
      refine exec_sound C Xt hm L c F cx st act w e st' _ hF hlo R h fun cx1 act1 w1 hrd R1 E1 => ?_
      cases e with
      | normal => exact hK cx1 act1 w1 hrd R1 E1
      | exit id' => exact absurd h (hne id' st')
      | ret => exact hK cx1 act1 w1 hrd R1 E1
  | .loop c, F, cx, st, act, w, e, st', Q, hF, hlo, R, h, hK => by
    simp only [exec] at h
    obtain ⟨n, hn⟩ := L _ _ _ h
    exact wpIn_loop_rounds n (rounds_sound (exec_sound C Xt hm L c) n cx st act w e st' hF hlo R hn hK)
  | .exit id, F, cx, st, act, w, e, st', Q, hF, hlo, R, h, hK => by
    simp only [exec] at h
    injection h with h; injection h with h1 h2; subst h1 h2
    exact wpIn_exit (hK cx act w rfl R (Ev.refl _ _ _ _ (Nat.le_refl _)))
  | .ret, F, cx, st, act, w, e, st', Q, hF, hlo, R, h, hK => by
    simp only [exec] at h
    injection h with h; injection h with h1 h2; subst h1 h2
    exact wpIn_ret (hK cx act w rfl R (Ev.refl _ _ _ _ (Nat.le_refl _)))
  | .rangeFunc f ps assign body, F, cx, st, act, w, e, st', Q, hF, hlo, R, h, hK => by
    simp only [exec] at h
    split at h
    · cases h
    · rename_i hrd0
      have hrd : st.rd = false := by simpa using hrd0
      have hFw : F = Fence.wide := by
        rcases hF with ⟨_, h⟩ | ⟨h, _⟩
        · exact h
        · rw [hrd] at h; cases h
      subst hFw
      split at h
      · rename_i g caps hg
        split at h
        · rename_i v m hcall
          split at h
          · rename_i s pend tm ps' as' bo' hB
            split at h
            · cases h
            · rename_i hbusy
              obtain ⟨hent, hcalls⟩ := C.fn _ _ _ _ _ hcall
              have hgv := evalO_rel R.tm f
              rw [hg] at hgv
              simp only [VRel] at hgv
              obtain ⟨arr, hgv, hcaps⟩ := hgv
              refine wpIn_rangeFunc fun fn _ => ?_
              obtain ⟨cx1, hdm1, S1, E1⟩ := sim_alloc_dm R.sim (.deferred (some []))
              have htm1 : VRelL cx1 (w.alloc (.deferred (some []))) st.tm act.tmps.toList := E1.vals R.sim R.tm
              obtain ⟨cx2, hfo2, S2, E2⟩ := sim_push_O S1 (.loop .ready none st.tm ps.toList assign body) (max st.mem.hi (maxAL st.tm))
                (.loop { state := .ready, pending := none, fn := fn, tmps := act.tmps, params := ps, assign := assign, body := body, defers := w.heap.size })
                (fun cx' hfo hown hl hfa hheap => by
                  simp only [BOk]
                  refine ⟨_, fn, w.heap.size, act.tmps, hfo, ?_, VRelL.on (n := st.mem.A.length) hl (fun i c _ hc => by rw [hfa]; exact hc) _ _ (VRelL.maxA S1.fa _ _ htm1) htm1, ?_⟩
                  · rw [hheap]
                  · rw [hown, ownO, if_neg (by have := R.sim.lb; omega)])
              have hE12 : Ev st.mem.A.length cx st.mem w cx2 _ _ := E1.trans E2 (Nat.le_refl _)
              have hl1 : (w.alloc (.deferred (some []))).heap.size = w.heap.size + 1 := by simp
              rw [hl1] at hfo2
              refine ⟨w.heap.size + 1, [{ target := .collected w.heap.size, args := #[] }], ((w.alloc (.deferred (some []))).alloc (.loop { state := .ready, pending := none, fn := fn, tmps := act.tmps, params := ps, assign := assign, body := body, defers := w.heap.size })), { target := .fn (.func g) arr, args := #[.func (.yield (w.heap.size + 1)) #[] #[]] }, ((w.alloc (.deferred (some []))).alloc (.loop { state := .ready, pending := none, fn := fn, tmps := act.tmps, params := ps, assign := assign, body := body, defers := w.heap.size })), g, #[.func (.yield (w.heap.size + 1)) #[] #[]] ++ arr, ((w.alloc (.deferred (some []))).alloc (.loop { state := .ready, pending := none, fn := fn, tmps := act.tmps, params := ps, assign := assign, body := body, defers := w.heap.size })),
                run_enterLoop_outer fn act.tmps ps assign body, ?_, fun f' _ => trivial, ?_, (fun h => by cases h), ?_⟩
              · simp only [resolve, rangeCall, Sem.run_bind, hgv, Deferred.ofValue, Sem.run_pure, Result.andThen_ok, Array.empty_append]
                simp [Act.eval, Frame.eval]
              · simp only [invoke]
                exact hent _ _
              · have hargs : VRelL cx2 ((w.alloc (.deferred (some []))).alloc (.loop { state := .ready, pending := none, fn := fn, tmps := act.tmps, params := ps, assign := assign, body := body, defers := w.heap.size }))
                    (.yld st.mem.B.length :: caps) (#[Value.func (.yield (w.heap.size + 1)) #[] #[]] ++ arr).toList := by
                  simp only [Array.toList_append, List.cons_append, List.nil_append, VRelL, VRel]
                  exact ⟨⟨_, hfo2, rfl⟩, hE12.vals R.sim hcaps⟩
                have hH2 : HiOk { st.mem with B := st.mem.B ++ [.loop .ready none st.tm ps.toList assign body], hi := max st.mem.hi (maxAL st.tm) } := R.hi.pushB (by omega) (by simp only [BB.hi]; omega)
                refine (hcalls cx2 _ _ S2 hH2 hargs).mono ?_
                rintro e3 w3 ⟨cv, cx3, rfl, _, S3, H3, E3⟩
                have hbk := S3.B _ _ hB
                simp only [BOk] at hbk
                obtain ⟨c, fn', D', tmps', h1, h2, h3, h4⟩ := hbk
                have hc : c = w.heap.size + 1 := by
                  have := E3.fo _ _ hfo2
                  rw [h1] at this
                  injection this
                subst hc
                have hlb : m.lb ≤ st.mem.B.length := by rw [E3.lb]; exact R.sim.lb
                have hend := run_endLoop (P := cfg.P) h2 (by exact hbusy)
                obtain ⟨S4, E4⟩ := sim_set_O (y := .loop .exhausted pend tm ps' as' bo') (o := .loop { state := .exhausted, pending := pend, fn := fn', tmps := tmps', params := ps'.toArray, assign := as', body := bo', defers := D' }) S3 hB hlb h1 h4 (lt_of_heap h2) (fun hl hheap => by
                  simp only [BOk]
                  exact ⟨_, fn', D', tmps', h1, hheap, VRelL.on (n := m.A.length) hl (fun _ _ _ h => h) _ _ (VRelL.maxA S3.fa _ _ h3) h3, h4⟩) m.hi
                have Eall : Ev st.mem.A.length cx st.mem w cx3 { m with B := m.B.set st.mem.B.length (.loop .exhausted pend tm ps' as' bo') } (putO w3 (w.heap.size + 1) (.loop { state := .exhausted, pending := pend, fn := fn', tmps := tmps', params := ps'.toArray, assign := as', body := bo', defers := D' })) :=
                  hE12.trans ((E3.trans E4 E3.ln).mono (Nat.le_refl _)) (Nat.le_refl _)
                have H4 : HiOk { m with B := m.B.set st.mem.B.length (.loop .exhausted pend tm ps' as' bo') } := H3.setB (Nat.le_refl _) (by have := H3.B _ _ hB; simpa only [BB.hi] using this)
                have R4 : FRel kp lo cx3 { st with mem := { m with B := m.B.set st.mem.B.length (.loop .exhausted pend tm ps' as' bo') } } { act with defers := [{ target := .collected w.heap.size, args := #[] }] ++ act.defers }
                    (putO w3 (w.heap.size + 1) (.loop { state := .exhausted, pending := pend, fn := fn', tmps := tmps', params := ps'.toArray, assign := as', body := bo', defers := D' })) := by
                  refine ⟨S4, H4, Eall.vals R.sim R.tm, ?_⟩
                  simp only [List.cons_append, List.nil_append, DfRel]
                  refine .inl ⟨w.heap.size, rfl, ?_, ?_, ⟨hlo, fun d' hd' D' hD' => DfRel.mark_lt R.sim _ _ R.df d' hd' D' hD'⟩, Eall.dfs R.sim R.df⟩
                  · have := (E2.dm _ hdm1).2
                    have := (E3.dm _ this).2
                    exact (E4.dm _ this).2
                  · have e2 := E2.dm _ hdm1
                    have e3 := E3.dm _ e2.2
                    have e4 := E4.dm _ e3.2
                    rw [e4.1, e3.1, e2.1]
                    exact heap_alloc_new w _
                refine ⟨pend, _, hend, ?_⟩
                cases pend with
                | none =>
                  simp only at h
                  injection h with h; injection h with g1 g2; subst g1 g2
                  exact hK cx3 _ _ rfl R4 Eall
                | some j =>
                  cases j <;> simp only at h <;> first | (cases h; done) | skip
                  · injection h with h; injection h with g1 g2; subst g1 g2
                    exact wpIn_exit (hK cx3 _ _ rfl R4 Eall)
                  · injection h with h; injection h with g1 g2; subst g1 g2
                    exact wpIn_ret (hK cx3 _ _ rfl R4 Eall)
          · cases h
        · cases h
      · cases h
  | .scope _, F, cx, st, act, w, e, st', Q, hF, hlo, R, h, hK => by simp [exec] at h
  | .goto _, F, cx, st, act, w, e, st', Q, hF, hlo, R, h, hK => by simp [exec] at h
  | .refuse _, F, cx, st, act, w, e, st', Q, hF, hlo, R, h, hK => by simp [exec] at h
end
end Go.Proofs.YtpdgbhjhodhkiaaGreatDoor.AI
