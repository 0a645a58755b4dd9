/- Calls and rounds: sound. -/
import Derived.Test.YtpdgbhjhodhkiaaGreatDoorS21
set_option linter.unusedVariables false
set_option linter.unusedSimpArgs false
namespace Go.Proofs.YtpdgbhjhodhkiaaGreatDoor.AI
open Go
variable {kp : Kp}

def OkOk (cfg : Cfg) : Prop := ∀ f, cfg.ok f = true → Enters cfg.P f

section
variable {cfg : Cfg} {call : Call} {loop : (St → Option (Ex × St)) → St → Option (Ex × St)}

theorem trunc_ret {cx cx1 : Cx} {m m1 : Mem} {w w1 : World} {v : V} {cv : Value} (S : Sim kp cx m w) (S1 : Sim kp cx1 m1 w1) (H1 : HiOk m1) (E : Ev m.A.length cx m w cx1 m1 w1) (hv : VRel cx1 w1 v cv) :
    RetPost kp m.A.length cx m w v (truncA m.A.length v m1) (.returned cv) w1 := by
  unfold truncA
  split
  · rename_i h
    obtain ⟨h1, h2, h3⟩ := h
    obtain ⟨cx2, S2, H2, hfa, E2⟩ := sim_trunc S1 H1 h3 h1 (by rw [E.la]; exact S.la)
    exact ⟨cv, cx2, rfl, VRel.on E2.later hfa v cv h2 hv, S2, H2, E.trans E2 (Nat.le_refl _)⟩
  · exact ⟨cv, cx1, rfl, hv, S1, H1, E⟩

theorem fn_sound (C : CallOk kp cfg call) (Xt : ExtOk kp cfg) (hm : cfg.P.follows .mixedOrders = true) (L : LoopOk loop) (hok : OkOk cfg) {f : FuncId} {args : List V} {m m' : Mem} {v : V} (h : callF cfg call loop (.fn f) args m = some (v, m')) :
    Enters cfg.P f ∧ ∀ cx w (cargs : Array Value), Sim kp cx m w → HiOk m → VRelL cx w args cargs.toList → CallsIn Fence.wide 0 cfg.P f cargs w (RetPost kp m.A.length cx m w v m') := by
  unfold callF at h
  simp only at h
  split at h
  · rename_i fn hf
    split at h
    · rename_i c hb
      split at h
      · rename_i hk
        refine ⟨hok f hk, fun cx w cargs S H ha => ?_⟩
        obtain ⟨⟨e, st1⟩, h1, h2⟩ := Option.bind_eq_some_iff.1 h
        have R0 : FRel kp w.heap.size cx (enterSt fn args m) { tmps := cargs ++ Array.replicate (fn.ntmps - cargs.size) undef, defers := [] } w := by
          refine ⟨S, H, ?_, rfl⟩
          simp only [enterSt, Array.toList_append, Array.toList_replicate]
          have hl : args.length = cargs.size := by rw [ha.length]; simp
          rw [hl]
          exact VRelL.append ha (VRelL.replicate undef_rel _)
        refine callsIn_of_body hf hb (exec_sound C Xt hm L c Fence.wide cx _ _ w e st1 _ (.inl ⟨rfl, rfl⟩) (Nat.le_refl _) R0 h1 fun cx1 act1 w1 _ R1 E1 => ?_)
        have fin : ∀ m1 vs, runDf cfg.P st1.df st1.mem = some m1 → resultsV cfg.P m1 st1.tm fn.results.toList = some vs → v = tupV vs → m' = truncA m.A.length (tupV vs) m1 →
            LeavesB cfg.P fn act1.tmps (RetPost kp m.A.length cx m w v m') act1.defers w1 := by
          intro m1 vs k1 k2 k3 k4
          subst k3 k4
          exact leaves_sound S k2 (fun cx2 w2 cv S2 H2 E2 hv => trunc_ret S S2 H2 E2 hv) act1.defers st1.df cx1 st1.mem w1 R1.sim R1.hi E1 R1.tm R1.df k1
        cases e with
        | exit id => simp [leaveV] at h2
        | normal =>
          simp only [leaveV] at h2
          obtain ⟨m1, k1, h2⟩ := Option.bind_eq_some_iff.1 h2
          obtain ⟨vs, k2, h2⟩ := Option.map_eq_some_iff.1 h2
          injection h2 with k3 k4
          exact fin m1 vs k1 k2 k3.symm k4.symm
        | ret =>
          simp only [leaveV] at h2
          obtain ⟨m1, k1, h2⟩ := Option.bind_eq_some_iff.1 h2
          obtain ⟨vs, k2, h2⟩ := Option.map_eq_some_iff.1 h2
          injection h2 with k3 k4
          exact fin m1 vs k1 k2 k3.symm k4.symm
      · cases h
    · cases h
  · cases h

theorem setMany_rel {cx : Cx} {w : World} : ∀ (ps : List Tmp) (args : List V) (vs : List Value) (tm : List V) (tmps : Array Value), VRelL cx w tm tmps.toList → VRelL cx w args vs →
    VRelL cx w (setMany tm ps args) ((ps.zip vs).foldl (fun (tmps : Array Value) (p : Tmp × Value) => tmps.setIfInBounds p.1 p.2) tmps).toList
  | [], args, vs, tm, tmps, h, _ => by simpa [setMany] using h
  | p :: ps, [], [], tm, tmps, h, _ => by simpa [setMany] using h
  | p :: ps, [], _ :: _, tm, tmps, _, k => by simp [VRelL] at k
  | p :: ps, _ :: _, [], tm, tmps, _, k => by simp [VRelL] at k
  | p :: ps, a :: args, v :: vs, tm, tmps, h, k => by
    simp only [VRelL] at k
    simp only [setMany, List.zip_cons_cons, List.foldl_cons]
    refine setMany_rel ps args vs _ _ ?_ k.2
    rw [Array.toList_setIfInBounds]
    exact VRelL.set p h k.1

theorem yld_sound (C : CallOk kp cfg call) (Xt : ExtOk kp cfg) (hm : cfg.P.follows .mixedOrders = true) (L : LoopOk loop) {l : Nat} {args : List V} {m m' : Mem} {v : V} (h : callF cfg call loop (.yld l) args m = some (v, m')) :
    ∀ cx w (cargs : Array Value), Sim kp cx m w → HiOk m → VRelL cx w args cargs.toList → ∀ c, cx.fo l = some c →
      ∃ fn tmps assign body, (Instr.yield c cargs).run cfg.P w = .ok (.round c fn tmps assign body) w ∧ RoundIn Fence.wide 0 cfg.P c fn tmps assign body w (RetPost kp m.A.length cx m w v m') := by
  intro cx w cargs S H ha c hc
  unfold callF at h
  simp only at h
  split at h
  · rename_i pend0 tm ps as bo hB
    split at h
    · rename_i hcond
      obtain ⟨hlen, hlb⟩ := hcond
      split at h
      · rename_i st1 h1
        split at h
        · rename_i pend' tm' ps' as' bo' hB1
          obtain ⟨⟨e, st2⟩, h2, h3⟩ := Option.bind_eq_some_iff.1 h
          have hbk := S.B _ _ hB
          simp only [BOk] at hbk
          obtain ⟨c0, fn, D, tmps, g1, g2, g3, g4⟩ := hbk
          have : c0 = c := by rw [hc] at g1; injection g1 with g1; exact g1.symm
          subst this
          have hsz : cargs.size = ps.toArray.size := by
            have := ha.length
            simp at this ⊢
            omega
          refine ⟨fn, _, as, bo, run_yield g2 hsz, roundIn_of_wpIn trivial ?_⟩
          have R0 : FRel kp 0 cx { tm := setMany tm ps args, mem := m, df := [], rd := true } { tmps := (ps.toArray.zip cargs).foldl (fun tmps (t, a) => tmps.setIfInBounds t a) tmps, defers := [] } w := by
            refine ⟨S, H, ?_, rfl⟩
            simp only
            rw [← Array.foldl_toList, Array.toList_zip]
            exact setMany_rel ps args cargs.toList tm tmps g3 ha
          refine exec_sound C Xt hm L as (Fence.wide.inRound c0) cx _ _ w .normal st1 _ (.inr ⟨rfl, c0, rfl⟩) (Nat.zero_le _) R0 h1 fun cx1 act1 w1 hrd R1 E1 => ?_
          simp only [exOf, Exit.then]
          have hbk1 := R1.sim.B _ _ hB1
          simp only [BOk] at hbk1
          obtain ⟨c1, fn1, D1, tmps1, k1, k2, k3, k4⟩ := hbk1
          have hc1 : c1 = c0 := by
            have := E1.fo _ _ hc
            rw [k1] at this
            injection this
          subst hc1
          have hlb1 : st1.mem.lb ≤ l := by rw [E1.lb]; exact hlb
          refine ⟨_, run_beginRound k2 rfl, ?_⟩
          obtain ⟨S2, E2⟩ := sim_set_O (y := .loop .busy pend' tm' ps' as' bo') (o := .loop { state := .busy, pending := pend', fn := fn1, tmps := tmps1, params := ps'.toArray, assign := as', body := bo', defers := D1 }) R1.sim hB1 hlb1 k1 k4 (lt_of_heap k2) (fun hl hheap => by
            simp only [BOk]
            exact ⟨_, fn1, D1, tmps1, k1, hheap, VRelL.on (n := st1.mem.A.length) hl (fun _ _ _ h => h) _ _ (VRelL.maxA R1.sim.fa _ _ k3) k3, k4⟩) st1.mem.hi
          have H2 : HiOk { st1.mem with B := st1.mem.B.set l (.loop .busy pend' tm' ps' as' bo') } := R1.hi.setB (Nat.le_refl _) (by have := R1.hi.B _ _ hB1; simpa only [BB.hi] using this)
          have R2 : FRel kp 0 cx1 { st1 with mem := { st1.mem with B := st1.mem.B.set l (.loop .busy pend' tm' ps' as' bo') } } act1 (putO w1 c1 (.loop { state := .busy, pending := pend', fn := fn1, tmps := tmps1, params := ps'.toArray, assign := as', body := bo', defers := D1 })) :=
            ⟨S2, H2, E2.vals R1.sim R1.tm, E2.dfs R1.sim R1.df⟩
          refine exec_sound C Xt hm L bo (Fence.wide.inRound c1) cx1 { st1 with mem := { st1.mem with B := st1.mem.B.set l (.loop .busy pend' tm' ps' as' bo') } } act1 _ e st2 _ (.inr ⟨hrd, c1, rfl⟩) (Nat.zero_le _) R2 h2 fun cx3 act3 w3 hrd3 R3 E3 => ?_
          have E13 : Ev m.A.length cx m w cx3 st2.mem w3 := (E1.trans E2 E1.ln).trans E3 (E1.trans E2 E1.ln).ln
          unfold endRoundV at h3
          simp only at h3
          split at h3
          · rename_i s3 pend3 tm3 ps3 as3 bo3 hB3
            split at h3
            · rename_i hlb3
              have hbk3 := R3.sim.B _ _ hB3
              simp only [BOk] at hbk3
              obtain ⟨c3, fn3, D3, tmps3, q1, q2, q3, q4⟩ := hbk3
              have hc3 : c3 = c1 := by
                have := E13.fo _ _ hc
                rw [q1] at this
                injection this
              subst hc3
              have key : ∀ (jump : Option Code) (s : LoopState), s = (if jump.isNone then .ready else .done) → v = .bool jump.isNone → m' = truncA m.A.length v { st2.mem with B := st2.mem.B.set l (.loop s jump tm3 ps3 as3 bo3) } →
                  ∃ cv w', (Instr.endRound c3 jump).run cfg.P w3 = .ok cv w' ∧ RetPost kp m.A.length cx m w v m' (.returned cv) w' := by
                intro jump s hs hv hm'
                subst hs hm'
                refine ⟨_, _, run_endRound jump q2, ?_⟩
                obtain ⟨S4, E4⟩ := sim_set_O (y := .loop (if jump.isNone then .ready else .done) jump tm3 ps3 as3 bo3) (o := .loop { state := if jump.isNone then .ready else .done, pending := jump, fn := fn3, tmps := tmps3, params := ps3.toArray, assign := as3, body := bo3, defers := D3 }) R3.sim hB3 hlb3 q1 q4 (lt_of_heap q2) (fun hl hheap => by
                  simp only [BOk]
                  exact ⟨_, fn3, D3, tmps3, q1, hheap, VRelL.on (n := st2.mem.A.length) hl (fun _ _ _ h => h) _ _ (VRelL.maxA R3.sim.fa _ _ q3) q3, q4⟩) st2.mem.hi
                have H4 : HiOk { st2.mem with B := st2.mem.B.set l (.loop (if jump.isNone then .ready else .done) jump tm3 ps3 as3 bo3) } := R3.hi.setB (Nat.le_refl _) (by have := R3.hi.B _ _ hB3; simpa only [BB.hi] using this)
                refine trunc_ret S S4 H4 (E13.trans E4 E13.ln) ?_
                rw [hv]
                simp only [VRel]
              cases e with
              | normal =>
                injection h3 with h3; injection h3 with hv hm'
                exact key none .ready rfl hv.symm (by rw [← hv]; exact hm'.symm)
              | ret =>
                injection h3 with h3; injection h3 with hv hm'
                exact key (some .ret) .done rfl hv.symm (by rw [← hv]; exact hm'.symm)
              | exit id =>
                injection h3 with h3; injection h3 with hv hm'
                exact key (some (.exit id)) .done rfl hv.symm (by rw [← hv]; exact hm'.symm)
            · cases h3
          · cases h3
        · cases h
      · cases h
    · cases h
  · cases h

theorem callF_ok (C : CallOk kp cfg call) (Xt : ExtOk kp cfg) (hm : cfg.P.follows .mixedOrders = true) (L : LoopOk loop) (hok : OkOk cfg) : CallOk kp cfg (callF cfg call loop) :=
  ⟨fun f args m v m' h => fn_sound C Xt hm L hok h, fun l args m v m' h => yld_sound C Xt hm L h⟩
theorem callN_ok (Xt : ExtOk kp cfg) (hm : cfg.P.follows .mixedOrders = true) (hok : OkOk cfg) : ∀ n, CallOk kp cfg (callN cfg n)
  | 0 => ⟨fun f args m v m' h => by simp [callN] at h, fun l args m v m' h => by simp [callN] at h⟩
  | n + 1 => callF_ok (callN_ok Xt hm hok n) Xt hm (loopN_ok n) hok
theorem callW_ok (Xt : ExtOk kp cfg) (hm : cfg.P.follows .mixedOrders = true) (hok : OkOk cfg) : CallOk kp cfg (callW cfg) := by
  have key : ∀ t args m r, callW cfg t args m = some r → ∃ n, callN cfg n t args m = some r := by
    intro t args m r h
    unfold callW at h
    split at h
    · rename_i hex
      injection h with h
      have := hex.choose_spec
      rw [h] at this
      exact this
    · cases h
  refine ⟨fun f args m v m' h => ?_, fun l args m v m' h => ?_⟩
  · obtain ⟨n, hn⟩ := key _ _ _ _ h
    exact (callN_ok Xt hm hok n).fn f args m v m' hn
  · obtain ⟨n, hn⟩ := key _ _ _ _ h
    exact (callN_ok Xt hm hok n).yld l args m v m' hn
end
end Go.Proofs.YtpdgbhjhodhkiaaGreatDoor.AI
