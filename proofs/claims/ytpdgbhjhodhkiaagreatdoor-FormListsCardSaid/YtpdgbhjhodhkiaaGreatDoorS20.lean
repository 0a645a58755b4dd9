/- Calls: a function's body and its way out; a round. -/
import Derived.Test.YtpdgbhjhodhkiaaGreatDoorS19
set_option linter.unusedVariables false
set_option linter.unusedSimpArgs false
namespace Go.Proofs.YtpdgbhjhodhkiaaGreatDoor.AI
open Go
variable {kp : Kp}

/-! ### The way out of a frame: marks, and builtin functions that were deferred -/
theorem step_builtin {P : Program} {fr : Frame} {cs : List Frame} {w w' : World} {d : Deferred} {ds : List Deferred} {b : Builtin} {ts : Array TypeId} {ty : TypeId} {cb : Array Bool} {v : Value} (hm : fr.mode = .returning) (hd : fr.defers = d :: ds)
    (ht : d.target = .builtin b ts ty cb) (hi : (invoke d.target d.args).run P w = .ok (.value v) w') : step P (lone fr cs w) = .next (lone { fr with defers := ds } cs w') := by
  obtain ⟨t, a⟩ := d
  simp only at ht hi
  subst ht
  refine step_lone_go ?_
  simp [stepG, unwind, callDeferred, hm, hd, hi]

theorem wide_room (n : Nat) : Fence.wide.room n := fun _ h => nomatch h

def LeavesB (P : Program) (fn : Func) (tmps : Array Value) (R : Ending → World → Prop) : List Deferred → World → Prop
  | [], w => ∃ v, (results fn tmps).run P w = .ok v w ∧ R (.returned v) w
  | d :: ds, w => (∃ r w', d.target = .collected r ∧ (Instr.takeDeferred r).run P w = .ok [] w' ∧ LeavesB P fn tmps R ds w') ∨
      ∃ b ts ty cb v w', d.target = .builtin b ts ty cb ∧ (invoke d.target d.args).run P w = .ok (.value v) w' ∧ LeavesB P fn tmps R ds w'

theorem leavesB_steps {P : Program} {fn : Func} {tmps : Array Value} {R : Ending → World → Prop} : ∀ (ds : List Deferred) (w : World) (fr : Frame) (cs : List Frame), fr.mode = .returning → fr.defers = ds → fr.tmps = tmps → P.funcs[fr.fn]? = some fn → fr.kind = .normal →
    LeavesB P fn tmps R ds w → ∃ e w' fr', R e w' ∧ ComesIn (Machine.fenced P Fence.wide) P (lone fr cs w) (lone fr' cs w') e ∧ fr'.fn = fr.fn ∧ fr'.leaving P w' e
  | [], w, fr, cs, hm, hd, ht, hf, hk, h => by
    obtain ⟨v, hr, hR⟩ := h
    exact ⟨.returned v, w, fr, hR, StepsIn.refl _, rfl, hm, hd, hk, fn, hf, ht ▸ hr⟩
  | d :: ds, w, fr, cs, hm, hd, ht, hf, hk, h => by
    have hrun : fr.mode ≠ .run := by rw [hm]; exact fun h => nomatch h
    have i1 : (lone fr cs w).fenced P Fence.wide := fenced_out (n := 0) trivial (wide_room _) hrun hd (fun _ _ => trivial)
    rcases h with ⟨r, w', htar, htake, hrest⟩ | ⟨b, ts, ty, cb, v, w', htar, hinv, hrest⟩
    · have h1 := step_collected (cs := cs) hrun hd htar htake
      obtain ⟨e', w'', fr', hR', hs', hfn', hl'⟩ := leavesB_steps ds w' { fr with defers := [] ++ ds } cs hm rfl ht hf hk hrest
      exact ⟨e', w'', fr', hR', ComesIn.of_steps (.one i1 h1) hs', hfn', hl'⟩
    · have h1 := step_builtin (cs := cs) hm hd htar hinv
      obtain ⟨e', w'', fr', hR', hs', hfn', hl'⟩ := leavesB_steps ds w' { fr with defers := ds } cs hm rfl ht hf hk hrest
      exact ⟨e', w'', fr', hR', ComesIn.of_steps (.one i1 h1) hs', hfn', hl'⟩

def bodyPostB (P : Program) (fn : Func) (R : Ending → World → Prop) : Exit → Act → World → Prop
  | .normal, a, w | .ret, a, w => LeavesB P fn a.tmps R a.defers w
  | _, _, _ => False

theorem callsIn_of_body {P : Program} {f : FuncId} {fn : Func} {c : Code} {args : Array Value} {w : World} {R : Ending → World → Prop} (hf : P.funcs[f]? = some fn) (hb : fn.body = some c)
    (h : c.wpIn Fence.wide 0 P (bodyPostB P fn R) { tmps := args ++ Array.replicate (fn.ntmps - args.size) undef, defers := [] } w) : CallsIn Fence.wide 0 P f args w R := by
  refine ⟨trivial, fun cs hr => ?_⟩
  obtain ⟨e, a', w', hq, harr⟩ := h { (default : Frame) with fn := f, kind := .normal, roundOf := none } [] cs rfl trivial hr
  have henter : Frame.enter P f args .normal = ({ (default : Frame) with fn := f, kind := .normal, roundOf := none } : Frame).atR { tmps := args ++ Array.replicate (fn.ntmps - args.size) undef, defers := [] } [.code c] := by
    simp [Frame.enter, Frame.atR, hf, hb]
  rw [← henter] at harr
  cases e with
  | normal =>
    obtain ⟨e', w'', fr', hR, hs, hfn, hl⟩ := leavesB_steps a'.defers w' { ({ (default : Frame) with fn := f, kind := .normal, roundOf := none } : Frame).atR a' [] with mode := .returning } cs rfl rfl rfl hf rfl hq
    exact ⟨e', w'', fr', hR, ComesIn.of_steps (StepsIn.trans harr (.one (fenced_calm (fr := ({ (default : Frame) with fn := f, kind := .normal, roundOf := none } : Frame).atR a' []) (n := 0) trivial (wide_room _) rfl) (stepR_end rfl))) hs, hfn, hl⟩
  | ret =>
    obtain ⟨todo, hs₀⟩ := harr.1 rfl
    obtain ⟨e', w'', fr', hR, hs, hfn, hl⟩ := leavesB_steps a'.defers w' { ({ (default : Frame) with fn := f, kind := .normal, roundOf := none } : Frame).atR a' todo with mode := .returning } cs rfl rfl rfl hf rfl hq
    exact ⟨e', w'', fr', hR, ComesIn.of_steps hs₀ hs, hfn, hl⟩
  | panic chain => exact hq.elim
  | exit id => exact hq.elim
  | goto l => exact hq.elim
  | outgrown => exact hq.elim

section
variable {P : Program} {cx : Cx} {m m' : Mem} {w : World}

/-! ### Results -/
theorem loadVar_same (S : Sim kp cx m w) {t : TypeId} {p v : V} {cp : Value} (hp : VRel cx w p cp) (h : loadV P m t p = some v) : ∃ cv, (asAddr cp >>= loadVar t).run P w = .ok cv w ∧ VRel cx w v cv := by
  unfold loadV at h
  cases hi : P.info? t with
  | none => simp [hi] at h
  | some i =>
    cases hd : P.underlying t with
    | none => simp [hi, hd] at h
    | some d =>
      simp only [hi, hd] at h
      split at h
      · rename_i ha
        cases hr : rdCells m p i.size with
        | none => simp [hr] at h
        | some cs =>
          simp only [hr, Option.map_some] at h
          injection h with h
          subst h
          obtain ⟨c, off, vs, rfl, h1, h2, h3⟩ := rd_sound S hp hr
          refine ⟨.agg vs.toArray, ?_, ⟨vs.toArray, rfl, by simpa using h2⟩⟩
          have hl := r_cells (P := P) (w := w) ⟨c, off, none⟩ vs (fun j v hj => by rw [add_none]; exact h3 j v hj)
          simp [asAddr, loadVar, r_agg hd, ha, r_size hi, ← h1, hl]
      · rename_i ha
        cases hr : rdCells m p 1 with
        | none => simp [hr] at h
        | some cs =>
          simp only [hr, Option.bind_some] at h
          match cs, h with
          | [x], h =>
            injection h with h
            subst h
            obtain ⟨c, off, vs, rfl, h1, h2, h3⟩ := rd_sound S hp hr
            match vs, h1, h2 with
            | [u], _, h2 =>
              simp only [VRelL] at h2
              have hc := h3 0 u (by simp)
              refine ⟨u, ?_, h2.1⟩
              simp [asAddr, loadVar, r_agg hd, ha]
              rw [show off + 0 = off from rfl] at hc
              simp [hc]

/-- What hands back one result. -/
def oneResult (tmps : Array Value) : ResultVar → Sem Value
  | .tmp t => pure (tmps.getD t undef)
  | .cell a t => asAddr (tmps.getD a undef) >>= loadVar t
theorem results_list (S : Sim kp cx m w) {tm : List V} {tmps : Array Value} (ht : VRelL cx w tm tmps.toList) : ∀ (rs : List ResultVar) (vs : List V), resultsV P m tm rs = some vs → ∃ us, (rs.mapM (oneResult tmps)).run P w = .ok us w ∧ VRelL cx w vs us
  | [], vs, h => by
    simp only [resultsV] at h
    injection h with h
    subst h
    exact ⟨[], by simp, by simp [VRelL]⟩
  | r :: rs, vs, h => by
    simp only [resultsV] at h
    split at h
    · rename_i v vs' hv hvs
      injection h with h
      subst h
      obtain ⟨us, h1, h2⟩ := results_list S ht rs vs' hvs
      have h3 : ∃ u, (oneResult tmps r).run P w = .ok u w ∧ VRel cx w v u := by
        have hget : ∀ i, tmps.getD i undef = tmps.toList.getD i undef := fun i => by simp [Array.getD_eq_getD_getElem?, List.getD_eq_getElem?_getD]
        cases r with
        | tmp t =>
          simp only at hv
          injection hv with hv
          subst hv
          refine ⟨tmps.getD t undef, rfl, ?_⟩
          rw [hget]
          exact ht.getD t
        | cell a t =>
          simp only at hv
          refine loadVar_same S ?_ hv
          rw [hget]
          exact ht.getD a
      obtain ⟨u, h3, h4⟩ := h3
      refine ⟨u :: us, ?_, ?_⟩
      · rw [List.mapM_cons]
        simp only [Sem.run_bind, h3, Result.andThen_ok, h1, Sem.run_pure]
      · simp only [VRelL]
        exact ⟨h4, h2⟩
    · cases h
theorem results_sound (S : Sim kp cx m w) {fn : Func} {tm : List V} {tmps : Array Value} (ht : VRelL cx w tm tmps.toList) {vs : List V} (h : resultsV P m tm fn.results.toList = some vs) : ∃ v, (results fn tmps).run P w = .ok v w ∧ VRel cx w (tupV vs) v := by
  obtain ⟨us, h1, h2⟩ := results_list S ht _ _ h
  have he : (results fn tmps) = (fn.results.mapM (oneResult tmps)) >>= fun vs => pure (if h : vs.size = 1 then vs[0] else .tuple vs) := by
    unfold results
    congr 1
  rw [he, Array.mapM_eq_mapM_toList]
  refine ⟨if h : us.toArray.size = 1 then us.toArray[0] else .tuple us.toArray, ?_, ?_⟩
  · rw [map_eq_pure_bind]
    simp only [Sem.run_bind, h1, Result.andThen_ok, Sem.run_pure]
  match vs, us, h2 with
  | [], [], _ => exact ⟨#[], rfl, by simp [VRelL]⟩
  | [v], [u], h2 =>
    simp only [VRelL] at h2
    exact h2.1
  | v :: v2 :: vs, u :: u2 :: us, h2 =>
    simp only [tupV]
    exact ⟨(u :: u2 :: us).toArray, by simp, by simpa using h2⟩
  | [], _ :: _, h2 => simp [VRelL] at h2
  | _ :: _, [], h2 => simp [VRelL] at h2
  | [_], _ :: _ :: _, h2 => simp [VRelL] at h2
  | _ :: _ :: _, [_], h2 => simp [VRelL] at h2
end
end Go.Proofs.YtpdgbhjhodhkiaaGreatDoor.AI
