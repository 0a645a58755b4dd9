/- The limit: more fuel answers the same; what the limit answers, some fuel answers. -/
import Derived.Test.YtpdgbhjhodhkiaaGreatDoorS22
set_option linter.unusedVariables false
set_option linter.unusedSimpArgs false
namespace Go.Proofs.YtpdgbhjhodhkiaaGreatDoor.AI
open Go
variable {kp : Kp}

abbrev Loop := (St → Option (Ex × St)) → St → Option (Ex × St)
def CallLe (c c' : Call) : Prop := ∀ t a m r, c t a m = some r → c' t a m = some r
def FunLe {α β : Type} (g g' : α → Option β) : Prop := ∀ s r, g s = some r → g' s = some r
def LoopLe (l l' : Loop) : Prop := ∀ g g', FunLe g g' → ∀ st r, l g st = some r → l' g' st = some r

section
variable {cfg : Cfg} {call call' : Call}

theorem doCall_mono (h : CallLe call call') {draw : Bool} {f : FuncId} {args : List V} {m : Mem} {r : V × Mem} (k : doCall cfg call draw f args m = some r) : doCall cfg call' draw f args m = some r := by
  unfold doCall at k ⊢
  split at k
  · split at k
    · cases k
    · rename_i hd
      rw [if_neg hd]
      exact h _ _ _ _ k
  · exact k
  · obtain ⟨a, h1, k⟩ := Option.bind_eq_some_iff.1 k
    obtain ⟨b, h2, k⟩ := Option.bind_eq_some_iff.1 k
    exact Option.bind_eq_some_iff.2 ⟨a, h1, Option.bind_eq_some_iff.2 ⟨b, h _ _ _ _ h2, k⟩⟩
  · obtain ⟨b, h2, k⟩ := Option.bind_eq_some_iff.1 k
    exact Option.bind_eq_some_iff.2 ⟨b, h _ _ _ _ h2, k⟩
theorem callV_mono (h : CallLe call call') {draw : Bool} {ρ : Operand → V} {m : Mem} {c : Go.Call} {r : V × Mem} (k : callV cfg call draw ρ m c = some r) : callV cfg call' draw ρ m c = some r := by
  unfold callV at k ⊢
  split at k
  · exact k
  · split at k
    · exact doCall_mono h k
    · split at k
      · cases k
      · rename_i hd
        rw [if_neg hd]
        exact h _ _ _ _ k
    · cases k
  · cases k
theorem stepAt_mono (h : CallLe call call') {draw : Bool} {ops : Array Oper} {base i : Nat} {st st' : St} (k : stepAt cfg call draw ops base i st = some st') : stepAt cfg call' draw ops base i st = some st' := by
  unfold stepAt at k ⊢
  split at k
  · exact k
  · split at k
    · cases k
    · exact k
    · split at k
      · obtain ⟨x, h1, h2⟩ := Option.map_eq_some_iff.1 k
        rw [callV_mono h h1]
        rw [← h2]
        rfl
      · exact k
      · exact k
theorem runOps_mono (h : CallLe call call') {draw : Bool} {ops : Array Oper} {base : Nat} : ∀ (l : List Nat) (st st' : St), runOps cfg call draw ops base l st = some st' → runOps cfg call' draw ops base l st = some st'
  | [], _, _, k => k
  | i :: l, st, st', k => by
    simp only [runOps] at k ⊢
    obtain ⟨s, h1, h2⟩ := Option.bind_eq_some_iff.1 k
    exact Option.bind_eq_some_iff.2 ⟨s, stepAt_mono h h1, runOps_mono h l s st' h2⟩

theorem exec_mono {loop loop' : Loop} (h : CallLe call call') (hl : LoopLe loop loop') : ∀ (c : Code) (st : St) (r : Ex × St), exec cfg call loop c st = some r → exec cfg call' loop' c st = some r
  | .skip, _, _, k => k
  | .label _, _, _, k => k
  | .region id ops draw, st, r, k => by
    simp only [exec, regV] at k ⊢
    split at k
    · cases k
    · rename_i hd
      rw [if_neg hd]
      split at k
      · cases k
      · obtain ⟨x, h1, h2⟩ := Option.map_eq_some_iff.1 k
        exact Option.map_eq_some_iff.2 ⟨x, runOps_mono h _ _ _ h1, h2⟩
  | .seq a b, st, r, k => by
    simp only [exec] at k ⊢
    split at k
    · rename_i st1 h1
      rw [exec_mono h hl a st _ h1]
      exact exec_mono h hl b st1 r k
    · rename_i hne
      rw [exec_mono h hl a st _ k]
      split
      · rename_i st1 e
        injection e with e
        subst e
        exact absurd k (hne st1)
      · rfl
  | .cond c a b, st, r, k => by
    simp only [exec] at k ⊢
    split at k
    · exact exec_mono h hl a st r k
    · exact exec_mono h hl b st r k
    · cases k
  | .block id c, st, r, k => by
    simp only [exec] at k ⊢
    split at k
    · rename_i id' st1 h1
      rw [exec_mono h hl c st _ h1]
      exact k
    · rename_i hne
      rw [exec_mono h hl c st _ k]
      split
      · rename_i id' st1 e
        injection e with e
        subst e
        exact absurd k (hne id' st1)
      · rfl
  | .loop c, st, r, k => by
    simp only [exec] at k ⊢
    exact hl _ _ (fun s r k => exec_mono h hl c s r k) st r k
  | .exit id, _, _, k => k
  | .ret, _, _, k => k
  | .rangeFunc f ps assign body, st, r, k => by
    simp only [exec] at k ⊢
    split at k
    · cases k
    · rename_i hd
      rw [if_neg hd]
      split at k
      · split at k
        · rename_i v m h1
          rw [h _ _ _ _ h1]
          exact k
        · cases k
      · cases k
  | .scope _, _, _, k => k
  | .goto _, _, _, k => k
  | .refuse _, _, _, k => k

theorem loopN_mono {g g' : St → Option (Ex × St)} (h : FunLe g g') : ∀ (n n' : Nat) (st : St) (r : Ex × St), n ≤ n' → loopN g n st = some r → loopN g' n' st = some r
  | 0, _, _, _, _, k => by simp [loopN] at k
  | n + 1, 0, _, _, hn, _ => by omega
  | n + 1, n' + 1, st, r, hn, k => by
    simp only [loopN] at k ⊢
    split at k
    · rename_i st1 h1
      rw [h _ _ h1]
      exact loopN_mono h n n' _ r (by omega) k
    · rename_i e st1 hne h1
      rw [h _ _ h1]
      cases e with
      | normal => exact absurd rfl hne
      | exit id => exact k
      | ret => exact k
    · cases k

theorem callF_mono {loop loop' : Loop} (h : CallLe call call') (hl : LoopLe loop loop') : CallLe (callF cfg call loop) (callF cfg call' loop') := by
  intro t args m r k
  cases t with
  | fn f =>
    simp only [callF] at k ⊢
    split at k
    · split at k
      · split at k
        · rename_i hok
          rw [if_pos hok]
          obtain ⟨x, h1, h2⟩ := Option.bind_eq_some_iff.1 k
          exact Option.bind_eq_some_iff.2 ⟨x, exec_mono h hl _ _ _ h1, h2⟩
        · cases k
      · cases k
    · cases k
  | yld l =>
    simp only [callF] at k ⊢
    split at k
    · split at k
      · rename_i hc
        rw [if_pos hc]
        split at k
        · rename_i st1 h1
          rw [exec_mono h hl _ _ _ h1]
          simp only
          split at k
          · obtain ⟨x, h2, h3⟩ := Option.bind_eq_some_iff.1 k
            exact Option.bind_eq_some_iff.2 ⟨x, exec_mono h hl _ _ _ h2, h3⟩
          · cases k
        · cases k
      · cases k
    · cases k

def loopF (n : Nat) : Loop := fun g => loopN g n
theorem loopF_le {n n' : Nat} (h : n ≤ n') : LoopLe (loopF n) (loopF n') := fun g g' hg st r k => loopN_mono hg n n' st r h k
theorem callN_succ (n : Nat) : callN cfg (n + 1) = callF cfg (callN cfg n) (loopF n) := rfl
theorem callN_le1 : ∀ n, CallLe (callN cfg n) (callN cfg (n + 1))
  | 0 => fun t a m r k => by simp [callN] at k
  | n + 1 => by
    rw [callN_succ, callN_succ (n + 1)]
    exact callF_mono (callN_le1 n) (loopF_le (Nat.le_succ n))
theorem callN_le {n n' : Nat} (h : n ≤ n') : CallLe (callN cfg n) (callN cfg n') := by
  induction h with
  | refl => exact fun _ _ _ _ k => k
  | step _ ih => exact fun t a m r k => callN_le1 _ t a m r (ih t a m r k)
theorem callW_of {n : Nat} {t : Tgt} {a : List V} {m : Mem} {r : V × Mem} (k : callN cfg n t a m = some r) : callW cfg t a m = some r := by
  unfold callW
  have hex : ∃ r n, callN cfg n t a m = some r := ⟨r, n, k⟩
  rw [dif_pos hex]
  obtain ⟨n', k'⟩ := hex.choose_spec
  have e1 := callN_le (Nat.le_max_left n n') t a m _ k
  have e2 := callN_le (Nat.le_max_right n n') t a m _ k'
  rw [e1] at e2
  injection e2 with e2
  rw [← e2]
theorem callW_some {t : Tgt} {a : List V} {m : Mem} {r : V × Mem} (h : callW cfg t a m = some r) : ∃ n, callN cfg n t a m = some r := by
  unfold callW at h
  split at h
  · rename_i hex
    injection h with h
    have := hex.choose_spec
    rw [h] at this
    exact this
  · cases h
theorem loopW_of {g : St → Option (Ex × St)} {n : Nat} {st : St} {r : Ex × St} (k : loopN g n st = some r) : loopW g st = some r := by
  unfold loopW
  have hex : ∃ r n, loopN g n st = some r := ⟨r, n, k⟩
  rw [dif_pos hex]
  obtain ⟨n', k'⟩ := hex.choose_spec
  have e1 := loopN_mono (g := g) (g' := g) (fun _ _ h => h) n (max n n') st r (Nat.le_max_left _ _) k
  have e2 := loopN_mono (g := g) (g' := g) (fun _ _ h => h) n' (max n n') st _ (Nat.le_max_right _ _) k'
  rw [e1] at e2
  injection e2 with e2
  rw [← e2]
theorem loopW_le : ∀ n, LoopLe (loopF n) loopW := fun n g g' hg st r k => loopW_of (loopN_mono hg n n st r (Nat.le_refl n) k)
theorem callW_le (n : Nat) : CallLe (callN cfg n) (callW cfg) := fun t a m r k => callW_of k

/-- A loop, one round unfolded. -/
theorem loopW_eq (g : St → Option (Ex × St)) (st : St) : loopW g st = (match g st with
    | some (.normal, st1) => loopW g (gcSt st st1)
    | some (e, st1) => some (e, gcSt st st1)
    | none => none) := by
  cases hg : g st with
  | none =>
    simp only
    cases hl : loopW g st with
    | none => rfl
    | some r =>
      obtain ⟨n, hn⟩ := loopW_ok g st r hl
      cases n with
      | zero => simp [loopN] at hn
      | succ n => simp [loopN, hg] at hn
  | some x =>
    obtain ⟨e, st1⟩ := x
    cases e with
    | normal =>
      simp only
      cases hl : loopW g st with
      | some r =>
        obtain ⟨n, hn⟩ := loopW_ok g st r hl
        cases n with
        | zero => simp [loopN] at hn
        | succ n =>
          simp only [loopN, hg] at hn
          exact (loopW_of hn).symm
      | none =>
        cases hl' : loopW g (gcSt st st1) with
        | none => rfl
        | some r =>
          obtain ⟨n, hn⟩ := loopW_ok g _ r hl'
          have : loopN g (n + 1) st = some r := by simp only [loopN, hg]; exact hn
          rw [loopW_of this] at hl
          cases hl
    | exit id => exact loopW_of (n := 1) (by simp only [loopN, hg])
    | ret => exact loopW_of (n := 1) (by simp only [loopN, hg])

/-! ### Some fuel is enough -/
theorem doCall_cont {draw : Bool} {f : FuncId} {args : List V} {m : Mem} {r : V × Mem} (k : doCall cfg (callW cfg) draw f args m = some r) : ∃ n, doCall cfg (callN cfg n) draw f args m = some r := by
  unfold doCall at k ⊢
  split at k
  · split at k
    · cases k
    · rename_i hd
      obtain ⟨n, hn⟩ := callW_some k
      exact ⟨n, by rw [if_neg hd]; exact hn⟩
  · exact ⟨0, k⟩
  · obtain ⟨a, h1, k⟩ := Option.bind_eq_some_iff.1 k
    obtain ⟨b, h2, k⟩ := Option.bind_eq_some_iff.1 k
    obtain ⟨n, hn⟩ := callW_some h2
    exact ⟨n, Option.bind_eq_some_iff.2 ⟨a, h1, Option.bind_eq_some_iff.2 ⟨b, hn, k⟩⟩⟩
  · obtain ⟨b, h2, k⟩ := Option.bind_eq_some_iff.1 k
    obtain ⟨n, hn⟩ := callW_some h2
    exact ⟨n, Option.bind_eq_some_iff.2 ⟨b, hn, k⟩⟩
theorem callV_cont {draw : Bool} {ρ : Operand → V} {m : Mem} {c : Go.Call} {r : V × Mem} (k : callV cfg (callW cfg) draw ρ m c = some r) : ∃ n, callV cfg (callN cfg n) draw ρ m c = some r := by
  unfold callV at k ⊢
  split at k
  · exact ⟨0, k⟩
  · split at k
    · exact doCall_cont k
    · split at k
      · cases k
      · rename_i hd
        obtain ⟨n, hn⟩ := callW_some k
        exact ⟨n, by rw [if_neg hd]; exact hn⟩
    · cases k
  · cases k
theorem stepAt_cont {draw : Bool} {ops : Array Oper} {base i : Nat} {st st' : St} (k : stepAt cfg (callW cfg) draw ops base i st = some st') : ∃ n, stepAt cfg (callN cfg n) draw ops base i st = some st' := by
  unfold stepAt at k ⊢
  split at k
  · exact ⟨0, k⟩
  · split at k
    · cases k
    · exact ⟨0, k⟩
    · split at k
      · obtain ⟨x, h1, h2⟩ := Option.map_eq_some_iff.1 k
        obtain ⟨n, hn⟩ := callV_cont h1
        exact ⟨n, by rw [hn, ← h2]; rfl⟩
      · exact ⟨0, k⟩
      · exact ⟨0, k⟩
theorem runOps_cont {draw : Bool} {ops : Array Oper} {base : Nat} : ∀ (l : List Nat) (st st' : St), runOps cfg (callW cfg) draw ops base l st = some st' → ∃ n, runOps cfg (callN cfg n) draw ops base l st = some st'
  | [], _, _, k => ⟨0, k⟩
  | i :: l, st, st', k => by
    simp only [runOps] at k ⊢
    obtain ⟨s, h1, h2⟩ := Option.bind_eq_some_iff.1 k
    obtain ⟨n1, k1⟩ := stepAt_cont h1
    obtain ⟨n2, k2⟩ := runOps_cont l s st' h2
    exact ⟨max n1 n2, Option.bind_eq_some_iff.2 ⟨s, stepAt_mono (callN_le (Nat.le_max_left _ _)) k1, runOps_mono (callN_le (Nat.le_max_right _ _)) l s st' k2⟩⟩

def execN (cfg : Cfg) (n : Nat) : Code → St → Option (Ex × St) := exec cfg (callN cfg n) (loopF n)
theorem execN_le {n n' : Nat} (h : n ≤ n') (c : Code) : FunLe (execN cfg n c) (execN cfg n' c) := fun s r k => exec_mono (callN_le h) (loopF_le h) c s r k
theorem exec_cont : ∀ (c : Code) (st : St) (r : Ex × St), exec cfg (callW cfg) loopW c st = some r → ∃ n, execN cfg n c st = some r
  | .skip, _, _, k => ⟨0, k⟩
  | .label _, _, _, k => ⟨0, k⟩
  | .region id ops draw, st, r, k => by
    simp only [exec, execN, regV] at k ⊢
    split at k
    · cases k
    · rename_i hd
      split at k
      · cases k
      · obtain ⟨x, h1, h2⟩ := Option.map_eq_some_iff.1 k
        obtain ⟨n, hn⟩ := runOps_cont _ _ _ h1
        exact ⟨n, by rw [if_neg hd]; exact Option.map_eq_some_iff.2 ⟨x, hn, h2⟩⟩
  | .seq a b, st, r, k => by
    simp only [exec] at k
    split at k
    · rename_i st1 h1
      obtain ⟨n1, k1⟩ := exec_cont a st _ h1
      obtain ⟨n2, k2⟩ := exec_cont b st1 r k
      refine ⟨max n1 n2, ?_⟩
      have e1 := execN_le (Nat.le_max_left n1 n2) a _ _ k1
      have e2 := execN_le (Nat.le_max_right n1 n2) b _ _ k2
      simp only [execN, exec] at e1 e2 ⊢
      rw [e1]
      exact e2
    · rename_i hne
      obtain ⟨n1, k1⟩ := exec_cont a st r k
      refine ⟨n1, ?_⟩
      simp only [execN, exec] at k1 ⊢
      rw [k1]
      split
      · rename_i st1 e
        injection e with e
        subst e
        exact absurd k (hne st1)
      · rfl
  | .cond c a b, st, r, k => by
    simp only [exec] at k
    split at k
    · rename_i hv
      obtain ⟨n, hn⟩ := exec_cont a st r k
      exact ⟨n, by simp only [execN, exec, hv] at hn ⊢; exact hn⟩
    · rename_i hv
      obtain ⟨n, hn⟩ := exec_cont b st r k
      exact ⟨n, by simp only [execN, exec, hv] at hn ⊢; exact hn⟩
    · cases k
  | .block id c, st, r, k => by
    simp only [exec] at k
    split at k
    · rename_i id' st1 h1
      obtain ⟨n, hn⟩ := exec_cont c st _ h1
      refine ⟨n, ?_⟩
      simp only [execN, exec] at hn ⊢
      rw [hn]
      exact k
    · rename_i hne
      obtain ⟨n, hn⟩ := exec_cont c st r k
      refine ⟨n, ?_⟩
      simp only [execN, exec] at hn ⊢
      rw [hn]
      split
      · rename_i id' st1 e
        injection e with e
        subst e
        exact absurd k (hne id' st1)
      · rfl
  | .loop c, st, r, k => by
    simp only [exec] at k
    obtain ⟨j, hj⟩ := loopW_ok _ _ _ k
    have key : ∀ (j : Nat) (st : St), loopN (exec cfg (callW cfg) loopW c) j st = some r → ∃ n, loopN (execN cfg n c) n st = some r := by
      intro j
      induction j with
      | zero => intro st h; simp [loopN] at h
      | succ j ih =>
        intro st h
        simp only [loopN] at h
        split at h
        · rename_i st1 h1
          obtain ⟨n1, k1⟩ := exec_cont c st _ h1
          obtain ⟨n2, k2⟩ := ih _ h
          refine ⟨max n1 n2 + 1, ?_⟩
          simp only [loopN]
          rw [execN_le (show n1 ≤ max n1 n2 + 1 by omega) c _ _ k1]
          exact loopN_mono (execN_le (show n2 ≤ max n1 n2 + 1 by omega) c) n2 (max n1 n2) _ r (Nat.le_max_right _ _) k2
        · rename_i e st1 hne h1
          obtain ⟨n1, k1⟩ := exec_cont c st _ h1
          refine ⟨n1 + 1, ?_⟩
          simp only [loopN]
          rw [execN_le (Nat.le_succ n1) c _ _ k1]
          cases e with
          | normal => exact absurd rfl hne
          | exit id => exact h
          | ret => exact h
        · cases h
    exact key j st hj
  | .exit id, _, _, k => ⟨0, k⟩
  | .ret, _, _, k => ⟨0, k⟩
  | .rangeFunc f ps assign body, st, r, k => by
    simp only [exec] at k
    split at k
    · cases k
    · rename_i hd
      split at k
      · rename_i g caps hg
        split at k
        · rename_i v m h1
          obtain ⟨n, hn⟩ := callW_some h1
          refine ⟨n, ?_⟩
          simp only [execN, exec]
          rw [if_neg hd]
          simp only [hg, hn]
          exact k
        · cases k
      · cases k
  | .scope _, _, _, k => by simp [exec] at k
  | .goto _, _, _, k => by simp [exec] at k
  | .refuse _, _, _, k => by simp [exec] at k

/-- A call, one level unfolded. -/
theorem callW_fn {f : FuncId} {fn : Func} {c : Code} {args : List V} {m : Mem} (hf : cfg.P.funcs[f]? = some fn) (hb : fn.body = some c) (hok : cfg.ok f = true) :
    callW cfg (.fn f) args m = (exec cfg (callW cfg) loopW c (enterSt fn args m)).bind (leaveV cfg.P fn m.A.length) := by
  have e : ∀ call loop, callF cfg call loop (.fn f) args m = (exec cfg call loop c (enterSt fn args m)).bind (leaveV cfg.P fn m.A.length) := fun call loop => by
    simp only [callF, hf, hb, hok, if_true]
  cases h : (exec cfg (callW cfg) loopW c (enterSt fn args m)).bind (leaveV cfg.P fn m.A.length) with
  | some r =>
    obtain ⟨x, h1, h2⟩ := Option.bind_eq_some_iff.1 h
    obtain ⟨n, hn⟩ := exec_cont c _ _ h1
    refine callW_of (n := n + 1) ?_
    rw [callN_succ, e]
    exact Option.bind_eq_some_iff.2 ⟨x, hn, h2⟩
  | none =>
    cases hw : callW cfg (.fn f) args m with
    | none => rfl
    | some r =>
      obtain ⟨n, hn⟩ := callW_some hw
      cases n with
      | zero => simp [callN] at hn
      | succ n =>
        rw [callN_succ, e] at hn
        obtain ⟨x, h1, h2⟩ := Option.bind_eq_some_iff.1 hn
        have h1' := exec_mono (callW_le n) (loopW_le n) c _ _ h1
        rw [h1'] at h
        simp only [Option.bind_some] at h
        rw [h] at h2
        cases h2
end
end Go.Proofs.YtpdgbhjhodhkiaaGreatDoor.AI
