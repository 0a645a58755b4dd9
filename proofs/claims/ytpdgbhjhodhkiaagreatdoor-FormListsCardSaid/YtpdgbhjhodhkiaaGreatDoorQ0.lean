/- The forms' seat: how calls are walked, what is told of the library. -/
import Derived.Test.YtpdgbhjhodhkiaaGreatDoorW14
import Derived.Test.YtpdgbhjhodhkiaaGreatDoorY1
import Derived.Test.YtpdgbhjhodhkiaaGreatDoorE0
import Derived.Test.YtpdgbhjhodhkiaaGreatDoorProg
import Derived.KernelRfl
import Derived.Lib.ItoaNum
import Derived.Lib.AtoiAll
import Derived.Lib.RuneCount
import Derived.Lib.ValidU
import Derived.Lib.SlTrimSet
import Derived.Lib.Strings
import Derived.Lib.IndexMore
set_option linter.unusedSimpArgs false
set_option linter.unnecessarySimpa false
set_option linter.unusedVariables false
namespace Go.Proofs.YtpdgbhjhodhkiaaGreatDoor.AI
open Go Go.Proofs

/-! ### The library -/
def extV (f : FuncId) (vs : List V) : Option V :=
  if f = 82 then (match vs with | [.int .i64 n] => if ok64 n = true then some (.str ⟨(Lib.itoa n).toArray⟩) else none | _ => none) else
  if f = 97 then (match vs with | [.str s] => if s.size ≤ 281474976710656 then some (.tup [.int .i64 (atoiVal s.data.toList), if atoiOk s.data.toList = true then .nili else .ifc 216 .undef]) else none | _ => none) else
  if f = 101 then (match vs with | [.str s] => if s.size < 9223372036854775807 then some (.int .i64 (runesN s.data.toList)) else none | _ => none) else
  if f = 153 then (match vs with | [.str s] => if s.size ≤ 9223372036854775807 then some (.bool (Lib.validD s.data.toList)) else none | _ => none) else
  if f = 158 then (match vs with | [.str s, .str t] => if s.size ≤ 9223372036854775807 ∧ t.size < 4294967281 ∧ ascii t.data.toList = true then some (.str ⟨(Lib.trimS s.data.toList t.data.toList).toArray⟩) else none | _ => none) else
  if f = 184 then (match vs with | [.str s, .str t] => some (.tup [.str ⟨(Lib.trimPrefix s.data.toList t.data.toList).toArray⟩, .bool (Lib.hasPrefix s.data.toList t.data.toList)]) | _ => none) else
  if f = 186 then (match vs with | [.str s, .str t] => if s.size < 4294967281 then some (.tup [.str ⟨(Lib.cut s.data.toList t.data.toList).1.toArray⟩, .str ⟨(Lib.cut s.data.toList t.data.toList).2.1.toArray⟩, .bool (Lib.cut s.data.toList t.data.toList).2.2]) else none | _ => none) else
  if f = 187 then (match vs with | [.str s, .str t] => some (.str ⟨(Lib.trimPrefix s.data.toList t.data.toList).toArray⟩) | _ => none) else
  if f = 106 then (match vs with | [.ro cells n _] => if n * 4 = cells.length ∧ n * 64 ≤ 140737488355328 ∧ cells.all V.cellLike = true then some (.ro cells n false) else none | _ => none) else
  if f = 176 then (match vs with | [.ro cells n _] => if n = cells.length ∧ n * 8 ≤ 140737488355328 ∧ cells.all V.cellLike = true then some (.ro cells n false) else none | _ => none) else
  if f = 222 then (match vs with | [.str s, .str t] => if s.size < 4294967281 then some (.int .i64 (Lib.index s.data.toList t.data.toList)) else none | _ => none) else
  none
def mdV (f : FuncId) : Md :=
  if [82, 97, 101, 153, 158, 184, 186, 187, 106, 176, 222].contains f then .ext
  else if [77].contains f then .frozen
  else if [11, 73, 36, 20, 22, 23, 28, 30, 32, 34, 35, 38, 43, 74, 75, 79, 98, 15, 24, 29, 31, 33, 39, 40, 41, 42, 44, 107, 108, 12, 37, 105].contains f then .pure
  else .keep
/-- The functions that are walked. -/
def okV (f : FuncId) : Bool := Nat.blt 1 f && Nat.blt f 238
def shF (f : FuncId) : Bool := [35, 37, 38, 39, 42, 43, 44, 105, 106].contains f
def shT (t : TypeId) : Bool := [24, 186].contains t
noncomputable def cfgL : Cfg := { P := Tryz.prog, ok := okV, md := mdV, ext := extV, share := shF, shareT := shT }
def kdV (t : TypeId) : Option Nat := if t = 3 then some 0 else if t = 5 then some 1 else if t = 9 then some 2 else if t = 24 then some 3 else if t = 4 then some 4 else if t = 126 then some 5 else if t = 57 then some 6 else if t = 124 then some 6 else if t = 22 then some 7 else none
noncomputable def wcL : WCfg T := ⟨cod, kdV⟩
noncomputable def fnOf (f : FuncId) : Func := match Tryz.prog.funcs[f]? with | some fn => fn | none => default
noncomputable def bodyOf (f : FuncId) : Code := match (fnOf f).body with | some c => c | none => .skip
noncomputable def codeOf (f : FuncId) (p : List Nat) : Code := match codeAt (bodyOf f) p with | some c => c | _ => .skip
noncomputable def loopAt (f : FuncId) (p : List Nat) : Code := match codeAt (bodyOf f) p with | some (.loop c) => c | _ => .skip
def extT {R : Type} (f : FuncId) (ws : List (W T)) (k : W T → Option R) : Option R := extD f ws k
theorem mkData (s : Bs) : (ByteArray.mk s.toArray).data.toList = s := by simp
theorem mkSize (s : Bs) : (ByteArray.mk s.toArray).size = s.length := by simp [ByteArray.size]
section
variable {vs : List V}
theorem rep1 {w0 : W T} (h : RepL cod [] [] [w0] vs) : ∃ v0, vs = [v0] ∧ Rep cod [] [] w0 v0 := by
  simp only [RepL] at h
  obtain ⟨v0, _, rfl, h0, rfl⟩ := h
  exact ⟨v0, rfl, h0⟩
theorem rep2 {w0 w1 : W T} (h : RepL cod [] [] [w0, w1] vs) : ∃ v0 v1, vs = [v0, v1] ∧ Rep cod [] [] w0 v0 ∧ Rep cod [] [] w1 v1 := by
  simp only [RepL] at h
  obtain ⟨v0, _, rfl, h0, v1, _, rfl, h1, rfl⟩ := h
  exact ⟨v0, v1, rfl, h0, h1⟩
end
theorem rowClone (kk sz : Nat) (hs : cod.size kk = sz) (l : List (T kk)) {cs : List V} (hc : CRL cod kk l cs) : l.length * sz = cs.length ∧ cs.all V.cellLike = true ∧ pureL cs = true :=
  ⟨by rw [← hs]; exact (hc.length codOk).symm, hc.cell codOk, hc.pure codOk⟩
theorem extT_ok {R : Type} {f : FuncId} {ws : List (W T)} {k : W T → Option R} {r : R} (h : extT f ws k = some r) : ∃ w, k w = some r ∧ ∀ {vs}, RepL cod [] [] ws vs → ∃ v, cfgL.ext f vs = some v ∧ Rep cod [] [] w v ∧ V.pure v = true := by
  have ext0 : ∀ vs, cfgL.ext f vs = extV f vs := fun _ => rfl
  unfold extT extD at h
  have hh := bif_or h; clear h; rcases hh with ⟨e, h⟩ | h
  · obtain rfl := Nat.eq_of_beq_eq_true e
    split at h
    · obtain ⟨h1, h⟩ := cond_some h
      refine ⟨_, h, fun hr => ?_⟩
      obtain ⟨v, rfl, hv⟩ := rep1 hr
      simp only [Rep] at hv
      subst hv
      exact ⟨_, by rw [ext0]; simp only [extV, if_true, h1]; rfl, by simp only [Rep], rfl⟩
    · cases h
  have hh := bif_or h; clear h; rcases hh with ⟨e, h⟩ | h
  · obtain rfl := Nat.eq_of_beq_eq_true e
    split at h
    · obtain ⟨h1, h⟩ := cond_some h
      have h1 := of_decide_eq_true h1
      rcases cond_cases h with ⟨h2, h⟩ | ⟨h2, h⟩
      · refine ⟨_, h, fun hr => ?_⟩
        obtain ⟨v, rfl, hv⟩ := rep1 hr
        simp only [Rep] at hv
        subst hv
        refine ⟨_, by rw [ext0]; simp only [extV, reduceIte, Nat.reduceEqDiff, mkData, mkSize, h1, h2]; rfl, ?_, rfl⟩
        simp only [Rep, RepL]
        exact ⟨_, rfl, _, _, rfl, rfl, _, _, rfl, rfl, rfl⟩
      · refine ⟨_, h, fun hr => ?_⟩
        obtain ⟨v, rfl, hv⟩ := rep1 hr
        simp only [Rep] at hv
        subst hv
        refine ⟨_, by rw [ext0]; simp only [extV, reduceIte, Nat.reduceEqDiff, mkData, mkSize, h1, h2, Bool.false_eq_true]; rfl, ?_, rfl⟩
        simp only [Rep, RepL]
        exact ⟨_, rfl, _, _, rfl, rfl, _, _, rfl, ⟨_, rfl, trivial⟩, rfl⟩
    · cases h
  have hh := bif_or h; clear h; rcases hh with ⟨e, h⟩ | h
  · obtain rfl := Nat.eq_of_beq_eq_true e
    split at h
    · obtain ⟨h1, h⟩ := cond_some h
      have h1 := of_decide_eq_true h1
      refine ⟨_, h, fun hr => ?_⟩
      obtain ⟨v, rfl, hv⟩ := rep1 hr
      simp only [Rep] at hv
      subst hv
      exact ⟨_, by rw [ext0]; simp only [extV, reduceIte, Nat.reduceEqDiff, mkData, mkSize, h1]; rfl, by simp only [Rep], rfl⟩
    · cases h
  have hh := bif_or h; clear h; rcases hh with ⟨e, h⟩ | h
  · obtain rfl := Nat.eq_of_beq_eq_true e
    split at h
    · obtain ⟨h1, h⟩ := cond_some h
      have h1 := of_decide_eq_true h1
      refine ⟨_, h, fun hr => ?_⟩
      obtain ⟨v, rfl, hv⟩ := rep1 hr
      simp only [Rep] at hv
      subst hv
      exact ⟨_, by rw [ext0]; simp only [extV, reduceIte, Nat.reduceEqDiff, mkData, mkSize, h1]; rfl, by simp only [Rep], rfl⟩
    · cases h
  have hh := bif_or h; clear h; rcases hh with ⟨e, h⟩ | h
  · obtain rfl := Nat.eq_of_beq_eq_true e
    split at h
    · obtain ⟨h1, h⟩ := cond_some h
      simp only [Bool.and_eq_true, decide_eq_true_eq] at h1
      refine ⟨_, h, fun hr => ?_⟩
      obtain ⟨v, u, rfl, hv, hu⟩ := rep2 hr
      simp only [Rep] at hv hu
      subst hv hu
      exact ⟨_, by rw [ext0]; simp only [extV, reduceIte, Nat.reduceEqDiff, mkData, mkSize]; rw [if_pos ⟨h1.1, h1.2.1, h1.2.2⟩], by simp only [Rep], rfl⟩
    · cases h
  have hh := bif_or h; clear h; rcases hh with ⟨e, h⟩ | h
  · obtain rfl := Nat.eq_of_beq_eq_true e
    split at h
    · refine ⟨_, h, fun hr => ?_⟩
      obtain ⟨v, u, rfl, hv, hu⟩ := rep2 hr
      simp only [Rep] at hv hu
      subst hv hu
      refine ⟨_, by rw [ext0]; simp only [extV, reduceIte, Nat.reduceEqDiff, mkData]; rfl, ?_, rfl⟩
      simp only [Rep, RepL]
      exact ⟨_, rfl, _, _, rfl, rfl, _, _, rfl, rfl, rfl⟩
    · cases h
  have hh := bif_or h; clear h; rcases hh with ⟨e, h⟩ | h
  · obtain rfl := Nat.eq_of_beq_eq_true e
    split at h
    · obtain ⟨h1, h⟩ := cond_some h
      have h1 := of_decide_eq_true h1
      refine ⟨_, h, fun hr => ?_⟩
      obtain ⟨v, u, rfl, hv, hu⟩ := rep2 hr
      simp only [Rep] at hv hu
      subst hv hu
      refine ⟨_, by rw [ext0]; simp only [extV, reduceIte, Nat.reduceEqDiff, mkData, mkSize, h1]; rfl, ?_, rfl⟩
      simp only [Rep, RepL]
      exact ⟨_, rfl, _, _, rfl, rfl, _, _, rfl, rfl, _, _, rfl, rfl, rfl⟩
    · cases h
  have hh := bif_or h; clear h; rcases hh with ⟨e, h⟩ | h
  · obtain rfl := Nat.eq_of_beq_eq_true e
    split at h
    · refine ⟨_, h, fun hr => ?_⟩
      obtain ⟨v, u, rfl, hv, hu⟩ := rep2 hr
      simp only [Rep] at hv hu
      subst hv hu
      exact ⟨_, by rw [ext0]; simp only [extV, reduceIte, Nat.reduceEqDiff, mkData]; rfl, by simp only [Rep], rfl⟩
    · cases h
  have hh := bif_or h; clear h; rcases hh with ⟨e, h⟩ | h
  · obtain rfl := Nat.eq_of_beq_eq_true e
    split at h
    · rename_i l fl
      obtain ⟨h1, h⟩ := cond_some h
      have h1 := of_decide_eq_true h1
      refine ⟨_, h, fun hr => ?_⟩
      obtain ⟨v, rfl, hv⟩ := rep1 hr
      simp only [Rep] at hv
      obtain ⟨cs, fl', rfl, _, hc⟩ := hv
      obtain ⟨c1, c2, c3⟩ := rowClone 3 4 rfl l hc
      refine ⟨_, by rw [ext0]; simp only [extV, reduceIte, Nat.reduceEqDiff]; rw [if_pos ⟨c1, h1, c2⟩], ?_, rfl⟩
      simp only [Rep]
      exact ⟨cs, false, rfl, (fun h => by cases h), hc⟩
    · refine ⟨_, h, fun hr => ?_⟩
      obtain ⟨v, rfl, hv⟩ := rep1 hr
      simp only [Rep] at hv
      subst hv
      refine ⟨_, by rw [ext0]; simp only [extV, reduceIte, Nat.reduceEqDiff]; rw [if_pos ⟨rfl, by decide, rfl⟩], ?_, rfl⟩
      simp only [Rep]
      exact ⟨[], false, rfl, (fun h => by cases h), rfl⟩
    · cases h
  have hh := bif_or h; clear h; rcases hh with ⟨e, h⟩ | h
  · obtain rfl := Nat.eq_of_beq_eq_true e
    split at h
    · rename_i l fl
      obtain ⟨h1, h⟩ := cond_some h
      have h1 := of_decide_eq_true h1
      refine ⟨_, h, fun hr => ?_⟩
      obtain ⟨v, rfl, hv⟩ := rep1 hr
      simp only [Rep] at hv
      obtain ⟨cs, fl', rfl, _, hc⟩ := hv
      obtain ⟨c1, c2, c3⟩ := rowClone 0 1 rfl l hc
      refine ⟨_, by rw [ext0]; simp only [extV, reduceIte, Nat.reduceEqDiff]; rw [if_pos ⟨by omega, h1, c2⟩], ?_, rfl⟩
      simp only [Rep]
      exact ⟨cs, false, rfl, (fun h => by cases h), hc⟩
    · refine ⟨_, h, fun hr => ?_⟩
      obtain ⟨v, rfl, hv⟩ := rep1 hr
      simp only [Rep] at hv
      subst hv
      refine ⟨_, by rw [ext0]; simp only [extV, reduceIte, Nat.reduceEqDiff]; rw [if_pos ⟨rfl, by decide, rfl⟩], ?_, rfl⟩
      simp only [Rep]
      exact ⟨[], false, rfl, (fun h => by cases h), rfl⟩
    · cases h
  have hh := bif_or h; clear h; rcases hh with ⟨e, h⟩ | h
  · obtain rfl := Nat.eq_of_beq_eq_true e
    split at h
    · obtain ⟨h1, h⟩ := cond_some h
      have h1 := of_decide_eq_true h1
      refine ⟨_, h, fun hr => ?_⟩
      obtain ⟨v, u, rfl, hv, hu⟩ := rep2 hr
      simp only [Rep] at hv hu
      subst hv hu
      exact ⟨_, by rw [ext0]; simp only [extV, reduceIte, Nat.reduceEqDiff, mkData, mkSize, h1]; rfl, by simp only [Rep], rfl⟩
    · cases h
  cases h
/-! ### The chapter's examples, run -/
set_option maxRecDepth 100000
def isTrue (r : Option (V × Mem)) : Bool := match r with | some (.bool true, _) => true | _ => false
theorem awakeN : isTrue (callN cfgL 60 (.fn 12) [] Mem.empty) = true := by kernel_rfl
theorem awakeTrees_told (y : Bool) (h : some true = some y) : PurSaid cfgL cod 12 [] (outV cod 4 y) := by
  injection h with h
  subst h
  intro vs hr
  simp only [RepL] at hr
  subst hr
  have h := awakeN
  unfold isTrue at h
  split at h
  · rename_i m hm
    refine ⟨.bool true, ?_, by show Rep cod [] [] (.bool true) (.bool true); simp only [Rep]⟩
    unfold pres
    rw [callW_of hm]
    rfl
  · cases h
end Go.Proofs.YtpdgbhjhodhkiaaGreatDoor.AI
