/-
  PROVED: the card of commonform/commonformlaw01.FormLists: for every input the law returns true, and each argument reads behind the call as it read before. Conditions: none beside those of the given row.
-/
import Derived.Test.YtpdgbhjhodhkiaaGreatDoorG5
set_option linter.unnecessarySimpa false
set_option linter.unusedVariables false
set_option linter.unusedSimpArgs false
set_option maxRecDepth 100000
namespace Go.Proofs.YtpdgbhjhodhkiaaGreatDoor.fnFormLists
open Go Go.Proofs Go.ChangeShapes Go.WideShapes Go.ChangeAt Go.RowKit Go.Proofs.YtpdgbhjhodhkiaaGreatDoor.AI
/-- Whatever the arguments, in a world that holds what the row lists: true; nothing that was there has changed. -/
theorem contract (H : Type) (enc : TypeId × Value → H) (W : World) (base : Nat) (args : Array Value) (ds gs : List (DataW H)) (before : List MemPlace)
    (hval : ∀ (j : Nat) t v, Tryz.f7.params[j]? = some t → args[j]? = some v → Value.okWide Tryz.prog W .any base t v)
    (hW : DataW.Whole enc Tryz.prog Tryz.f7.params.toList Rows.formListsSpec.vars false W args.toList ds gs before) (hL : laidMetH Tryz.prog Rows.formListsRow.laid W) (hS : W.ShapedOpen Tryz.prog) :
    Calls Tryz.prog 7 args W fun e W' => ∃ v, e = .returned v ∧ Rows.formListsSpec.post enc Tryz.prog Tryz.f7 false true false false W args v W' := by
  have F0 : Facts W := facts_of hL hS
  have hW' := hW
  obtain ⟨p, q, hA0, hV, rfl, hfz, hnd⟩ := hW
  have hA : DataW.TrodAll enc Tryz.prog W 0 (fun _ => true) true Tryz.f7.params.toList args.toList ds p := hA0
  rw [Tryz.params7] at hA hval
  obtain ⟨v0, vs0, d0, ds0, p0, q0, hargs, rfl, rfl, h0, r0⟩ := trodAll_cons hA
  obtain ⟨v1, vs1, d1, ds1, p1, q1, rfl, rfl, rfl, h1, r1⟩ := trodAll_cons r0
  obtain ⟨v2, vs2, d2, ds2, p2, q2, rfl, rfl, rfl, h2, r2⟩ := trodAll_cons r1
  obtain ⟨rfl, rfl, rfl⟩ := trodAll_nil r2
  obtain rfl : args = #[v0, v1, v2] := by cases args; simp_all
  obtain ⟨y0, x0, a0, b0⟩ := arg_forms (hval 0 22 v0 rfl rfl) h0
  obtain ⟨y1, x1, a1, b1⟩ := arg_form (hval 1 24 v1 rfl rfl) h1
  obtain ⟨y2, x2, a2, b2⟩ := arg_string (hval 2 9 v2 rfl rfl) h2
  obtain ⟨n, hn0⟩ := formLists_law y0 y1 y2
  have hn := hn0 n (Nat.le_refl _)
  have said : PurSaid cfgL cod 7 [outV cod 7 y0, outV cod 3 y1, outV cod 2 y2] (outV cod 4 true) := (sd n).FormLists y0 y1 y2 true hn
  have walk := calls_of (kp := kpW W) (extOk F0) mixed okOk said (vs := [x0, x1, x2]) (by simp only [RepL]; exact ⟨_, _, rfl, a0, _, _, rfl, a1, _, _, rfl, a2, rfl⟩) (w := W) (cargs := #[v0, v1, v2]) (kept_of W) (by simp only [VRelL]; exact ⟨b0, b1, b2, trivial⟩)
  refine walk.mono fun e W' ⟨he, S⟩ => ?_
  subst he
  refine ⟨_, rfl, law_post laidOut (by kernel_rfl) hW' S rfl (by kernel_rfl) under4 rfl⟩
set_option maxRecDepth 100000 in
theorem lifted (os : Os) (started : os.Started) (H : Type) (enc : TypeId × Value → H) (F : Stop.Interp) :
    ReturnsInHanded {} Tryz.checked os 7 .any ((OpenSpec.ofChange Rows.formListsSpec).preRow enc Tryz.prog Tryz.f7 Rows.formListsRow.domain false Rows.formListsRow.laid) (((OpenSpec.ofChange Rows.formListsSpec).at F).post enc Tryz.prog Tryz.f7 false true false false) := by
  have hx : ∃ places, DataW.whole enc Tryz.prog ((wit os).forCall (fun _ _ => 0) ⟨#[], #[.slice none 0 0, .agg #[.int .i64 0, .string ⟨#[]⟩, .string ⟨#[]⟩, .slice none 0 0], .string ⟨#[]⟩], []⟩).memory Tryz.f7.params.toList Rows.formListsSpec.vars false (#[.slice none 0 0, .agg #[.int .i64 0, .string ⟨#[]⟩, .string ⟨#[]⟩, .slice none 0 0], .string ⟨#[]⟩] : Array Value).toList 8 = some ([.nil, .agg [.lit (.int .i64 0), .lit (.string []), .lit (.string []), .nil], .lit (.string [])], [], places) := ⟨[], by kernel_rfl⟩
  obtain ⟨places, hx⟩ := hx
  refine returnsInHanded_of_row (C := Tryz.checked) (s := OpenSpec.ofChange Rows.formListsSpec) own started (by kernel_rfl) Tryz.func7
    (witness_row_atRef (enc := enc) (C := Tryz.checked) false (wit os) #[.slice none 0 0, .agg #[.int .i64 0, .string ⟨#[]⟩, .string ⟨#[]⟩, .slice none 0 0], .string ⟨#[]⟩] (World.laidAll_os _ _ _) (by kernel_rfl) (by kernel_rfl) (by kernel_rfl)
      (OpenSpec.preRow_of_cond 8 hx (by kernel_rfl) (fun k hk => by cases hk) (by kernel_rfl) (wit_met os _))) ?_
  intro W base args ds gs before hval hW _ _ _ hL hS _
  exact contract H enc W base args ds gs before hval hW hL hS
theorem said : Rows.FormListsSaid :=
  OpenClaim.holds_of_cond 7 Tryz.f7 rfl rfl rfl rfl rfl rfl rfl ⟨rfl, rfl, rfl, rfl, rfl⟩ rfl rfl rfl rfl rfl (by kernel_rfl) Tryz.func7 (by kernel_rfl)
    (of_decide_eq_true (by kernel_rfl)) (by unfold Func.isWrapper; first | (rw [if_pos (by decide +kernel)]; kernel_rfl) | (rw [if_neg (by decide +kernel)]; exact ⟨rfl, rfl⟩))
    (fun os started H enc _ F => by rw [OpenClaim.pre_eq_preRow]; exact lifted os started H enc F)
/-- No parameter wants a stand-in. -/
theorem plain (f : FuncId) (fn : Func) (hf : Tryz.pinned.checked.prog.funcNamed "commonform/commonformlaw01.FormLists" = some f) (hfn : Tryz.pinned.checked.prog.funcs[f]? = some fn) :
    true = Tryz.pinned.checked.prog.looks [] ∧ ∀ (j : Nat) t, fn.params[j]? = some t → Tryz.pinned.checked.prog.wantsStandIn t = false := by
  obtain rfl : f = 7 := Option.some.inj ((show Tryz.prog.funcNamed "commonform/commonformlaw01.FormLists" = some 7 by kernel_rfl).symm.trans hf) |>.symm
  obtain rfl : fn = Tryz.f7 := (Option.some.inj (Tryz.func7.symm.trans hfn)).symm
  refine ⟨by kernel_rfl, fun j t ht => ?_⟩
  rw [Tryz.params7] at ht
  have h := Array.mem_of_getElem? ht
  simp at h
  repeat' (rcases h with h | h)
  all_goals (first | subst h | skip)
  all_goals (show Tryz.prog.wantsStandIn _ = false; kernel_rfl)
/-- The card. -/
theorem card : Rows.FormListsCardSaid :=
  Claim7.holds_tied_plain_at .later [] _ _ _ _ said (fun _ h => by cases h) (by kernel_rfl) (fun _ h => by cases h) formLists_row_tie rfl ⟨rfl, rfl⟩ (by kernel_rfl) rfl plain (by kernel_rfl)
end Go.Proofs.YtpdgbhjhodhkiaaGreatDoor.fnFormLists
