/- The forms' seat: the arguments, read. -/
import Derived.Test.YtpdgbhjhodhkiaaGreatDoorG0
import Derived.Test.YtpdgbhjhodhkiaaGreatDoorQ0
set_option linter.unnecessarySimpa false
set_option linter.unusedVariables false
set_option linter.unusedSimpArgs false
set_option maxRecDepth 100000
namespace Go.Proofs.YtpdgbhjhodhkiaaGreatDoor.AI
open Go Go.Proofs Go.ChangeShapes Go.WideShapes Go.ChangeAt Go.RowKit Go.ChangeMaps
theorem cells24 : Tryz.prog.cellsOf 24 = 4 := by kernel_rfl
theorem cells3 : Tryz.prog.cellsOf 3 = 1 := by kernel_rfl
theorem cells9 : Tryz.prog.cellsOf 9 = 1 := by kernel_rfl
theorem cells22 : Tryz.prog.cellsOf 22 = 1 := by kernel_rfl
theorem formRL_of : ∀ {l : List Form} {kc : List V}, RVL FormR l kc → FormRL l kc
  | [], kc, h => h
  | x :: l, kc, h => by
    obtain ⟨c1, c2, e, h1, h2⟩ := h
    simp only [FormRL]
    exact ⟨c1, c2, e, h1, formRL_of h2⟩
theorem formR_len (f : Form) (c : List V) (h : FormR f c) : c.length = 4 ∧ pureL c = true := by
  cases f
  simp only [FormR] at h
  obtain ⟨kc, fl, rfl, _⟩ := h
  exact ⟨rfl, rfl⟩
section
variable {H : Type} {enc : TypeId × Value → H} {w : World} {spare : Nat → Bool} {held : Bool}
theorem read_form : ∀ (fuel : Nat) (cs : List Value) (y : DataW H × List MemPlace), DataW.trod enc Tryz.prog w 0 spare held fuel 24 cs = some y → ∃ (f : Form) (vs : List V), FormR f vs ∧ VRelL cx0 w vs cs := by
  intro fuel
  induction fuel using Nat.strongRecOn with
  | _ fuel ih =>
    intro cs y h
    obtain ⟨xs, n, hn, rfl, hlen, hsz, hget⟩ := DataW.trod_struct Tryz.underlying24 h
    rw [cells24] at hlen
    match cs, hlen with
    | [c0, c1, c2, c3], _ =>
      have hxs : xs.length = 4 := hsz
      have g0 : DataW.trod enc Tryz.prog w 0 spare held n 3 (([c0, c1, c2, c3].drop 0).take (Tryz.prog.cellsOf 3)) = xs[0]? := hget 0 _ rfl
      have g1 : DataW.trod enc Tryz.prog w 0 spare held n 9 (([c0, c1, c2, c3].drop 1).take (Tryz.prog.cellsOf 9)) = xs[1]? := hget 1 _ rfl
      have g2 : DataW.trod enc Tryz.prog w 0 spare held n 9 (([c0, c1, c2, c3].drop 2).take (Tryz.prog.cellsOf 9)) = xs[2]? := hget 2 _ rfl
      have g3 : DataW.trod enc Tryz.prog w 0 spare held n 22 (([c0, c1, c2, c3].drop 3).take (Tryz.prog.cellsOf 22)) = xs[3]? := hget 3 _ rfl
      rw [List.getElem?_eq_getElem (by omega)] at g0 g1 g2 g3
      simp only [cells3, cells9, cells22, List.drop_zero, List.take_succ_cons, List.take_zero, List.drop_succ_cons] at g0 g1 g2 g3
      obtain ⟨k, e0, _⟩ := DataW.trod_int Tryz.underlying3 g0
      obtain ⟨s1, e1, _⟩ := DataW.trod_string Tryz.underlying9 g1
      obtain ⟨s2, e2, _⟩ := DataW.trod_string Tryz.underlying9 g2
      obtain ⟨l, kc, fl, q1, c, e3, q2⟩ := read_slice (Q := FormR) Tryz.underlying22 cells24 (by omega) formR_len g3 (fun m hm cs y h => ih m (by omega) cs y h)
      simp only [List.cons.injEq, and_true] at e0 e1 e2 e3
      subst e0 e1 e2 e3
      refine ⟨.mk k s1.data.toList s2.data.toList l, [.int .i64 k, .str s1, .str s2, .ro kc l.length fl], ?_, ?_⟩
      · simp only [FormR]
        exact ⟨kc, fl, by simp, formRL_of q1⟩
      · simp only [VRelL, VRel, true_and, and_true]
        simpa only [VRel] using q2
/-- A form that comes in. -/
theorem arg_form {v : Value} {d : DataW H} {p : List MemPlace} {b : Nat} (hval : Value.okWide Tryz.prog w .any b 24 v) (h : DataW.Trod enc Tryz.prog w 0 spare held 24 v d p) : ∃ (f : Form) (x : V), Rep cod [] [] (outV cod 3 f) x ∧ VRel cx0 w x v := by
  simp only [Value.okWide, Tryz.underlying24] at hval
  obtain ⟨arr, rfl, _⟩ := hval
  obtain ⟨fuel, h⟩ := h
  obtain ⟨f, vs, h1, h2⟩ := read_form fuel _ _ h
  refine ⟨f, .agg vs, ?_, ?_⟩
  · have := out_ok 3 f vs h1 [] []
    show Rep cod [] [] (.agg (outC 3 f)) (.agg vs)
    simp only [Rep]
    exact ⟨vs, rfl, this⟩
  · simp only [VRel]
    exact ⟨arr, rfl, by simpa [Value.cells] using h2⟩
/-- A slice of forms that comes in. -/
theorem arg_forms {v : Value} {d : DataW H} {p : List MemPlace} {b : Nat} (hval : Value.okWide Tryz.prog w .any b 22 v) (h : DataW.Trod enc Tryz.prog w 0 spare held 22 v d p) : ∃ (l : List Form) (x : V), Rep cod [] [] (outV cod 7 l) x ∧ VRel cx0 w x v := by
  obtain ⟨a, n, c, rfl⟩ := okWide_slice Tryz.underlying22 hval
  obtain ⟨fuel, h⟩ := h
  obtain ⟨l, kc, fl, q1, c', e3, q2⟩ := read_slice (Q := FormR) Tryz.underlying22 cells24 (by omega) formR_len h (fun m hm cs y h => read_form m cs y h)
  have e3 : c' = .slice a n c := by
    have : [Value.slice a n c] = [c'] := e3
    injection this with h1 _
    exact h1.symm
  subst e3
  refine ⟨l, .ro kc l.length fl, ?_, q2⟩
  show Rep cod [] [] (.row 3 l false) _
  simp only [Rep]
  exact ⟨kc, fl, rfl, (fun h => by cases h), crl3.2 (formRL_of q1)⟩
theorem arg_string {v : Value} {d : DataW H} {p : List MemPlace} {b : Nat} (hval : Value.okWide Tryz.prog w .any b 9 v) (h : DataW.Trod enc Tryz.prog w 0 spare held 9 v d p) : ∃ (s : Bs) (x : V), Rep cod [] [] (outV cod 2 s) x ∧ VRel cx0 w x v := by
  obtain ⟨s, rfl, _⟩ := open_string Tryz.underlying9 hval h
  refine ⟨s.data.toList, .str s, ?_, by simp only [VRel]⟩
  show Rep cod [] [] (.str s.data.toList) _
  simp only [Rep]
end
end Go.Proofs.YtpdgbhjhodhkiaaGreatDoor.AI
