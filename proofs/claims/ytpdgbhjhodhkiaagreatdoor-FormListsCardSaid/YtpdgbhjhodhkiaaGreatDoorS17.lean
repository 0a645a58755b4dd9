/- A region, as the walk's calculus asks it. -/
import Derived.Test.YtpdgbhjhodhkiaaGreatDoorS16
set_option linter.unusedVariables false
set_option linter.unusedSimpArgs false
namespace Go.Proofs.YtpdgbhjhodhkiaaGreatDoor.AI
open Go
variable {kp : Kp}

section
variable {lo : Nat} {cfg : Cfg} {call : Call} {ops : Array Oper} {cx0 : Cx} {m0 : Mem} {w0 : World}

theorem RInv.weaken {P : Program} {X Y : Nat → Prop} {cx : Cx} {st : St} {act : Act} {w : World} (R : RInv kp lo P ops X cx0 m0 w0 cx st act w) (h : ∀ i, X i → Y i) : RInv kp lo P ops Y cx0 m0 w0 cx st act w :=
  ⟨R.fr, R.ev, R.la, fun i o t ho ht hY => R.un i o t ho ht fun hX => hY (h i hX)⟩

/-- In textual order. -/
theorem runOps_sound (C : CallOk kp cfg call) (Xt : ExtOk kp cfg) {F : Fence} {draw : Bool} {st' : St} {Q : Exit → Act → World → Prop} : ∀ (l : List Nat) (X : Nat → Prop) (cx : Cx) (st : St) (act : Act) (w : World), RdOk F st.rd → l.Nodup → (∀ i ∈ l, ¬ X i) →
    RInv kp lo cfg.P ops X cx0 m0 w0 cx st act w → runOps cfg call draw ops m0.A.length l st = some st' →
    (∀ cx' act' w' X', st'.rd = st.rd → RInv kp lo cfg.P ops X' cx0 m0 w0 cx' st' act' w' → Q .normal act' w') → wpOpsIn F 0 cfg.P ops Q l act w
  | [], X, cx, st, act, w, hF, _, _, R, h, hK => by
    simp only [runOps] at h
    injection h with h
    subst h
    exact hK cx act w X rfl R
  | i :: l, X, cx, st, act, w, hF, hnd, hX, R, h, hK => by
    rw [wpOpsIn_cons]
    simp only [runOps] at h
    obtain ⟨s, h1, h2⟩ := Option.bind_eq_some_iff.1 h
    have hnd' := List.nodup_cons.1 hnd
    cases hi : ops[i]? with
    | none =>
      unfold wpOpIn
      unfold stepAt at h1
      simp only [hi] at h1 ⊢
      injection h1 with h1
      subst h1
      exact runOps_sound C Xt l X cx st act w hF hnd'.2 (fun j hj => hX j (List.mem_cons_of_mem _ hj)) R h2 hK
    | some o =>
      refine step_sound C Xt hF hi (hX i (List.mem_cons_self ..)) R h1 fun cx' act' w' hrd R' => ?_
      refine runOps_sound C Xt l _ cx' s act' w' (by rw [hrd]; exact hF) hnd'.2 (fun j hj => ?_) R' h2 (fun cx'' act'' w'' X' hrd' R'' => hK cx'' act'' w'' X' (hrd'.trans hrd) R'')
      rintro (h | h)
      · exact hX j (List.mem_cons_of_mem _ hj) h
      · exact hnd'.1 (h ▸ hj)

/-! ### In whatever order the edges allow -/
def unl (ops : Array Oper) (listed : Array Bool) : List Nat := (List.range ops.size).filter fun i => !listed.getD i true

theorem reach_listed {listed : Array Bool} (hcl : ∀ (j : Nat) (o : Oper), ops[j]? = some o → listed.getD j false = true → ∀ e ∈ o.after, Region.binds .any e = true → listed.getD e.on false = true) {j i : Nat} (hr : Reach ops j i) :
    (∀ (o : Oper), ops[j]? = some o → ∀ e ∈ o.after, Region.binds .any e = true → listed.getD e.on false = true) → listed.getD i false = true := by
  induction hr with
  | one ho he hb => exact fun h => h _ ho _ he hb
  | more ho he hb _ ih => exact fun h => ih fun o' ho' => hcl _ o' ho' (h _ ho _ he hb)

theorem range_split {n i : Nat} (h : i < n) : List.range n = List.range i ++ i :: List.range' (i + 1) (n - i - 1) := by
  rw [List.range_eq_range', List.range_eq_range']
  have h1 : List.range' 0 n = List.range' 0 i ++ List.range' i (n - i) := by
    rw [show List.range' i (n - i) = List.range' (0 + 1 * i) (n - i) by simp, List.range'_append]
    congr 1
    omega
  rw [h1]
  congr 1
  have h2 : n - i = (n - i - 1) + 1 := by omega
  rw [h2, List.range'_succ]
  rfl

theorem unl_split {listed : Array Bool} {i : Nat} (hi : i < ops.size) (hl : listed.getD i true = false) : ∃ U1 U2, unl ops listed = U1 ++ i :: U2 ∧ unl ops (listed.setIfInBounds i true) = U1 ++ U2 ∧ (∀ u ∈ U1, u < i ∧ listed.getD u true = false) := by
  have hne : ∀ j, j ≠ i → (listed.setIfInBounds i true).getD j true = listed.getD j true := fun j hj => getD_set_ne true (Ne.symm hj)
  have hsi : (listed.setIfInBounds i true).getD i true = true := by
    by_cases h : i < listed.size
    · simp [h]
    · simp [h]
  refine ⟨(List.range i).filter fun i => !listed.getD i true, (List.range' (i + 1) (ops.size - i - 1)).filter fun i => !listed.getD i true, ?_, ?_, ?_⟩
  · unfold unl
    rw [range_split hi, List.filter_append, List.filter_cons]
    simp only [hl, Bool.not_false, if_true]
  · unfold unl
    rw [range_split hi, List.filter_append, List.filter_cons]
    simp only [hsi, Bool.not_true, Bool.false_eq_true, if_false]
    congr 1
    · exact List.filter_congr fun j hj => by
        have : j < i := List.mem_range.1 hj
        rw [hne j (by omega)]
    · exact List.filter_congr fun j hj => by
        have := (List.mem_range'_1.1 hj).1
        rw [hne j (by omega)]
  · intro u hu
    rw [List.mem_filter, List.mem_range] at hu
    exact ⟨hu.1, by simpa using hu.2⟩

theorem draw_sound (C : CallOk kp cfg call) (Xt : ExtOk kp cfg) {F : Fence} (hd : drawOk ops = true) {st' : St} {Q : Exit → Act → World → Prop} : ∀ (fuel : Nat) (listed : Array Bool) (cx : Cx) (st : St) (act : Act) (w : World), RdOk F st.rd →
    listed.size = ops.size → (unl ops listed).length ≤ fuel →
    (∀ (j : Nat) (o : Oper), ops[j]? = some o → listed.getD j false = true → ∀ e ∈ o.after, Region.binds .any e = true → listed.getD e.on false = true) →
    RInv kp lo cfg.P ops (fun j => listed.getD j true = true) cx0 m0 w0 cx st act w → runOps cfg call true ops m0.A.length (unl ops listed) st = some st' →
    (∀ cx' act' w' X', st'.rd = st.rd → RInv kp lo cfg.P ops X' cx0 m0 w0 cx' st' act' w' → Q .normal act' w') → wpAnyIn F 0 cfg.P .any ops Q fuel listed act w := by
  obtain ⟨hback, hcl⟩ := drawOk_spec hd
  have dflt : ∀ (listed : Array Bool) (j : Nat), listed.size = ops.size → j < ops.size → listed.getD j true = listed.getD j false := fun listed j hs hj => by
    simp [Array.getD, hs, hj]
  have done : ∀ (listed : Array Bool), listed.size = ops.size → Region.ready .any ops listed = [] → unl ops listed = [] := by
    intro listed hs hr
    have all : ∀ j, j < ops.size → listed.getD j false = true := by
      intro j
      induction j using Nat.strongRecOn with
      | ind j ih =>
        intro hj
        cases hlj : listed.getD j false
        · exfalso
          have hm : j ∈ Region.ready .any ops listed := by
            rw [mem_ready]
            refine ⟨(dflt listed j hs hj).trans hlj, ops[j], Array.getElem?_eq_getElem hj, fun e he hb => ?_⟩
            have := hback j _ (Array.getElem?_eq_getElem hj) e he hb
            exact ih e.on this (by omega)
          rw [hr] at hm
          cases hm
        · rfl
    unfold unl
    rw [List.filter_eq_nil_iff]
    intro j hj
    have hj := List.mem_range.1 hj
    rw [dflt listed j hs hj, all j hj]
    simp
  have fin : ∀ (listed : Array Bool) (cx : Cx) (st : St) (act : Act) (w : World), unl ops listed = [] → RInv kp lo cfg.P ops (fun j => listed.getD j true = true) cx0 m0 w0 cx st act w →
      runOps cfg call true ops m0.A.length (unl ops listed) st = some st' → (∀ cx' act' w' X', st'.rd = st.rd → RInv kp lo cfg.P ops X' cx0 m0 w0 cx' st' act' w' → Q .normal act' w') → Q .normal act w := by
    intro listed cx st act w hu R hrun hK
    rw [hu] at hrun
    simp only [runOps] at hrun
    injection hrun with hrun
    subst hrun
    exact hK cx act w _ rfl R
  intro fuel
  induction fuel with
  | zero =>
    intro listed cx st act w hF hs hf hlc R hrun hK
    have hu : unl ops listed = [] := List.length_eq_zero_iff.1 (by omega)
    refine ⟨?_, fin listed cx st act w hu R hrun hK⟩
    rw [List.eq_nil_iff_forall_not_mem]
    intro j hj
    obtain ⟨h1, o, ho, _⟩ := mem_ready.1 hj
    have : j ∈ unl ops listed := List.mem_filter.2 ⟨List.mem_range.2 (Array.getElem?_eq_some_iff.1 ho).1, by rw [h1]; rfl⟩
    rw [hu] at this
    cases this
  | succ fuel ih =>
    intro listed cx st act w hF hs hf hlc R hrun hK
    refine ⟨fun hr => fin listed cx st act w (done listed hs hr) R hrun hK, fun i hi => ?_⟩
    obtain ⟨h1, o, ho, hall⟩ := mem_ready.1 hi
    have hlt : i < ops.size := (Array.getElem?_eq_some_iff.1 ho).1
    obtain ⟨U1, U2, e1, e2, e3⟩ := unl_split hlt h1
    have hall' : ∀ (o' : Oper), ops[i]? = some o' → ∀ e ∈ o'.after, Region.binds .any e = true → listed.getD e.on false = true := fun o' ho' => by
      rw [ho] at ho'
      injection ho' with ho'
      subst ho'
      exact hall
    rw [e1] at hrun
    obtain ⟨s, k1, k2⟩ := hoist ho U1 st (fun u hu => by
      obtain ⟨g1, g2⟩ := e3 u hu
      have hul : u < ops.size := by omega
      refine ⟨ops[u], Array.getElem?_eq_getElem hul, ?_⟩
      rcases hcl u i _ _ g1 (Array.getElem?_eq_getElem hul) ho with h | h
      · exact h
      · have := reach_listed hlc h hall'
        rw [dflt listed u hs hul, this] at g2
        cases g2) hrun
    refine step_sound C Xt hF ho (by rw [h1]; simp) R k1 fun cx' act' w' hrd R' => ?_
    refine ih (listed.setIfInBounds i true) cx' s act' w' (by rw [hrd]; exact hF) (by simpa using hs) ?_ ?_ (R'.weaken fun j hj => ?_) (by rw [e2]; exact k2) (fun cx'' act'' w'' X' hrd' R'' => hK cx'' act'' w'' X' (hrd'.trans hrd) R'')
    · rw [e2]
      rw [e1] at hf
      simp only [List.length_append, List.length_cons] at hf ⊢
      omega
    · intro j o' hj hl e he hb
      by_cases hji : j = i
      · subst hji
        exact getD_set_true (hall' o' hj e he hb)
      · rw [getD_set_ne false (Ne.symm hji)] at hl
        exact getD_set_true (hlc j o' hj hl e he hb)
    · by_cases hji : j = i
      · subst hji
        simp [hs, hlt]
      · rw [getD_set_ne true (Ne.symm hji)]
        exact hj.resolve_right hji
end
end Go.Proofs.YtpdgbhjhodhkiaaGreatDoor.AI
