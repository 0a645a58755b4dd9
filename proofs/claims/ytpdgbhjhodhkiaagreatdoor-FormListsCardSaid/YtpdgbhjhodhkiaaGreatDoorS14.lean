/- Calls, by their modes; one operation of a region. -/
import Derived.Test.YtpdgbhjhodhkiaaGreatDoorS13
import Derived.OrdersIn
set_option linter.unusedVariables false
set_option linter.unusedSimpArgs false
namespace Go.Proofs.YtpdgbhjhodhkiaaGreatDoor.AI
open Go
variable {kp : Kp}

/-- Function f has a body, and calling it enters it. -/
def Enters (P : Program) (f : FuncId) : Prop := ∀ (args : Array Value) (w : World), (callFunc f args).run P w = .ok (.enter f args) w
def RetPost (kp : Kp) (n : Nat) (cx : Cx) (m : Mem) (w : World) (v : V) (m' : Mem) (e : Ending) (w' : World) : Prop :=
  ∃ cv cx', e = .returned cv ∧ VRel cx' w' v cv ∧ Sim kp cx' m' w' ∧ HiOk m' ∧ Ev n cx m w cx' m' w'
structure CallOk (kp : Kp) (cfg : Cfg) (call : Call) : Prop where
  fn : ∀ f args m v m', call (.fn f) args m = some (v, m') → Enters cfg.P f ∧ ∀ cx w (cargs : Array Value), Sim kp cx m w → HiOk m → VRelL cx w args cargs.toList →
    CallsIn Fence.wide 0 cfg.P f cargs w (RetPost kp m.A.length cx m w v m')
  yld : ∀ l args m v m', call (.yld l) args m = some (v, m') → ∀ cx w (cargs : Array Value), Sim kp cx m w → HiOk m → VRelL cx w args cargs.toList → ∀ c, cx.fo l = some c →
    ∃ fn tmps assign body, (Instr.yield c cargs).run cfg.P w = .ok (.round c fn tmps assign body) w ∧ RoundIn Fence.wide 0 cfg.P c fn tmps assign body w (RetPost kp m.A.length cx m w v m')
/-- What is told of a function of the library. -/
def ExtOk (kp : Kp) (cfg : Cfg) : Prop := ∀ f args v, cfg.ext f args = some v → args.all V.pure = true → V.pure v = true → Enters cfg.P f ∧ ∀ cx w (cargs : Array Value), (∀ c, w.heap.size ≤ c → cx.own c = .non) → (∀ c o, kp c = some o → w.heap[c]? = some o) → VRelL cx w args cargs.toList →
  CallsIn Fence.wide 0 cfg.P f cargs w fun e w' => ∃ cv, e = .returned cv ∧ VRel cx w' v cv ∧ w.heap.size ≤ w'.heap.size ∧ (∀ c, c < w.heap.size → w'.heap[c]? = w.heap[c]?) ∧ w'.os = w.os ∧ w'.tape = w.tape ∧ w'.output = w.output

section
variable {cfg : Cfg} {cx : Cx} {m : Mem} {w : World}

theorem shut_pure {lo : Nat} {v v' : V} (h : (if V.pure v = true then some v else none) = some v') : v' = v ∧ V.pure v = true := by
  split at h
  · rename_i hp
    injection h with h
    exact ⟨h.symm, hp⟩
  · cases h
mutual
theorem shut_relU (U : Nat → Prop) (S : Sim kp cx m w) {lo : Nat} (hlo : m.lb ≤ lo) {cxN : Cx} (hN : ∀ blk, blk < w.heap.size → (cx.own blk = .non ∨ ∃ b, U b ∧ cx.own blk = .b b) → cxN.own blk = .non) : ∀ (v : V) (v' : V) (cv : Value), (∀ b ∈ V.used v, U b) → VRel cx w v cv → shut m.B lo v = some v' → VRel cxN w v' cv ∧ V.pure v' = true
  | .sl b ver off len, v', cv, hu, h, hs => by
    simp only [shut] at hs
    split at hs
    · rename_i sz ver' fz cs hB
      split at hs
      · rename_i hc
        cases hsub : sub cs off (len * sz) with
        | none => simp [hsub] at hs
        | some l =>
          simp only [hsub, Option.map_some] at hs
          injection hs with hs
          subst hs
          obtain ⟨g1, rfl, g3⟩ := sub_some hsub
          have hb := S.B b _ hB
          simp only [BOk] at hb
          obtain ⟨k1, k2, k3, k4, arr, t, k5, k6, k7, k8⟩ := hb
          simp only [VRel] at h
          obtain ⟨h1, h2, a, cap, rfl, h4, h45, h5⟩ := h
          obtain ⟨h6, h7⟩ := h5 (by omega)
          refine ⟨?_, rfl⟩
          simp only [VRel]
          refine ⟨a, cap, rfl, h4, by simp, ?_⟩
          rcases h7 with h7 | rfl
          · left
            have h0 : len = 0 := by omega
            simp [h0]
          · right
            have hlt := lt_of_heap k5
            refine ⟨_, off, rfl, hlt, hN _ hlt ?_, RowRel.of_get fun i x hx => ?_⟩
            · rw [k3, ownB]
              split
              · exact .inl rfl
              · rw [if_neg (by omega)]
                exact .inr ⟨b, hu b (by simp [V.used]), rfl⟩
            · rw [List.getElem?_take] at hx
              split at hx
              · rw [List.getElem?_drop] at hx
                have hp := pureL_get _ (k4 trivial) hx
                refine ⟨hp, ?_⟩
                obtain ⟨cv, h8, h9⟩ := VRelL.get _ k8 hx
                refine ⟨cv, ?_, VRel.onP ⟨fun c hc ho => ⟨rfl, hN c hc (.inl ho)⟩, Nat.le_refl _⟩ x cv hp h9⟩
                rw [cell_block k5, ← Array.getElem?_toList]
                rw [List.getElem?_take] at h8
                split at h8
                · exact h8
                · cases h8
              · cases hx
      · cases hs
    · cases hs
  | .agg cs, v', cv, hu, h, hs => by
    simp only [shut] at hs
    cases hq : shutL m.B lo cs with
    | none => simp [hq] at hs
    | some l =>
      simp only [hq, Option.map_some] at hs
      injection hs with hs
      subst hs
      simp only [VRel] at h
      obtain ⟨arr, rfl, h⟩ := h
      obtain ⟨h1, h2⟩ := shutL_relU U S hlo hN cs l arr.toList (fun b hb => hu b (by simpa only [V.used] using hb)) h hq
      exact ⟨⟨arr, rfl, h1⟩, h2⟩
  | .tup cs, v', cv, hu, h, hs => by
    simp only [shut] at hs
    cases hq : shutL m.B lo cs with
    | none => simp [hq] at hs
    | some l =>
      simp only [hq, Option.map_some] at hs
      injection hs with hs
      subst hs
      simp only [VRel] at h
      obtain ⟨arr, rfl, h⟩ := h
      obtain ⟨h1, h2⟩ := shutL_relU U S hlo hN cs l arr.toList (fun b hb => hu b (by simpa only [V.used] using hb)) h hq
      exact ⟨⟨arr, rfl, h1⟩, h2⟩
  | .undef, v', cv, hu, h, hs | .bool _, v', cv, hu, h, hs | .int _ _, v', cv, hu, h, hs | .str _, v', cv, hu, h, hs | .nilp, v', cv, hu, h, hs | .ptr _ _, v', cv, hu, h, hs | .bptr _ _ _, v', cv, hu, h, hs | .rp _ _, v', cv, hu, h, hs
  | .nils, v', cv, hu, h, hs | .ro _ _ _, v', cv, hu, h, hs | .nilm, v', cv, hu, h, hs | .map _, v', cv, hu, h, hs | .nilf, v', cv, hu, h, hs | .fn _ _, v', cv, hu, h, hs | .yld _, v', cv, hu, h, hs | .nili, v', cv, hu, h, hs | .ifc _ _, v', cv, hu, h, hs => by
    simp only [shut] at hs
    obtain ⟨rfl, hp⟩ := shut_pure (lo := lo) hs
    exact ⟨VRel.onP ⟨fun c hc ho => ⟨rfl, hN c hc (.inl ho)⟩, Nat.le_refl _⟩ _ cv hp h, hp⟩
theorem shutL_relU (U : Nat → Prop) (S : Sim kp cx m w) {lo : Nat} (hlo : m.lb ≤ lo) {cxN : Cx} (hN : ∀ blk, blk < w.heap.size → (cx.own blk = .non ∨ ∃ b, U b ∧ cx.own blk = .b b) → cxN.own blk = .non) : ∀ (vs : List V) (vs' : List V) (cvs : List Value), (∀ b ∈ usedL vs, U b) → VRelL cx w vs cvs → shutL m.B lo vs = some vs' → VRelL cxN w vs' cvs ∧ pureL vs' = true
  | [], vs', cvs, hu, h, hs => by
    simp only [shutL] at hs
    injection hs with hs
    subst hs
    cases cvs with
    | nil => exact ⟨by simp [VRelL], rfl⟩
    | cons _ _ => simp [VRelL] at h
  | v :: vs, vs', cvs, hu, h, hs => by
    cases cvs with
    | nil => simp [VRelL] at h
    | cons c cvs =>
      simp only [VRelL] at h
      simp only [shutL] at hs
      cases h1 : shut m.B lo v with
      | none => simp [h1] at hs
      | some x =>
        cases h2 : shutL m.B lo vs with
        | none => simp [h1, h2] at hs
        | some xs =>
          simp only [h1, h2] at hs
          injection hs with hs
          subst hs
          obtain ⟨g1, g2⟩ := shut_relU U S hlo hN v x c (fun b hb => hu b (by simp only [usedL, List.mem_append]; exact .inl hb)) h.1 h1
          obtain ⟨g3, g4⟩ := shutL_relU U S hlo hN vs xs cvs (fun b hb => hu b (by simp only [usedL, List.mem_append]; exact .inr hb)) h.2 h2
          exact ⟨⟨g1, g3⟩, by simp [pureL, g2, g4]⟩
end

theorem shut_rel (S : Sim kp cx m w) {lo : Nat} (hlo : m.lb ≤ lo) {cxN : Cx} (hN : ∀ blk, blk < w.heap.size → (cx.own blk = .non ∨ ∃ b, cx.own blk = .b b) → cxN.own blk = .non) (v : V) (v' : V) (cv : Value) (h : VRel cx w v cv) (hs : shut m.B lo v = some v') : VRel cxN w v' cv ∧ V.pure v' = true :=
  shut_relU (fun _ => True) S hlo (fun blk hb ho => hN blk hb (ho.imp id fun ⟨b, _, h⟩ => ⟨b, h⟩)) v v' cv (fun _ _ => trivial) h hs
mutual
theorem shut_used {B : List BB} {lo : Nat} : ∀ {v v' : V}, shut B lo v = some v' → ∀ b ∈ V.used v, ∃ sz ver fz cs, B[b]? = some (.cells sz ver true fz cs) ∧ lo ≤ b
  | .sl b ver off len, v', hs, b', hb => by
    simp only [V.used, List.mem_singleton] at hb
    subst hb
    simp only [shut] at hs
    split at hs
    · rename_i sz ver' fz cs hB
      split at hs
      · rename_i hc
        exact ⟨sz, ver', fz, cs, hB, hc.2⟩
      · cases hs
    · cases hs
  | .agg cs, v', hs, b', hb => by
    simp only [shut] at hs
    obtain ⟨l, h1, _⟩ := Option.map_eq_some_iff.1 hs
    exact shutL_used h1 b' (by simpa only [V.used] using hb)
  | .tup cs, v', hs, b', hb => by
    simp only [shut] at hs
    obtain ⟨l, h1, _⟩ := Option.map_eq_some_iff.1 hs
    exact shutL_used h1 b' (by simpa only [V.used] using hb)
  | .undef, _, _, _, hb | .bool _, _, _, _, hb | .int _ _, _, _, _, hb | .str _, _, _, _, hb | .nilp, _, _, _, hb | .ptr _ _, _, _, _, hb | .bptr _ _ _, _, _, _, hb | .rp _ _, _, _, _, hb
  | .nils, _, _, _, hb | .ro _ _ _, _, _, _, hb | .nilm, _, _, _, hb | .map _, _, _, _, hb | .nilf, _, _, _, hb | .fn _ _, _, _, _, hb | .yld _, _, _, _, hb | .nili, _, _, _, hb | .ifc _ _, _, _, _, hb => by
    simp [V.used] at hb
theorem shutL_used {B : List BB} {lo : Nat} : ∀ {vs vs' : List V}, shutL B lo vs = some vs' → ∀ b ∈ usedL vs, ∃ sz ver fz cs, B[b]? = some (.cells sz ver true fz cs) ∧ lo ≤ b
  | [], _, _, _, hb => by simp [usedL] at hb
  | v :: vs, vs', hs, b, hb => by
    simp only [shutL] at hs
    split at hs
    · rename_i x xs h1 h2
      simp only [usedL, List.mem_append] at hb
      rcases hb with hb | hb
      · exact shut_used h1 b hb
      · exact shutL_used h2 b hb
    · cases hs
end
theorem frzB_get (bs : List Nat) : ∀ (i : Nat) (B : List BB) (j : Nat), (frzB bs i B)[j]? = (B[j]?).map fun x => if bs.contains (i + j) then x.frz else x
  | _, [], j => by simp [frzB]
  | i, x :: B, 0 => by simp [frzB]
  | i, x :: B, j + 1 => by
    simp only [frzB, List.getElem?_cons_succ, frzB_get bs (i + 1) B j]
    rw [show i + 1 + j = i + (j + 1) by omega]
theorem frzB_length (bs : List Nat) : ∀ (i : Nat) (B : List BB), (frzB bs i B).length = B.length
  | _, [] => rfl
  | i, x :: B => by simp [frzB, frzB_length bs (i + 1) B]
def Cx.frz (bs : List Nat) (cx : Cx) : Cx := { cx with own := fun c => match cx.own c with
  | .b b => if bs.contains b then .non else .b b
  | o => o }
theorem frz_non {bs : List Nat} {c : Nat} (h : cx.own c = .non) : (cx.frz bs).own c = .non := by simp [Cx.frz, h]
theorem frz_later (bs : List Nat) (w : World) : Later cx w (cx.frz bs) w := ⟨Nat.le_refl _, fun _ _ => ⟨Nat.le_refl _, fun _ => rfl⟩, fun _ _ h => h, fun c _ h => ⟨rfl, frz_non h⟩, Nat.le_refl _⟩
theorem frz_hi {x : BB} : x.frz.hi = x.hi := by
  unfold BB.frz
  split <;> rfl
/-- Rows that are handed on are written no more. -/
theorem frz_sim (S : Sim kp cx m w) {bs : List Nat} (hbs : ∀ b ∈ bs, ∃ sz ver fz cs, m.B[b]? = some (.cells sz ver true fz cs) ∧ m.lb ≤ b) : Sim kp (cx.frz bs) { m with B := frzB bs 0 m.B } w where
  A i cs h c hc := by
    obtain ⟨⟨arr, t, h1, h2⟩, h3⟩ := S.A i cs h c hc
    refine ⟨⟨arr, t, h1, VRelL.on (n := m.A.length) (frz_later bs w) (fun _ _ _ h => h) _ _ (VRelL.maxA S.fa _ _ h2) h2⟩, ?_⟩
    simp only [Cx.frz, h3, ownA]
    split <;> (rename_i e; split at e <;> first | (cases e; done) | rfl)
  fa := S.fa
  B b x h := by
    simp only at h
    rw [frzB_get, Nat.zero_add] at h
    obtain ⟨y, hy, rfl⟩ := Option.map_eq_some_iff.1 h
    have hb := S.B b y hy
    cases y with
    | cells sz ver pu fz cs =>
      simp only [BOk] at hb
      obtain ⟨h1, h2, h3, h4, arr, t, h5, h6, h7, h8⟩ := hb
      have h8' := VRelL.on (n := m.A.length) (frz_later bs w) (fun _ _ _ h => h) _ _ (VRelL.maxA S.fa _ _ h8) h8
      cases hc : bs.contains b with
      | true =>
        have hm : b ∈ bs := by simpa using hc
        obtain ⟨sz', ver', fz', cs', g1, g2⟩ := hbs b hm
        rw [hy] at g1
        injection g1 with g1
        injection g1 with g3 g4 g5 g6 g7
        subst g5
        simp only [if_true, BB.frz, BOk]
        refine ⟨h1, h2, ?_, fun _ => h4 rfl, arr, t, h5, h6, h7, h8'⟩
        simp only [Cx.frz, h3, ownB, if_true]
        cases fz
        · simp only [Bool.false_eq_true, if_false]
          rw [if_neg (by omega)]
          simp [hm]
        · simp
      | false =>
        simp only [Bool.false_eq_true, if_false, BOk]
        refine ⟨h1, h2, ?_, h4, arr, t, h5, h6, h7, h8'⟩
        simp only [Cx.frz, h3, ownB]
        cases fz
        · simp only [Bool.false_eq_true, if_false]
          by_cases hlt : b < m.lb
          · simp [hlt]
          · have hnm : b ∉ bs := by simpa using hc
            simp [hlt, hnm]
        · simp
    | map es =>
      have e : (if bs.contains b = true then (BB.map es).frz else BB.map es) = BB.map es := by split <;> rfl
      rw [e]
      simp only [BOk] at hb ⊢
      obtain ⟨c, fs, clk, h1, h2, h3, h4⟩ := hb
      refine ⟨c, fs, clk, h1, h2, EsRel.on (n := m.A.length) (frz_later bs w) (fun _ _ _ h => h) _ _ (EsRel.maxA S.fa _ _ h3) h3, ?_⟩
      simp only [Cx.frz, h4, ownO]
      split <;> (rename_i e; split at e <;> first | (cases e; done) | rfl)
    | loop s p tm ps as bo =>
      have e : (if bs.contains b = true then (BB.loop s p tm ps as bo).frz else BB.loop s p tm ps as bo) = BB.loop s p tm ps as bo := by split <;> rfl
      rw [e]
      simp only [BOk] at hb ⊢
      obtain ⟨c, fn, D, tmps, h1, h2, h3, h4⟩ := hb
      refine ⟨c, fn, D, tmps, h1, h2, VRelL.on (n := m.A.length) (frz_later bs w) (fun _ _ _ h => h) _ _ (VRelL.maxA S.fa _ _ h3) h3, ?_⟩
      simp only [Cx.frz, h4, ownO]
      split <;> (rename_i e; split at e <;> first | (cases e; done) | rfl)
  nb := by simp only [frzB_length]; exact S.nb
  fo b c h := by simp only [frzB_length]; exact S.fo b c h
  fresh c hc := frz_non (S.fresh c hc)
  la := S.la
  lb := by simp only [frzB_length]; exact S.lb
  kept := S.kpt (frz_later bs w).zero
theorem frz_hiOk (H : HiOk m) (bs : List Nat) : HiOk { m with B := frzB bs 0 m.B } := ⟨H.A, fun b x h => by
  simp only at h
  rw [frzB_get] at h
  obtain ⟨y, hy, rfl⟩ := Option.map_eq_some_iff.1 h
  have := H.B b y hy
  split
  · rw [frz_hi]; exact this
  · exact this⟩
theorem frz_ev (S : Sim kp cx m w) (bs : List Nat) : Ev m.A.length cx m w (cx.frz bs) { m with B := frzB bs 0 m.B } w where
  fa _ _ := rfl
  un _ _ _ := rfl
  ln := Nat.le_refl _
  nb := Nat.le_refl _
  vb _ _ := ⟨Nat.le_refl _, fun _ => rfl⟩
  fo _ _ h := h
  non c _ h := ⟨rfl, frz_non h⟩
  prot c h := ⟨rfl, by simp [Cx.frz, h]⟩
  dm c h := ⟨rfl, by simp [Cx.frz, h]⟩
  size := Nat.le_refl _
  os := rfl
  tape := rfl
  output := rfl
  la := rfl
  lb := rfl
/-- The abstract memory that a pure call begins with: none; what the machine has is another's. -/
def Cx.bare (keepB : Bool) (cx : Cx) : Cx := { fa := fun _ => none, fb := fun _ => (0, 0, 0), vb := fun _ => 0, nb := 0, fo := fun _ => none, own := fun c => match cx.own c with
  | .non => .non
  | .b b => if keepB then .prot else .non
  | _ => .prot }
theorem bare_sim (S : Sim kp cx m w) (k : Bool) : Sim kp (cx.bare k) Mem.empty w where
  A i cs h := by simp [Mem.empty] at h
  fa i c h := by simp [Cx.bare] at h
  B b x h := by simp [Mem.empty] at h
  nb := rfl
  fo b c h := by simp [Cx.bare] at h
  fresh c hc := by simp [Cx.bare, S.fresh c hc]
  la := Nat.le_refl _
  lb := Nat.le_refl _
  kept c o h := ⟨(S.kept c o h).1, by simp [Cx.bare, (S.kept c o h).2.1], (S.kept c o h).2.2⟩
theorem bare_non {k : Bool} {c : Nat} (h : cx.own c = .non) : (cx.bare k).own c = .non := by simp [Cx.bare, h]
theorem bare_heap {k : Bool} {cx' : Cx} {m' : Mem} {w' : World} (S : Sim kp cx m w) (E : Ev 0 (cx.bare k) Mem.empty w cx' m' w') (c : Nat) (hc : c < w.heap.size) : w'.heap[c]? = w.heap[c]? := by
  cases ho : (cx.bare k).own c with
  | non => exact (E.non c hc ho).1
  | prot => exact (E.prot c ho).1
  | dm => simp only [Cx.bare] at ho; split at ho <;> (try split at ho) <;> cases ho
  | a i => simp only [Cx.bare] at ho; split at ho <;> (try split at ho) <;> cases ho
  | b i => simp only [Cx.bare] at ho; split at ho <;> (try split at ho) <;> cases ho
  | o i => simp only [Cx.bare] at ho; split at ho <;> (try split at ho) <;> cases ho

theorem scalar1 {v : V} {cv : Value} {cx cx' : Cx} {w w' : World} (h : VRel cx w v cv) (hs : scalar0 v = true) : VRel cx' w' v cv := by
  cases v
  case ro cells n full =>
    cases cells with
    | nil =>
      simp only [VRel] at h ⊢
      obtain ⟨a, cap, h1, h2, h3, _⟩ := h
      exact ⟨a, cap, h1, h2, h3, .inl trivial⟩
    | cons c cs => simp [scalar0] at hs
  all_goals simp only [scalar0, Bool.false_eq_true] at hs <;> simpa [VRel] using h
theorem scalarL {cx cx' : Cx} {w w' : World} : ∀ (vs : List V) (cvs : List Value), VRelL cx w vs cvs → vs.all scalar0 = true → VRelL cx' w' vs cvs
  | [], [], _, _ => by simp [VRelL]
  | [], _ :: _, h, _ => by simp [VRelL] at h
  | _ :: _, [], h, _ => by simp [VRelL] at h
  | v :: vs, c :: cvs, h, hs => by
    simp only [VRelL] at h ⊢
    simp only [List.all_cons, Bool.and_eq_true] at hs
    exact ⟨scalar1 h.1 hs.1, scalarL vs cvs h.2 hs.2⟩
theorem scalar_rel {v : V} {cv : Value} {cx cx' : Cx} {w w' : World} (h : VRel cx w v cv) (hs : scalarV v = true) : VRel cx' w' v cv := by
  unfold scalarV at hs
  split at hs
  · simp only [VRel] at h ⊢
    obtain ⟨arr, h1, h2⟩ := h
    exact ⟨arr, h1, scalarL _ _ h2 hs⟩
  · exact scalar1 h hs
mutual
theorem shut_id (B : List BB) (lo : Nat) : ∀ (v : V), V.pure v = true → shut B lo v = some v
  | .undef, _ | .bool _, _ | .int _ _, _ | .str _, _ | .nilp, _ | .rp _ _, _ | .nils, _ | .ro _ _ _, _ | .nilm, _ | .nilf, _ | .nili, _ => by simp [shut, V.pure]
  | .ptr _ _, h | .bptr _ _ _, h | .sl _ _ _ _, h | .map _, h | .yld _, h => by simp [V.pure] at h
  | .fn f cs, h => by simp only [shut, h, if_true]
  | .ifc t v, h => by simp only [shut, h, if_true]
  | .agg cs, h => by simp only [V.pure] at h; simp [shut, shutL_id B lo cs h]
  | .tup cs, h => by simp only [V.pure] at h; simp [shut, shutL_id B lo cs h]
theorem shutL_id (B : List BB) (lo : Nat) : ∀ (vs : List V), pureL vs = true → shutL B lo vs = some vs
  | [], _ => rfl
  | v :: vs, h => by
    simp only [pureL, Bool.and_eq_true] at h
    simp [shutL, shut_id B lo v h.1, shutL_id B lo vs h.2]
end

/-- The abstract memory that a frozen call begins with: the caller's, not to be written. -/
def Cx.held (cx : Cx) : Cx := { cx with own := fun c => match cx.own c with
  | .non => .non
  | _ => .prot }
theorem held_non {c : Nat} : cx.held.own c = .non ↔ cx.own c = .non := by
  simp only [Cx.held]
  split <;> simp_all
theorem held_later (w : World) : Later cx w cx.held w := ⟨Nat.le_refl _, fun _ _ => ⟨Nat.le_refl _, fun _ => rfl⟩, fun _ _ h => h, fun c _ h => ⟨rfl, held_non.2 h⟩, Nat.le_refl _⟩
theorem held_sim (S : Sim kp cx m w) : Sim kp cx.held { m with la := m.A.length, lb := m.B.length } w where
  A i cs h c hc := by
    obtain ⟨⟨arr, t, h1, h2⟩, h3⟩ := S.A i cs h c hc
    have hi := (List.getElem?_eq_some_iff.1 h).1
    refine ⟨⟨arr, t, h1, VRelL.on (n := m.A.length) (held_later w) (fun _ _ _ h => h) _ _ (VRelL.maxA S.fa _ _ h2) h2⟩, ?_⟩
    simp only [Cx.held, h3, ownA]
    rw [if_pos hi]
    split <;> first | rfl | (rename_i e; split at e <;> cases e)
  fa := S.fa
  B b x h := by
    have hb := S.B b x h
    have hlt := (List.getElem?_eq_some_iff.1 h).1
    cases x with
    | cells sz ver pu fz cs =>
      simp only [BOk] at hb ⊢
      obtain ⟨h1, h2, h3, h4, arr, t, h5, h6, h7, h8⟩ := hb
      refine ⟨h1, h2, ?_, h4, arr, t, h5, h6, h7, VRelL.on (n := m.A.length) (held_later w) (fun _ _ _ h => h) _ _ (VRelL.maxA S.fa _ _ h8) h8⟩
      simp only [Cx.held, h3, ownB]
      cases fz
      · simp only [Bool.false_eq_true, if_false]
        rw [if_pos hlt]
        split <;> first | rfl | (rename_i e; split at e <;> cases e)
      · simp
    | map es =>
      simp only [BOk] at hb ⊢
      obtain ⟨c, fs, clk, h1, h2, h3, h4⟩ := hb
      refine ⟨c, fs, clk, h1, h2, EsRel.on (n := m.A.length) (held_later w) (fun _ _ _ h => h) _ _ (EsRel.maxA S.fa _ _ h3) h3, ?_⟩
      simp only [Cx.held, h4, ownO]
      rw [if_pos hlt]
      split <;> first | rfl | (rename_i e; split at e <;> cases e)
    | loop s p tm ps as bo =>
      simp only [BOk] at hb ⊢
      obtain ⟨c, fn, D, tmps, h1, h2, h3, h4⟩ := hb
      refine ⟨c, fn, D, tmps, h1, h2, VRelL.on (n := m.A.length) (held_later w) (fun _ _ _ h => h) _ _ (VRelL.maxA S.fa _ _ h3) h3, ?_⟩
      simp only [Cx.held, h4, ownO]
      rw [if_pos hlt]
      split <;> first | rfl | (rename_i e; split at e <;> cases e)
  nb := S.nb
  fo := S.fo
  fresh c hc := held_non.2 (S.fresh c hc)
  la := Nat.le_refl _
  lb := Nat.le_refl _
  kept := S.kpt (held_later w).zero
theorem held_heap {cx' : Cx} {m2 m' : Mem} {w' : World} {n : Nat} (E : Ev n cx.held m2 w cx' m' w') (c : Nat) (hc : c < w.heap.size) : w'.heap[c]? = w.heap[c]? := by
  cases ho : cx.own c with
  | non => exact (E.non c hc (held_non.2 ho)).1
  | _ => exact (E.prot c (by simp [Cx.held, ho])).1

/-- A call of f, by its mode. -/
theorem doCall_sound {call : Call} (C : CallOk kp cfg call) (X : ExtOk kp cfg) (S : Sim kp cx m w) (H : HiOk m) {draw : Bool} {f : FuncId} {args : List V} {cargs : Array Value} {v : V} {m' : Mem} (ha : VRelL cx w args cargs.toList)
    (h : doCall cfg call draw f args m = some (v, m')) : Enters cfg.P f ∧ CallsIn Fence.wide 0 cfg.P f cargs w (RetPost kp m.A.length cx m w v m') := by
  unfold doCall at h
  split at h
  · split at h
    · cases h
    · obtain ⟨h1, h2⟩ := C.fn f args m v m' h
      exact ⟨h1, h2 cx w cargs S H ha⟩
  · cases hx : cfg.ext f args with
    | none => simp [hx] at h
    | some r =>
      simp only [hx, Option.bind_some] at h
      split at h
      · rename_i hp
        injection h with h; injection h with h1 h2; subst h1 h2
        obtain ⟨g1, g2⟩ := X f args r hx hp.1 hp.2
        refine ⟨g1, (g2 cx w cargs S.fresh (fun c o h => (S.kept c o h).2.2) ha).mono ?_⟩
        rintro e w' ⟨cv, rfl, h3, h4, h5, h6, h7, h8⟩
        obtain ⟨S', E'⟩ := sim_grow S h4 h5 h6 h7 h8
        exact ⟨cv, cx, rfl, h3, S', H, E'⟩
      · cases h
  · cases hs : shutL m.B m.lb args with
    | none => simp [hs] at h
    | some args' =>
      simp only [hs, Option.bind_some] at h
      cases hc : call (.fn f) args' Mem.empty with
      | none => simp [hc] at h
      | some r =>
        obtain ⟨v0, m0⟩ := r
        simp only [hc, Option.bind_some] at h
        cases hv : shut m0.B 0 v0 with
        | none => simp [hv] at h
        | some v1 =>
          simp only [hv, Option.bind_some] at h
          split at h
          · rename_i hcond
            injection h with h; injection h with h1 h2; subst h1 h2
            obtain ⟨g1, g2⟩ := C.fn f args' Mem.empty v0 m0 hc
            refine ⟨g1, ?_⟩
            have hfin : ∀ (k : Bool), VRelL (cx.bare k) w args' cargs.toList → (k = false → scalarV v1 = true) → CallsIn Fence.wide 0 cfg.P f cargs w (RetPost kp m.A.length cx m w v1 m) := by
              intro k hk hks
              refine (g2 (cx.bare k) w cargs (bare_sim S k) HiOk.empty hk).mono ?_
              rintro e w' ⟨cv, cx', rfl, h3, S0, H0, E0⟩
              have hheap := bare_heap S E0
              obtain ⟨S', E'⟩ := sim_grow S E0.size hheap E0.os E0.tape E0.output
              refine ⟨cv, cx, rfl, ?_, S', H, E'⟩
              have hlb0 : m0.lb ≤ 0 := by rw [E0.lb]; exact Nat.le_refl _
              cases k with
              | false =>
                have := shut_rel (cxN := { cx' with own := fun _ => .non }) S0 hlb0 (fun _ _ _ => rfl) v0 v1 cv h3 hv
                exact scalar_rel this.1 (hks rfl)
              | true =>
                refine (shut_rel (cxN := cx) S0 hlb0 (fun blk hblk ho => ?_) v0 v1 cv h3 hv).1
                rcases Nat.lt_or_ge blk w.heap.size with hlt | hge
                · cases hob : cx.own blk with
                  | non => rfl
                  | _ =>
                    have hp : (cx.bare true).own blk = .prot := by simp [Cx.bare, hob]
                    have := (E0.prot blk hp).2
                    rcases ho with ho | ⟨b, ho⟩ <;> rw [this] at ho <;> cases ho
                · exact S.fresh blk hge
            cases hp : pureL args with
            | true =>
              have hid := shutL_id m.B m.lb args hp
              rw [hs] at hid
              injection hid with hid
              subst hid
              exact hfin true (VRelL.onP ⟨fun c hc ho => ⟨rfl, bare_non ho⟩, Nat.le_refl _⟩ _ _ hp ha) (by simp)
            | false =>
              refine hfin false ?_ (fun _ => by simpa [hp] using hcond)
              refine (shutL_relU (fun _ => True) (cxN := cx.bare false) S (Nat.le_refl _) (fun blk hblk ho => ?_) args args' cargs.toList (fun _ _ => trivial) ha hs).1
              rcases ho with ho | ⟨b, _, ho⟩
              · exact bare_non ho
              · simp [Cx.bare, ho]
          · rename_i hcond
            split at h
            · cases h
            · injection h with h; injection h with h1 h2; subst h1 h2
              obtain ⟨g1, g2⟩ := C.fn f args' Mem.empty v0 m0 hc
              refine ⟨g1, ?_⟩
              have hbs := shutL_used hs
              have SF := frz_sim S hbs
              have hargs := (shutL_relU (fun b => b ∈ usedL args) (cxN := (cx.frz (usedL args)).bare true) S (Nat.le_refl _) (fun blk hblk ho => by
                rcases ho with ho | ⟨b, hb, ho⟩
                · exact bare_non (frz_non ho)
                · exact bare_non (by simp [Cx.frz, ho, hb])) args args' cargs.toList (fun _ h => h) ha hs).1
              refine (g2 ((cx.frz (usedL args)).bare true) w cargs (bare_sim SF true) HiOk.empty hargs).mono ?_
              rintro e w' ⟨cv, cx', rfl, h3, S0, H0, E0⟩
              have hheap := bare_heap SF E0
              obtain ⟨S', E'⟩ := sim_grow SF E0.size hheap E0.os E0.tape E0.output
              have hlb0 : m0.lb ≤ 0 := by rw [E0.lb]; exact Nat.le_refl _
              refine ⟨cv, cx.frz (usedL args), rfl, ?_, S', frz_hiOk H _, (frz_ev S _).trans E' (Nat.le_refl _)⟩
              refine (shut_rel (cxN := cx.frz (usedL args)) S0 hlb0 (fun blk hblk ho => ?_) v0 v1 cv h3 hv).1
              rcases Nat.lt_or_ge blk w.heap.size with hlt | hge
              · cases hob : (cx.frz (usedL args)).own blk with
                | non => rfl
                | _ =>
                  have hp : ((cx.frz (usedL args)).bare true).own blk = .prot := by simp [Cx.bare, hob]
                  have := (E0.prot blk hp).2
                  rcases ho with ho | ⟨b, ho⟩ <;> rw [this] at ho <;> cases ho
              · exact SF.fresh blk hge
  · cases hc : call (.fn f) args { m with la := m.A.length, lb := m.B.length } with
    | none => simp [hc] at h
    | some r =>
      obtain ⟨v0, m0⟩ := r
      simp only [hc, Option.bind_some] at h
      cases hv : shut m0.B m.B.length v0 with
      | none => simp [hv] at h
      | some v1 =>
        simp only [hv, Option.map_some] at h
        injection h with h; injection h with h1 h2; subst h1 h2
        obtain ⟨g1, g2⟩ := C.fn f args _ v0 m0 hc
        refine ⟨g1, (g2 cx.held w cargs (held_sim S) ⟨H.A, H.B⟩ (VRelL.on (n := m.A.length) (held_later w) (fun _ _ _ h => h) _ _ (VRelL.maxA S.fa _ _ ha) ha)).mono ?_⟩
        rintro e w' ⟨cv, cx', rfl, h3, S0, H0, E0⟩
        obtain ⟨S', E'⟩ := sim_grow S E0.size (held_heap E0) E0.os E0.tape E0.output
        refine ⟨cv, cx, rfl, ?_, S', H, E'⟩
        refine (shut_rel (cxN := cx) S0 (by rw [E0.lb]; exact Nat.le_refl _) (fun blk hblk ho => ?_) v0 v1 cv h3 hv).1
        rcases Nat.lt_or_ge blk w.heap.size with hlt | hge
        · cases hob : cx.own blk with
          | non => rfl
          | _ =>
            have hp : cx.held.own blk = .prot := by simp [Cx.held, hob]
            have := (E0.prot blk hp).2
            rcases ho with ho | ⟨b, ho⟩ <;> rw [this] at ho <;> cases ho
        · exact S.fresh blk hge
end
end Go.Proofs.YtpdgbhjhodhkiaaGreatDoor.AI
