/- Calls: a function's contract out of the run of its body. -/
import Derived.Test.YtpdgbhjhodhkiaaGreatDoorS20
set_option linter.unusedVariables false
set_option linter.unusedSimpArgs false
namespace Go.Proofs.YtpdgbhjhodhkiaaGreatDoor.AI
open Go
variable {kp : Kp}

section
variable {P : Program}

/-- A mark is come to: its block is nobody's. -/
theorem drop_mark {cx0 cx : Cx} {m0 m : Mem} {w0 w : World} {D : Nat} (S0 : Sim kp cx0 m0 w0) (S : Sim kp cx m w) (E : Ev m0.A.length cx0 m0 w0 cx m w) (hD : cx.own D = .dm) (hlo : w0.heap.size ≤ D) (o : Obj) :
    ∃ cx', Sim kp cx' m (putO w D o) ∧ Ev m0.A.length cx0 m0 w0 cx' m (putO w D o) ∧ Later cx w cx' (putO w D o) ∧ cx'.fa = cx.fa ∧ (∀ c, c ≠ D → cx'.own c = cx.own c) := by
  have hown : ∀ c, c ≠ D → (cx.withOwn D .non).own c = cx.own c := fun c hc => by simp [Cx.withOwn, hc]
  have hheap : ∀ c, c ≠ D → (putO w D o).heap[c]? = w.heap[c]? := fun c hc => putO_other hc
  have L : Later cx w (cx.withOwn D .non) (putO w D o) := ⟨Nat.le_refl _, fun _ _ => ⟨Nat.le_refl _, fun _ => rfl⟩, fun _ _ h => h, fun c _ h => by
    have hc : c ≠ D := fun e => by subst e; rw [hD] at h; cases h
    exact ⟨hheap c hc, (hown c hc).trans h⟩, by rw [putO_size]; exact Nat.le_refl _⟩
  have hfa : ∀ i c, i < m.A.length → cx.fa i = some c → (cx.withOwn D .non).fa i = some c := fun _ _ _ h => h
  have ne : ∀ c, cx.own c ≠ .dm → c ≠ D := fun c h e => h (e ▸ hD)
  refine ⟨cx.withOwn D .non, ⟨fun i cs h c hc => ?_, S.fa, fun b x hb => ?_, S.nb, S.fo, fun c hc => ?_, S.la, S.lb, S.kpt L.zero⟩, ?_, L, rfl, hown⟩
  · obtain ⟨⟨arr, t, h1, h2⟩, h3⟩ := S.A i cs h c hc
    have hc' : c ≠ D := ne c (by rw [h3]; unfold ownA; split <;> simp)
    exact ⟨⟨arr, t, (hheap c hc').trans h1, VRelL.on L hfa cs _ (VRelL.maxA S.fa _ _ h2) h2⟩, (hown c hc').trans h3⟩
  · have hx := S.B b x hb
    cases x with
    | cells sz ver pu fz cs =>
      simp only [BOk] at hx ⊢
      obtain ⟨h1, h2, h3, h4, arr, t, h5, h6, h7, h8⟩ := hx
      have hc' : (cx.fb b).1 ≠ D := ne _ (by rw [h3]; unfold ownB; split <;> (try split) <;> simp)
      exact ⟨h1, h2, (hown _ hc').trans h3, h4, arr, t, (hheap _ hc').trans h5, h6, h7, VRelL.on L hfa cs _ (VRelL.maxA S.fa _ _ h8) h8⟩
    | map es =>
      simp only [BOk] at hx ⊢
      obtain ⟨c, fs, clk, h1, h2, h3, h4⟩ := hx
      have hc' : c ≠ D := ne _ (by rw [h4]; unfold ownO; split <;> simp)
      exact ⟨c, fs, clk, h1, (hheap _ hc').trans h2, EsRel.on L hfa es _ (EsRel.maxA S.fa _ _ h3) h3, (hown _ hc').trans h4⟩
    | loop s p tm ps as bo =>
      simp only [BOk] at hx ⊢
      obtain ⟨c, fn, D', tmps, h1, h2, h3, h4⟩ := hx
      have hc' : c ≠ D := ne _ (by rw [h4]; unfold ownO; split <;> simp)
      exact ⟨c, fn, D', tmps, h1, (hheap _ hc').trans h2, VRelL.on L hfa tm _ (VRelL.maxA S.fa _ _ h3) h3, (hown _ hc').trans h4⟩
  · simp only [Cx.withOwn]
    split
    · rfl
    · rw [putO_size] at hc
      exact S.fresh c hc
  · have key : ∀ c, c < w0.heap.size → c ≠ D := fun c hc => by omega
    exact { E with
      non := fun c hc h => ⟨(hheap c (key c hc)).trans (E.non c hc h).1, (hown c (key c hc)).trans (E.non c hc h).2⟩
      prot := fun c h => by
        have hc := S0.lt_own (c := c) (by rw [h]; simp)
        exact ⟨(hheap c (key c hc)).trans (E.prot c h).1, (hown c (key c hc)).trans (E.prot c h).2⟩
      dm := fun c h => by
        have hc := S0.lt_own (c := c) (by rw [h]; simp)
        exact ⟨(hheap c (key c hc)).trans (E.dm c h).1, (hown c (key c hc)).trans (E.dm c h).2⟩
      size := by rw [putO_size]; exact E.size }

theorem DfRel.below {lo : Nat} {cx cx' : Cx} {w w' : World} {D : Nat} (L : Later cx w cx' w') {n : Nat} (hfa : ∀ i c, i < n → cx.fa i = some c → cx'.fa i = some c) (hmax : ∀ (x : V) (v : Value), VRel cx w x v → V.maxA x ≤ n)
    (hdm : ∀ c, c ≠ D → w'.heap[c]? = w.heap[c]? ∧ cx'.own c = cx.own c) : ∀ (ds : List Deferred) (df : List (TypeId × V × V)), (∀ d' ∈ ds, ∀ D', d'.target = .collected D' → D' < D) → DfRel lo cx w df ds → DfRel lo cx' w' df ds
  | [], df, _, h => h
  | d :: ds, df, hlt, h => by
    simp only [DfRel] at h ⊢
    have hlt' : ∀ d' ∈ ds, ∀ D', d'.target = .collected D' → D' < D := fun d' hd' => hlt d' (List.mem_cons_of_mem _ hd')
    rcases h with ⟨D1, h1, h2, h3, hlo, h4⟩ | ⟨t, x, k, rest, ts, ty, cs, vx, vk, h1, h2, h3, h4, h5, h6⟩
    · have := hlt d (List.mem_cons_self ..) D1 (by rw [h1])
      have hk := hdm D1 (by omega)
      exact .inl ⟨D1, h1, hk.2.trans h2, hk.1.trans h3, hlo, DfRel.below L hfa hmax hdm ds df hlt' h4⟩
    · exact .inr ⟨t, x, k, rest, ts, ty, cs, vx, vk, h1, h2, h3, VRel.on L hfa x vx (hmax x vx h4) h4, VRel.on L hfa k vk (hmax k vk h5) h5, DfRel.below L hfa hmax hdm ds rest hlt' h6⟩

theorem leaves_sound {fn : Func} {tm : List V} {tmps : Array Value} {R : Ending → World → Prop} {cx0 : Cx} {m0 m1 : Mem} {w0 : World} {vs : List V} (S0 : Sim kp cx0 m0 w0) (hres : resultsV P m1 tm fn.results.toList = some vs)
    (hR : ∀ cx1 w1 v, Sim kp cx1 m1 w1 → HiOk m1 → Ev m0.A.length cx0 m0 w0 cx1 m1 w1 → VRel cx1 w1 (tupV vs) v → R (.returned v) w1) :
    ∀ (ds : List Deferred) (df : List (TypeId × V × V)) (cx : Cx) (m : Mem) (w : World), Sim kp cx m w → HiOk m → Ev m0.A.length cx0 m0 w0 cx m w → VRelL cx w tm tmps.toList → DfRel w0.heap.size cx w df ds → runDf P df m = some m1 → LeavesB P fn tmps R ds w
  | [], df, cx, m, w, S, H, E, ht, hd, hr => by
    simp only [DfRel] at hd
    subst hd
    simp only [runDf] at hr
    injection hr with hr
    subst hr
    obtain ⟨v, h1, h2⟩ := results_sound S ht hres
    exact ⟨v, h1, hR cx w v S H E h2⟩
  | d :: ds, df, cx, m, w, S, H, E, ht, hd, hr => by
    simp only [DfRel] at hd
    rcases hd with ⟨D, h1, h2, h3, ⟨hlo, hlt⟩, h4⟩ | ⟨t, x, k, rest, ts, ty, cs, vx, vk, h1, h2, h3, h4, h5, h6⟩
    · obtain ⟨cx', S', E', L, hfa, hown⟩ := drop_mark S0 S E h2 hlo (.deferred none)
      refine .inl ⟨D, _, by rw [h1], run_takeDeferred h3, ?_⟩
      refine leaves_sound S0 hres hR ds df cx' m _ S' H E' ?_ ?_ hr
      · exact VRelL.on L (n := m.A.length) (fun i c _ hc => by rw [hfa]; exact hc) _ _ (VRelL.maxA S.fa _ _ ht) ht
      · exact DfRel.below (D := D) L (n := m.A.length) (fun i c _ hc => by rw [hfa]; exact hc) (fun x v hv => VRel.maxA S.fa x v hv) (fun c hc => ⟨putO_other hc, hown c hc⟩) ds df hlt h4
    · subst h1
      simp only [runDf] at hr
      obtain ⟨m2, hm2, hr⟩ := Option.bind_eq_some_iff.1 hr
      obtain ⟨w2, g1, g2, g3⟩ := delete_sound S ts h3 ty h4 h5 hm2
      have hH : HiOk m2 := builtin_hi (b := .delete) (ts := [t]) (args := [x, k]) (v := .tup []) H (P := P) (by simp [builtinV, hm2])
      refine .inr ⟨.delete, ts, ty, cs, .tuple #[], w2, by rw [h2], ?_, ?_⟩
      · rw [h2]
        simp only [invoke, builtin, Sem.run_bind, g1, Result.andThen_ok, Sem.run_pure]
      · exact leaves_sound S0 hres hR ds rest cx m2 w2 g2 hH (E.trans g3 E.ln) (g3.vals S ht) (g3.dfs S h6) hr
end
end Go.Proofs.YtpdgbhjhodhkiaaGreatDoor.AI
