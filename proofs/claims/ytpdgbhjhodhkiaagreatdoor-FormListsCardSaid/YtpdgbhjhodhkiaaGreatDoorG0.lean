/- From the machine's arguments to the interpreter's, and back: nothing has changed. For every seat. -/
import Derived.Test.YtpdgbhjhodhkiaaGreatDoorS23
import Derived.Test.YtpdgbhjhodhkiaaGreatDoorW12
import Derived.ProofKit
import Derived.OpenShut
import Derived.WideKeyArgs
set_option linter.unnecessarySimpa false
set_option linter.unusedVariables false
set_option linter.unusedSimpArgs false
namespace Go.Proofs.YtpdgbhjhodhkiaaGreatDoor.AI
open Go Go.Proofs Go.ChangeShapes Go.WideShapes Go.ChangeAt Go.RowKit

/-- Nothing belongs to the call. -/
def cx0 : Cx := { fa := fun _ => none, fb := fun _ => (0, 0, 0), vb := fun _ => 0, nb := 0, fo := fun _ => none, own := fun _ => .non }
theorem sim_start {kp : Kp} {w : World} (h : ∀ c o, kp c = some o → w.heap[c]? = some o) : Sim kp cx0 Mem.empty w where
  A := fun i cs h => by simp [Mem.empty] at h
  fa := fun i c h => by cases h
  B := fun b x h => by simp [Mem.empty] at h
  nb := rfl
  fo := fun b c h => by cases h
  fresh := fun c _ => rfl
  la := Nat.le_refl _
  lb := Nat.le_refl _
  kept := fun c o hk => ⟨by
    have := h c o hk
    exact (Array.getElem?_eq_some_iff.1 this).1, rfl, h c o hk⟩
theorem hi_start : HiOk Mem.empty := ⟨fun i cs h => by simp [Mem.empty] at h, fun b x h => by simp [Mem.empty] at h⟩
/-- The world behind: what was there is as it was. -/
structure Stay (w w' : World) : Prop where
  size : w.heap.size ≤ w'.heap.size
  heap : ∀ c, c < w.heap.size → w'.heap[c]? = w.heap[c]?
  os : w'.os = w.os
  output : w'.output = w.output
/-- What is shown of a call by the interpreter holds of the machine. -/
theorem calls_of {T : Nat → Type} {C : Cod T} {kp : Kp} {cfg : Cfg} (Xt : ExtOk kp cfg) (hm : cfg.P.follows .mixedOrders = true) (hok : OkOk cfg) {f : FuncId} {ws : List (W T)} (h : PurSaid cfg C f ws (.bool true)) {vs : List V} (hr : RepL C [] [] ws vs)
    {w : World} {cargs : Array Value} (hk : ∀ c o, kp c = some o → w.heap[c]? = some o) (ha : VRelL cx0 w vs cargs.toList) : Calls cfg.P f cargs w fun e w' => e = .returned (.bool true) ∧ Stay w w' := by
  obtain ⟨v, h1, h2⟩ := h hr
  simp only [Rep] at h2
  subst h2
  unfold pres at h1
  obtain ⟨⟨v0, m'⟩, h3, h4⟩ := Option.bind_eq_some_iff.1 h1
  have hv : v0 = .bool true := by
    simp only at h4
    cases v0 <;> simp only [shut] at h4 <;> first | (split at h4 <;> first | (injection h4; done) | skip) | skip
    all_goals first | (obtain ⟨_, _, h5⟩ := Option.map_eq_some_iff.1 h4; cases h5; done) | skip
    all_goals first | (injection h4 with h4; exact h4) | skip
    all_goals first | (split at h4 <;> first | (obtain ⟨_, _, h5⟩ := Option.map_eq_some_iff.1 h4; cases h5; done) | cases h4) | skip
    all_goals cases h4
  subst hv
  have hc := ((callW_ok Xt hm hok).fn f vs Mem.empty (.bool true) m' h3).2 cx0 w cargs (sim_start hk) hi_start ha
  refine (callsIn_wide.1 hc).mono fun e w' he => ?_
  obtain ⟨cv, cx', rfl, hcv, _, _, E⟩ := he
  simp only [VRel] at hcv
  subst hcv
  exact ⟨rfl, E.size, fun c hc => (E.non c hc rfl).1, E.os, E.output⟩

/-! ### Arguments are as they were -/
section
variable {H : Type} {enc : TypeId × Value → H} {P : Program}
theorem stay_kept {w w' : World} (S : Stay w w') (may : MemPlace → Prop) : w.keptBut w' may := by
  refine ⟨S.os, S.output, fun i hi => ?_⟩
  rw [S.heap i hi]
  split
  · rename_i h1 h2
    rw [h1] at h2; injection h2 with h2; injection h2 with a b c
    subst a b c
    exact ⟨rfl, rfl, rfl, fun _ _ => rfl⟩
  · rename_i h1 h2
    rw [h1] at h2; injection h2 with h2; injection h2 with a b
    subst a b
    exact .inr ⟨rfl, rfl⟩
  · rfl
theorem stay_same {w w' : World} (S : Stay w w') {p : MemPlace} (hp : p.block < w.heap.size) : w.sameAt w' p := by
  cases p with
  | cell b off =>
    have := S.heap b hp
    simp only [World.sameAt, World.cell?, this]
  | map b =>
    have := S.heap b hp
    simp only [World.sameAt, this]
theorem trodAll_stay {w w' : World} (S : Stay w w') (hl : laidOutB P = true) : ∀ {ts : List TypeId} {vs : List Value} {ds : List (DataW H)} {ps : List MemPlace}, (ts.all fun t => P.readableRec t && decide (t < P.types.size)) = true →
    DataW.TrodAll enc P w 0 (fun _ => true) true ts vs ds ps → (∀ p ∈ ps, p.block < w.heap.size) → ∀ sp : Nat → Bool, (∀ p ∈ ps, sp p.block = true) → DataW.TrodAll enc P w' 0 sp true ts vs ds ps
  | [], vs, ds, ps, _, h, _, sp, _ => by
    cases vs <;> cases ds <;> first | exact h | exact h.elim
  | t :: ts, vs, ds, ps, hts, h, hlt, sp, hsp => by
    simp only [List.all_cons, Bool.and_eq_true, decide_eq_true_eq] at hts
    cases vs <;> cases ds <;> first | exact h.elim | skip
    obtain ⟨p, q, h1, h2, rfl⟩ := h
    refine ⟨p, q, ?_, trodAll_stay S hl (by simpa using hts.2) h2 (fun x hx => hlt x (by simp [hx])) sp (fun x hx => hsp x (by simp [hx])), rfl⟩
    exact WideElems.Trod_stays hl hts.1.1 hts.1.2 h1 (fun x hx => stay_same S (hlt x (by simp [hx]))) (fun x hx => hsp x (by simp [hx]))
/-- A law's claim: true, and each argument reads as it did. -/
theorem law_post {f : Func} {s : ChangeSpec} {w w' : World} {args : Array Value} {ds gs : List (DataW H)} {before : List MemPlace} (hl : laidOutB P = true) (hts : (f.params.toList.all fun t => P.readableRec t && decide (t < P.types.size)) = true)
    (hW : DataW.Whole enc P f.params.toList s.vars false w args.toList ds gs before) (S : Stay w w') (hv : s.vars = []) (hr : f.resultTypes = #[4]) (hb : P.underlying 4 = some .bool)
    (hs : s.fn H ds = { results := [.lit (.bool true)], args := ds }) : s.post enc P f false true false false w args (.bool true) w' := by
  have hlt := hW.lt
  obtain ⟨p, q, hA, hV, rfl, hz, hn⟩ := id hW
  rw [hv] at hV
  obtain ⟨rfl, rfl⟩ := trodVars_none hV
  have hg : s.fn H (ds ++ []) = { results := [.lit (.bool true)], args := ds } := by rw [List.append_nil]; exact hs
  refine ⟨ds, [], p ++ [], [], p, [], hW, ?_, ?_, ?_, stay_kept S _, fun h => by cases h⟩
  · rw [hg, hr]
    exact trodAll_mk1 ⟨1, by simp [DataW.trod, Value.cells, hb]⟩
  · rw [hg]
    exact trodAll_stay S hl hts hA (fun x hx => hlt x (by simp [hx])) _ (fun x hx => by simpa using hlt x (by simp [hx]))
  · rw [hg, hv]
    exact rfl
end

/-! ### Reading -/
section
variable {H : Type} {enc : TypeId × Value → H} {P : Program} {w : World} {spare : Nat → Bool} {held : Bool}
/-- Values of one make, one behind the other. -/
def RVL {X : Type} (Q : X → List V → Prop) : List X → List V → Prop
  | [], cs => cs = []
  | x :: l, cs => ∃ c1 c2, cs = c1 ++ c2 ∧ Q x c1 ∧ RVL Q l c2
theorem mapM_range_get {X : Type} {g : Nat → Option X} {n : Nat} {l : List X} (h : (List.range n).mapM g = some l) : l.length = n ∧ ∀ i, i < n → g i = l[i]? := by
  have h1 := mapM_some_length h
  simp only [List.length_range] at h1
  refine ⟨h1, fun i hi => ?_⟩
  exact mapM_some_get h i i (by simp [hi])
theorem rowRel_app {cx : Cx} : ∀ {a b : List V} {blk o : Nat}, RowRel cx w a blk o → RowRel cx w b blk (o + a.length) → RowRel cx w (a ++ b) blk o
  | [], b, blk, o, _, h => by simpa using h
  | x :: a, b, blk, o, h, h' => by
    simp only [RowRel, List.cons_append] at h ⊢
    refine ⟨h.1, h.2.1, rowRel_app h.2.2 ?_⟩
    rw [List.length_cons] at h'
    rw [show o + 1 + a.length = o + (a.length + 1) by omega]
    exact h'
/-- Cells that stand for values, as a row. -/
theorem rowRel_of {cx : Cx} {blk : Nat} : ∀ {vs : List V} {cs : List Value} {o : Nat}, pureL vs = true → VRelL cx w vs cs → (∀ i, i < cs.length → w.cell? ⟨blk, o + i, none⟩ = cs[i]?) → RowRel cx w vs blk o
  | [], _, _, _, _, _ => by simp only [RowRel]
  | v :: vs, [], _, _, h, _ => by simp [VRelL] at h
  | v :: vs, c :: cs, o, hp, h, hc => by
    simp only [VRelL] at h
    simp only [pureL, Bool.and_eq_true] at hp
    simp only [RowRel]
    refine ⟨hp.1, ⟨c, by simpa using hc 0 (by simp), h.1⟩, rowRel_of hp.2 h.2 fun i hi => ?_⟩
    have := hc (i + 1) (by simp; omega)
    rw [show o + 1 + i = o + (i + 1) by omega, this]
    simp
/-- A slice of elements that are read. -/
theorem read_slice {X : Type} {Q : X → List V → Prop} {t e : TypeId} {sz : Nat} (ht : P.underlying t = some (.slice e)) (hsz : P.cellsOf e = sz) (hpos : 0 < sz) (hQ : ∀ x c, Q x c → c.length = sz ∧ pureL c = true) {fuel : Nat} {cs : List Value} {x : DataW H × List MemPlace}
    (h : DataW.trod enc P w 0 spare held fuel t cs = some x) (hel : ∀ n, n < fuel → ∀ cs y, DataW.trod enc P w 0 spare held n e cs = some y → ∃ (z : X) (vs : List V), Q z vs ∧ VRelL cx0 w vs cs) :
    ∃ (l : List X) (kc : List V) (fl : Bool), RVL Q l kc ∧ ∃ c, cs = [c] ∧ VRel cx0 w (.ro kc l.length fl) c := by
  rcases DataW.trod_slice ht h with ⟨rfl, _⟩ | ⟨a, len, cap, elems, rest, n, hn, rfl, _, _, hlc, _, hlen, hget, _, _⟩
  · refine ⟨[], [], true, rfl, _, rfl, ?_⟩
    simp only [VRel]
    exact ⟨none, 0, rfl, Nat.le_refl _, (fun _ => rfl), .inl (by first | rfl | trivial)⟩
  · -- the elements, from one on
    have key : ∀ k i, i + k = len → ∃ (l : List X) (kc : List V), l.length = k ∧ RVL Q l kc ∧ kc.length = k * sz ∧ pureL kc = true ∧ (0 < k → a.spot = none ∨ 0 < i) ∧ RowRel cx0 w kc a.block (a.off + i * sz) := by
      intro k
      induction k with
      | zero => intro i _; exact ⟨[], [], rfl, rfl, by simp, rfl, fun h => absurd h (by omega), by simp only [RowRel]⟩
      | succ k ih =>
        intro i hi
        obtain ⟨l, kc, h1, h2, h3, h4, _, h5⟩ := ih (i + 1) (by omega)
        have hg := hget i (by omega)
        rw [List.getElem?_eq_getElem (by omega)] at hg
        obtain ⟨ecs, hc, hd⟩ := Option.bind_eq_some_iff.1 hg
        obtain ⟨z, vs, q1, q2⟩ := hel n (by omega) _ _ hd
        obtain ⟨q3, q4⟩ := hQ _ _ q1
        rw [hsz] at hc
        unfold World.cells? at hc
        rw [if_pos (Nat.zero_le _)] at hc
        obtain ⟨g1, g2⟩ := mapM_range_get hc
        have hspot : a.spot = none ∨ 0 < i := by
          by_cases h0 : i = 0
          · subst h0
            left
            have := g2 0 hpos
            rw [List.getElem?_eq_getElem (by omega)] at this
            simp only [Nat.zero_mul, Addr.add, if_true] at this
            unfold World.cell? at this
            split at this
            · split at this
              · cases this
              · rename_i hs; simpa using hs
            · cases this
          · right; omega
        refine ⟨z :: l, vs ++ kc, by simp [h1], ⟨vs, kc, rfl, q1, h2⟩, by rw [List.length_append, q3, h3, Nat.succ_mul]; omega, ?_, fun _ => hspot, ?_⟩
        · rw [pureL_append, q4, h4]; rfl
        · refine rowRel_app (rowRel_of q4 q2 fun j hj => ?_) ?_
          · have := g2 j (by omega)
            rw [← this]
            congr 1
            unfold Addr.add
            by_cases h0 : i * sz = 0
            · rw [if_pos h0, h0, Nat.add_zero]
              have hi0 : i = 0 := by
                rcases Nat.mul_eq_zero.1 h0 with h | h
                · exact h
                · omega
              have hs : a.spot = none := by
                rcases hspot with h | h
                · exact h
                · omega
              by_cases hj0 : j = 0
              · rw [if_pos hj0, hj0, Nat.add_zero, ← hs]
              · rw [if_neg hj0]
            · rw [if_neg h0]
              by_cases hj0 : j = 0
              · rw [if_pos hj0, hj0, Nat.add_zero]
              · rw [if_neg hj0]
          · rw [q3, show a.off + i * sz + sz = a.off + (i + 1) * sz by rw [Nat.succ_mul]; omega]
            exact h5
    obtain ⟨l, kc, h1, h2, h3, h4, hs, h5⟩ := key len 0 (by omega)
    refine ⟨l, kc, false, h2, _, rfl, ?_⟩
    simp only [VRel]
    refine ⟨some a, cap, by rw [h1], by omega, (fun h => by cases h), ?_⟩
    by_cases h0 : len = 0
    · left
      subst h0
      exact List.eq_nil_of_length_eq_zero (by rw [h3]; simp)
    · right
      have hsp : a.spot = none := by
        rcases hs (by omega) with h | h
        · exact h
        · omega
      refine ⟨a.block, a.off, by cases a; simp_all, ?_, rfl, by simpa using h5⟩
      -- the block is there
      cases kc with
      | nil =>
        simp only [List.length_nil] at h3
        rcases Nat.mul_eq_zero.1 h3.symm with h | h <;> omega
      | cons y kc =>
        simp only [RowRel] at h5
        obtain ⟨_, ⟨c, hc, _⟩, _⟩ := h5
        unfold World.cell? at hc
        split at hc
        · rename_i hh
          exact (Array.getElem?_eq_some_iff.1 hh).1
        · cases hc
end
end Go.Proofs.YtpdgbhjhodhkiaaGreatDoor.AI
