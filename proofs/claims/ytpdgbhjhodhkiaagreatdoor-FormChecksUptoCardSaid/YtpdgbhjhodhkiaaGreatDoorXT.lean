/- Arguments read, the row, the world of the witness. -/
import Derived.Test.YtpdgbhjhodhkiaaGreatDoorXB
import Derived.Test.YtpdgbhjhodhkiaaGreatDoorXD
import Derived.ProofKit
import Derived.OpenShut
import Derived.WideKeyArgs
import Derived.Test.YtpdgbhjhodhkiaaGreatDoorXF
import Derived.Test.YtpdgbhjhodhkiaaGreatDoorXL
import Derived.Test.YtpdgbhjhodhkiaaGreatDoorRows
import Derived.Test.YtpdgbhjhodhkiaaGreatDoorXS
import Derived.Lib.LaidU8T
import Derived.Lib.LaidTab
import Derived.WalkKit
import Derived.OwnWalk
import Derived.Laws.AppendOwn
import Derived.Lib.SliceRun
import Derived.Deep.LoopGhost
import Derived.Lib.Walk
import Derived.Shelf.RegionOpenPlain
import Derived.Test.YtpdgbhjhodhkiaaGreatDoorXH
import Derived.Test.YtpdgbhjhodhkiaaGreatDoorCards
import Derived.Test.YtpdgbhjhodhkiaaGreatDoorTie
import Derived.Deep.DeepHandedRow
import Derived.Deep.DeepWitnessRowRef
import Derived.Lay
import Derived.MakeChecks
set_option linter.unnecessarySimpa false
set_option linter.unusedVariables false
set_option linter.unusedSimpArgs false
namespace Go.Proofs.YtpdgbhjhodhkiaaGreatDoor.AI
open Go Go.Proofs Go.ChangeShapes Go.WideShapes Go.ChangeAt Go.RowKit
def cx0 : Cx := { fa := fun _ => none, fb := fun _ => (0, 0, 0), vb := fun _ => 0, nb := 0, fo := fun _ => none, own := fun _ => .non }
theorem sim_start {kp : Kp} {w : World} (h : ∀ c o, kp c = some o → w.heap[c]? = some o) : Sim kp cx0 Mem.empty w where
 A := fun i cs h => by simp [Mem.empty] at h
 fa := fun i c h => by cases h
 B := fun b x h => by simp [Mem.empty] at h
 nb := rfl
 fo := fun b c h => by cases h
 fresh := fun c _ => rfl
 la := Nat.le_refl _
 lb := Nat.le_refl _
 kept := fun c o hk => ⟨by
  have := h c o hk
  exact (Array.getElem?_eq_some_iff.1 this).1, rfl, h c o hk⟩
theorem hi_start : HiOk Mem.empty := ⟨fun i cs h => by simp [Mem.empty] at h, fun b x h => by simp [Mem.empty] at h⟩
structure Stay (w w' : World) : Prop where
 size : w.heap.size ≤ w'.heap.size
 heap : ∀ c, c < w.heap.size → w'.heap[c]? = w.heap[c]?
 os : w'.os = w.os
 output : w'.output = w.output
theorem calls_of {T : Nat → Type} {C : Cod T} {kp : Kp} {cfg : Cfg} (Xt : ExtOk kp cfg) (hm : cfg.P.follows .mixedOrders = true) (hok : OkOk cfg) {f : FuncId} {ws : List (W T)} (h : PurSaid cfg C f ws (.bool true)) {vs : List V} (hr : RepL C [] [] ws vs)
  {w : World} {cargs : Array Value} (hk : ∀ c o, kp c = some o → w.heap[c]? = some o) (ha : VRelL cx0 w vs cargs.toList) : Calls cfg.P f cargs w fun e w' => e = .returned (.bool true) ∧ Stay w w' := by
 obtain ⟨v, h1, h2⟩ := h hr
 simp only [Rep] at h2
 subst h2
 unfold pres at h1
 obtain ⟨⟨v0, m'⟩, h3, h4⟩ := Option.bind_eq_some_iff.1 h1
 have hv : v0 = .bool true := by
  simp only at h4
  cases v0 <;> simp only [shut] at h4 <;> first | (split at h4 <;> first | (injection h4; done) | skip) | skip
  all_goals first | (obtain ⟨_, _, h5⟩ := Option.map_eq_some_iff.1 h4; cases h5; done) | skip
  all_goals first | (injection h4 with h4; exact h4) | skip
  all_goals first | (split at h4 <;> first | (obtain ⟨_, _, h5⟩ := Option.map_eq_some_iff.1 h4; cases h5; done) | cases h4) | skip
  all_goals cases h4
 subst hv
 have hc := ((callW_ok Xt hm hok).fn f vs Mem.empty (.bool true) m' h3).2 cx0 w cargs (sim_start hk) hi_start ha
 refine (callsIn_wide.1 hc).mono fun e w' he => ?_
 obtain ⟨cv, cx', rfl, hcv, _, _, E⟩ := he
 simp only [VRel] at hcv
 subst hcv
 exact ⟨rfl, E.size, fun c hc => (E.non c hc rfl).1, E.os, E.output⟩
section
variable {H : Type} {enc : TypeId × Value → H} {P : Program}
theorem stay_kept {w w' : World} (S : Stay w w') (may : MemPlace → Prop) : w.keptBut w' may := by
 refine ⟨S.os, S.output, fun i hi => ?_⟩
 rw [S.heap i hi]
 split
 ·rename_i h1 h2
  rw [h1] at h2; injection h2 with h2; injection h2 with a b c
  subst a b c
  exact ⟨rfl, rfl, rfl, fun _ _ => rfl⟩
 ·rename_i h1 h2
  rw [h1] at h2; injection h2 with h2; injection h2 with a b
  subst a b
  exact .inr ⟨rfl, rfl⟩
 ·rfl
theorem stay_same {w w' : World} (S : Stay w w') {p : MemPlace} (hp : p.block < w.heap.size) : w.sameAt w' p := by
 cases p with
 | cell b off =>
  have := S.heap b hp
  simp only [World.sameAt, World.cell?, this]
 | map b =>
  have := S.heap b hp
  simp only [World.sameAt, this]
theorem trodAll_stay {w w' : World} (S : Stay w w') (hl : laidOutB P = true) : ∀ {ts : List TypeId} {vs : List Value} {ds : List (DataW H)} {ps : List MemPlace}, (ts.all fun t => P.readableRec t && decide (t < P.types.size)) = true →
  DataW.TrodAll enc P w 0 (fun _ => true) true ts vs ds ps → (∀ p ∈ ps, p.block < w.heap.size) → ∀ sp : Nat → Bool, (∀ p ∈ ps, sp p.block = true) → DataW.TrodAll enc P w' 0 sp true ts vs ds ps
 | [], vs, ds, ps, _, h, _, sp, _ => by
  cases vs <;> cases ds <;> first | exact h | exact h.elim
 | t :: ts, vs, ds, ps, hts, h, hlt, sp, hsp => by
  simp only [List.all_cons, Bool.and_eq_true, decide_eq_true_eq] at hts
  cases vs <;> cases ds <;> first | exact h.elim | skip
  obtain ⟨p, q, h1, h2, rfl⟩ := h
  refine ⟨p, q, ?_, trodAll_stay S hl (by simpa using hts.2) h2 (fun x hx => hlt x (by simp [hx])) sp (fun x hx => hsp x (by simp [hx])), rfl⟩
  exact WideElems.Trod_stays hl hts.1.1 hts.1.2 h1 (fun x hx => stay_same S (hlt x (by simp [hx]))) (fun x hx => hsp x (by simp [hx]))
theorem law_post {f : Func} {s : ChangeSpec} {w w' : World} {args : Array Value} {ds gs : List (DataW H)} {before : List MemPlace} (hl : laidOutB P = true) (hts : (f.params.toList.all fun t => P.readableRec t && decide (t < P.types.size)) = true)
  (hW : DataW.Whole enc P f.params.toList s.vars false w args.toList ds gs before) (S : Stay w w') (hv : s.vars = []) (hr : f.resultTypes = #[4]) (hb : P.underlying 4 = some .bool)
  (hs : s.fn H ds = { results := [.lit (.bool true)], args := ds }) : s.post enc P f false true false false w args (.bool true) w' := by
 have hlt := hW.lt
 obtain ⟨p, q, hA, hV, rfl, hz, hn⟩ := id hW
 rw [hv] at hV
 obtain ⟨rfl, rfl⟩ := trodVars_none hV
 have hg : s.fn H (ds ++ []) = { results := [.lit (.bool true)], args := ds } := by rw [List.append_nil]; exact hs
 refine ⟨ds, [], p ++ [], [], p, [], hW, ?_, ?_, ?_, stay_kept S _, fun h => by cases h⟩
 ·rw [hg, hr]
  exact trodAll_mk1 ⟨1, by simp [DataW.trod, Value.cells, hb]⟩
 ·rw [hg]
  exact trodAll_stay S hl hts hA (fun x hx => hlt x (by simp [hx])) _ (fun x hx => by simpa using hlt x (by simp [hx]))
 ·rw [hg, hv]
  exact rfl
end
section
variable {H : Type} {enc : TypeId × Value → H} {P : Program} {w : World} {spare : Nat → Bool} {held : Bool}
theorem mapM_range_get {X : Type} {g : Nat → Option X} {n : Nat} {l : List X} (h : (List.range n).mapM g = some l) : l.length = n ∧ ∀ i, i < n → g i = l[i]? := by
 have h1 := mapM_some_length h
 simp only [List.length_range] at h1
 refine ⟨h1, fun i hi => ?_⟩
 exact mapM_some_get h i i (by simp [hi])
theorem rowRel_app {cx : Cx} : ∀ {a b : List V} {blk o : Nat}, RowRel cx w a blk o → RowRel cx w b blk (o + a.length) → RowRel cx w (a ++ b) blk o
 | [], b, blk, o, _, h => by simpa using h
 | x :: a, b, blk, o, h, h' => by
  simp only [RowRel, List.cons_append] at h ⊢
  refine ⟨h.1, h.2.1, rowRel_app h.2.2 ?_⟩
  rw [List.length_cons] at h'
  rw [show o + 1 + a.length = o + (a.length + 1) by omega]
  exact h'
theorem rowRel_of {cx : Cx} {blk : Nat} : ∀ {vs : List V} {cs : List Value} {o : Nat}, pureL vs = true → VRelL cx w vs cs → (∀ i, i < cs.length → w.cell? ⟨blk, o + i, none⟩ = cs[i]?) → RowRel cx w vs blk o
 | [], _, _, _, _, _ => by simp only [RowRel]
 | v :: vs, [], _, _, h, _ => by simp [VRelL] at h
 | v :: vs, c :: cs, o, hp, h, hc => by
  simp only [VRelL] at h
  simp only [pureL, Bool.and_eq_true] at hp
  simp only [RowRel]
  refine ⟨hp.1, ⟨c, by simpa using hc 0 (by simp), h.1⟩, rowRel_of hp.2 h.2 fun i hi => ?_⟩
  have := hc (i + 1) (by simp; omega)
  rw [show o + 1 + i = o + (i + 1) by omega, this]
  simp
end
end Go.Proofs.YtpdgbhjhodhkiaaGreatDoor.AI
set_option maxRecDepth 100000
namespace Go.Proofs.YtpdgbhjhodhkiaaGreatDoor.AI
open Go Go.Proofs Go.ChangeShapes Go.WideShapes Go.ChangeAt Go.RowKit Go.ChangeMaps
theorem cells24 : Tryz.prog.cellsOf 24 = 4 := by kernel_rfl
theorem cells3 : Tryz.prog.cellsOf 3 = 1 := by kernel_rfl
theorem cells9 : Tryz.prog.cellsOf 9 = 1 := by kernel_rfl
theorem cells22 : Tryz.prog.cellsOf 22 = 1 := by kernel_rfl
section
variable {H : Type} {enc : TypeId × Value → H} {P : Program} {w : World} {spare : Nat → Bool} {held : Bool}
def RVLD {X : Type} (Q : X → List V → DataW H → Prop) : List X → List V → List (DataW H) → Prop
 | [], cs, ds => cs = [] ∧ ds = []
 | x :: l, cs, ds => ∃ c1 c2 d ds', cs = c1 ++ c2 ∧ ds = d :: ds' ∧ Q x c1 d ∧ RVLD Q l c2 ds'
theorem read_sliceD {X : Type} {Q : X → List V → DataW H → Prop} {t e : TypeId} {sz : Nat} (ht : P.underlying t = some (.slice e)) (hsz : P.cellsOf e = sz) (hpos : 0 < sz) (hQ : ∀ x c d, Q x c d → c.length = sz ∧ pureL c = true) {fuel : Nat} {cs : List Value} {x : DataW H × List MemPlace}
  (h : DataW.trod enc P w 0 spare held fuel t cs = some x) (hel : ∀ n, n < fuel → ∀ cs y, DataW.trod enc P w 0 spare held n e cs = some y → ∃ (z : X) (vs : List V), Q z vs y.1 ∧ VRelL cx0 w vs cs) :
  ∃ (l : List X) (kc : List V) (fl : Bool) (ds : List (DataW H)), RVLD Q l kc ds ∧ (∃ c, cs = [c] ∧ VRel cx0 w (.ro kc l.length fl) c) ∧ ((x.1 = .nil ∧ ds = []) ∨ ∃ sp, x.1 = .slice ds sp) := by
 rcases DataW.trod_slice ht h with ⟨rfl, hx0⟩ | ⟨a, len, cap, elems, rest, n, hn, rfl, hx0, _, hlc, _, hlen, hget, _, _⟩
 ·refine ⟨[], [], true, [], ⟨rfl, rfl⟩, ⟨_, rfl, ?_⟩, .inl ⟨by rw [hx0], rfl⟩⟩
  simp only [VRel]
  exact ⟨none, 0, rfl, Nat.le_refl _, (fun _ => rfl), .inl (by first | rfl | trivial)⟩
 ·
  have key : ∀ k i, i + k = len → ∃ (l : List X) (kc : List V), l.length = k ∧ RVLD Q l kc ((elems.drop i).map (·.1)) ∧ kc.length = k * sz ∧ pureL kc = true ∧ (0 < k → a.spot = none ∨ 0 < i) ∧ RowRel cx0 w kc a.block (a.off + i * sz) := by
   intro k
   induction k with
   | zero => intro i hi; exact ⟨[], [], rfl, ⟨rfl, by rw [List.drop_eq_nil_of_le (by omega)]; rfl⟩, by simp, rfl, fun h => absurd h (by omega), by simp only [RowRel]⟩
   | succ k ih =>
    intro i hi
    obtain ⟨l, kc, h1, h2, h3, h4, _, h5⟩ := ih (i + 1) (by omega)
    have hg := hget i (by omega)
    rw [List.getElem?_eq_getElem (by omega)] at hg
    obtain ⟨ecs, hc, hd⟩ := Option.bind_eq_some_iff.1 hg
    obtain ⟨z, vs, q1, q2⟩ := hel n (by omega) _ _ hd
    obtain ⟨q3, q4⟩ := hQ _ _ _ q1
    rw [hsz] at hc
    unfold World.cells? at hc
    rw [if_pos (Nat.zero_le _)] at hc
    obtain ⟨g1, g2⟩ := mapM_range_get hc
    have hspot : a.spot = none ∨ 0 < i := by
     by_cases h0 : i = 0
     ·subst h0
      left
      have := g2 0 hpos
      rw [List.getElem?_eq_getElem (by omega)] at this
      simp only [Nat.zero_mul, Addr.add, if_true] at this
      unfold World.cell? at this
      split at this
      ·split at this
       ·cases this
       ·rename_i hs; simpa using hs
      ·cases this
     ·right; omega
    refine ⟨z :: l, vs ++ kc, by simp [h1], ⟨vs, kc, _, _, rfl, by rw [List.drop_eq_getElem_cons (by omega), List.map_cons], q1, h2⟩, by rw [List.length_append, q3, h3, Nat.succ_mul]; omega, ?_, fun _ => hspot, ?_⟩
    ·rw [pureL_append, q4, h4]; rfl
    ·refine rowRel_app (rowRel_of q4 q2 fun j hj => ?_) ?_
     ·have := g2 j (by omega)
      rw [← this]
      congr 1
      unfold Addr.add
      by_cases h0 : i * sz = 0
      ·rw [if_pos h0, h0, Nat.add_zero]
       have hi0 : i = 0 := by
        rcases Nat.mul_eq_zero.1 h0 with h | h
        ·exact h
        ·omega
       have hs : a.spot = none := by
        rcases hspot with h | h
        ·exact h
        ·omega
       by_cases hj0 : j = 0
       ·rw [if_pos hj0, hj0, Nat.add_zero, ← hs]
       ·rw [if_neg hj0]
      ·rw [if_neg h0]
       by_cases hj0 : j = 0
       ·rw [if_pos hj0, hj0, Nat.add_zero]
       ·rw [if_neg hj0]
     ·rw [q3, show a.off + i * sz + sz = a.off + (i + 1) * sz by rw [Nat.succ_mul]; omega]
      exact h5
  obtain ⟨l, kc, h1, h2, h3, h4, hs, h5⟩ := key len 0 (by omega)
  refine ⟨l, kc, false, _, h2, ⟨_, rfl, ?_⟩, .inr ⟨rest.map (·.1), by rw [hx0]; simp⟩⟩
  simp only [VRel]
  refine ⟨some a, cap, by rw [h1], by omega, (fun h => by cases h), ?_⟩
  by_cases h0 : len = 0
  ·left
   subst h0
   exact List.eq_nil_of_length_eq_zero (by rw [h3]; simp)
  ·right
   have hsp : a.spot = none := by
    rcases hs (by omega) with h | h
    ·exact h
    ·omega
   refine ⟨a.block, a.off, by cases a; simp_all, ?_, rfl, by simpa using h5⟩
   cases kc with
   | nil =>
    simp only [List.length_nil] at h3
    rcases Nat.mul_eq_zero.1 h3.symm with h | h <;> omega
   | cons y kc =>
    simp only [RowRel] at h5
    obtain ⟨_, ⟨c, hc, _⟩, _⟩ := h5
    unfold World.cell? at hc
    split at hc
    ·rename_i hh
     exact (Array.getElem?_eq_some_iff.1 hh).1
    ·cases hc
end
def FormQ {H : Type} (f : Form) (c : List V) (d : DataW H) : Prop := CRg outC (outC 3 f) c ∧ bulkF f ≤ Rows.uptoBulk d
theorem rowG_of {H : Type} : ∀ {l : List Form} {kc : List V} {ds : List (DataW H)}, RVLD FormQ l kc ds → RowG outC 3 l kc ∧ bulkL l ≤ Rows.uptoBulkAll ds
 | [], kc, ds, h => by
  obtain ⟨rfl, rfl⟩ := h
  exact ⟨.nil 3, by simp [bulkL]⟩
 | x :: l, kc, ds, h => by
  obtain ⟨c1, c2, d, ds', rfl, rfl, h1, h2⟩ := h
  obtain ⟨a, b⟩ := rowG_of h2
  refine ⟨.cons (k := 3) (x := x) h1.1 a, ?_⟩
  have := h1.2
  simp only [bulkL, Rows.uptoBulkAll]
  omega
theorem formQ_len {H : Type} (f : Form) (c : List V) (d : DataW H) (h : FormQ f c d) : c.length = 4 ∧ pureL c = true := by
 obtain ⟨a, b, _⟩ := h.1.plain
 exact ⟨a, b⟩
theorem slice_bulk {H : Type} {d : DataW H} {ds : List (DataW H)} (h : (d = .nil ∧ ds = []) ∨ ∃ sp, d = .slice ds sp) : Rows.uptoBulkAll ds ≤ Rows.uptoBulk d := by
 rcases h with ⟨rfl, rfl⟩ | ⟨sp, rfl⟩
 ·simp [Rows.uptoBulkAll]
 ·simp only [Rows.uptoBulk]; omega
section
variable {H : Type} {enc : TypeId × Value → H} {w : World} {spare : Nat → Bool} {held : Bool}
theorem read_form : ∀ (fuel : Nat) (cs : List Value) (y : DataW H × List MemPlace), DataW.trod enc Tryz.prog w 0 spare held fuel 24 cs = some y → ∃ (f : Form) (vs : List V), FormQ f vs y.1 ∧ VRelL cx0 w vs cs := by
 intro fuel
 induction fuel using Nat.strongRecOn with
 | _ fuel ih =>
  intro cs y h
  obtain ⟨xs, n, hn, rfl, hlen, hsz, hget⟩ := DataW.trod_struct Tryz.underlying24 h
  rw [cells24] at hlen
  match cs, hlen with
  | [c0, c1, c2, c3], _ =>
   have hxs : xs.length = 4 := hsz
   match xs, hxs with
   | [y0, y1, y2, y3], _ =>
    have g0 : DataW.trod enc Tryz.prog w 0 spare held n 3 (([c0, c1, c2, c3].drop 0).take (Tryz.prog.cellsOf 3)) = some y0 := hget 0 _ rfl
    have g1 : DataW.trod enc Tryz.prog w 0 spare held n 9 (([c0, c1, c2, c3].drop 1).take (Tryz.prog.cellsOf 9)) = some y1 := hget 1 _ rfl
    have g2 : DataW.trod enc Tryz.prog w 0 spare held n 9 (([c0, c1, c2, c3].drop 2).take (Tryz.prog.cellsOf 9)) = some y2 := hget 2 _ rfl
    have g3 : DataW.trod enc Tryz.prog w 0 spare held n 22 (([c0, c1, c2, c3].drop 3).take (Tryz.prog.cellsOf 22)) = some y3 := hget 3 _ rfl
    simp only [cells3, cells9, cells22, List.drop_zero, List.take_succ_cons, List.take_zero, List.drop_succ_cons] at g0 g1 g2 g3
    obtain ⟨k, e0, f0, _⟩ := DataW.trod_int Tryz.underlying3 g0
    obtain ⟨s1, e1, f1, _⟩ := DataW.trod_string Tryz.underlying9 g1
    obtain ⟨s2, e2, f2, _⟩ := DataW.trod_string Tryz.underlying9 g2
    obtain ⟨l, kc, fl, ds, q1, ⟨c, e3, q2⟩, q3⟩ := read_sliceD (Q := FormQ) Tryz.underlying22 cells24 (by omega) formQ_len g3 (fun m hm cs y h => ih m (by omega) cs y h)
    simp only [List.cons.injEq, and_true] at e0 e1 e2 e3
    subst e0 e1 e2 e3 f0 f1 f2
    obtain ⟨r1, r2⟩ := rowG_of q1
    have r3 := slice_bulk q3
    have hr : RepG outC (.row 3 (Form.mk k s1.data.toList s2.data.toList l).kids false) (.ro kc l.length fl) := by
     have q := @RepG.row T outC 3 l kc fl r1
     exact q
    refine ⟨.mk k s1.data.toList s2.data.toList l, [.int .i64 k, .str s1, .str s2, .ro kc l.length fl], ⟨.cons (.int _ _) (.cons ?_ (.cons ?_ (.cons hr .nil))), ?_⟩, ?_⟩
    ·exact RepG.str s1.data.toList
    ·exact RepG.str s2.data.toList
    ·simp only [bulkF, List.map_cons, List.map_nil, Rows.uptoBulk, Rows.uptoBulkAll]
     omega
    ·simp only [VRelL, VRel, true_and, and_true]
     simpa only [VRel] using q2
theorem arg_form {v : Value} {d : DataW H} {p : List MemPlace} {b : Nat} (hval : Value.okWide Tryz.prog w .any b 24 v) (h : DataW.Trod enc Tryz.prog w 0 spare held 24 v d p) : ∃ (f : Form) (x : V), Rep cod [] [] (outV cod 3 f) x ∧ VRel cx0 w x v ∧ bulkF f ≤ Rows.uptoBulk d := by
 simp only [Value.okWide, Tryz.underlying24] at hval
 obtain ⟨arr, rfl, _⟩ := hval
 obtain ⟨fuel, h⟩ := h
 obtain ⟨f, vs, h1, h2⟩ := read_form fuel _ _ h
 refine ⟨f, .agg vs, ?_, ?_, h1.2⟩
 ·show Rep cod [] [] (.agg (outC 3 f)) (.agg vs)
  simp only [Rep]
  exact ⟨vs, rfl, repL_of gen_ok [] [] h1.1⟩
 ·simp only [VRel]
  exact ⟨arr, rfl, by simpa [Value.cells] using h2⟩
theorem arg_string {v : Value} {d : DataW H} {p : List MemPlace} {b : Nat} (hval : Value.okWide Tryz.prog w .any b 9 v) (h : DataW.Trod enc Tryz.prog w 0 spare held 9 v d p) : ∃ (s : Bs) (x : V), Rep cod [] [] (outV cod 2 s) x ∧ VRel cx0 w x v := by
 obtain ⟨s, rfl, _⟩ := open_string Tryz.underlying9 hval h
 refine ⟨s.data.toList, .str s, ?_, by simp only [VRel]⟩
 show Rep cod [] [] (.str s.data.toList) _
 simp only [Rep]
end
end Go.Proofs.YtpdgbhjhodhkiaaGreatDoor.AI
namespace Go.Proofs.YtpdgbhjhodhkiaaGreatDoor.AI
open Go Go.Proofs Go.ChangeShapes Go.WideShapes Go.ChangeAt Go.RowKit
structure Facts (w : World) : Prop where
 tab : Lib.TabIs Tryz.prog w "internal/strconv.uint64pow10" .u64 Lib.pow10Tab
 syn : ∃ ev, w.cell? ⟨2, 0, none⟩ = some ev ∧ (ev = .nilIface ∨ ∃ te pe, ev = .iface te pe)
 rng : ∃ ev, w.cell? ⟨3, 0, none⟩ = some ev ∧ (ev = .nilIface ∨ ∃ te pe, ev = .iface te pe)
 mx : ∃ m, w.cell? ⟨5, 0, none⟩ = some (.int .i64 m)
 u8 : Lib.Utf8Tabs 0 1 w
def kpW (W : World) : Kp := fun c => if c < 16 then W.heap[c]? else none
theorem cell_keep {W w : World} (hk : ∀ c o, kpW W c = some o → w.heap[c]? = some o) {b off : Nat} (hb : b < 16) {v : Value} (h : W.cell? ⟨b, off, none⟩ = some v) : w.cell? ⟨b, off, none⟩ = some v := by
 unfold World.cell? at h ⊢
 simp only at h ⊢
 split at h
 ·rename_i c t fr hh
  rw [hk b _ (by unfold kpW; rw [if_pos hb]; exact hh)]
  exact h
 ·cases h
theorem gPow : Tryz.prog.globalNamed "internal/strconv.uint64pow10" = some 4 ∨ Tryz.prog.globalNamed "internal/strconv.uint64pow10" = some 6 ∨ Tryz.prog.globalNamed "internal/strconv.uint64pow10" = some 7 := by
 first | exact .inl (by kernel_rfl) | exact .inr (.inl (by kernel_rfl)) | exact .inr (.inr (by kernel_rfl))
theorem Facts.keep {W w : World} (F : Facts W) (hk : ∀ c o, kpW W c = some o → w.heap[c]? = some o) : Facts w where
 tab := by
  have h := F.tab
  unfold Lib.TabIs World.var? at h ⊢
  have key : ∀ g, g < 16 → Tryz.prog.globalNamed "internal/strconv.uint64pow10" = some g → ((Tryz.prog.globalNamed "internal/strconv.uint64pow10").bind fun g => match w.heap[g]? with | some (.cells cs _ _) => some cs | _ => none) = some (Lib.pow10Tab.map fun z => Value.int .u64 z).toArray := by
   intro g hg e
   rw [e] at h ⊢
   simp only [Option.bind_some] at h ⊢
   split at h
   ·rename_i c t fr hh
    rw [hk g _ (by unfold kpW; rw [if_pos hg]; exact hh)]
    exact h
   ·cases h
  rcases gPow with e | e | e
  ·exact key _ (by omega) e
  ·exact key _ (by omega) e
  ·exact key _ (by omega) e
 syn := by
  obtain ⟨ev, h1, h2⟩ := F.syn
  exact ⟨ev, cell_keep hk (by omega) h1, h2⟩
 rng := by
  obtain ⟨ev, h1, h2⟩ := F.rng
  exact ⟨ev, cell_keep hk (by omega) h1, h2⟩
 mx := by
  obtain ⟨ev, h1⟩ := F.mx
  exact ⟨ev, cell_keep hk (by omega) h1⟩
 u8 := ⟨fun c hc => cell_keep hk (by omega) (F.u8.1 c hc), fun i hi => ⟨cell_keep hk (by omega) (F.u8.2 i hi).1, cell_keep hk (by omega) (F.u8.2 i hi).2⟩⟩
theorem below_drewN (w : World) (n : Nat) : Below w.heap.size w (w.drewN n) := ⟨rfl, rfl, rfl, Nat.le_refl _, fun _ _ => rfl⟩
theorem below_grow (w : World) (os : Array Obj) : Below w.heap.size w (Go.Sort.grow w os) := ⟨rfl, rfl, rfl, by simp [Go.Sort.grow], fun k hk => by
 show (w.heap ++ os)[k]? = _
 rw [Array.getElem?_append, if_pos hk]⟩
theorem below_freeze (w : World) {B : Nat} {a : Addr} (n : Nat) (h : B ≤ a.block) : Below B w (w.freeze a n) := by
 unfold World.freeze
 split
 ·exact Below.refl _ _
 ·refine ⟨rfl, rfl, rfl, by simp, fun k hk => ?_⟩
  simp only [Array.getElem?_modify]
  rw [if_neg (by omega)]
theorem below_bytes (w : World) (e : TypeId) (s : ByteArray) : Below w.heap.size w (Lib.bytesWorld w e s) := by
 unfold Lib.bytesWorld
 refine Below.trans ?_ (below_freeze _ 1 (Nat.le_refl _))
 exact ((Below.refl w.heap.size w).drew).alloc (Nat.le_refl _) _
theorem entersAll : (((List.range 238).drop 2).all fun f => match Tryz.prog.funcs[f]? with | some fn => !(fn.name == "runtime.NumGoroutine") && fn.body.isSome | none => false) = true := by kernel_rfl
theorem okOk : OkOk cfgL := by
 intro f0 hf args w
 obtain ⟨f, e⟩ : ∃ f : Nat, f = f0 := ⟨f0, rfl⟩
 subst e
 have hf : 1 < f ∧ f < 238 := by
  have : (Nat.blt 1 f && Nat.blt f 238) = true := hf
  simpa using this
 have h := List.all_eq_true.1 entersAll f (by
  refine List.mem_iff_getElem?.2 ⟨f - 2, ?_⟩
  rw [List.getElem?_drop, List.getElem?_range (by omega)]
  congr 1
  omega)
 show (callFunc f args).run Tryz.prog w = _
 cases hfn : Tryz.prog.funcs[f]? with
 | none => rw [hfn] at h; cases h
 | some fn =>
  rw [hfn] at h
  simp only [Bool.and_eq_true, Bool.not_eq_true'] at h
  obtain ⟨h1, h2⟩ := h
  obtain ⟨c, hc⟩ := Option.isSome_iff_exists.1 h2
  exact enters_of hfn h1 hc args w
theorem extPost {cx : Cx} {w w' : World} {v : V} {cv : Value} (h : VRel cx w' v cv) (b : Below w.heap.size w w') : ∃ cv', Ending.returned cv = .returned cv' ∧ VRel cx w' v cv' ∧ w.heap.size ≤ w'.heap.size ∧ (∀ c, c < w.heap.size → w'.heap[c]? = w.heap[c]?) ∧ w'.os = w.os ∧ w'.tape = w.tape ∧ w'.output = w.output :=
 ⟨cv, rfl, h, b.size, b.block, b.os, b.tape, b.output⟩
theorem vr1 {cx : Cx} {w : World} {x : V} {cargs : Array Value} (h : VRelL cx w [x] cargs.toList) : ∃ c, cargs = #[c] ∧ VRel cx w x c := by
 obtain ⟨l⟩ := cargs
 match l, h with
 | [c], h => exact ⟨c, rfl, by simpa [VRelL] using h⟩
theorem vr2 {cx : Cx} {w : World} {x y : V} {cargs : Array Value} (h : VRelL cx w [x, y] cargs.toList) : ∃ c d, cargs = #[c, d] ∧ VRel cx w x c ∧ VRel cx w y d := by
 obtain ⟨l⟩ := cargs
 match l, h with
 | [c, d], h => exact ⟨c, d, rfl, by simpa [VRelL] using h⟩
end Go.Proofs.YtpdgbhjhodhkiaaGreatDoor.AI
namespace Go.Proofs.YtpdgbhjhodhkiaaGreatDoor.AI
open Go Go.Proofs Go.RowKit Go.Lib Go.Shelf
theorem clone_post {w' : World} {base e size n : Nat} {v' : Value} {xs : List Value} (h : w'.ownsRow base e size v' n xs) {cx : Cx} {vs : List V} (hv : VRelL cx w' vs xs) (hp : pureL vs = true) (hown : ∀ c, base ≤ c → cx.own c = .non) : VRel cx w' (.ro vs n false) v' := by
 obtain ⟨hl, h⟩ := h
 simp only [VRel]
 rcases h with ⟨rfl, rfl⟩ | ⟨g, cap, cur, rfl, hg, hh, hnc, _, hsz, ht⟩
 ·refine ⟨none, 0, rfl, Nat.le_refl _, (fun h => by cases h), .inl ?_⟩
  have := hv.length
  have hx : xs = [] := List.eq_nil_of_length_eq_zero (by rw [hl]; simp)
  rw [hx] at this
  exact List.eq_nil_of_length_eq_zero this
 ·refine ⟨some ⟨g, 0, none⟩, cap, rfl, hnc, (fun h => by cases h), .inr ⟨g, 0, rfl, (Array.getElem?_eq_some_iff.1 hh).1, hown g hg, ?_⟩⟩
  refine rowRel_of hp hv fun i hi => ?_
  unfold World.cell?
  simp only [hh, Nat.zero_add, Option.isSome_none, Bool.false_eq_true, if_false]
  rw [← ht, List.getElem?_take, if_pos (by omega), Array.getElem?_toList]
set_option maxHeartbeats 2000000 in
theorem clone106 (ad : Addr) (n c : Nat) (xs : List Value) (w : World) (hl : xs.length = n * 4) (hbig : n * 64 ≤ 140737488355328) (hc : ∀ j u, xs[j]? = some u → w.cell? (ad.add j) = some u) (h1 : ∀ u ∈ xs, u.oneCell' = true) :
  Calls Tryz.prog 106 #[.slice (some ad) n c] w fun e w' => ∃ v', e = .returned v' ∧ w'.ownsRow w.heap.size 24 4 v' n xs ∧ Below w.heap.size w w' := by
 obtain ⟨i0, hi, hz0, hz1, hz2⟩ := info_parts (P := Tryz.prog) (e := 24) (z := .agg #[.int .i64 0, .string ⟨#[]⟩, .string ⟨#[]⟩, .slice none 0 0]) (size := 4) (bytes := 64) (by kernel_rfl)
 have mixed : Tryz.prog.follows .mixedOrders = true := by kernel_rfl
 have t22 := Tryz.underlying22; have a22 := Tryz.isAgg22; have z22 := Tryz.sizeOf22; have v22 := Tryz.zeroValue22; have t24 := Tryz.underlying24; have z24 := Tryz.sizeOf24; have v24 := Tryz.zeroValue24
 have q22 : ∀ (w : World) (a : Option Addr) (n c n' c' : Nat), (binOp .eql 22 (.slice a n c) (.slice none n' c')).run Tryz.prog w = .ok (.bool a.isNone) w := fun w a n c n' c' => Lib.run_eql_slice_nil w _ _ a n c n' c' Tryz.underlying22
 have u22 : ∀ w, Sem.run Tryz.prog (underlying 22) w = .ok (TypeDesc.slice 24) w := run_underlying t22
 have A : Aside (∀ j u, xs[j]? = some u → w.cell? (ad.add j) = some u) := hc
 have A1 : Aside (∀ u ∈ xs, u.oneCell' = true) := h1
 clear hc h1
 go_enter Tryz.func106, Tryz.ntmps106
 go_wp2_with (at_builtin; refine wpList_append_own _ rfl _ _ 22 rfl w.heap.size 24 i0 (.agg #[.int .i64 0, .string ⟨#[]⟩, .string ⟨#[]⟩, .slice none 0 0]) 4 64 t22 hi hz0 hz1 hz2 rfl (by decide) _ _ _ rfl (World.ownsRow_made w #[] 0 (Nat.le_refl _) (Nat.zero_le _) rfl) ad n c xs rfl ?qc1 ?qc2 ?qc3 ?qc4 ?qc5 ?qc6 ?_)
 case qc1 => exact hl
 case qc2 =>
  intro j u hj
  exact Lib.cell?_alloc_some _ (A.out j u hj)
 case qc3 => exact A1.out
 case qc4 => unfold maxLen; omega
 case qc5 => omega
 case qc6 => simp
 intro v' w1 hown hgrow hnil
 go_wp2
 go_ret
 refine ⟨v', rfl, by simpa using hown, ?_⟩
 exact ((Below.refl _ w).alloc (Nat.le_refl _) _).grown hgrow (by simp) (by intro k hk; simp [Value.ownBlock] at hk; omega)
theorem clone106_nil (n c : Nat) (w : World) : Calls Tryz.prog 106 #[.slice none n c] w fun e w' => e = .returned (.slice none 0 0) ∧ w' = w := by
 have mixed : Tryz.prog.follows .mixedOrders = true := by kernel_rfl
 have t22 := Tryz.underlying22; have a22 := Tryz.isAgg22; have z22 := Tryz.sizeOf22; have v22 := Tryz.zeroValue22
 have q22 : ∀ (w : World) (a : Option Addr) (n c n' c' : Nat), (binOp .eql 22 (.slice a n c) (.slice none n' c')).run Tryz.prog w = .ok (.bool a.isNone) w := fun w a n c n' c' => Lib.run_eql_slice_nil w _ _ a n c n' c' Tryz.underlying22
 go_enter Tryz.func106, Tryz.ntmps106
 go_wp2
 go_ret
 exact ⟨rfl, rfl⟩
set_option maxHeartbeats 2000000 in
theorem clone176 (ad : Addr) (n c : Nat) (xs : List Value) (w : World) (hl : xs.length = n * 1) (hbig : n * 8 ≤ 140737488355328) (hc : ∀ j u, xs[j]? = some u → w.cell? (ad.add j) = some u) (h1 : ∀ u ∈ xs, u.oneCell' = true) :
  Calls Tryz.prog 176 #[.slice (some ad) n c] w fun e w' => ∃ v', e = .returned v' ∧ w'.ownsRow w.heap.size 3 1 v' n xs ∧ Below w.heap.size w w' := by
 obtain ⟨i0, hi, hz0, hz1, hz2⟩ := info_parts (P := Tryz.prog) (e := 3) (z := .int .i64 0) (size := 1) (bytes := 8) (by kernel_rfl)
 have mixed : Tryz.prog.follows .mixedOrders = true := by kernel_rfl
 have t22 := Tryz.underlying38; have a22 := Tryz.isAgg38; have z22 := Tryz.sizeOf38; have v22 := Tryz.zeroValue38; have t3 := Tryz.underlying3; have z3 := Tryz.sizeOf3; have v3 := Tryz.zeroValue3
 have q22 : ∀ (w : World) (a : Option Addr) (n c n' c' : Nat), (binOp .eql 38 (.slice a n c) (.slice none n' c')).run Tryz.prog w = .ok (.bool a.isNone) w := fun w a n c n' c' => Lib.run_eql_slice_nil w _ _ a n c n' c' Tryz.underlying38
 have u22 : ∀ w, Sem.run Tryz.prog (underlying 38) w = .ok (TypeDesc.slice 3) w := run_underlying t22
 have A : Aside (∀ j u, xs[j]? = some u → w.cell? (ad.add j) = some u) := hc
 have A1 : Aside (∀ u ∈ xs, u.oneCell' = true) := h1
 clear hc h1
 go_enter Tryz.func176, Tryz.ntmps176
 go_wp2_with (at_builtin; refine wpList_append_own _ rfl _ _ 38 rfl w.heap.size 3 i0 (.int .i64 0) 1 8 t22 hi hz0 hz1 hz2 rfl (by decide) _ _ _ rfl (World.ownsRow_made w #[] 0 (Nat.le_refl _) (Nat.zero_le _) rfl) ad n c xs rfl ?qc1 ?qc2 ?qc3 ?qc4 ?qc5 ?qc6 ?_)
 case qc1 => exact hl
 case qc2 =>
  intro j u hj
  exact Lib.cell?_alloc_some _ (A.out j u hj)
 case qc3 => exact A1.out
 case qc4 => unfold maxLen; omega
 case qc5 => omega
 case qc6 => simp
 intro v' w1 hown hgrow hnil
 go_wp2
 go_ret
 refine ⟨v', rfl, by simpa using hown, ?_⟩
 exact ((Below.refl _ w).alloc (Nat.le_refl _) _).grown hgrow (by simp) (by intro k hk; simp [Value.ownBlock] at hk; omega)
theorem clone176_nil (n c : Nat) (w : World) : Calls Tryz.prog 176 #[.slice none n c] w fun e w' => e = .returned (.slice none 0 0) ∧ w' = w := by
 have mixed : Tryz.prog.follows .mixedOrders = true := by kernel_rfl
 have t22 := Tryz.underlying38; have a22 := Tryz.isAgg38; have z22 := Tryz.sizeOf38; have v22 := Tryz.zeroValue38
 have q22 : ∀ (w : World) (a : Option Addr) (n c n' c' : Nat), (binOp .eql 38 (.slice a n c) (.slice none n' c')).run Tryz.prog w = .ok (.bool a.isNone) w := fun w a n c n' c' => Lib.run_eql_slice_nil w _ _ a n c n' c' Tryz.underlying38
 go_enter Tryz.func176, Tryz.ntmps176
 go_wp2
 go_ret
 exact ⟨rfl, rfl⟩
end Go.Proofs.YtpdgbhjhodhkiaaGreatDoor.AI
namespace Go.Proofs.YtpdgbhjhodhkiaaGreatDoor.AI
open Go Go.Proofs Go.RowKit Go.Lib Go.Shelf
theorem clone_vs {cx : Cx} {w : World} {cells : List V} {sz n : Nat} (hn : n * sz = cells.length) {blk o : Nat} (h : RowRel cx w cells blk o) (hcl : cells.all V.cellLike = true) :
  ∃ xs : List Value, xs.length = n * sz ∧ VRelL cx w cells xs ∧ pureL cells = true ∧ (∀ j u, xs[j]? = some u → w.cell? ((⟨blk, o, none⟩ : Addr).add j) = some u) ∧ ∀ u ∈ xs, u.oneCell' = true := by
 have key : ∀ (cells : List V) (o : Nat), RowRel cx w cells blk o → cells.all V.cellLike = true → ∃ xs : List Value, xs.length = cells.length ∧ VRelL cx w cells xs ∧ pureL cells = true ∧ (∀ j u, xs[j]? = some u → w.cell? ⟨blk, o + j, none⟩ = some u) ∧ ∀ u ∈ xs, u.oneCell' = true := by
  intro cells
  induction cells with
  | nil => intro o _ _; exact ⟨[], rfl, by simp only [VRelL], rfl, fun j u h => by simp at h, fun u h => by cases h⟩
  | cons x cells ih =>
   intro o h hc
   simp only [RowRel] at h
   simp only [List.all_cons, Bool.and_eq_true] at hc
   obtain ⟨hp, ⟨v, hv, hr⟩, h⟩ := h
   obtain ⟨xs, h1, h2, h3, h4, h5⟩ := ih (o + 1) h hc.2
   refine ⟨v :: xs, by simp [h1], by simp only [VRelL]; exact ⟨hr, h2⟩, by simp only [pureL, hp, h3, Bool.and_self], fun j u hj => ?_, fun u hu => ?_⟩
   ·cases j with
    | zero => simp at hj; subst hj; simpa using hv
    | succ j =>
     have := h4 j u (by simpa using hj)
     rw [show o + (j + 1) = o + 1 + j by omega]
     exact this
   ·rcases List.mem_cons.1 hu with rfl | hu
    ·exact cellLike_oneCell hr hc.1
    ·exact h5 u hu
 obtain ⟨xs, h1, h2, h3, h4, h5⟩ := key cells o h hcl
 refine ⟨xs, by rw [h1, hn], h2, h3, fun j u hj => ?_, h5⟩
 have := h4 j u hj
 unfold Addr.add
 split
 ·rename_i h0
  subst h0
  simpa using this
 ·exact this
theorem pure_later {cx : Cx} {w w' : World} (hb : Below w.heap.size w w') {vs : List V} {cs : List Value} (hp : pureL vs = true) (h : VRelL cx w vs cs) : VRelL cx w' vs cs :=
 VRelL.onP ⟨fun c hc ho => ⟨hb.block c hc, ho⟩, hb.size⟩ _ _ hp h
set_option maxHeartbeats 4000000 in
theorem extOk {W : World} (F0 : Facts W) : ExtOk (kpW W) cfgL := by
 intro f args v h hp hpv
 change extV f args = some v at h
 by_cases e : f = 82
 ·subst e
  simp only [extV, reduceIte, Nat.reduceEqDiff] at h
  split at h
  ·rename_i n
   split at h
   ·rename_i hn
    injection h with h
    subst h
    refine ⟨okOk 82 rfl, fun cx w cargs hf hk hr => callsIn_wide.2 ?_⟩
    obtain ⟨c, rfl, hc1⟩ := vr1 hr
    simp only [VRel] at hc1
    subst hc1
    simp only [ok64, decide_eq_true_eq] at hn
    refine (Tryz.strconv_Itoa n hn.1 hn.2 w (F0.keep hk).tab).mono fun e w' he => ?_
    obtain ⟨rfl, k, os, rfl⟩ := he
    exact extPost (by simp only [VRel]) ((below_drewN w k).trans (below_grow (w.drewN k) os))
   ·cases h
  ·cases h
 by_cases e : f = 97
 ·subst e
  simp only [extV, reduceIte, Nat.reduceEqDiff] at h
  split at h
  ·rename_i s
   split at h
   ·rename_i hn
    injection h with h
    subst h
    refine ⟨okOk 97 rfl, fun cx w cargs hf hk hr => callsIn_wide.2 ?_⟩
    obtain ⟨c, rfl, hc1⟩ := vr1 hr
    simp only [VRel] at hc1
    subst hc1
    have F := F0.keep hk
    unfold atoiVal atoiOk
    cases ha : Lib.atoiAll s.data.toList with
    | ok u =>
     refine (Tryz.strconv_Atoi_ok s (by omega) u ha w).mono fun e w' he => ?_
     obtain ⟨rfl, hw⟩ := he
     refine extPost ?_ ?_
     ·simp only [VRel, VRelL]
      exact ⟨_, rfl, rfl, rfl, trivial⟩
     ·rcases hw with rfl | ⟨t, rfl⟩
      ·exact Below.refl _ _
      ·exact below_bytes w 5 t
    | range =>
     obtain ⟨ev, he1, he2⟩ := F.rng
     refine (Tryz.strconv_Atoi_range s (by omega) ha ev w he1 he2).mono fun e w' he => ?_
     obtain ⟨N, rfl, _, _, hb⟩ := he
     refine extPost ?_ hb
     simp only [VRel, VRelL]
     exact ⟨_, rfl, rfl, ⟨_, rfl, trivial⟩, trivial⟩
    | _ =>
     obtain ⟨ev, he1, he2⟩ := F.syn
     refine (Tryz.strconv_Atoi_syntax s (by omega) (ha.trans (by rfl)) ev w he1 he2).mono fun e w' he => ?_
     obtain ⟨N, rfl, _, _, hb⟩ := he
     refine extPost ?_ hb
     simp only [VRel, VRelL]
     exact ⟨_, rfl, rfl, ⟨_, rfl, trivial⟩, trivial⟩
   ·cases h
  ·cases h
 by_cases e : f = 101
 ·subst e
  simp only [extV, reduceIte, Nat.reduceEqDiff] at h
  split at h
  ·rename_i s
   split at h
   ·rename_i hn
    injection h with h
    subst h
    refine ⟨okOk 101 rfl, fun cx w cargs hf hk hr => callsIn_wide.2 ?_⟩
    obtain ⟨c, rfl, hc1⟩ := vr1 hr
    simp only [VRel] at hc1
    subst hc1
    refine (Tryz.utf8_RuneCountInString s w hn).mono fun e w' he => ?_
    obtain ⟨rfl, pos, rfl⟩ := he
    refine extPost ?_ ((Below.refl w.heap.size w).alloc (Nat.le_refl _) _)
    simp only [VRel, runesN, Lib.runeCountL_eq]
   ·cases h
  ·cases h
 by_cases e : f = 153
 ·subst e
  simp only [extV, reduceIte, Nat.reduceEqDiff] at h
  split at h
  ·rename_i s
   split at h
   ·rename_i hn
    injection h with h
    subst h
    refine ⟨okOk 153 rfl, fun cx w cargs hf hk hr => callsIn_wide.2 ?_⟩
    obtain ⟨c, rfl, hc1⟩ := vr1 hr
    simp only [VRel] at hc1
    subst hc1
    have hT : Calls Tryz.prog 153 #[.string s] w fun e w' => e = .returned (.bool (Lib.validD s.data.toList)) ∧ Below w.heap.size w w' := Any.utf8_ValidString Tryz.laysValid s w hn (F0.keep hk).u8
    refine hT.mono fun e w' he => ?_
    obtain ⟨rfl, hb⟩ := he
    exact extPost (by simp only [VRel]) hb
   ·cases h
  ·cases h
 by_cases e : f = 158
 ·subst e
  simp only [extV, reduceIte, Nat.reduceEqDiff] at h
  split at h
  ·rename_i s t
   split at h
   ·rename_i hn
    injection h with h
    subst h
    refine ⟨okOk 158 rfl, fun cx w cargs hf hk hr => callsIn_wide.2 ?_⟩
    obtain ⟨c, d, rfl, hc1, hc2⟩ := vr2 hr
    simp only [VRel] at hc1 hc2
    subst hc1 hc2
    have hasc : ∀ (j : Nat) b, t.data.toList[j]? = some b → b.toNat < 128 := by
     intro j b hb
     have := List.all_eq_true.1 hn.2.2 b (List.mem_of_getElem? hb)
     simpa using this
    have hT : Calls Tryz.prog 158 #[.string s, .string t] w fun e w' => e = .returned (.string ⟨(Lib.trimS s.data.toList t.data.toList).toArray⟩) ∧ Below w.heap.size w w' := Any.strings_Trim_laid Tryz.lays160 (by kernel_rfl) s t w hn.1 hn.2.1 hasc
    refine hT.mono fun e w' he => ?_
    obtain ⟨rfl, hb⟩ := he
    exact extPost (by simp only [VRel]) hb
   ·cases h
  ·cases h
 by_cases e : f = 184
 ·subst e
  simp only [extV, reduceIte, Nat.reduceEqDiff] at h
  split at h
  ·rename_i s t
   injection h with h
   subst h
   refine ⟨okOk 184 rfl, fun cx w cargs hf hk hr => callsIn_wide.2 ?_⟩
   obtain ⟨c, d, rfl, hc1, hc2⟩ := vr2 hr
   simp only [VRel] at hc1 hc2
   subst hc1 hc2
   refine (Tryz.strings_CutPrefix s t w).mono fun e w' he => ?_
   obtain ⟨rfl, rfl⟩ := he
   refine extPost ?_ (Below.refl _ _)
   simp only [VRel, VRelL]
   exact ⟨_, rfl, rfl, rfl, trivial⟩
  ·cases h
 by_cases e : f = 186
 ·subst e
  simp only [extV, reduceIte, Nat.reduceEqDiff] at h
  split at h
  ·rename_i s t
   split at h
   ·rename_i hn
    injection h with h
    subst h
    refine ⟨okOk 186 rfl, fun cx w cargs hf hk hr => callsIn_wide.2 ?_⟩
    obtain ⟨c, d, rfl, hc1, hc2⟩ := vr2 hr
    simp only [VRel] at hc1 hc2
    subst hc1 hc2
    obtain ⟨m, hm⟩ := (F0.keep hk).mx
    refine (Tryz.strings_Cut s t m w hn hm).mono fun e w' he => ?_
    obtain ⟨rfl, n, rfl⟩ := he
    refine extPost ?_ (below_drewN w n)
    simp only [VRel, VRelL]
    exact ⟨_, rfl, rfl, rfl, rfl, trivial⟩
   ·cases h
  ·cases h
 by_cases e : f = 187
 ·subst e
  simp only [extV, reduceIte, Nat.reduceEqDiff] at h
  split at h
  ·rename_i s t
   injection h with h
   subst h
   refine ⟨okOk 187 rfl, fun cx w cargs hf hk hr => callsIn_wide.2 ?_⟩
   obtain ⟨c, d, rfl, hc1, hc2⟩ := vr2 hr
   simp only [VRel] at hc1 hc2
   subst hc1 hc2
   refine (Tryz.strings_TrimPrefix s t w).mono fun e w' he => ?_
   obtain ⟨rfl, rfl⟩ := he
   exact extPost (by simp only [VRel]) (Below.refl _ _)
  ·cases h
 by_cases e : f = 106
 ·subst e
  simp only [extV, reduceIte, Nat.reduceEqDiff] at h
  split at h
  ·rename_i cells n fl
   split at h
   ·rename_i hc
    injection h with h
    subst h
    refine ⟨okOk 106 rfl, fun cx w cargs hf hk hr => callsIn_wide.2 ?_⟩
    obtain ⟨c, rfl, hc1⟩ := vr1 hr
    simp only [VRel] at hc1
    obtain ⟨a, cap, rfl, hcap, _, hrow⟩ := hc1
    cases a with
    | none =>
     have hcells : cells = [] := by
      rcases hrow with h | ⟨_, _, h, _⟩
      ·exact h
      ·cases h
     subst hcells
     have hn : n = 0 := by have := hc.1; simp at this; omega
     subst hn
     refine (clone106_nil 0 cap w).mono fun e w' he => ?_
     obtain ⟨rfl, rfl⟩ := he
     refine extPost ?_ (Below.refl _ _)
     simp only [VRel]
     exact ⟨none, 0, rfl, Nat.le_refl _, (fun h => by cases h), .inl (by first | rfl | trivial)⟩
    | some ad =>
     have hx : ∃ xs : List Value, xs.length = n * 4 ∧ VRelL cx w cells xs ∧ pureL cells = true ∧ (∀ j u, xs[j]? = some u → w.cell? (ad.add j) = some u) ∧ ∀ u ∈ xs, u.oneCell' = true := by
      rcases hrow with h | ⟨blk, o, h, _, _, h2⟩
      ·subst h
       have hn : n = 0 := by have := hc.1; simp at this; omega
       subst hn
       exact ⟨[], rfl, by simp only [VRelL], rfl, fun j u h => by simp at h, fun u h => by cases h⟩
      ·injection h with h
       subst h
       exact clone_vs (sz := 4) (by have := hc.1; omega) h2 hc.2.2
     obtain ⟨xs, h1, h2, h3, h4, h5⟩ := hx
     refine (clone106 ad n cap xs w h1 hc.2.1 h4 h5).mono fun e w' he => ?_
     obtain ⟨v', rfl, h6, h7⟩ := he
     exact extPost (clone_post h6 (pure_later h7 h3 h2) h3 hf) h7
   ·cases h
  ·cases h
 by_cases e : f = 176
 ·subst e
  simp only [extV, reduceIte, Nat.reduceEqDiff] at h
  split at h
  ·rename_i cells n fl
   split at h
   ·rename_i hc
    injection h with h
    subst h
    refine ⟨okOk 176 rfl, fun cx w cargs hf hk hr => callsIn_wide.2 ?_⟩
    obtain ⟨c, rfl, hc1⟩ := vr1 hr
    simp only [VRel] at hc1
    obtain ⟨a, cap, rfl, hcap, _, hrow⟩ := hc1
    cases a with
    | none =>
     have hcells : cells = [] := by
      rcases hrow with h | ⟨_, _, h, _⟩
      ·exact h
      ·cases h
     subst hcells
     have hn : n = 0 := by have := hc.1; simp at this; omega
     subst hn
     refine (clone176_nil 0 cap w).mono fun e w' he => ?_
     obtain ⟨rfl, rfl⟩ := he
     refine extPost ?_ (Below.refl _ _)
     simp only [VRel]
     exact ⟨none, 0, rfl, Nat.le_refl _, (fun h => by cases h), .inl (by first | rfl | trivial)⟩
    | some ad =>
     have hx : ∃ xs : List Value, xs.length = n * 1 ∧ VRelL cx w cells xs ∧ pureL cells = true ∧ (∀ j u, xs[j]? = some u → w.cell? (ad.add j) = some u) ∧ ∀ u ∈ xs, u.oneCell' = true := by
      rcases hrow with h | ⟨blk, o, h, _, _, h2⟩
      ·subst h
       have hn : n = 0 := by have := hc.1; simp at this; omega
       subst hn
       exact ⟨[], rfl, by simp only [VRelL], rfl, fun j u h => by simp at h, fun u h => by cases h⟩
      ·injection h with h
       subst h
       exact clone_vs (sz := 1) (by have := hc.1; omega) h2 hc.2.2
     obtain ⟨xs, h1, h2, h3, h4, h5⟩ := hx
     refine (clone176 ad n cap xs w h1 hc.2.1 h4 h5).mono fun e w' he => ?_
     obtain ⟨v', rfl, h6, h7⟩ := he
     exact extPost (clone_post h6 (pure_later h7 h3 h2) h3 hf) h7
   ·cases h
  ·cases h
 by_cases e : f = 222
 ·subst e
  simp only [extV, reduceIte, Nat.reduceEqDiff] at h
  split at h
  ·rename_i s t
   split at h
   ·rename_i hn
    injection h with h
    subst h
    refine ⟨okOk 222 rfl, fun cx w cargs hf hk hr => callsIn_wide.2 ?_⟩
    obtain ⟨c, d, rfl, hc1, hc2⟩ := vr2 hr
    simp only [VRel] at hc1 hc2
    subst hc1 hc2
    obtain ⟨m, hm⟩ := (F0.keep hk).mx
    refine (Tryz.strings_Index s t m w hn hm).mono fun e w' he => ?_
    obtain ⟨rfl, rfl⟩ := he
    exact extPost (by simp only [VRel]) (Below.refl _ _)
   ·cases h
  ·cases h
 unfold extV at h
 simp_all
end Go.Proofs.YtpdgbhjhodhkiaaGreatDoor.AI
namespace Go.Proofs.YtpdgbhjhodhkiaaGreatDoor.AI
open Go Go.Proofs Go.ChangeShapes Go.WideShapes Go.ChangeAt Go.RowKit
theorem own : ownKnob Tryz.prog.godebug = none := by kernel_rfl
noncomputable def laidL : List (String × DataW Unit) := Rows.formSpreadsRow.laid
theorem reads_of {W : World} (h : laidMetH Tryz.prog laidL W) {n : String} {d : DataW Unit} (hm : (n, d) ∈ laidL) : Lib.VarReads Tryz.prog W n d := by
 rw [MakeChecks.laidMetH_plain _ _ _ (by kernel_rfl)] at h
 exact Lib.laidMet.reads h hm
theorem gSyn : Tryz.prog.globalNamed "strconv.ErrSyntax" = some 2 := by kernel_rfl
theorem gRng : Tryz.prog.globalNamed "strconv.ErrRange" = some 3 := by kernel_rfl
theorem facts_of {W : World} (h : laidMetH Tryz.prog laidL W) (hsh : W.ShapedOpen Tryz.prog) : Facts W where
 tab := by
  obtain ⟨g, t, cs, fuel, p, hg, ht, hvar, hd⟩ := reads_of h (n := "internal/strconv.uint64pow10") (d := Rows.laid_internal_strconv_uint64pow10) (by unfold laidL Rows.formSpreadsRow; simp)
  obtain rfl := Option.some.inj ((show Tryz.prog.globalNamed "internal/strconv.uint64pow10" = some 4 by kernel_rfl).symm.trans hg)
  obtain rfl := Option.some.inj ((show (Tryz.prog.globals[4]?).map (·.type) = some 238 by kernel_rfl).symm.trans ht)
  have e : (Rows.laid_internal_strconv_uint64pow10 : DataW Unit) = Lib.tabData .u64 Lib.pow10Tab := by kernel_rfl
  rw [e] at hd
  unfold Lib.TabIs
  rw [hvar, ← Lib.cells_of_tab (n := 20) (e := 221) Tryz.underlying238 (by kernel_rfl) (by kernel_rfl) (by kernel_rfl) hd]
 syn := by
  obtain ⟨g, t, cs, fuel, p, hg, ht, hvar, hd⟩ := reads_of h (n := "strconv.ErrSyntax") (d := Rows.laid_strconv_ErrSyntax) (by unfold laidL Rows.formSpreadsRow; simp)
  obtain rfl := Option.some.inj (gSyn.symm.trans hg)
  obtain rfl := Option.some.inj ((show (Tryz.prog.globals[2]?).map (·.type) = some 111 by kernel_rfl).symm.trans ht)
  obtain ⟨_, u, v, e, _, _⟩ := iface_of_trod Tryz.underlying111 hd
  refine ⟨.iface u v, ?_, .inr ⟨u, v, rfl⟩⟩
  rw [World.var?_cell hg hvar 0, ← Array.getElem?_toList, e]
  rfl
 rng := by
  obtain ⟨g, t, cs, fuel, p, hg, ht, hvar, hd⟩ := reads_of h (n := "strconv.ErrRange") (d := Rows.laid_strconv_ErrRange) (by unfold laidL Rows.formSpreadsRow; simp)
  obtain rfl := Option.some.inj (gRng.symm.trans hg)
  obtain rfl := Option.some.inj ((show (Tryz.prog.globals[3]?).map (·.type) = some 111 by kernel_rfl).symm.trans ht)
  obtain ⟨_, u, v, e, _, _⟩ := iface_of_trod Tryz.underlying111 hd
  refine ⟨.iface u v, ?_, .inr ⟨u, v, rfl⟩⟩
  rw [World.var?_cell hg hvar 0, ← Array.getElem?_toList, e]
  rfl
 mx := Tryz.laysM143.s1_3 W hsh
 u8 := by
  have h1 := reads_of h (n := "unicode/utf8.first") (d := Rows.laid_unicode_utf8_first) (by unfold laidL Rows.formSpreadsRow; simp)
  have h2 := reads_of h (n := "unicode/utf8.acceptRanges") (d := Rows.laid_unicode_utf8_acceptRanges) (by unfold laidL Rows.formSpreadsRow; simp)
  rw [show (Rows.laid_unicode_utf8_first : DataW Unit) = Lib.firstData by kernel_rfl] at h1
  rw [show (Rows.laid_unicode_utf8_acceptRanges : DataW Unit) = Lib.acceptData by kernel_rfl] at h2
  exact utf8Tabs_of_readsT (U8Types.of196 Tryz.laysValid) { n3 := by kernel_rfl, n4 := by kernel_rfl, y3 := by kernel_rfl, y4 := by kernel_rfl, c5 := by kernel_rfl, c119 := by kernel_rfl, c138 := by kernel_rfl } h1 h2
theorem kept_of (W : World) (c : Nat) (o : Obj) (h : kpW W c = some o) : W.heap[c]? = some o := by
 unfold kpW at h
 split at h
 ·exact h
 ·cases h
noncomputable def wit (os : Os) : World := World.laidAll Tryz.prog os laidL
theorem wit_met (os : Os) (args : Array Value) : laidMet Tryz.prog laidL ((wit os).forCall (fun _ _ => 0) ⟨#[], args, []⟩).memory := laidMet_laidAll args (by kernel_rfl) (by kernel_rfl)
theorem laidOut : laidOutB Tryz.prog = true := by kernel_rfl
theorem under4 : Tryz.prog.underlying 4 = some .bool := by kernel_rfl
theorem mixed : Tryz.prog.follows .mixedOrders = true := by kernel_rfl
end Go.Proofs.YtpdgbhjhodhkiaaGreatDoor.AI
