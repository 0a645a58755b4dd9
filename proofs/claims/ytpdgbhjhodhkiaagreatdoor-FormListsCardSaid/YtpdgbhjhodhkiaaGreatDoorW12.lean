/- Typed values: loops and functions as plain ones of Lean. -/
import Derived.Test.YtpdgbhjhodhkiaaGreatDoorW11
set_option linter.unnecessarySimpa false
set_option linter.unusedVariables false
set_option linter.unusedSimpArgs false
namespace Go.Proofs.YtpdgbhjhodhkiaaGreatDoor.AI
open Go
variable {T : Nat → Type} {C : Cod T} {R : Type} {P : Program} {cfg : Cfg} {wc : WCfg T} {I : WI T R}

/-! ### Parts of values -/
def W.toB : W T → Bool | .bool b => b | _ => false
def W.toI : W T → Int | .int _ n => n | _ => 0
def W.toS : W T → List UInt8 | .str s => s | _ => []
def W.toR (k : Nat) : W T → List (T k) | .row k' l _ => if h : k' = k then h ▸ l else [] | _ => []
def W.toX (k : Nat) [Inhabited (T k)] : W T → T k | .relem k' x _ => if h : k' = k then h ▸ x else default | _ => default
def W.toOff : W T → Nat | .view _ _ o _ => o | .oelem _ _ i _ => i | _ => 0
def W.toLen : W T → Nat | .view _ _ _ l => l | _ => 0
def W.nth : W T → Nat → W T
  | .agg ws, i => ws.getD i .undef
  | .tup ws, i => ws.getD i .undef
  | .fn _ ws, i => ws.getD i .undef
  | .ifc _ w, _ => w
  | _, _ => .undef
def En.toR (k : Nat) : En T → List (T k) | .rows k' l => if h : k' = k then h ▸ l else [] | _ => []
def En.toM (kk kv : Nat) : En T → List (T kk × T kv) | .map a b l => if h : a = kk then (if h' : b = kv then h ▸ h' ▸ l else []) else [] | _ => []

/-! ### Choices -/
def sumK {X Y : Type} (s : X ⊕ Y) (f : X → Option R) (g : Y → Option R) : Option R :=
  match s with
  | .inl x => f x
  | .inr y => g y
open Classical in
noncomputable def chk2 (c c' : Code) (st st' : WSt T) : Option Unit := if c = c' ∧ st = st' then some () else none
noncomputable def chk (c : Code) (st : WSt T) : Option Unit := chk2 c c st st
theorem chk_eq (c : Code) (st : WSt T) : chk c st = some () := by unfold chk chk2; rw [if_pos ⟨rfl, rfl⟩]
theorem chk2_some {c c' : Code} {st st' : WSt T} {u : Unit} (h : chk2 c c' st st' = some u) : c = c' ∧ st = st' := by
  unfold chk2 at h
  split at h
  · assumption
  · cases h
section
variable {R' X Y : Type}
theorem opK_cnd {b : Bool} {x y : Option R} {K : R → Option R'} : opK (cnd b x y) K = cnd b (opK x K) (opK y K) := by cases b <;> rfl
theorem opK_opK {o : Option X} {f : X → Option R} {K : R → Option R'} : opK (opK o f) K = opK o fun x => opK (f x) K := by cases o <;> rfl
theorem opK_sumK {s : X ⊕ Y} {f : X → Option R} {g : Y → Option R} {K : R → Option R'} : opK (sumK s f g) K = sumK s (fun x => opK (f x) K) (fun y => opK (g y) K) := by cases s <;> rfl
theorem opK_none {K : R → Option R'} : opK none K = none := rfl
theorem opK_one {x : R} {K : R → Option R'} : opK (some x) K = K x := rfl
end

/-! ### Loops -/
def stepE {X O : Type} (E : O → Ex × WSt T) (S : X → WSt T) : O ⊕ X → Ex × WSt T
  | .inl o => E o
  | .inr v => (.normal, S v)
theorem loop_gen {X O : Type} {c : Code} (S : X → WSt T) (E : O → Ex × WSt T) (hE : ∀ o, (E o).1 ≠ .normal) (R1 : X → Option (O ⊕ X)) (L : Nat → X → Option O)
    (hR : ∀ v x, R1 v = some x → RoundSaid cfg C c (S v) (stepE E S x))
    (h0 : ∀ v, L 0 v = none) (hL : ∀ m v, L (m + 1) v = opK (R1 v) fun x => sumK x some (L m)) :
    ∀ m v o, L m v = some o → LoopSaid cfg C (.loop c) (S v) (E o)
  | 0, v, o, h => by rw [h0] at h; cases h
  | m + 1, v, o, h => by
    rw [hL] at h
    obtain ⟨x, h1, h2⟩ := opK_some h
    cases x with
    | inl o' =>
      injection h2 with h2
      subst h2
      have h3 : RoundSaid cfg C c (S v) (E o') := hR v _ h1
      exact loop_end h3 (hE _)
    | inr v' =>
      have h3 : RoundSaid cfg C c (S v) (.normal, S v') := hR v _ h1
      exact loop_more h3 (loop_gen S E hE R1 L hR h0 hL m v' o h2)
/-- What a loop's claim comes to: 's': its state in the loop's form. -/
theorem hand_sound {O : Type} {c c0 : Code} {q : Prep} {st : WSt T} {k : Ex × WSt T → Option R} {r : R} {s : WSt T → WSt T} {L : WSt T → Option O} {E : WSt T → O → Ex × WSt T}
    (h : (opK (prepW q st) fun st' => opK (chk2 c c0 st' (s st')) fun _ => opK (L st') fun o => k (E st' o)) = some r)
    (hs : ∀ st' o, L st' = some o → LoopSaid cfg C (.loop c0) (s st') (E st' o)) : ∃ x, k x = some r ∧ LoopSaid cfg C (.loop c) st x := by
  obtain ⟨st', h1, g1⟩ := opK_some h
  obtain ⟨u, h2, g2⟩ := opK_some g1
  obtain ⟨o, h3, g3⟩ := opK_some g2
  obtain ⟨e, h4⟩ := chk2_some h2
  subst e
  have h5 : LoopSaid cfg C (.loop c) (s st') (E st' o) := hs st' o h3
  rw [← h4] at h5
  exact ⟨_, g3, loop_prep h1 h5⟩

/-! ### Functions -/
def PurSaid (cfg : Cfg) (C : Cod T) (f : FuncId) (ws : List (W T)) (w : W T) : Prop := ∀ {vs}, RepL C [] [] ws vs → ∃ v, pres cfg f vs = some v ∧ Rep C [] [] w v
def wm0 : WM T := ⟨[], [], 0, 0, 0, 0⟩
theorem sim0 : WSim ⟨Mem.empty, [], []⟩ C [] [] (wm0 : WM T) Mem.empty := by
  constructor <;> first | rfl | (intros; simp [wm0] at *; done) | exact Nat.le_refl _ | exact List.prefix_refl _
theorem pur_of (ok : CodOk wc.C) (io : IOk cfg wc.C I) {f : FuncId} {ws : List (W T)} {k : W T → Option R} {r : R} (h : (bodyWK cfg wc I f ws wm0 fun x => sealK x.2 x.1 k) = some r) :
    ∃ w, k w = some r ∧ PurSaid cfg wc.C f ws w := by
  obtain ⟨w, wm', h1, h2⟩ := bodyWK_sound ok io h
  obtain ⟨w', h3, h4, h5⟩ := sealK_sound ok _ h1
  refine ⟨w', h3, fun {vs} hr => ?_⟩
  obtain ⟨v, m', α', β', h6, _, _, S, hr'⟩ := h2 sim0 hr
  obtain ⟨v', h7, h8⟩ := h5 S hr'
  refine ⟨v', ?_, h8⟩
  unfold pres
  rw [h6, Option.bind_some]
  have : m'.lb = 0 := S.lb0
  rw [this] at h7
  exact h7
/-- The same for a call that may read the memory, but is handed nothing of it. -/
def FrzSaid (cfg : Cfg) (C : Cod T) (f : FuncId) (ws : List (W T)) (w : W T) : Prop := ∀ {vs} (m : Mem), RepL C [] [] ws vs → ∃ v, fres cfg f vs m = some v ∧ Rep C [] [] w v
theorem simF (m : Mem) : WSim ⟨{ m with la := m.A.length, lb := m.B.length }, [], []⟩ C [] [] (wm0 : WM T) { m with la := m.A.length, lb := m.B.length } := by
  constructor <;> first | rfl | (intros; simp [wm0] at *; done) | exact Nat.le_refl _ | exact List.prefix_refl _
theorem frz_of (ok : CodOk wc.C) (io : IOk cfg wc.C I) {f : FuncId} {ws : List (W T)} {k : W T → Option R} {r : R} (h : (bodyWK cfg wc I f ws wm0 fun x => sealK x.2 x.1 k) = some r) :
    ∃ w, k w = some r ∧ FrzSaid cfg wc.C f ws w := by
  obtain ⟨w, wm', h1, h2⟩ := bodyWK_sound ok io h
  obtain ⟨w', h3, h4, h5⟩ := sealK_sound ok _ h1
  refine ⟨w', h3, fun {vs} m hr => ?_⟩
  obtain ⟨v, m', α', β', h6, _, _, S, hr'⟩ := h2 (simF m) hr
  obtain ⟨v', h7, h8⟩ := h5 S hr'
  refine ⟨v', ?_, h8⟩
  unfold fres
  rw [h6, Option.bind_some]
  have : m'.lb = m.B.length := S.lb0
  rw [this] at h7
  exact h7
theorem FrzSaid.out {f : FuncId} {ws : List (W T)} {w w' : W T} (h : FrzSaid cfg C f ws w) (hw : ∀ {v}, Rep C [] [] w v → Rep C [] [] w' v) : FrzSaid cfg C f ws w' := fun m hr => by
  obtain ⟨v, h1, h2⟩ := h m hr
  exact ⟨v, h1, hw h2⟩
theorem FrzSaid.args {f : FuncId} {ws ws' : List (W T)} {w : W T} (h : FrzSaid cfg C f ws w) (hw : ∀ {vs}, RepL C [] [] ws' vs → RepL C [] [] ws vs) : FrzSaid cfg C f ws' w := fun m hr => h m (hw hr)
theorem inV_out (ok : CodOk C) {k : Nat} {w : W T} {x : T k} (h : inV C k w = some x) {α β α' β' v} (hr : Rep C α β w v) : Rep C α' β' (outV C k x) v := outV_rep ok (inV_rep ok h hr)
theorem PurSaid.out {f : FuncId} {ws : List (W T)} {w w' : W T} (h : PurSaid cfg C f ws w) (hw : ∀ {v}, Rep C [] [] w v → Rep C [] [] w' v) : PurSaid cfg C f ws w' := fun hr => by
  obtain ⟨v, h1, h2⟩ := h hr
  exact ⟨v, h1, hw h2⟩
theorem PurSaid.args {f : FuncId} {ws ws' : List (W T)} {w : W T} (h : PurSaid cfg C f ws w) (hw : ∀ {vs}, RepL C [] [] ws' vs → RepL C [] [] ws vs) : PurSaid cfg C f ws' w := fun hr => h (hw hr)
theorem repL_out (ok : CodOk C) {k : Nat} {w : W T} {x : T k} (h : inV C k w = some x) {ws ws' : List (W T)} (hs : ∀ {vs}, RepL C [] [] ws vs → RepL C [] [] ws' vs) : ∀ {vs}, RepL C [] [] (w :: ws) vs → RepL C [] [] (outV C k x :: ws') vs := by
  intro vs hr
  simp only [RepL] at hr
  obtain ⟨v, vs', rfl, h1, h2⟩ := hr
  exact RepL.cons (inV_out ok h h1) (hs h2)
theorem repL_same {w : W T} {ws ws' : List (W T)} (hs : ∀ {vs}, RepL C [] [] ws vs → RepL C [] [] ws' vs) : ∀ {vs}, RepL C [] [] (w :: ws) vs → RepL C [] [] (w :: ws') vs := by
  intro vs hr
  simp only [RepL] at hr
  obtain ⟨v, vs', rfl, h1, h2⟩ := hr
  exact RepL.cons h1 (hs h2)
theorem bif_or {R' : Type} {b : Bool} {x y : Option R'} {r : R'} (h : (bif b then x else y) = some r) : (b = true ∧ x = some r) ∨ y = some r := by
  cases b
  · exact .inr h
  · exact .inl ⟨rfl, h⟩
def tup2K (C : Cod T) (c0 c1 : Nat) (w : W T) (K : T c0 → T c1 → Option R) : Option R :=
  match w with
  | .tup [w0, w1] => opK (inV C c0 w0) fun y0 => opK (inV C c1 w1) fun y1 => K y0 y1
  | _ => none
def tup3K (C : Cod T) (c0 c1 c2 : Nat) (w : W T) (K : T c0 → T c1 → T c2 → Option R) : Option R :=
  match w with
  | .tup [w0, w1, w2] => opK (inV C c0 w0) fun y0 => opK (inV C c1 w1) fun y1 => opK (inV C c2 w2) fun y2 => K y0 y1 y2
  | _ => none
theorem in1_out (ok : CodOk C) {k : Nat} {w : W T} {y : T k} (h : opK (inV C k w) some = some y) {v} (hr : Rep C [] [] w v) : Rep C [] [] (outV C k y) v := by
  obtain ⟨x, h1, h2⟩ := opK_some h
  injection h2 with h2
  subst h2
  exact inV_out ok h1 hr
theorem in2_out (ok : CodOk C) {c0 c1 : Nat} {w : W T} {y : T c0 × T c1} (h : (tup2K C c0 c1 w fun y0 y1 => some (y0, y1)) = some y) {v} (hr : Rep C [] [] w v) : Rep C [] [] (.tup [outV C c0 y.1, outV C c1 y.2]) v := by
  unfold tup2K at h
  split at h
  · obtain ⟨x, h1, h⟩ := opK_some h
    obtain ⟨x', h1', h⟩ := opK_some h
    injection h with h
    subst h
    simp only [Rep] at hr ⊢
    obtain ⟨vs, rfl, hr⟩ := hr
    exact ⟨vs, rfl, repL_out ok h1 (repL_out ok h1' fun h => h) hr⟩
  · cases h
theorem in3_out (ok : CodOk C) {c0 c1 c2 : Nat} {w : W T} {y : T c0 × T c1 × T c2} (h : (tup3K C c0 c1 c2 w fun y0 y1 y2 => some (y0, y1, y2)) = some y) {v} (hr : Rep C [] [] w v) : Rep C [] [] (.tup [outV C c0 y.1, outV C c1 y.2.1, outV C c2 y.2.2]) v := by
  unfold tup3K at h
  split at h
  · obtain ⟨x, h1, h⟩ := opK_some h
    obtain ⟨x', h1', h⟩ := opK_some h
    obtain ⟨x2, h2', h⟩ := opK_some h
    injection h with h
    subst h
    simp only [Rep] at hr ⊢
    obtain ⟨vs, rfl, hr⟩ := hr
    exact ⟨vs, rfl, repL_out ok h1 (repL_out ok h1' (repL_out ok h2' fun h => h)) hr⟩
  · cases h
def pnum : List Nat → Nat
  | [] => 0
  | x :: l => pnum l * 16 + x + 1
/-- Calls that are walked into: so many levels. -/
def inlN (cfg : Cfg) (wc : WCfg T) : Nat → WI T R → WI T R
  | 0, I => I
  | d + 1, I => { I with call := fun f ws wm k => if I.heap f then I.call f ws wm k else bodyWK cfg wc (inlN cfg wc d I) f ws wm k, yld := fun h ws wm k => yldWK cfg wc (inlN cfg wc d I) h ws wm k }
theorem inlN_ok (ok : CodOk wc.C) (io : IOk cfg wc.C I) : ∀ d, IOk cfg wc.C (inlN cfg wc d I)
  | 0 => io
  | d + 1 => { io with
      call := fun h => by
        simp only [inlN] at h
        split at h
        · exact io.call h
        · exact bodyWK_sound ok (inlN_ok ok io d) h
      yld := fun h => yldWK_sound ok (inlN_ok ok io d) h }
/-- Several results. -/
def tupIn : W T → List (W T) | .tup ws => ws | _ => []
def codeAt (c : Code) : List Nat → Option Code
  | [] => some c
  | i :: p =>
    match codeAt c p, i with
    | some (.seq a _), 0 => some a
    | some (.seq _ b), 1 => some b
    | some (.cond _ a _), 0 => some a
    | some (.cond _ _ b), 1 => some b
    | some (.block _ a), 0 => some a
    | some (.rangeFunc _ _ a _), 2 => some a
    | some (.rangeFunc _ _ _ b), 3 => some b
    | some (.loop a), 9 => some a
    | _, _ => none
end Go.Proofs.YtpdgbhjhodhkiaaGreatDoor.AI
