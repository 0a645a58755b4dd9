/- The functions of Lean are what the code does. -/
import Derived.Test.YtpdgbhjhodhkiaaGreatDoorQ1
set_option linter.unnecessarySimpa false
set_option linter.unusedVariables false
set_option linter.unusedSimpArgs false
set_option maxRecDepth 100000
namespace Go.Proofs.YtpdgbhjhodhkiaaGreatDoor.AI
open Go Go.Proofs
/-! ### Calls -/
def Size_P {R : Type} (F : Tb) (ws : List (W T)) (k : W T → Option R) : Option R :=
  match ws with
  | [w0] => opK (inV cod 3 w0) fun a0 => opK (F.Size a0) fun y => k (.tup [outV cod 0 y.1, outV cod 0 y.2])
  | _ => none
def rEqual_P {R : Type} (F : Tb) (ws : List (W T)) (k : W T → Option R) : Option R :=
  match ws with
  | [w0, w1] => opK (inV cod 3 w0) fun a0 => opK (inV cod 3 w1) fun a1 => opK (F.rEqual a0 a1) fun y => k (outV cod 4 y)
  | _ => none
def left_P {R : Type} (F : Tb) (ws : List (W T)) (k : W T → Option R) : Option R :=
  match ws with
  | [w0, w1] => opK (inV cod 3 w0) fun a0 => opK (inV cod 0 w1) fun a1 => opK (F.left a0 a1) fun y => k (outV cod 0 y)
  | _ => none
def Few_P {R : Type} (F : Tb) (ws : List (W T)) (k : W T → Option R) : Option R :=
  match ws with
  | [w0, w1] => opK (inV cod 3 w0) fun a0 => opK (inV cod 0 w1) fun a1 => opK (F.Few a0 a1) fun y => k (outV cod 4 y)
  | _ => none
def same_P {R : Type} (F : Tb) (ws : List (W T)) (k : W T → Option R) : Option R :=
  match ws with
  | [w0, w1] => opK (inV cod 7 w0) fun a0 => opK (inV cod 7 w1) fun a1 => opK (F.same a0 a1) fun y => k (outV cod 4 y)
  | _ => none
def Dotted_P {R : Type} (F : Tb) (ws : List (W T)) (k : W T → Option R) : Option R :=
  match ws with
  | [w0, w1] => opK (inV cod 7 w0) fun a0 => opK (inV cod 3 w1) fun a1 => opK (F.Dotted a0 a1) fun y => k (outV cod 3 y)
  | _ => none
def Spread_P {R : Type} (F : Tb) (ws : List (W T)) (k : W T → Option R) : Option R :=
  match ws with
  | [w0] => opK (inV cod 3 w0) fun a0 => opK (F.Spread a0) fun y => k (.tup [outV cod 7 y.1, outV cod 3 y.2])
  | _ => none
def mkList_P {R : Type} (F : Tb) (ws : List (W T)) (k : W T → Option R) : Option R :=
  match ws with
  | [w0] => opK (inV cod 7 w0) fun a0 => opK (F.mkList a0) fun y => k (outV cod 3 y)
  | _ => none
def Items_P {R : Type} (F : Tb) (ws : List (W T)) (k : W T → Option R) : Option R :=
  match ws with
  | [w0] => opK (inV cod 3 w0) fun a0 => opK (F.Items a0) fun y => k (.tup [outV cod 7 y.1, outV cod 4 y.2])
  | _ => none
def IsNil_P {R : Type} (F : Tb) (ws : List (W T)) (k : W T → Option R) : Option R :=
  match ws with
  | [w0] => opK (inV cod 3 w0) fun a0 => opK (F.IsNil a0) fun y => k (outV cod 4 y)
  | _ => none
def Is_P {R : Type} (F : Tb) (ws : List (W T)) (k : W T → Option R) : Option R :=
  match ws with
  | [w0, w1, w2] => opK (inV cod 3 w0) fun a0 => opK (inV cod 2 w1) fun a1 => opK (inV cod 2 w2) fun a2 => opK (F.Is a0 a1 a2) fun y => k (outV cod 4 y)
  | _ => none
def Symbol_P {R : Type} (F : Tb) (ws : List (W T)) (k : W T → Option R) : Option R :=
  match ws with
  | [w0, w1] => opK (inV cod 2 w0) fun a0 => opK (inV cod 2 w1) fun a1 => opK (F.Symbol a0 a1) fun y => k (outV cod 3 y)
  | _ => none
def Nil_P {R : Type} (F : Tb) (ws : List (W T)) (k : W T → Option R) : Option R :=
  match ws with
  | [] => opK (F.Nil ) fun y => k (outV cod 3 y)
  | _ => none
def Equal_P {R : Type} (F : Tb) (ws : List (W T)) (k : W T → Option R) : Option R :=
  match ws with
  | [w0, w1] => opK (inV cod 3 w0) fun a0 => opK (inV cod 3 w1) fun a1 => opK (F.Equal a0 a1) fun y => k (outV cod 4 y)
  | _ => none
def EqualFunc_f22_P {R : Type} (F : Tb) (ws : List (W T)) (k : W T → Option R) : Option R :=
  match ws with
  | [w0, w1, .fn 22 []] => opK (inV cod 7 w0) fun a0 => opK (inV cod 7 w1) fun a1 => opK (F.EqualFunc_f22 a0 a1) fun y => k (outV cod 4 y)
  | _ => none
def Concat_P {R : Type} (F : Tb) (ws : List (W T)) (k : W T → Option R) : Option R :=
  match ws with
  | [w0] => opK (inV cod 8 w0) fun a0 => opK (F.Concat a0) fun y => k (outV cod 7 y)
  | _ => none
def rDotted_P {R : Type} (F : Tb) (ws : List (W T)) (k : W T → Option R) : Option R :=
  match ws with
  | [w0, w1] => opK (inV cod 7 w0) fun a0 => opK (inV cod 3 w1) fun a1 => opK (F.rDotted a0 a1) fun y => k (outV cod 3 y)
  | _ => none
def rSpread_P {R : Type} (F : Tb) (ws : List (W T)) (k : W T → Option R) : Option R :=
  match ws with
  | [w0] => opK (inV cod 3 w0) fun a0 => opK (F.rSpread a0) fun y => k (.tup [outV cod 7 y.1, outV cod 3 y.2])
  | _ => none
def rItems_P {R : Type} (F : Tb) (ws : List (W T)) (k : W T → Option R) : Option R :=
  match ws with
  | [w0] => opK (inV cod 3 w0) fun a0 => opK (F.rItems a0) fun y => k (.tup [outV cod 7 y.1, outV cod 4 y.2])
  | _ => none
def rList_P {R : Type} (F : Tb) (ws : List (W T)) (k : W T → Option R) : Option R :=
  match ws with
  | [w0] => opK (inV cod 7 w0) fun a0 => opK (F.rList a0) fun y => k (outV cod 3 y)
  | _ => none
def Call_P {R : Type} (F : Tb) (ws : List (W T)) (k : W T → Option R) : Option R :=
  match ws with
  | [w0, w1] => opK (inV cod 2 w0) fun a0 => opK (inV cod 7 w1) fun a1 => opK (F.Call a0 a1) fun y => k (outV cod 3 y)
  | _ => none
def rCall_P {R : Type} (F : Tb) (ws : List (W T)) (k : W T → Option R) : Option R :=
  match ws with
  | [w0, w1] => opK (inV cod 2 w0) fun a0 => opK (inV cod 7 w1) fun a1 => opK (F.rCall a0 a1) fun y => k (outV cod 3 y)
  | _ => none
def rNil_P {R : Type} (F : Tb) (ws : List (W T)) (k : W T → Option R) : Option R :=
  match ws with
  | [] => opK (F.rNil ) fun y => k (outV cod 3 y)
  | _ => none
def rSymbol_P {R : Type} (F : Tb) (ws : List (W T)) (k : W T → Option R) : Option R :=
  match ws with
  | [w0, w1] => opK (inV cod 2 w0) fun a0 => opK (inV cod 2 w1) fun a1 => opK (F.rSymbol a0 a1) fun y => k (outV cod 3 y)
  | _ => none
def rIsNil_P {R : Type} (F : Tb) (ws : List (W T)) (k : W T → Option R) : Option R :=
  match ws with
  | [w0] => opK (inV cod 3 w0) fun a0 => opK (F.rIsNil a0) fun y => k (outV cod 4 y)
  | _ => none
def rIs_P {R : Type} (F : Tb) (ws : List (W T)) (k : W T → Option R) : Option R :=
  match ws with
  | [w0, w1, w2] => opK (inV cod 3 w0) fun a0 => opK (inV cod 2 w1) fun a1 => opK (inV cod 2 w2) fun a2 => opK (F.rIs a0 a1 a2) fun y => k (outV cod 4 y)
  | _ => none
def awakeTrees_P {R : Type} (F : Tb) (ws : List (W T)) (k : W T → Option R) : Option R :=
  match ws with
  | [] => opK (F.awakeTrees ) fun y => k (outV cod 4 y)
  | _ => none
def FormSpreads_P {R : Type} (F : Tb) (ws : List (W T)) (k : W T → Option R) : Option R :=
  match ws with
  | [w0, w1, w2] => opK (inV cod 7 w0) fun a0 => opK (inV cod 7 w1) fun a1 => opK (inV cod 3 w2) fun a2 => opK (F.FormSpreads a0 a1 a2) fun y => k (outV cod 4 y)
  | _ => none
def FormLists_P {R : Type} (F : Tb) (ws : List (W T)) (k : W T → Option R) : Option R :=
  match ws with
  | [w0, w1, w2] => opK (inV cod 7 w0) fun a0 => opK (inV cod 3 w1) fun a1 => opK (inV cod 2 w2) fun a2 => opK (F.FormLists a0 a1 a2) fun y => k (outV cod 4 y)
  | _ => none
def purT {R : Type} (F : Tb) (f : FuncId) (ws : List (W T)) (k : W T → Option R) : Option R :=
  bif Nat.beq f 23 then Size_P F ws k else
  bif Nat.beq f 15 then rEqual_P F ws k else
  bif Nat.beq f 73 then left_P F ws k else
  bif Nat.beq f 11 then Few_P F ws k else
  bif Nat.beq f 36 then same_P F ws k else
  bif Nat.beq f 37 then Dotted_P F ws k else
  bif Nat.beq f 38 then Spread_P F ws k else
  bif Nat.beq f 35 then mkList_P F ws k else
  bif Nat.beq f 34 then Items_P F ws k else
  bif Nat.beq f 28 then IsNil_P F ws k else
  bif Nat.beq f 30 then Is_P F ws k else
  bif Nat.beq f 74 then Symbol_P F ws k else
  bif Nat.beq f 75 then Nil_P F ws k else
  bif Nat.beq f 22 then Equal_P F ws k else
  bif Nat.beq f 98 then EqualFunc_f22_P F ws k else
  bif Nat.beq f 105 then Concat_P F ws k else
  bif Nat.beq f 39 then rDotted_P F ws k else
  bif Nat.beq f 40 then rSpread_P F ws k else
  bif Nat.beq f 41 then rItems_P F ws k else
  bif Nat.beq f 42 then rList_P F ws k else
  bif Nat.beq f 43 then Call_P F ws k else
  bif Nat.beq f 44 then rCall_P F ws k else
  bif Nat.beq f 107 then rNil_P F ws k else
  bif Nat.beq f 108 then rSymbol_P F ws k else
  bif Nat.beq f 29 then rIsNil_P F ws k else
  bif Nat.beq f 31 then rIs_P F ws k else
  bif Nat.beq f 12 then awakeTrees_P F ws k else
  bif Nat.beq f 6 then FormSpreads_P F ws k else
  bif Nat.beq f 7 then FormLists_P F ws k else
  none
def frzT {R : Type} (F : Tb) (f : FuncId) (ws : List (W T)) (wm : WM T) (k : W T → Option R) : Option R :=
  if norefL ws = true then
  none else none
def heapN (f : FuncId) : Bool := [].contains f
def ksN (f : FuncId) : List Nat := []
def maN (f : FuncId) : List (Nat × Nat × Nat) := []
noncomputable def heapD {R : Type} (F : Tb) (f : FuncId) (L : Win T) (k : W T × WM T → Option R) : Option R :=
  none
noncomputable def callT {R : Type} (F : Tb) (f : FuncId) (ws : List (W T)) (wm : WM T) (k : W T × WM T → Option R) : Option R := opK (winW cod (ksN f) (maN f) ws wm) fun L => heapD F f L k
structure Sd (F : Tb) : Prop where
  Size : ∀ (a0 : Form) y, F.Size a0 = some y → PurSaid cfgL cod 23 [outV cod 3 a0] (.tup [outV cod 0 y.1, outV cod 0 y.2])
  rEqual : ∀ (a0 : Form) (a1 : Form) y, F.rEqual a0 a1 = some y → PurSaid cfgL cod 15 [outV cod 3 a0, outV cod 3 a1] (outV cod 4 y)
  left : ∀ (a0 : Form) (a1 : Int) y, F.left a0 a1 = some y → PurSaid cfgL cod 73 [outV cod 3 a0, outV cod 0 a1] (outV cod 0 y)
  Few : ∀ (a0 : Form) (a1 : Int) y, F.Few a0 a1 = some y → PurSaid cfgL cod 11 [outV cod 3 a0, outV cod 0 a1] (outV cod 4 y)
  same : ∀ (a0 : (List Form)) (a1 : (List Form)) y, F.same a0 a1 = some y → PurSaid cfgL cod 36 [outV cod 7 a0, outV cod 7 a1] (outV cod 4 y)
  Dotted : ∀ (a0 : (List Form)) (a1 : Form) y, F.Dotted a0 a1 = some y → PurSaid cfgL cod 37 [outV cod 7 a0, outV cod 3 a1] (outV cod 3 y)
  Spread : ∀ (a0 : Form) y, F.Spread a0 = some y → PurSaid cfgL cod 38 [outV cod 3 a0] (.tup [outV cod 7 y.1, outV cod 3 y.2])
  mkList : ∀ (a0 : (List Form)) y, F.mkList a0 = some y → PurSaid cfgL cod 35 [outV cod 7 a0] (outV cod 3 y)
  Items : ∀ (a0 : Form) y, F.Items a0 = some y → PurSaid cfgL cod 34 [outV cod 3 a0] (.tup [outV cod 7 y.1, outV cod 4 y.2])
  IsNil : ∀ (a0 : Form) y, F.IsNil a0 = some y → PurSaid cfgL cod 28 [outV cod 3 a0] (outV cod 4 y)
  Is : ∀ (a0 : Form) (a1 : Bs) (a2 : Bs) y, F.Is a0 a1 a2 = some y → PurSaid cfgL cod 30 [outV cod 3 a0, outV cod 2 a1, outV cod 2 a2] (outV cod 4 y)
  Symbol : ∀ (a0 : Bs) (a1 : Bs) y, F.Symbol a0 a1 = some y → PurSaid cfgL cod 74 [outV cod 2 a0, outV cod 2 a1] (outV cod 3 y)
  Nil : ∀  y, F.Nil  = some y → PurSaid cfgL cod 75 [] (outV cod 3 y)
  Equal : ∀ (a0 : Form) (a1 : Form) y, F.Equal a0 a1 = some y → PurSaid cfgL cod 22 [outV cod 3 a0, outV cod 3 a1] (outV cod 4 y)
  EqualFunc_f22 : ∀ (a0 : (List Form)) (a1 : (List Form)) y, F.EqualFunc_f22 a0 a1 = some y → PurSaid cfgL cod 98 [outV cod 7 a0, outV cod 7 a1, .fn 22 []] (outV cod 4 y)
  Concat : ∀ (a0 : (List (List Form))) y, F.Concat a0 = some y → PurSaid cfgL cod 105 [outV cod 8 a0] (outV cod 7 y)
  rDotted : ∀ (a0 : (List Form)) (a1 : Form) y, F.rDotted a0 a1 = some y → PurSaid cfgL cod 39 [outV cod 7 a0, outV cod 3 a1] (outV cod 3 y)
  rSpread : ∀ (a0 : Form) y, F.rSpread a0 = some y → PurSaid cfgL cod 40 [outV cod 3 a0] (.tup [outV cod 7 y.1, outV cod 3 y.2])
  rItems : ∀ (a0 : Form) y, F.rItems a0 = some y → PurSaid cfgL cod 41 [outV cod 3 a0] (.tup [outV cod 7 y.1, outV cod 4 y.2])
  rList : ∀ (a0 : (List Form)) y, F.rList a0 = some y → PurSaid cfgL cod 42 [outV cod 7 a0] (outV cod 3 y)
  Call : ∀ (a0 : Bs) (a1 : (List Form)) y, F.Call a0 a1 = some y → PurSaid cfgL cod 43 [outV cod 2 a0, outV cod 7 a1] (outV cod 3 y)
  rCall : ∀ (a0 : Bs) (a1 : (List Form)) y, F.rCall a0 a1 = some y → PurSaid cfgL cod 44 [outV cod 2 a0, outV cod 7 a1] (outV cod 3 y)
  rNil : ∀  y, F.rNil  = some y → PurSaid cfgL cod 107 [] (outV cod 3 y)
  rSymbol : ∀ (a0 : Bs) (a1 : Bs) y, F.rSymbol a0 a1 = some y → PurSaid cfgL cod 108 [outV cod 2 a0, outV cod 2 a1] (outV cod 3 y)
  rIsNil : ∀ (a0 : Form) y, F.rIsNil a0 = some y → PurSaid cfgL cod 29 [outV cod 3 a0] (outV cod 4 y)
  rIs : ∀ (a0 : Form) (a1 : Bs) (a2 : Bs) y, F.rIs a0 a1 a2 = some y → PurSaid cfgL cod 31 [outV cod 3 a0, outV cod 2 a1, outV cod 2 a2] (outV cod 4 y)
  awakeTrees : ∀  y, F.awakeTrees  = some y → PurSaid cfgL cod 12 [] (outV cod 4 y)
  FormSpreads : ∀ (a0 : (List Form)) (a1 : (List Form)) (a2 : Form) y, F.FormSpreads a0 a1 a2 = some y → PurSaid cfgL cod 6 [outV cod 7 a0, outV cod 7 a1, outV cod 3 a2] (outV cod 4 y)
  FormLists : ∀ (a0 : (List Form)) (a1 : Form) (a2 : Bs) y, F.FormLists a0 a1 a2 = some y → PurSaid cfgL cod 7 [outV cod 7 a0, outV cod 3 a1, outV cod 2 a2] (outV cod 4 y)
theorem Size_Ps {R : Type} {F : Tb} (sd : Sd F) {ws : List (W T)} {k : W T → Option R} {r : R} (h : Size_P F ws k = some r) : ∃ w, k w = some r ∧ PurSaid cfgL cod 23 ws w := by
  unfold Size_P at h
  split at h
  · obtain ⟨a0, h0, h⟩ := opK_some h
    obtain ⟨y, hy, h⟩ := opK_some h
    exact ⟨_, h, PurSaid.args (sd.Size a0 y hy) (repL_out codOk h0 (fun h => h))⟩
  · cases h
theorem rEqual_Ps {R : Type} {F : Tb} (sd : Sd F) {ws : List (W T)} {k : W T → Option R} {r : R} (h : rEqual_P F ws k = some r) : ∃ w, k w = some r ∧ PurSaid cfgL cod 15 ws w := by
  unfold rEqual_P at h
  split at h
  · obtain ⟨a0, h0, h⟩ := opK_some h
    obtain ⟨a1, h1, h⟩ := opK_some h
    obtain ⟨y, hy, h⟩ := opK_some h
    exact ⟨_, h, PurSaid.args (sd.rEqual a0 a1 y hy) (repL_out codOk h0 (repL_out codOk h1 (fun h => h)))⟩
  · cases h
theorem left_Ps {R : Type} {F : Tb} (sd : Sd F) {ws : List (W T)} {k : W T → Option R} {r : R} (h : left_P F ws k = some r) : ∃ w, k w = some r ∧ PurSaid cfgL cod 73 ws w := by
  unfold left_P at h
  split at h
  · obtain ⟨a0, h0, h⟩ := opK_some h
    obtain ⟨a1, h1, h⟩ := opK_some h
    obtain ⟨y, hy, h⟩ := opK_some h
    exact ⟨_, h, PurSaid.args (sd.left a0 a1 y hy) (repL_out codOk h0 (repL_out codOk h1 (fun h => h)))⟩
  · cases h
theorem Few_Ps {R : Type} {F : Tb} (sd : Sd F) {ws : List (W T)} {k : W T → Option R} {r : R} (h : Few_P F ws k = some r) : ∃ w, k w = some r ∧ PurSaid cfgL cod 11 ws w := by
  unfold Few_P at h
  split at h
  · obtain ⟨a0, h0, h⟩ := opK_some h
    obtain ⟨a1, h1, h⟩ := opK_some h
    obtain ⟨y, hy, h⟩ := opK_some h
    exact ⟨_, h, PurSaid.args (sd.Few a0 a1 y hy) (repL_out codOk h0 (repL_out codOk h1 (fun h => h)))⟩
  · cases h
theorem same_Ps {R : Type} {F : Tb} (sd : Sd F) {ws : List (W T)} {k : W T → Option R} {r : R} (h : same_P F ws k = some r) : ∃ w, k w = some r ∧ PurSaid cfgL cod 36 ws w := by
  unfold same_P at h
  split at h
  · obtain ⟨a0, h0, h⟩ := opK_some h
    obtain ⟨a1, h1, h⟩ := opK_some h
    obtain ⟨y, hy, h⟩ := opK_some h
    exact ⟨_, h, PurSaid.args (sd.same a0 a1 y hy) (repL_out codOk h0 (repL_out codOk h1 (fun h => h)))⟩
  · cases h
theorem Dotted_Ps {R : Type} {F : Tb} (sd : Sd F) {ws : List (W T)} {k : W T → Option R} {r : R} (h : Dotted_P F ws k = some r) : ∃ w, k w = some r ∧ PurSaid cfgL cod 37 ws w := by
  unfold Dotted_P at h
  split at h
  · obtain ⟨a0, h0, h⟩ := opK_some h
    obtain ⟨a1, h1, h⟩ := opK_some h
    obtain ⟨y, hy, h⟩ := opK_some h
    exact ⟨_, h, PurSaid.args (sd.Dotted a0 a1 y hy) (repL_out codOk h0 (repL_out codOk h1 (fun h => h)))⟩
  · cases h
theorem Spread_Ps {R : Type} {F : Tb} (sd : Sd F) {ws : List (W T)} {k : W T → Option R} {r : R} (h : Spread_P F ws k = some r) : ∃ w, k w = some r ∧ PurSaid cfgL cod 38 ws w := by
  unfold Spread_P at h
  split at h
  · obtain ⟨a0, h0, h⟩ := opK_some h
    obtain ⟨y, hy, h⟩ := opK_some h
    exact ⟨_, h, PurSaid.args (sd.Spread a0 y hy) (repL_out codOk h0 (fun h => h))⟩
  · cases h
theorem mkList_Ps {R : Type} {F : Tb} (sd : Sd F) {ws : List (W T)} {k : W T → Option R} {r : R} (h : mkList_P F ws k = some r) : ∃ w, k w = some r ∧ PurSaid cfgL cod 35 ws w := by
  unfold mkList_P at h
  split at h
  · obtain ⟨a0, h0, h⟩ := opK_some h
    obtain ⟨y, hy, h⟩ := opK_some h
    exact ⟨_, h, PurSaid.args (sd.mkList a0 y hy) (repL_out codOk h0 (fun h => h))⟩
  · cases h
theorem Items_Ps {R : Type} {F : Tb} (sd : Sd F) {ws : List (W T)} {k : W T → Option R} {r : R} (h : Items_P F ws k = some r) : ∃ w, k w = some r ∧ PurSaid cfgL cod 34 ws w := by
  unfold Items_P at h
  split at h
  · obtain ⟨a0, h0, h⟩ := opK_some h
    obtain ⟨y, hy, h⟩ := opK_some h
    exact ⟨_, h, PurSaid.args (sd.Items a0 y hy) (repL_out codOk h0 (fun h => h))⟩
  · cases h
theorem IsNil_Ps {R : Type} {F : Tb} (sd : Sd F) {ws : List (W T)} {k : W T → Option R} {r : R} (h : IsNil_P F ws k = some r) : ∃ w, k w = some r ∧ PurSaid cfgL cod 28 ws w := by
  unfold IsNil_P at h
  split at h
  · obtain ⟨a0, h0, h⟩ := opK_some h
    obtain ⟨y, hy, h⟩ := opK_some h
    exact ⟨_, h, PurSaid.args (sd.IsNil a0 y hy) (repL_out codOk h0 (fun h => h))⟩
  · cases h
theorem Is_Ps {R : Type} {F : Tb} (sd : Sd F) {ws : List (W T)} {k : W T → Option R} {r : R} (h : Is_P F ws k = some r) : ∃ w, k w = some r ∧ PurSaid cfgL cod 30 ws w := by
  unfold Is_P at h
  split at h
  · obtain ⟨a0, h0, h⟩ := opK_some h
    obtain ⟨a1, h1, h⟩ := opK_some h
    obtain ⟨a2, h2, h⟩ := opK_some h
    obtain ⟨y, hy, h⟩ := opK_some h
    exact ⟨_, h, PurSaid.args (sd.Is a0 a1 a2 y hy) (repL_out codOk h0 (repL_out codOk h1 (repL_out codOk h2 (fun h => h))))⟩
  · cases h
theorem Symbol_Ps {R : Type} {F : Tb} (sd : Sd F) {ws : List (W T)} {k : W T → Option R} {r : R} (h : Symbol_P F ws k = some r) : ∃ w, k w = some r ∧ PurSaid cfgL cod 74 ws w := by
  unfold Symbol_P at h
  split at h
  · obtain ⟨a0, h0, h⟩ := opK_some h
    obtain ⟨a1, h1, h⟩ := opK_some h
    obtain ⟨y, hy, h⟩ := opK_some h
    exact ⟨_, h, PurSaid.args (sd.Symbol a0 a1 y hy) (repL_out codOk h0 (repL_out codOk h1 (fun h => h)))⟩
  · cases h
theorem Nil_Ps {R : Type} {F : Tb} (sd : Sd F) {ws : List (W T)} {k : W T → Option R} {r : R} (h : Nil_P F ws k = some r) : ∃ w, k w = some r ∧ PurSaid cfgL cod 75 ws w := by
  unfold Nil_P at h
  split at h
  · obtain ⟨y, hy, h⟩ := opK_some h
    exact ⟨_, h, PurSaid.args (sd.Nil  y hy) (fun h => h)⟩
  · cases h
theorem Equal_Ps {R : Type} {F : Tb} (sd : Sd F) {ws : List (W T)} {k : W T → Option R} {r : R} (h : Equal_P F ws k = some r) : ∃ w, k w = some r ∧ PurSaid cfgL cod 22 ws w := by
  unfold Equal_P at h
  split at h
  · obtain ⟨a0, h0, h⟩ := opK_some h
    obtain ⟨a1, h1, h⟩ := opK_some h
    obtain ⟨y, hy, h⟩ := opK_some h
    exact ⟨_, h, PurSaid.args (sd.Equal a0 a1 y hy) (repL_out codOk h0 (repL_out codOk h1 (fun h => h)))⟩
  · cases h
theorem EqualFunc_f22_Ps {R : Type} {F : Tb} (sd : Sd F) {ws : List (W T)} {k : W T → Option R} {r : R} (h : EqualFunc_f22_P F ws k = some r) : ∃ w, k w = some r ∧ PurSaid cfgL cod 98 ws w := by
  unfold EqualFunc_f22_P at h
  split at h
  · obtain ⟨a0, h0, h⟩ := opK_some h
    obtain ⟨a1, h1, h⟩ := opK_some h
    obtain ⟨y, hy, h⟩ := opK_some h
    exact ⟨_, h, PurSaid.args (sd.EqualFunc_f22 a0 a1 y hy) (repL_out codOk h0 (repL_out codOk h1 (repL_same (fun h => h))))⟩
  · cases h
theorem Concat_Ps {R : Type} {F : Tb} (sd : Sd F) {ws : List (W T)} {k : W T → Option R} {r : R} (h : Concat_P F ws k = some r) : ∃ w, k w = some r ∧ PurSaid cfgL cod 105 ws w := by
  unfold Concat_P at h
  split at h
  · obtain ⟨a0, h0, h⟩ := opK_some h
    obtain ⟨y, hy, h⟩ := opK_some h
    exact ⟨_, h, PurSaid.args (sd.Concat a0 y hy) (repL_out codOk h0 (fun h => h))⟩
  · cases h
theorem rDotted_Ps {R : Type} {F : Tb} (sd : Sd F) {ws : List (W T)} {k : W T → Option R} {r : R} (h : rDotted_P F ws k = some r) : ∃ w, k w = some r ∧ PurSaid cfgL cod 39 ws w := by
  unfold rDotted_P at h
  split at h
  · obtain ⟨a0, h0, h⟩ := opK_some h
    obtain ⟨a1, h1, h⟩ := opK_some h
    obtain ⟨y, hy, h⟩ := opK_some h
    exact ⟨_, h, PurSaid.args (sd.rDotted a0 a1 y hy) (repL_out codOk h0 (repL_out codOk h1 (fun h => h)))⟩
  · cases h
theorem rSpread_Ps {R : Type} {F : Tb} (sd : Sd F) {ws : List (W T)} {k : W T → Option R} {r : R} (h : rSpread_P F ws k = some r) : ∃ w, k w = some r ∧ PurSaid cfgL cod 40 ws w := by
  unfold rSpread_P at h
  split at h
  · obtain ⟨a0, h0, h⟩ := opK_some h
    obtain ⟨y, hy, h⟩ := opK_some h
    exact ⟨_, h, PurSaid.args (sd.rSpread a0 y hy) (repL_out codOk h0 (fun h => h))⟩
  · cases h
theorem rItems_Ps {R : Type} {F : Tb} (sd : Sd F) {ws : List (W T)} {k : W T → Option R} {r : R} (h : rItems_P F ws k = some r) : ∃ w, k w = some r ∧ PurSaid cfgL cod 41 ws w := by
  unfold rItems_P at h
  split at h
  · obtain ⟨a0, h0, h⟩ := opK_some h
    obtain ⟨y, hy, h⟩ := opK_some h
    exact ⟨_, h, PurSaid.args (sd.rItems a0 y hy) (repL_out codOk h0 (fun h => h))⟩
  · cases h
theorem rList_Ps {R : Type} {F : Tb} (sd : Sd F) {ws : List (W T)} {k : W T → Option R} {r : R} (h : rList_P F ws k = some r) : ∃ w, k w = some r ∧ PurSaid cfgL cod 42 ws w := by
  unfold rList_P at h
  split at h
  · obtain ⟨a0, h0, h⟩ := opK_some h
    obtain ⟨y, hy, h⟩ := opK_some h
    exact ⟨_, h, PurSaid.args (sd.rList a0 y hy) (repL_out codOk h0 (fun h => h))⟩
  · cases h
theorem Call_Ps {R : Type} {F : Tb} (sd : Sd F) {ws : List (W T)} {k : W T → Option R} {r : R} (h : Call_P F ws k = some r) : ∃ w, k w = some r ∧ PurSaid cfgL cod 43 ws w := by
  unfold Call_P at h
  split at h
  · obtain ⟨a0, h0, h⟩ := opK_some h
    obtain ⟨a1, h1, h⟩ := opK_some h
    obtain ⟨y, hy, h⟩ := opK_some h
    exact ⟨_, h, PurSaid.args (sd.Call a0 a1 y hy) (repL_out codOk h0 (repL_out codOk h1 (fun h => h)))⟩
  · cases h
theorem rCall_Ps {R : Type} {F : Tb} (sd : Sd F) {ws : List (W T)} {k : W T → Option R} {r : R} (h : rCall_P F ws k = some r) : ∃ w, k w = some r ∧ PurSaid cfgL cod 44 ws w := by
  unfold rCall_P at h
  split at h
  · obtain ⟨a0, h0, h⟩ := opK_some h
    obtain ⟨a1, h1, h⟩ := opK_some h
    obtain ⟨y, hy, h⟩ := opK_some h
    exact ⟨_, h, PurSaid.args (sd.rCall a0 a1 y hy) (repL_out codOk h0 (repL_out codOk h1 (fun h => h)))⟩
  · cases h
theorem rNil_Ps {R : Type} {F : Tb} (sd : Sd F) {ws : List (W T)} {k : W T → Option R} {r : R} (h : rNil_P F ws k = some r) : ∃ w, k w = some r ∧ PurSaid cfgL cod 107 ws w := by
  unfold rNil_P at h
  split at h
  · obtain ⟨y, hy, h⟩ := opK_some h
    exact ⟨_, h, PurSaid.args (sd.rNil  y hy) (fun h => h)⟩
  · cases h
theorem rSymbol_Ps {R : Type} {F : Tb} (sd : Sd F) {ws : List (W T)} {k : W T → Option R} {r : R} (h : rSymbol_P F ws k = some r) : ∃ w, k w = some r ∧ PurSaid cfgL cod 108 ws w := by
  unfold rSymbol_P at h
  split at h
  · obtain ⟨a0, h0, h⟩ := opK_some h
    obtain ⟨a1, h1, h⟩ := opK_some h
    obtain ⟨y, hy, h⟩ := opK_some h
    exact ⟨_, h, PurSaid.args (sd.rSymbol a0 a1 y hy) (repL_out codOk h0 (repL_out codOk h1 (fun h => h)))⟩
  · cases h
theorem rIsNil_Ps {R : Type} {F : Tb} (sd : Sd F) {ws : List (W T)} {k : W T → Option R} {r : R} (h : rIsNil_P F ws k = some r) : ∃ w, k w = some r ∧ PurSaid cfgL cod 29 ws w := by
  unfold rIsNil_P at h
  split at h
  · obtain ⟨a0, h0, h⟩ := opK_some h
    obtain ⟨y, hy, h⟩ := opK_some h
    exact ⟨_, h, PurSaid.args (sd.rIsNil a0 y hy) (repL_out codOk h0 (fun h => h))⟩
  · cases h
theorem rIs_Ps {R : Type} {F : Tb} (sd : Sd F) {ws : List (W T)} {k : W T → Option R} {r : R} (h : rIs_P F ws k = some r) : ∃ w, k w = some r ∧ PurSaid cfgL cod 31 ws w := by
  unfold rIs_P at h
  split at h
  · obtain ⟨a0, h0, h⟩ := opK_some h
    obtain ⟨a1, h1, h⟩ := opK_some h
    obtain ⟨a2, h2, h⟩ := opK_some h
    obtain ⟨y, hy, h⟩ := opK_some h
    exact ⟨_, h, PurSaid.args (sd.rIs a0 a1 a2 y hy) (repL_out codOk h0 (repL_out codOk h1 (repL_out codOk h2 (fun h => h))))⟩
  · cases h
theorem awakeTrees_Ps {R : Type} {F : Tb} (sd : Sd F) {ws : List (W T)} {k : W T → Option R} {r : R} (h : awakeTrees_P F ws k = some r) : ∃ w, k w = some r ∧ PurSaid cfgL cod 12 ws w := by
  unfold awakeTrees_P at h
  split at h
  · obtain ⟨y, hy, h⟩ := opK_some h
    exact ⟨_, h, PurSaid.args (sd.awakeTrees  y hy) (fun h => h)⟩
  · cases h
theorem FormSpreads_Ps {R : Type} {F : Tb} (sd : Sd F) {ws : List (W T)} {k : W T → Option R} {r : R} (h : FormSpreads_P F ws k = some r) : ∃ w, k w = some r ∧ PurSaid cfgL cod 6 ws w := by
  unfold FormSpreads_P at h
  split at h
  · obtain ⟨a0, h0, h⟩ := opK_some h
    obtain ⟨a1, h1, h⟩ := opK_some h
    obtain ⟨a2, h2, h⟩ := opK_some h
    obtain ⟨y, hy, h⟩ := opK_some h
    exact ⟨_, h, PurSaid.args (sd.FormSpreads a0 a1 a2 y hy) (repL_out codOk h0 (repL_out codOk h1 (repL_out codOk h2 (fun h => h))))⟩
  · cases h
theorem FormLists_Ps {R : Type} {F : Tb} (sd : Sd F) {ws : List (W T)} {k : W T → Option R} {r : R} (h : FormLists_P F ws k = some r) : ∃ w, k w = some r ∧ PurSaid cfgL cod 7 ws w := by
  unfold FormLists_P at h
  split at h
  · obtain ⟨a0, h0, h⟩ := opK_some h
    obtain ⟨a1, h1, h⟩ := opK_some h
    obtain ⟨a2, h2, h⟩ := opK_some h
    obtain ⟨y, hy, h⟩ := opK_some h
    exact ⟨_, h, PurSaid.args (sd.FormLists a0 a1 a2 y hy) (repL_out codOk h0 (repL_out codOk h1 (repL_out codOk h2 (fun h => h))))⟩
  · cases h
theorem purT_ok {R : Type} {F : Tb} (sd : Sd F) {f : FuncId} {ws : List (W T)} {k : W T → Option R} {r : R} (h : purT F f ws k = some r) : ∃ w, k w = some r ∧ PurSaid cfgL cod f ws w := by
  unfold purT at h
  rcases bif_or h with ⟨e, h⟩ | h
  · rw [Nat.eq_of_beq_eq_true e]; exact Size_Ps sd h
  rcases bif_or h with ⟨e, h⟩ | h
  · rw [Nat.eq_of_beq_eq_true e]; exact rEqual_Ps sd h
  rcases bif_or h with ⟨e, h⟩ | h
  · rw [Nat.eq_of_beq_eq_true e]; exact left_Ps sd h
  rcases bif_or h with ⟨e, h⟩ | h
  · rw [Nat.eq_of_beq_eq_true e]; exact Few_Ps sd h
  rcases bif_or h with ⟨e, h⟩ | h
  · rw [Nat.eq_of_beq_eq_true e]; exact same_Ps sd h
  rcases bif_or h with ⟨e, h⟩ | h
  · rw [Nat.eq_of_beq_eq_true e]; exact Dotted_Ps sd h
  rcases bif_or h with ⟨e, h⟩ | h
  · rw [Nat.eq_of_beq_eq_true e]; exact Spread_Ps sd h
  rcases bif_or h with ⟨e, h⟩ | h
  · rw [Nat.eq_of_beq_eq_true e]; exact mkList_Ps sd h
  rcases bif_or h with ⟨e, h⟩ | h
  · rw [Nat.eq_of_beq_eq_true e]; exact Items_Ps sd h
  rcases bif_or h with ⟨e, h⟩ | h
  · rw [Nat.eq_of_beq_eq_true e]; exact IsNil_Ps sd h
  rcases bif_or h with ⟨e, h⟩ | h
  · rw [Nat.eq_of_beq_eq_true e]; exact Is_Ps sd h
  rcases bif_or h with ⟨e, h⟩ | h
  · rw [Nat.eq_of_beq_eq_true e]; exact Symbol_Ps sd h
  rcases bif_or h with ⟨e, h⟩ | h
  · rw [Nat.eq_of_beq_eq_true e]; exact Nil_Ps sd h
  rcases bif_or h with ⟨e, h⟩ | h
  · rw [Nat.eq_of_beq_eq_true e]; exact Equal_Ps sd h
  rcases bif_or h with ⟨e, h⟩ | h
  · rw [Nat.eq_of_beq_eq_true e]; exact EqualFunc_f22_Ps sd h
  rcases bif_or h with ⟨e, h⟩ | h
  · rw [Nat.eq_of_beq_eq_true e]; exact Concat_Ps sd h
  rcases bif_or h with ⟨e, h⟩ | h
  · rw [Nat.eq_of_beq_eq_true e]; exact rDotted_Ps sd h
  rcases bif_or h with ⟨e, h⟩ | h
  · rw [Nat.eq_of_beq_eq_true e]; exact rSpread_Ps sd h
  rcases bif_or h with ⟨e, h⟩ | h
  · rw [Nat.eq_of_beq_eq_true e]; exact rItems_Ps sd h
  rcases bif_or h with ⟨e, h⟩ | h
  · rw [Nat.eq_of_beq_eq_true e]; exact rList_Ps sd h
  rcases bif_or h with ⟨e, h⟩ | h
  · rw [Nat.eq_of_beq_eq_true e]; exact Call_Ps sd h
  rcases bif_or h with ⟨e, h⟩ | h
  · rw [Nat.eq_of_beq_eq_true e]; exact rCall_Ps sd h
  rcases bif_or h with ⟨e, h⟩ | h
  · rw [Nat.eq_of_beq_eq_true e]; exact rNil_Ps sd h
  rcases bif_or h with ⟨e, h⟩ | h
  · rw [Nat.eq_of_beq_eq_true e]; exact rSymbol_Ps sd h
  rcases bif_or h with ⟨e, h⟩ | h
  · rw [Nat.eq_of_beq_eq_true e]; exact rIsNil_Ps sd h
  rcases bif_or h with ⟨e, h⟩ | h
  · rw [Nat.eq_of_beq_eq_true e]; exact rIs_Ps sd h
  rcases bif_or h with ⟨e, h⟩ | h
  · rw [Nat.eq_of_beq_eq_true e]; exact awakeTrees_Ps sd h
  rcases bif_or h with ⟨e, h⟩ | h
  · rw [Nat.eq_of_beq_eq_true e]; exact FormSpreads_Ps sd h
  rcases bif_or h with ⟨e, h⟩ | h
  · rw [Nat.eq_of_beq_eq_true e]; exact FormLists_Ps sd h
  cases h
theorem frzT_ok {R : Type} {F : Tb} (sd : Sd F) {f : FuncId} {ws : List (W T)} {wm : WM T} {k : W T → Option R} {r : R} (h : frzT F f ws wm k = some r) : ∃ w, k w = some r ∧ ∀ {bs α β m vs}, WSim bs cod α β wm m → RepL cod α β ws vs → ∃ v, fres cfgL f vs m = some v ∧ Rep cod [] [] w v := by
  unfold frzT at h
  split at h
  · rename_i hn
    have key : ∀ {w}, k w = some r → FrzSaid cfgL cod f ws w → ∃ w, k w = some r ∧ ∀ {bs α β m vs}, WSim bs cod α β wm m → RepL cod α β ws vs → ∃ v, fres cfgL f vs m = some v ∧ Rep cod [] [] w v := fun hw hs => ⟨_, hw, fun {bs α β m vs} S hr => hs m (norefL_any hr hn)⟩
    cases h
  · cases h
theorem callT_ok {R : Type} {F : Tb} (sd : Sd F) {f : FuncId} {ws : List (W T)} {wm : WM T} {k : W T × WM T → Option R} {r : R} (h : callT F f ws wm k = some r) : ∃ w wm', k (w, wm') = some r ∧ CallSaid cod ws wm wm' w (callW cfgL (.fn f)) := by
  obtain ⟨L, hL, h⟩ := opK_some h
  unfold heapD at h
  cases h
/-! ### Loops -/
noncomputable def II0 (R : Type) (F : Tb) (n : Nat) : WI T R := { pur := purT F, ext := extT, frz := frzT F, call := callT F, yld := fun _ _ _ _ => none, loop := fun _ _ _ _ => none, heap := heapN }
theorem II0_ok {R : Type} {F : Tb} {n : Nat} (sd : Sd F) : IOk cfgL cod (II0 R F n) where
  pur := fun h => purT_ok sd h
  ext := fun h => extT_ok h
  frz := fun h => frzT_ok sd h
  call := fun h => callT_ok sd h
  yld := fun h => by cases h
  loop := fun h => by cases h
  cut := fun h => by cases h
theorem FormSpreads_L7010111_ok (F : Tb) (n : Nat) (p0 : List Form) (p1 : List Form) (p2 : Int) (p3 : Int) (p4 : Bs) (p5 : Bs) (p6 : List Form) (v : (Int) × (Int)) (K : Ex × WSt T → Option (Ex × WSt T)) : roundWK cfgL wcL (inlN cfgL wcL 6 (II0 _ F n)) (loopAt 6 [0, 1, 0, 1, 1, 1]) [0, 1, 0, 1, 1, 1, 6] FormSpreads_L7010111_q (FormSpreads_L7010111_S p0 p1 p2 p3 p4 p5 p6 v) K = FormSpreads_L7010111_R F n p0 p1 p2 p3 p4 p5 p6 v fun x => sumK x (fun o => sumK o (fun o => K (.ret, FormSpreads_L7010111_O0 p0 p1 p2 p3 p4 p5 p6 o)) (fun o => K ((.exit 0), FormSpreads_L7010111_O1 p0 p1 p2 p3 p4 p5 p6 o))) (fun v => K (.normal, FormSpreads_L7010111_S p0 p1 p2 p3 p4 p5 p6 v)) := by kernel_rfl
theorem FormSpreads_L7010111_par {R : Type} (F : Tb) (n : Nat) (p0 : List Form) (p1 : List Form) (p2 : Int) (p3 : Int) (p4 : Bs) (p5 : Bs) (p6 : List Form) (v : (Int) × (Int)) (K : (((Bool) × (Int) × (Int)) ⊕ ((Int) × (Int))) ⊕ ((Int) × (Int)) → Option R) : FormSpreads_L7010111_R F n p0 p1 p2 p3 p4 p5 p6 v K = opK (FormSpreads_L7010111_R F n p0 p1 p2 p3 p4 p5 p6 v some) K := by
  unfold FormSpreads_L7010111_R
  simp only [opK_cnd, opK_opK, opK_sumK, opK_none, opK_one]
theorem FormSpreads_L7010111_said {F : Tb} {n : Nat} (io : IOk cfgL cod (II0 (Ex × WSt T) F n)) (p0 : List Form) (p1 : List Form) (p2 : Int) (p3 : Int) (p4 : Bs) (p5 : Bs) (p6 : List Form) : ∀ m v o, FormSpreads_L7010111 F n m p0 p1 p2 p3 p4 p5 p6 v = some o → LoopSaid cfgL cod (.loop (loopAt 6 [0, 1, 0, 1, 1, 1])) (FormSpreads_L7010111_S p0 p1 p2 p3 p4 p5 p6 v) (FormSpreads_L7010111_E p0 p1 p2 p3 p4 p5 p6 o) := by
  refine loop_gen (FormSpreads_L7010111_S p0 p1 p2 p3 p4 p5 p6) (FormSpreads_L7010111_E p0 p1 p2 p3 p4 p5 p6) ?_ (fun v => FormSpreads_L7010111_R F n p0 p1 p2 p3 p4 p5 p6 v some) (fun m v => FormSpreads_L7010111 F n m p0 p1 p2 p3 p4 p5 p6 v) ?_ (fun v => rfl) (fun m v => ?_)
  · intro o
    rcases o with (o | o)
    all_goals intro h; cases h
  · intro v x h
    have e := FormSpreads_L7010111_ok F n p0 p1 p2 p3 p4 p5 p6 v some
    rw [FormSpreads_L7010111_par, h] at e
    have e' : roundWK cfgL wcL (inlN cfgL wcL 6 (II0 _ F n)) (loopAt 6 [0, 1, 0, 1, 1, 1]) [0, 1, 0, 1, 1, 1, 6] FormSpreads_L7010111_q (FormSpreads_L7010111_S p0 p1 p2 p3 p4 p5 p6 v) some = some (stepE (FormSpreads_L7010111_E p0 p1 p2 p3 p4 p5 p6) (FormSpreads_L7010111_S p0 p1 p2 p3 p4 p5 p6) x) := by
      rw [e]
      rcases x with (o | o) | v <;> rfl
    obtain ⟨y, h1, h2⟩ := roundWK_sound codOk (inlN_ok codOk io 6) e'
    injection h1 with h1
    rw [← h1]
    exact @h2
  · show FormSpreads_L7010111_R F n p0 p1 p2 p3 p4 p5 p6 v _ = _
    rw [FormSpreads_L7010111_par]
theorem FormSpreads_L7010111_Hs {R : Type} {F : Tb} {n : Nat} (io : IOk cfgL cod (II0 (Ex × WSt T) F n)) {c : Code} {st : WSt T} {k : Ex × WSt T → Option R} {r : R} (h : FormSpreads_L7010111_H F n c st k = some r) : ∃ x, k x = some r ∧ LoopSaid cfgL cod (.loop c) st x := by
  refine hand_sound (c0 := loopAt 6 [0, 1, 0, 1, 1, 1]) (q := FormSpreads_L7010111_q) (s := fun st' => FormSpreads_L7010111_S (FormSpreads_L7010111_gp0 st') (FormSpreads_L7010111_gp1 st') (FormSpreads_L7010111_gp2 st') (FormSpreads_L7010111_gp3 st') (FormSpreads_L7010111_gp4 st') (FormSpreads_L7010111_gp5 st') (FormSpreads_L7010111_gp6 st') (FormSpreads_L7010111_gv st')) (L := fun st' => FormSpreads_L7010111 F n n (FormSpreads_L7010111_gp0 st') (FormSpreads_L7010111_gp1 st') (FormSpreads_L7010111_gp2 st') (FormSpreads_L7010111_gp3 st') (FormSpreads_L7010111_gp4 st') (FormSpreads_L7010111_gp5 st') (FormSpreads_L7010111_gp6 st') (FormSpreads_L7010111_gv st')) (E := fun st' o => FormSpreads_L7010111_E (FormSpreads_L7010111_gp0 st') (FormSpreads_L7010111_gp1 st') (FormSpreads_L7010111_gp2 st') (FormSpreads_L7010111_gp3 st') (FormSpreads_L7010111_gp4 st') (FormSpreads_L7010111_gp5 st') (FormSpreads_L7010111_gp6 st') o) ?_ (fun st' o h => FormSpreads_L7010111_said io (FormSpreads_L7010111_gp0 st') (FormSpreads_L7010111_gp1 st') (FormSpreads_L7010111_gp2 st') (FormSpreads_L7010111_gp3 st') (FormSpreads_L7010111_gp4 st') (FormSpreads_L7010111_gp5 st') (FormSpreads_L7010111_gp6 st') n _ o h)
  rw [← h]
  unfold FormSpreads_L7010111_H
  congr 1; funext st'; congr 1; funext _; congr 1; funext o
  rcases o with (o | o) <;> rfl
noncomputable def II1 (R : Type) (F : Tb) (n : Nat) : WI T R := { II0 R F n with loop := fun c p st k => bif Nat.beq (pnum p) 119677217 && Nat.beq (skN0 [2, 3, 4, 8, 9, 10, 11, 12, 13, 14, 15, 16, 17, 18, 19, 20, 21, 22, 23, 24, 25, 26, 27, 28, 29, 30, 31, 32, 33, 34, 35, 36, 37, 38, 39, 43, 44, 45, 46, 47, 48, 49, 50, 51, 52, 53, 54, 55, 56, 57, 58, 59, 60, 61, 62, 63, 64, 65, 66, 67, 68, 69, 70, 71, 72, 73, 74, 75, 76, 77, 78, 79, 80, 81, 82, 83, 84, 85, 86, 87, 88, 89, 90, 91, 92, 93, 94, 95, 96, 97, 98, 99, 100, 101, 102, 103, 104, 105, 106, 107, 108, 109, 110, 111, 112, 113, 114, 115, 116, 117, 118, 119, 120, 121, 122, 123, 124, 125, 126, 127, 128, 129, 130, 131, 132] st) 544309228685755906 then FormSpreads_L7010111_H F n c st k else (II0 R F n).loop c p st k }
theorem II1_ok {R : Type} {F : Tb} {n : Nat} (sd : Sd F) : IOk cfgL cod (II1 R F n) :=
  have io : IOk cfgL cod (II0 R F n) := II0_ok sd
  { pur := fun h => io.pur h, ext := fun h => io.ext h, frz := fun h => io.frz h, call := fun h => io.call h, yld := fun h => io.yld h, cut := fun {_ p _ _ _} h => io.cut (p := p) h,
    loop := fun h => by
      rcases bif_or h with ⟨_, h⟩ | h
      · exact FormSpreads_L7010111_Hs (II0_ok sd) h
      · exact io.loop h }
theorem FormSpreads_L80101111_ok (F : Tb) (n : Nat) (p0 : List Form) (p1 : List Form) (p2 : Int) (p3 : Int) (p4 : Int) (p5 : Bs) (p6 : Bs) (p7 : List Form) (v : (Int)) (K : Ex × WSt T → Option (Ex × WSt T)) : roundWK cfgL wcL (inlN cfgL wcL 6 (II1 _ F n)) (loopAt 6 [0, 1, 0, 1, 1, 1, 1]) [0, 1, 0, 1, 1, 1, 1, 6] FormSpreads_L80101111_q (FormSpreads_L80101111_S p0 p1 p2 p3 p4 p5 p6 p7 v) K = FormSpreads_L80101111_R F n p0 p1 p2 p3 p4 p5 p6 p7 v fun x => sumK x (fun o => sumK o (fun o => K (.ret, FormSpreads_L80101111_O0 p0 p1 p2 p3 p4 p5 p6 p7 o)) (fun o => K ((.exit 2), FormSpreads_L80101111_O1 p0 p1 p2 p3 p4 p5 p6 p7 o))) (fun v => K (.normal, FormSpreads_L80101111_S p0 p1 p2 p3 p4 p5 p6 p7 v)) := by kernel_rfl
theorem FormSpreads_L80101111_par {R : Type} (F : Tb) (n : Nat) (p0 : List Form) (p1 : List Form) (p2 : Int) (p3 : Int) (p4 : Int) (p5 : Bs) (p6 : Bs) (p7 : List Form) (v : (Int)) (K : (((Bool) × (Int)) ⊕ ((Int))) ⊕ ((Int)) → Option R) : FormSpreads_L80101111_R F n p0 p1 p2 p3 p4 p5 p6 p7 v K = opK (FormSpreads_L80101111_R F n p0 p1 p2 p3 p4 p5 p6 p7 v some) K := by
  unfold FormSpreads_L80101111_R
  simp only [opK_cnd, opK_opK, opK_sumK, opK_none, opK_one]
theorem FormSpreads_L80101111_said {F : Tb} {n : Nat} (io : IOk cfgL cod (II1 (Ex × WSt T) F n)) (p0 : List Form) (p1 : List Form) (p2 : Int) (p3 : Int) (p4 : Int) (p5 : Bs) (p6 : Bs) (p7 : List Form) : ∀ m v o, FormSpreads_L80101111 F n m p0 p1 p2 p3 p4 p5 p6 p7 v = some o → LoopSaid cfgL cod (.loop (loopAt 6 [0, 1, 0, 1, 1, 1, 1])) (FormSpreads_L80101111_S p0 p1 p2 p3 p4 p5 p6 p7 v) (FormSpreads_L80101111_E p0 p1 p2 p3 p4 p5 p6 p7 o) := by
  refine loop_gen (FormSpreads_L80101111_S p0 p1 p2 p3 p4 p5 p6 p7) (FormSpreads_L80101111_E p0 p1 p2 p3 p4 p5 p6 p7) ?_ (fun v => FormSpreads_L80101111_R F n p0 p1 p2 p3 p4 p5 p6 p7 v some) (fun m v => FormSpreads_L80101111 F n m p0 p1 p2 p3 p4 p5 p6 p7 v) ?_ (fun v => rfl) (fun m v => ?_)
  · intro o
    rcases o with (o | o)
    all_goals intro h; cases h
  · intro v x h
    have e := FormSpreads_L80101111_ok F n p0 p1 p2 p3 p4 p5 p6 p7 v some
    rw [FormSpreads_L80101111_par, h] at e
    have e' : roundWK cfgL wcL (inlN cfgL wcL 6 (II1 _ F n)) (loopAt 6 [0, 1, 0, 1, 1, 1, 1]) [0, 1, 0, 1, 1, 1, 1, 6] FormSpreads_L80101111_q (FormSpreads_L80101111_S p0 p1 p2 p3 p4 p5 p6 p7 v) some = some (stepE (FormSpreads_L80101111_E p0 p1 p2 p3 p4 p5 p6 p7) (FormSpreads_L80101111_S p0 p1 p2 p3 p4 p5 p6 p7) x) := by
      rw [e]
      rcases x with (o | o) | v <;> rfl
    obtain ⟨y, h1, h2⟩ := roundWK_sound codOk (inlN_ok codOk io 6) e'
    injection h1 with h1
    rw [← h1]
    exact @h2
  · show FormSpreads_L80101111_R F n p0 p1 p2 p3 p4 p5 p6 p7 v _ = _
    rw [FormSpreads_L80101111_par]
theorem FormSpreads_L80101111_Hs {R : Type} {F : Tb} {n : Nat} (io : IOk cfgL cod (II1 (Ex × WSt T) F n)) {c : Code} {st : WSt T} {k : Ex × WSt T → Option R} {r : R} (h : FormSpreads_L80101111_H F n c st k = some r) : ∃ x, k x = some r ∧ LoopSaid cfgL cod (.loop c) st x := by
  refine hand_sound (c0 := loopAt 6 [0, 1, 0, 1, 1, 1, 1]) (q := FormSpreads_L80101111_q) (s := fun st' => FormSpreads_L80101111_S (FormSpreads_L80101111_gp0 st') (FormSpreads_L80101111_gp1 st') (FormSpreads_L80101111_gp2 st') (FormSpreads_L80101111_gp3 st') (FormSpreads_L80101111_gp4 st') (FormSpreads_L80101111_gp5 st') (FormSpreads_L80101111_gp6 st') (FormSpreads_L80101111_gp7 st') (FormSpreads_L80101111_gv st')) (L := fun st' => FormSpreads_L80101111 F n n (FormSpreads_L80101111_gp0 st') (FormSpreads_L80101111_gp1 st') (FormSpreads_L80101111_gp2 st') (FormSpreads_L80101111_gp3 st') (FormSpreads_L80101111_gp4 st') (FormSpreads_L80101111_gp5 st') (FormSpreads_L80101111_gp6 st') (FormSpreads_L80101111_gp7 st') (FormSpreads_L80101111_gv st')) (E := fun st' o => FormSpreads_L80101111_E (FormSpreads_L80101111_gp0 st') (FormSpreads_L80101111_gp1 st') (FormSpreads_L80101111_gp2 st') (FormSpreads_L80101111_gp3 st') (FormSpreads_L80101111_gp4 st') (FormSpreads_L80101111_gp5 st') (FormSpreads_L80101111_gp6 st') (FormSpreads_L80101111_gp7 st') o) ?_ (fun st' o h => FormSpreads_L80101111_said io (FormSpreads_L80101111_gp0 st') (FormSpreads_L80101111_gp1 st') (FormSpreads_L80101111_gp2 st') (FormSpreads_L80101111_gp3 st') (FormSpreads_L80101111_gp4 st') (FormSpreads_L80101111_gp5 st') (FormSpreads_L80101111_gp6 st') (FormSpreads_L80101111_gp7 st') n _ o h)
  rw [← h]
  unfold FormSpreads_L80101111_H
  congr 1; funext st'; congr 1; funext _; congr 1; funext o
  rcases o with (o | o) <;> rfl
noncomputable def II2 (R : Type) (F : Tb) (n : Nat) : WI T R := { II1 R F n with loop := fun c p st k => bif Nat.beq (pnum p) 1914839329 && Nat.beq (skN0 [2, 3, 4, 8, 9, 10, 11, 12, 13, 14, 15, 16, 17, 18, 19, 20, 21, 22, 23, 24, 25, 26, 27, 28, 29, 30, 31, 32, 33, 34, 35, 36, 37, 38, 39, 40, 41, 42, 43, 44, 45, 46, 47, 48, 49, 50, 51, 52, 53, 54, 55, 56, 57, 58, 62, 63, 64, 65, 66, 67, 68, 69, 70, 71, 72, 73, 74, 75, 76, 77, 78, 79, 80, 81, 82, 83, 84, 85, 86, 87, 88, 89, 90, 91, 92, 93, 94, 95, 96, 97, 98, 99, 100, 101, 102, 103, 104, 105, 106, 107, 108, 109, 110, 111, 112, 113, 114, 115, 116, 117, 118, 119, 120, 121, 122, 123, 124, 125, 126, 127, 128, 129, 130, 131, 132] st) 1531625670538071234 then FormSpreads_L80101111_H F n c st k else (II1 R F n).loop c p st k }
theorem II2_ok {R : Type} {F : Tb} {n : Nat} (sd : Sd F) : IOk cfgL cod (II2 R F n) :=
  have io : IOk cfgL cod (II1 R F n) := II1_ok sd
  { pur := fun h => io.pur h, ext := fun h => io.ext h, frz := fun h => io.frz h, call := fun h => io.call h, yld := fun h => io.yld h, cut := fun {_ p _ _ _} h => io.cut (p := p) h,
    loop := fun h => by
      rcases bif_or h with ⟨_, h⟩ | h
      · exact FormSpreads_L80101111_Hs (II1_ok sd) h
      · exact io.loop h }
theorem FormLists_L601011_ok (F : Tb) (n : Nat) (p0 : List Form) (p1 : Bs) (p2 : Int) (p3 : Int) (p4 : Bs) (p5 : Bs) (p6 : List Form) (v : (Int)) (K : Ex × WSt T → Option (Ex × WSt T)) : roundWK cfgL wcL (inlN cfgL wcL 6 (II2 _ F n)) (loopAt 7 [0, 1, 0, 1, 1]) [0, 1, 0, 1, 1, 7] FormLists_L601011_q (FormLists_L601011_S p0 p1 p2 p3 p4 p5 p6 v) K = FormLists_L601011_R F n p0 p1 p2 p3 p4 p5 p6 v fun x => sumK x (fun o => sumK o (fun o => K (.ret, FormLists_L601011_O0 p0 p1 p2 p3 p4 p5 p6 o)) (fun o => K ((.exit 0), FormLists_L601011_O1 p0 p1 p2 p3 p4 p5 p6 o))) (fun v => K (.normal, FormLists_L601011_S p0 p1 p2 p3 p4 p5 p6 v)) := by kernel_rfl
theorem FormLists_L601011_par {R : Type} (F : Tb) (n : Nat) (p0 : List Form) (p1 : Bs) (p2 : Int) (p3 : Int) (p4 : Bs) (p5 : Bs) (p6 : List Form) (v : (Int)) (K : (((Bool) × (Int)) ⊕ ((Int))) ⊕ ((Int)) → Option R) : FormLists_L601011_R F n p0 p1 p2 p3 p4 p5 p6 v K = opK (FormLists_L601011_R F n p0 p1 p2 p3 p4 p5 p6 v some) K := by
  unfold FormLists_L601011_R
  simp only [opK_cnd, opK_opK, opK_sumK, opK_none, opK_one]
theorem FormLists_L601011_said {F : Tb} {n : Nat} (io : IOk cfgL cod (II2 (Ex × WSt T) F n)) (p0 : List Form) (p1 : Bs) (p2 : Int) (p3 : Int) (p4 : Bs) (p5 : Bs) (p6 : List Form) : ∀ m v o, FormLists_L601011 F n m p0 p1 p2 p3 p4 p5 p6 v = some o → LoopSaid cfgL cod (.loop (loopAt 7 [0, 1, 0, 1, 1])) (FormLists_L601011_S p0 p1 p2 p3 p4 p5 p6 v) (FormLists_L601011_E p0 p1 p2 p3 p4 p5 p6 o) := by
  refine loop_gen (FormLists_L601011_S p0 p1 p2 p3 p4 p5 p6) (FormLists_L601011_E p0 p1 p2 p3 p4 p5 p6) ?_ (fun v => FormLists_L601011_R F n p0 p1 p2 p3 p4 p5 p6 v some) (fun m v => FormLists_L601011 F n m p0 p1 p2 p3 p4 p5 p6 v) ?_ (fun v => rfl) (fun m v => ?_)
  · intro o
    rcases o with (o | o)
    all_goals intro h; cases h
  · intro v x h
    have e := FormLists_L601011_ok F n p0 p1 p2 p3 p4 p5 p6 v some
    rw [FormLists_L601011_par, h] at e
    have e' : roundWK cfgL wcL (inlN cfgL wcL 6 (II2 _ F n)) (loopAt 7 [0, 1, 0, 1, 1]) [0, 1, 0, 1, 1, 7] FormLists_L601011_q (FormLists_L601011_S p0 p1 p2 p3 p4 p5 p6 v) some = some (stepE (FormLists_L601011_E p0 p1 p2 p3 p4 p5 p6) (FormLists_L601011_S p0 p1 p2 p3 p4 p5 p6) x) := by
      rw [e]
      rcases x with (o | o) | v <;> rfl
    obtain ⟨y, h1, h2⟩ := roundWK_sound codOk (inlN_ok codOk io 6) e'
    injection h1 with h1
    rw [← h1]
    exact @h2
  · show FormLists_L601011_R F n p0 p1 p2 p3 p4 p5 p6 v _ = _
    rw [FormLists_L601011_par]
theorem FormLists_L601011_Hs {R : Type} {F : Tb} {n : Nat} (io : IOk cfgL cod (II2 (Ex × WSt T) F n)) {c : Code} {st : WSt T} {k : Ex × WSt T → Option R} {r : R} (h : FormLists_L601011_H F n c st k = some r) : ∃ x, k x = some r ∧ LoopSaid cfgL cod (.loop c) st x := by
  refine hand_sound (c0 := loopAt 7 [0, 1, 0, 1, 1]) (q := FormLists_L601011_q) (s := fun st' => FormLists_L601011_S (FormLists_L601011_gp0 st') (FormLists_L601011_gp1 st') (FormLists_L601011_gp2 st') (FormLists_L601011_gp3 st') (FormLists_L601011_gp4 st') (FormLists_L601011_gp5 st') (FormLists_L601011_gp6 st') (FormLists_L601011_gv st')) (L := fun st' => FormLists_L601011 F n n (FormLists_L601011_gp0 st') (FormLists_L601011_gp1 st') (FormLists_L601011_gp2 st') (FormLists_L601011_gp3 st') (FormLists_L601011_gp4 st') (FormLists_L601011_gp5 st') (FormLists_L601011_gp6 st') (FormLists_L601011_gv st')) (E := fun st' o => FormLists_L601011_E (FormLists_L601011_gp0 st') (FormLists_L601011_gp1 st') (FormLists_L601011_gp2 st') (FormLists_L601011_gp3 st') (FormLists_L601011_gp4 st') (FormLists_L601011_gp5 st') (FormLists_L601011_gp6 st') o) ?_ (fun st' o h => FormLists_L601011_said io (FormLists_L601011_gp0 st') (FormLists_L601011_gp1 st') (FormLists_L601011_gp2 st') (FormLists_L601011_gp3 st') (FormLists_L601011_gp4 st') (FormLists_L601011_gp5 st') (FormLists_L601011_gp6 st') n _ o h)
  rw [← h]
  unfold FormLists_L601011_H
  congr 1; funext st'; congr 1; funext _; congr 1; funext o
  rcases o with (o | o) <;> rfl
noncomputable def II3 (R : Type) (F : Tb) (n : Nat) : WI T R := { II2 R F n with loop := fun c p st k => bif Nat.beq (pnum p) 8528161 && Nat.beq (skN0 [1, 3, 5, 7, 8, 9, 10, 11, 12, 13, 14, 15, 16, 17, 18, 19, 20, 21, 22, 23, 24, 25, 26, 30, 31, 32, 33, 34, 35, 36, 37, 38, 39, 40, 41, 42, 43, 44, 45, 46, 47, 48, 49, 50, 51, 52, 53, 54, 55, 56, 57, 58, 59, 60, 61, 62, 63, 64, 65, 66, 67, 68, 69, 70, 71, 72, 73, 74, 75, 76, 77, 78, 79, 80, 81, 82, 83, 84, 85, 86, 87, 88, 89, 90, 91, 92, 93, 94, 95, 96, 97, 98, 99, 100, 101, 102, 103, 104] st) 2235999832981883733 then FormLists_L601011_H F n c st k else (II2 R F n).loop c p st k }
theorem II3_ok {R : Type} {F : Tb} {n : Nat} (sd : Sd F) : IOk cfgL cod (II3 R F n) :=
  have io : IOk cfgL cod (II2 R F n) := II2_ok sd
  { pur := fun h => io.pur h, ext := fun h => io.ext h, frz := fun h => io.frz h, call := fun h => io.call h, yld := fun h => io.yld h, cut := fun {_ p _ _ _} h => io.cut (p := p) h,
    loop := fun h => by
      rcases bif_or h with ⟨_, h⟩ | h
      · exact FormLists_L601011_Hs (II2_ok sd) h
      · exact io.loop h }
theorem Size_L601011_ok (F : Tb) (n : Nat) (p0 : List Form) (p1 : Int) (p2 : Int) (p3 : Bs) (p4 : Bs) (v : (Int) × (Int) × (Int)) (K : Ex × WSt T → Option (Ex × WSt T)) : roundWK cfgL wcL (inlN cfgL wcL 6 (II3 _ F n)) (loopAt 23 [0, 1, 0, 1, 1]) [0, 1, 0, 1, 1, 23] Size_L601011_q (Size_L601011_S p0 p1 p2 p3 p4 v) K = Size_L601011_R F n p0 p1 p2 p3 p4 v fun x => sumK x (fun o => K ((.exit 0), Size_L601011_O0 p0 p1 p2 p3 p4 o)) (fun v => K (.normal, Size_L601011_S p0 p1 p2 p3 p4 v)) := by kernel_rfl
theorem Size_L601011_par {R : Type} (F : Tb) (n : Nat) (p0 : List Form) (p1 : Int) (p2 : Int) (p3 : Bs) (p4 : Bs) (v : (Int) × (Int) × (Int)) (K : ((Int) × (Int) × (Int)) ⊕ ((Int) × (Int) × (Int)) → Option R) : Size_L601011_R F n p0 p1 p2 p3 p4 v K = opK (Size_L601011_R F n p0 p1 p2 p3 p4 v some) K := by
  unfold Size_L601011_R
  simp only [opK_cnd, opK_opK, opK_sumK, opK_none, opK_one]
theorem Size_L601011_said {F : Tb} {n : Nat} (io : IOk cfgL cod (II3 (Ex × WSt T) F n)) (p0 : List Form) (p1 : Int) (p2 : Int) (p3 : Bs) (p4 : Bs) : ∀ m v o, Size_L601011 F n m p0 p1 p2 p3 p4 v = some o → LoopSaid cfgL cod (.loop (loopAt 23 [0, 1, 0, 1, 1])) (Size_L601011_S p0 p1 p2 p3 p4 v) (Size_L601011_E p0 p1 p2 p3 p4 o) := by
  refine loop_gen (Size_L601011_S p0 p1 p2 p3 p4) (Size_L601011_E p0 p1 p2 p3 p4) ?_ (fun v => Size_L601011_R F n p0 p1 p2 p3 p4 v some) (fun m v => Size_L601011 F n m p0 p1 p2 p3 p4 v) ?_ (fun v => rfl) (fun m v => ?_)
  · intro o h; cases h
  · intro v x h
    have e := Size_L601011_ok F n p0 p1 p2 p3 p4 v some
    rw [Size_L601011_par, h] at e
    have e' : roundWK cfgL wcL (inlN cfgL wcL 6 (II3 _ F n)) (loopAt 23 [0, 1, 0, 1, 1]) [0, 1, 0, 1, 1, 23] Size_L601011_q (Size_L601011_S p0 p1 p2 p3 p4 v) some = some (stepE (Size_L601011_E p0 p1 p2 p3 p4) (Size_L601011_S p0 p1 p2 p3 p4) x) := by
      rw [e]
      rcases x with o | v <;> rfl
    obtain ⟨y, h1, h2⟩ := roundWK_sound codOk (inlN_ok codOk io 6) e'
    injection h1 with h1
    rw [← h1]
    exact @h2
  · show Size_L601011_R F n p0 p1 p2 p3 p4 v _ = _
    rw [Size_L601011_par]
theorem Size_L601011_Hs {R : Type} {F : Tb} {n : Nat} (io : IOk cfgL cod (II3 (Ex × WSt T) F n)) {c : Code} {st : WSt T} {k : Ex × WSt T → Option R} {r : R} (h : Size_L601011_H F n c st k = some r) : ∃ x, k x = some r ∧ LoopSaid cfgL cod (.loop c) st x := by
  refine hand_sound (c0 := loopAt 23 [0, 1, 0, 1, 1]) (q := Size_L601011_q) (s := fun st' => Size_L601011_S (Size_L601011_gp0 st') (Size_L601011_gp1 st') (Size_L601011_gp2 st') (Size_L601011_gp3 st') (Size_L601011_gp4 st') (Size_L601011_gv st')) (L := fun st' => Size_L601011 F n n (Size_L601011_gp0 st') (Size_L601011_gp1 st') (Size_L601011_gp2 st') (Size_L601011_gp3 st') (Size_L601011_gp4 st') (Size_L601011_gv st')) (E := fun st' o => Size_L601011_E (Size_L601011_gp0 st') (Size_L601011_gp1 st') (Size_L601011_gp2 st') (Size_L601011_gp3 st') (Size_L601011_gp4 st') o) ?_ (fun st' o h => Size_L601011_said io (Size_L601011_gp0 st') (Size_L601011_gp1 st') (Size_L601011_gp2 st') (Size_L601011_gp3 st') (Size_L601011_gp4 st') n _ o h)
  rw [← h]
  unfold Size_L601011_H
  rfl
noncomputable def II4 (R : Type) (F : Tb) (n : Nat) : WI T R := { II3 R F n with loop := fun c p st k => bif Nat.beq (pnum p) 25305377 && Nat.beq (skN0 [0, 1, 4, 5, 6, 7, 8, 12, 13, 14, 15, 16, 17, 18, 19, 20, 21, 22, 23, 24, 25, 26, 27, 28, 29] st) 1693527801451110576 then Size_L601011_H F n c st k else (II3 R F n).loop c p st k }
theorem II4_ok {R : Type} {F : Tb} {n : Nat} (sd : Sd F) : IOk cfgL cod (II4 R F n) :=
  have io : IOk cfgL cod (II3 R F n) := II3_ok sd
  { pur := fun h => io.pur h, ext := fun h => io.ext h, frz := fun h => io.frz h, call := fun h => io.call h, yld := fun h => io.yld h, cut := fun {_ p _ _ _} h => io.cut (p := p) h,
    loop := fun h => by
      rcases bif_or h with ⟨_, h⟩ | h
      · exact Size_L601011_Hs (II3_ok sd) h
      · exact io.loop h }
theorem rEqual_L601011_ok (F : Tb) (n : Nat) (p0 : Int) (p1 : Bs) (p2 : Bs) (p3 : List Form) (p4 : Int) (p5 : Bs) (p6 : Bs) (p7 : List Form) (v : (Int)) (K : Ex × WSt T → Option (Ex × WSt T)) : roundWK cfgL wcL (inlN cfgL wcL 6 (II4 _ F n)) (loopAt 15 [0, 1, 0, 1, 1]) [0, 1, 0, 1, 1, 15] rEqual_L601011_q (rEqual_L601011_S p0 p1 p2 p3 p4 p5 p6 p7 v) K = rEqual_L601011_R F n p0 p1 p2 p3 p4 p5 p6 p7 v fun x => sumK x (fun o => sumK o (fun o => K (.ret, rEqual_L601011_O0 p0 p1 p2 p3 p4 p5 p6 p7 o)) (fun o => K ((.exit 0), rEqual_L601011_O1 p0 p1 p2 p3 p4 p5 p6 p7 o))) (fun v => K (.normal, rEqual_L601011_S p0 p1 p2 p3 p4 p5 p6 p7 v)) := by kernel_rfl
theorem rEqual_L601011_par {R : Type} (F : Tb) (n : Nat) (p0 : Int) (p1 : Bs) (p2 : Bs) (p3 : List Form) (p4 : Int) (p5 : Bs) (p6 : Bs) (p7 : List Form) (v : (Int)) (K : (((Int)) ⊕ ((Int))) ⊕ ((Int)) → Option R) : rEqual_L601011_R F n p0 p1 p2 p3 p4 p5 p6 p7 v K = opK (rEqual_L601011_R F n p0 p1 p2 p3 p4 p5 p6 p7 v some) K := by
  unfold rEqual_L601011_R
  simp only [opK_cnd, opK_opK, opK_sumK, opK_none, opK_one]
theorem rEqual_L601011_said {F : Tb} {n : Nat} (io : IOk cfgL cod (II4 (Ex × WSt T) F n)) (p0 : Int) (p1 : Bs) (p2 : Bs) (p3 : List Form) (p4 : Int) (p5 : Bs) (p6 : Bs) (p7 : List Form) : ∀ m v o, rEqual_L601011 F n m p0 p1 p2 p3 p4 p5 p6 p7 v = some o → LoopSaid cfgL cod (.loop (loopAt 15 [0, 1, 0, 1, 1])) (rEqual_L601011_S p0 p1 p2 p3 p4 p5 p6 p7 v) (rEqual_L601011_E p0 p1 p2 p3 p4 p5 p6 p7 o) := by
  refine loop_gen (rEqual_L601011_S p0 p1 p2 p3 p4 p5 p6 p7) (rEqual_L601011_E p0 p1 p2 p3 p4 p5 p6 p7) ?_ (fun v => rEqual_L601011_R F n p0 p1 p2 p3 p4 p5 p6 p7 v some) (fun m v => rEqual_L601011 F n m p0 p1 p2 p3 p4 p5 p6 p7 v) ?_ (fun v => rfl) (fun m v => ?_)
  · intro o
    rcases o with (o | o)
    all_goals intro h; cases h
  · intro v x h
    have e := rEqual_L601011_ok F n p0 p1 p2 p3 p4 p5 p6 p7 v some
    rw [rEqual_L601011_par, h] at e
    have e' : roundWK cfgL wcL (inlN cfgL wcL 6 (II4 _ F n)) (loopAt 15 [0, 1, 0, 1, 1]) [0, 1, 0, 1, 1, 15] rEqual_L601011_q (rEqual_L601011_S p0 p1 p2 p3 p4 p5 p6 p7 v) some = some (stepE (rEqual_L601011_E p0 p1 p2 p3 p4 p5 p6 p7) (rEqual_L601011_S p0 p1 p2 p3 p4 p5 p6 p7) x) := by
      rw [e]
      rcases x with (o | o) | v <;> rfl
    obtain ⟨y, h1, h2⟩ := roundWK_sound codOk (inlN_ok codOk io 6) e'
    injection h1 with h1
    rw [← h1]
    exact @h2
  · show rEqual_L601011_R F n p0 p1 p2 p3 p4 p5 p6 p7 v _ = _
    rw [rEqual_L601011_par]
theorem rEqual_L601011_Hs {R : Type} {F : Tb} {n : Nat} (io : IOk cfgL cod (II4 (Ex × WSt T) F n)) {c : Code} {st : WSt T} {k : Ex × WSt T → Option R} {r : R} (h : rEqual_L601011_H F n c st k = some r) : ∃ x, k x = some r ∧ LoopSaid cfgL cod (.loop c) st x := by
  refine hand_sound (c0 := loopAt 15 [0, 1, 0, 1, 1]) (q := rEqual_L601011_q) (s := fun st' => rEqual_L601011_S (rEqual_L601011_gp0 st') (rEqual_L601011_gp1 st') (rEqual_L601011_gp2 st') (rEqual_L601011_gp3 st') (rEqual_L601011_gp4 st') (rEqual_L601011_gp5 st') (rEqual_L601011_gp6 st') (rEqual_L601011_gp7 st') (rEqual_L601011_gv st')) (L := fun st' => rEqual_L601011 F n n (rEqual_L601011_gp0 st') (rEqual_L601011_gp1 st') (rEqual_L601011_gp2 st') (rEqual_L601011_gp3 st') (rEqual_L601011_gp4 st') (rEqual_L601011_gp5 st') (rEqual_L601011_gp6 st') (rEqual_L601011_gp7 st') (rEqual_L601011_gv st')) (E := fun st' o => rEqual_L601011_E (rEqual_L601011_gp0 st') (rEqual_L601011_gp1 st') (rEqual_L601011_gp2 st') (rEqual_L601011_gp3 st') (rEqual_L601011_gp4 st') (rEqual_L601011_gp5 st') (rEqual_L601011_gp6 st') (rEqual_L601011_gp7 st') o) ?_ (fun st' o h => rEqual_L601011_said io (rEqual_L601011_gp0 st') (rEqual_L601011_gp1 st') (rEqual_L601011_gp2 st') (rEqual_L601011_gp3 st') (rEqual_L601011_gp4 st') (rEqual_L601011_gp5 st') (rEqual_L601011_gp6 st') (rEqual_L601011_gp7 st') n _ o h)
  rw [← h]
  unfold rEqual_L601011_H
  congr 1; funext st'; congr 1; funext _; congr 1; funext o
  rcases o with (o | o) <;> rfl
noncomputable def II5 (R : Type) (F : Tb) (n : Nat) : WI T R := { II4 R F n with loop := fun c p st k => bif Nat.beq (pnum p) 16916769 && Nat.beq (skN0 [0, 1, 6, 7, 8, 9, 10, 11, 12, 13, 14, 15, 16, 17, 18, 19, 20, 21, 22, 23, 24, 25, 26, 27, 28, 29, 30, 31, 32, 33, 34, 35, 36, 37, 38, 39, 40, 41, 42, 43, 44, 45, 46, 47, 48, 49, 50, 51, 52] st) 712583109549193617 then rEqual_L601011_H F n c st k else (II4 R F n).loop c p st k }
theorem II5_ok {R : Type} {F : Tb} {n : Nat} (sd : Sd F) : IOk cfgL cod (II5 R F n) :=
  have io : IOk cfgL cod (II4 R F n) := II4_ok sd
  { pur := fun h => io.pur h, ext := fun h => io.ext h, frz := fun h => io.frz h, call := fun h => io.call h, yld := fun h => io.yld h, cut := fun {_ p _ _ _} h => io.cut (p := p) h,
    loop := fun h => by
      rcases bif_or h with ⟨_, h⟩ | h
      · exact rEqual_L601011_Hs (II4_ok sd) h
      · exact io.loop h }
theorem left_L601011_ok (F : Tb) (n : Nat) (p0 : Int) (p1 : Bs) (p2 : Bs) (p3 : List Form) (v : (Int) × (Int)) (K : Ex × WSt T → Option (Ex × WSt T)) : roundWK cfgL wcL (inlN cfgL wcL 6 (II5 _ F n)) (loopAt 73 [0, 1, 0, 1, 1]) [0, 1, 0, 1, 1, 73] left_L601011_q (left_L601011_S p0 p1 p2 p3 v) K = left_L601011_R F n p0 p1 p2 p3 v fun x => sumK x (fun o => K ((.exit 0), left_L601011_O0 p0 p1 p2 p3 o)) (fun v => K (.normal, left_L601011_S p0 p1 p2 p3 v)) := by kernel_rfl
theorem left_L601011_par {R : Type} (F : Tb) (n : Nat) (p0 : Int) (p1 : Bs) (p2 : Bs) (p3 : List Form) (v : (Int) × (Int)) (K : ((Int) × (Int)) ⊕ ((Int) × (Int)) → Option R) : left_L601011_R F n p0 p1 p2 p3 v K = opK (left_L601011_R F n p0 p1 p2 p3 v some) K := by
  unfold left_L601011_R
  simp only [opK_cnd, opK_opK, opK_sumK, opK_none, opK_one]
theorem left_L601011_said {F : Tb} {n : Nat} (io : IOk cfgL cod (II5 (Ex × WSt T) F n)) (p0 : Int) (p1 : Bs) (p2 : Bs) (p3 : List Form) : ∀ m v o, left_L601011 F n m p0 p1 p2 p3 v = some o → LoopSaid cfgL cod (.loop (loopAt 73 [0, 1, 0, 1, 1])) (left_L601011_S p0 p1 p2 p3 v) (left_L601011_E p0 p1 p2 p3 o) := by
  refine loop_gen (left_L601011_S p0 p1 p2 p3) (left_L601011_E p0 p1 p2 p3) ?_ (fun v => left_L601011_R F n p0 p1 p2 p3 v some) (fun m v => left_L601011 F n m p0 p1 p2 p3 v) ?_ (fun v => rfl) (fun m v => ?_)
  · intro o h; cases h
  · intro v x h
    have e := left_L601011_ok F n p0 p1 p2 p3 v some
    rw [left_L601011_par, h] at e
    have e' : roundWK cfgL wcL (inlN cfgL wcL 6 (II5 _ F n)) (loopAt 73 [0, 1, 0, 1, 1]) [0, 1, 0, 1, 1, 73] left_L601011_q (left_L601011_S p0 p1 p2 p3 v) some = some (stepE (left_L601011_E p0 p1 p2 p3) (left_L601011_S p0 p1 p2 p3) x) := by
      rw [e]
      rcases x with o | v <;> rfl
    obtain ⟨y, h1, h2⟩ := roundWK_sound codOk (inlN_ok codOk io 6) e'
    injection h1 with h1
    rw [← h1]
    exact @h2
  · show left_L601011_R F n p0 p1 p2 p3 v _ = _
    rw [left_L601011_par]
theorem left_L601011_Hs {R : Type} {F : Tb} {n : Nat} (io : IOk cfgL cod (II5 (Ex × WSt T) F n)) {c : Code} {st : WSt T} {k : Ex × WSt T → Option R} {r : R} (h : left_L601011_H F n c st k = some r) : ∃ x, k x = some r ∧ LoopSaid cfgL cod (.loop c) st x := by
  refine hand_sound (c0 := loopAt 73 [0, 1, 0, 1, 1]) (q := left_L601011_q) (s := fun st' => left_L601011_S (left_L601011_gp0 st') (left_L601011_gp1 st') (left_L601011_gp2 st') (left_L601011_gp3 st') (left_L601011_gv st')) (L := fun st' => left_L601011 F n n (left_L601011_gp0 st') (left_L601011_gp1 st') (left_L601011_gp2 st') (left_L601011_gp3 st') (left_L601011_gv st')) (E := fun st' o => left_L601011_E (left_L601011_gp0 st') (left_L601011_gp1 st') (left_L601011_gp2 st') (left_L601011_gp3 st') o) ?_ (fun st' o h => left_L601011_said io (left_L601011_gp0 st') (left_L601011_gp1 st') (left_L601011_gp2 st') (left_L601011_gp3 st') n _ o h)
  rw [← h]
  unfold left_L601011_H
  rfl
noncomputable def II6 (R : Type) (F : Tb) (n : Nat) : WI T R := { II5 R F n with loop := fun c p st k => bif Nat.beq (pnum p) 77734177 && Nat.beq (skN0 [0, 3, 6, 7, 8, 9, 10, 11, 12, 13, 14, 15, 16, 17, 18, 19, 20, 21, 22, 23, 24, 25, 26] st) 728430358762233886 then left_L601011_H F n c st k else (II5 R F n).loop c p st k }
theorem II6_ok {R : Type} {F : Tb} {n : Nat} (sd : Sd F) : IOk cfgL cod (II6 R F n) :=
  have io : IOk cfgL cod (II5 R F n) := II5_ok sd
  { pur := fun h => io.pur h, ext := fun h => io.ext h, frz := fun h => io.frz h, call := fun h => io.call h, yld := fun h => io.yld h, cut := fun {_ p _ _ _} h => io.cut (p := p) h,
    loop := fun h => by
      rcases bif_or h with ⟨_, h⟩ | h
      · exact left_L601011_Hs (II5_ok sd) h
      · exact io.loop h }
theorem same_L601011_ok (F : Tb) (n : Nat) (p0 : List Form) (p1 : List Form) (p2 : Int) (v : (Int)) (K : Ex × WSt T → Option (Ex × WSt T)) : roundWK cfgL wcL (inlN cfgL wcL 6 (II6 _ F n)) (loopAt 36 [0, 1, 0, 1, 1]) [0, 1, 0, 1, 1, 36] same_L601011_q (same_L601011_S p0 p1 p2 v) K = same_L601011_R F n p0 p1 p2 v fun x => sumK x (fun o => sumK o (fun o => K (.ret, same_L601011_O0 p0 p1 p2 o)) (fun o => K ((.exit 0), same_L601011_O1 p0 p1 p2 o))) (fun v => K (.normal, same_L601011_S p0 p1 p2 v)) := by kernel_rfl
theorem same_L601011_par {R : Type} (F : Tb) (n : Nat) (p0 : List Form) (p1 : List Form) (p2 : Int) (v : (Int)) (K : (((Int)) ⊕ ((Int))) ⊕ ((Int)) → Option R) : same_L601011_R F n p0 p1 p2 v K = opK (same_L601011_R F n p0 p1 p2 v some) K := by
  unfold same_L601011_R
  simp only [opK_cnd, opK_opK, opK_sumK, opK_none, opK_one]
theorem same_L601011_said {F : Tb} {n : Nat} (io : IOk cfgL cod (II6 (Ex × WSt T) F n)) (p0 : List Form) (p1 : List Form) (p2 : Int) : ∀ m v o, same_L601011 F n m p0 p1 p2 v = some o → LoopSaid cfgL cod (.loop (loopAt 36 [0, 1, 0, 1, 1])) (same_L601011_S p0 p1 p2 v) (same_L601011_E p0 p1 p2 o) := by
  refine loop_gen (same_L601011_S p0 p1 p2) (same_L601011_E p0 p1 p2) ?_ (fun v => same_L601011_R F n p0 p1 p2 v some) (fun m v => same_L601011 F n m p0 p1 p2 v) ?_ (fun v => rfl) (fun m v => ?_)
  · intro o
    rcases o with (o | o)
    all_goals intro h; cases h
  · intro v x h
    have e := same_L601011_ok F n p0 p1 p2 v some
    rw [same_L601011_par, h] at e
    have e' : roundWK cfgL wcL (inlN cfgL wcL 6 (II6 _ F n)) (loopAt 36 [0, 1, 0, 1, 1]) [0, 1, 0, 1, 1, 36] same_L601011_q (same_L601011_S p0 p1 p2 v) some = some (stepE (same_L601011_E p0 p1 p2) (same_L601011_S p0 p1 p2) x) := by
      rw [e]
      rcases x with (o | o) | v <;> rfl
    obtain ⟨y, h1, h2⟩ := roundWK_sound codOk (inlN_ok codOk io 6) e'
    injection h1 with h1
    rw [← h1]
    exact @h2
  · show same_L601011_R F n p0 p1 p2 v _ = _
    rw [same_L601011_par]
theorem same_L601011_Hs {R : Type} {F : Tb} {n : Nat} (io : IOk cfgL cod (II6 (Ex × WSt T) F n)) {c : Code} {st : WSt T} {k : Ex × WSt T → Option R} {r : R} (h : same_L601011_H F n c st k = some r) : ∃ x, k x = some r ∧ LoopSaid cfgL cod (.loop c) st x := by
  refine hand_sound (c0 := loopAt 36 [0, 1, 0, 1, 1]) (q := same_L601011_q) (s := fun st' => same_L601011_S (same_L601011_gp0 st') (same_L601011_gp1 st') (same_L601011_gp2 st') (same_L601011_gv st')) (L := fun st' => same_L601011 F n n (same_L601011_gp0 st') (same_L601011_gp1 st') (same_L601011_gp2 st') (same_L601011_gv st')) (E := fun st' o => same_L601011_E (same_L601011_gp0 st') (same_L601011_gp1 st') (same_L601011_gp2 st') o) ?_ (fun st' o h => same_L601011_said io (same_L601011_gp0 st') (same_L601011_gp1 st') (same_L601011_gp2 st') n _ o h)
  rw [← h]
  unfold same_L601011_H
  congr 1; funext st'; congr 1; funext _; congr 1; funext o
  rcases o with (o | o) <;> rfl
noncomputable def II7 (R : Type) (F : Tb) (n : Nat) : WI T R := { II6 R F n with loop := fun c p st k => bif Nat.beq (pnum p) 38936865 && Nat.beq (skN0 [2, 3, 5, 6, 7, 8, 9, 10, 11, 14, 15, 16, 17, 18, 19, 20, 21, 22, 23, 24, 25, 26] st) 1972235195171407806 then same_L601011_H F n c st k else (II6 R F n).loop c p st k }
theorem II7_ok {R : Type} {F : Tb} {n : Nat} (sd : Sd F) : IOk cfgL cod (II7 R F n) :=
  have io : IOk cfgL cod (II6 R F n) := II6_ok sd
  { pur := fun h => io.pur h, ext := fun h => io.ext h, frz := fun h => io.frz h, call := fun h => io.call h, yld := fun h => io.yld h, cut := fun {_ p _ _ _} h => io.cut (p := p) h,
    loop := fun h => by
      rcases bif_or h with ⟨_, h⟩ | h
      · exact same_L601011_Hs (II6_ok sd) h
      · exact io.loop h }
theorem EqualFunc_L601011_ok (F : Tb) (n : Nat) (p0 : List Form) (p1 : List Form) (p2 : Int) (v : (Int)) (K : Ex × WSt T → Option (Ex × WSt T)) : roundWK cfgL wcL (inlN cfgL wcL 6 (II7 _ F n)) (loopAt 98 [0, 1, 0, 1, 1]) [0, 1, 0, 1, 1, 98] EqualFunc_L601011_q (EqualFunc_L601011_S p0 p1 p2 v) K = EqualFunc_L601011_R F n p0 p1 p2 v fun x => sumK x (fun o => sumK o (fun o => K (.ret, EqualFunc_L601011_O0 p0 p1 p2 o)) (fun o => K ((.exit 0), EqualFunc_L601011_O1 p0 p1 p2 o))) (fun v => K (.normal, EqualFunc_L601011_S p0 p1 p2 v)) := by kernel_rfl
theorem EqualFunc_L601011_par {R : Type} (F : Tb) (n : Nat) (p0 : List Form) (p1 : List Form) (p2 : Int) (v : (Int)) (K : (((Int)) ⊕ ((Int))) ⊕ ((Int)) → Option R) : EqualFunc_L601011_R F n p0 p1 p2 v K = opK (EqualFunc_L601011_R F n p0 p1 p2 v some) K := by
  unfold EqualFunc_L601011_R
  simp only [opK_cnd, opK_opK, opK_sumK, opK_none, opK_one]
theorem EqualFunc_L601011_said {F : Tb} {n : Nat} (io : IOk cfgL cod (II7 (Ex × WSt T) F n)) (p0 : List Form) (p1 : List Form) (p2 : Int) : ∀ m v o, EqualFunc_L601011 F n m p0 p1 p2 v = some o → LoopSaid cfgL cod (.loop (loopAt 98 [0, 1, 0, 1, 1])) (EqualFunc_L601011_S p0 p1 p2 v) (EqualFunc_L601011_E p0 p1 p2 o) := by
  refine loop_gen (EqualFunc_L601011_S p0 p1 p2) (EqualFunc_L601011_E p0 p1 p2) ?_ (fun v => EqualFunc_L601011_R F n p0 p1 p2 v some) (fun m v => EqualFunc_L601011 F n m p0 p1 p2 v) ?_ (fun v => rfl) (fun m v => ?_)
  · intro o
    rcases o with (o | o)
    all_goals intro h; cases h
  · intro v x h
    have e := EqualFunc_L601011_ok F n p0 p1 p2 v some
    rw [EqualFunc_L601011_par, h] at e
    have e' : roundWK cfgL wcL (inlN cfgL wcL 6 (II7 _ F n)) (loopAt 98 [0, 1, 0, 1, 1]) [0, 1, 0, 1, 1, 98] EqualFunc_L601011_q (EqualFunc_L601011_S p0 p1 p2 v) some = some (stepE (EqualFunc_L601011_E p0 p1 p2) (EqualFunc_L601011_S p0 p1 p2) x) := by
      rw [e]
      rcases x with (o | o) | v <;> rfl
    obtain ⟨y, h1, h2⟩ := roundWK_sound codOk (inlN_ok codOk io 6) e'
    injection h1 with h1
    rw [← h1]
    exact @h2
  · show EqualFunc_L601011_R F n p0 p1 p2 v _ = _
    rw [EqualFunc_L601011_par]
theorem EqualFunc_L601011_Hs {R : Type} {F : Tb} {n : Nat} (io : IOk cfgL cod (II7 (Ex × WSt T) F n)) {c : Code} {st : WSt T} {k : Ex × WSt T → Option R} {r : R} (h : EqualFunc_L601011_H F n c st k = some r) : ∃ x, k x = some r ∧ LoopSaid cfgL cod (.loop c) st x := by
  refine hand_sound (c0 := loopAt 98 [0, 1, 0, 1, 1]) (q := EqualFunc_L601011_q) (s := fun st' => EqualFunc_L601011_S (EqualFunc_L601011_gp0 st') (EqualFunc_L601011_gp1 st') (EqualFunc_L601011_gp2 st') (EqualFunc_L601011_gv st')) (L := fun st' => EqualFunc_L601011 F n n (EqualFunc_L601011_gp0 st') (EqualFunc_L601011_gp1 st') (EqualFunc_L601011_gp2 st') (EqualFunc_L601011_gv st')) (E := fun st' o => EqualFunc_L601011_E (EqualFunc_L601011_gp0 st') (EqualFunc_L601011_gp1 st') (EqualFunc_L601011_gp2 st') o) ?_ (fun st' o h => EqualFunc_L601011_said io (EqualFunc_L601011_gp0 st') (EqualFunc_L601011_gp1 st') (EqualFunc_L601011_gp2 st') n _ o h)
  rw [← h]
  unfold EqualFunc_L601011_H
  congr 1; funext st'; congr 1; funext _; congr 1; funext o
  rcases o with (o | o) <;> rfl
noncomputable def II8 (R : Type) (F : Tb) (n : Nat) : WI T R := { II7 R F n with loop := fun c p st k => bif Nat.beq (pnum p) 103948577 && Nat.beq (skN0 [0, 3, 4, 5, 7, 8, 9, 10, 11, 12, 13, 14, 18, 19, 20, 21, 22, 23, 24, 25, 26, 27, 28, 29, 30, 31] st) 2213919379138758322 then EqualFunc_L601011_H F n c st k else (II7 R F n).loop c p st k }
theorem II8_ok {R : Type} {F : Tb} {n : Nat} (sd : Sd F) : IOk cfgL cod (II8 R F n) :=
  have io : IOk cfgL cod (II7 R F n) := II7_ok sd
  { pur := fun h => io.pur h, ext := fun h => io.ext h, frz := fun h => io.frz h, call := fun h => io.call h, yld := fun h => io.yld h, cut := fun {_ p _ _ _} h => io.cut (p := p) h,
    loop := fun h => by
      rcases bif_or h with ⟨_, h⟩ | h
      · exact EqualFunc_L601011_Hs (II7_ok sd) h
      · exact io.loop h }
theorem Concat_L601011_ok (F : Tb) (n : Nat) (p0 : List (List Form)) (p1 : Int) (v : (Int) × (Int)) (K : Ex × WSt T → Option (Ex × WSt T)) : roundWK cfgL wcL (inlN cfgL wcL 6 (II8 _ F n)) (loopAt 105 [0, 1, 0, 1, 1]) [0, 1, 0, 1, 1, 105] Concat_L601011_q (Concat_L601011_S p0 p1 v) K = Concat_L601011_R F n p0 p1 v fun x => sumK x (fun o => K ((.exit 0), Concat_L601011_O0 p0 p1 o)) (fun v => K (.normal, Concat_L601011_S p0 p1 v)) := by kernel_rfl
theorem Concat_L601011_par {R : Type} (F : Tb) (n : Nat) (p0 : List (List Form)) (p1 : Int) (v : (Int) × (Int)) (K : ((Int) × (Int)) ⊕ ((Int) × (Int)) → Option R) : Concat_L601011_R F n p0 p1 v K = opK (Concat_L601011_R F n p0 p1 v some) K := by
  unfold Concat_L601011_R
  simp only [opK_cnd, opK_opK, opK_sumK, opK_none, opK_one]
theorem Concat_L601011_said {F : Tb} {n : Nat} (io : IOk cfgL cod (II8 (Ex × WSt T) F n)) (p0 : List (List Form)) (p1 : Int) : ∀ m v o, Concat_L601011 F n m p0 p1 v = some o → LoopSaid cfgL cod (.loop (loopAt 105 [0, 1, 0, 1, 1])) (Concat_L601011_S p0 p1 v) (Concat_L601011_E p0 p1 o) := by
  refine loop_gen (Concat_L601011_S p0 p1) (Concat_L601011_E p0 p1) ?_ (fun v => Concat_L601011_R F n p0 p1 v some) (fun m v => Concat_L601011 F n m p0 p1 v) ?_ (fun v => rfl) (fun m v => ?_)
  · intro o h; cases h
  · intro v x h
    have e := Concat_L601011_ok F n p0 p1 v some
    rw [Concat_L601011_par, h] at e
    have e' : roundWK cfgL wcL (inlN cfgL wcL 6 (II8 _ F n)) (loopAt 105 [0, 1, 0, 1, 1]) [0, 1, 0, 1, 1, 105] Concat_L601011_q (Concat_L601011_S p0 p1 v) some = some (stepE (Concat_L601011_E p0 p1) (Concat_L601011_S p0 p1) x) := by
      rw [e]
      rcases x with o | v <;> rfl
    obtain ⟨y, h1, h2⟩ := roundWK_sound codOk (inlN_ok codOk io 6) e'
    injection h1 with h1
    rw [← h1]
    exact @h2
  · show Concat_L601011_R F n p0 p1 v _ = _
    rw [Concat_L601011_par]
theorem Concat_L601011_Hs {R : Type} {F : Tb} {n : Nat} (io : IOk cfgL cod (II8 (Ex × WSt T) F n)) {c : Code} {st : WSt T} {k : Ex × WSt T → Option R} {r : R} (h : Concat_L601011_H F n c st k = some r) : ∃ x, k x = some r ∧ LoopSaid cfgL cod (.loop c) st x := by
  refine hand_sound (c0 := loopAt 105 [0, 1, 0, 1, 1]) (q := Concat_L601011_q) (s := fun st' => Concat_L601011_S (Concat_L601011_gp0 st') (Concat_L601011_gp1 st') (Concat_L601011_gv st')) (L := fun st' => Concat_L601011 F n n (Concat_L601011_gp0 st') (Concat_L601011_gp1 st') (Concat_L601011_gv st')) (E := fun st' o => Concat_L601011_E (Concat_L601011_gp0 st') (Concat_L601011_gp1 st') o) ?_ (fun st' o h => Concat_L601011_said io (Concat_L601011_gp0 st') (Concat_L601011_gp1 st') n _ o h)
  rw [← h]
  unfold Concat_L601011_H
  rfl
noncomputable def II9 (R : Type) (F : Tb) (n : Nat) : WI T R := { II8 R F n with loop := fun c p st k => bif Nat.beq (pnum p) 111288609 && Nat.beq (skN0 [1, 4, 5, 6, 7, 8, 12, 13, 14, 15, 16, 17, 18, 19, 20, 21, 22, 23, 24, 25, 26, 27, 28, 29, 30, 31, 32, 33, 34, 35] st) 2071350247201576126 then Concat_L601011_H F n c st k else (II8 R F n).loop c p st k }
theorem II9_ok {R : Type} {F : Tb} {n : Nat} (sd : Sd F) : IOk cfgL cod (II9 R F n) :=
  have io : IOk cfgL cod (II8 R F n) := II8_ok sd
  { pur := fun h => io.pur h, ext := fun h => io.ext h, frz := fun h => io.frz h, call := fun h => io.call h, yld := fun h => io.yld h, cut := fun {_ p _ _ _} h => io.cut (p := p) h,
    loop := fun h => by
      rcases bif_or h with ⟨_, h⟩ | h
      · exact Concat_L601011_Hs (II8_ok sd) h
      · exact io.loop h }
theorem Concat_L80101111_ok (F : Tb) (n : Nat) (p0 : List (List Form)) (p1 : Int) (v : (Nat) × (Int) × (List Form)) (K : Ex × WSt T → Option (Ex × WSt T)) : roundWK cfgL wcL (inlN cfgL wcL 6 (II9 _ F n)) (loopAt 105 [0, 1, 0, 1, 1, 1, 1]) [0, 1, 0, 1, 1, 1, 1, 105] Concat_L80101111_q (Concat_L80101111_S p0 p1 v) K = Concat_L80101111_R F n p0 p1 v fun x => sumK x (fun o => K ((.exit 2), Concat_L80101111_O0 p0 p1 o)) (fun v => K (.normal, Concat_L80101111_S p0 p1 v)) := by kernel_rfl
theorem Concat_L80101111_par {R : Type} (F : Tb) (n : Nat) (p0 : List (List Form)) (p1 : Int) (v : (Nat) × (Int) × (List Form)) (K : ((Nat) × (Int) × (List Form)) ⊕ ((Nat) × (Int) × (List Form)) → Option R) : Concat_L80101111_R F n p0 p1 v K = opK (Concat_L80101111_R F n p0 p1 v some) K := by
  unfold Concat_L80101111_R
  simp only [opK_cnd, opK_opK, opK_sumK, opK_none, opK_one]
theorem Concat_L80101111_said {F : Tb} {n : Nat} (io : IOk cfgL cod (II9 (Ex × WSt T) F n)) (p0 : List (List Form)) (p1 : Int) : ∀ m v o, Concat_L80101111 F n m p0 p1 v = some o → LoopSaid cfgL cod (.loop (loopAt 105 [0, 1, 0, 1, 1, 1, 1])) (Concat_L80101111_S p0 p1 v) (Concat_L80101111_E p0 p1 o) := by
  refine loop_gen (Concat_L80101111_S p0 p1) (Concat_L80101111_E p0 p1) ?_ (fun v => Concat_L80101111_R F n p0 p1 v some) (fun m v => Concat_L80101111 F n m p0 p1 v) ?_ (fun v => rfl) (fun m v => ?_)
  · intro o h; cases h
  · intro v x h
    have e := Concat_L80101111_ok F n p0 p1 v some
    rw [Concat_L80101111_par, h] at e
    have e' : roundWK cfgL wcL (inlN cfgL wcL 6 (II9 _ F n)) (loopAt 105 [0, 1, 0, 1, 1, 1, 1]) [0, 1, 0, 1, 1, 1, 1, 105] Concat_L80101111_q (Concat_L80101111_S p0 p1 v) some = some (stepE (Concat_L80101111_E p0 p1) (Concat_L80101111_S p0 p1) x) := by
      rw [e]
      rcases x with o | v <;> rfl
    obtain ⟨y, h1, h2⟩ := roundWK_sound codOk (inlN_ok codOk io 6) e'
    injection h1 with h1
    rw [← h1]
    exact @h2
  · show Concat_L80101111_R F n p0 p1 v _ = _
    rw [Concat_L80101111_par]
theorem Concat_L80101111_Hs {R : Type} {F : Tb} {n : Nat} (io : IOk cfgL cod (II9 (Ex × WSt T) F n)) {c : Code} {st : WSt T} {k : Ex × WSt T → Option R} {r : R} (h : Concat_L80101111_H F n c st k = some r) : ∃ x, k x = some r ∧ LoopSaid cfgL cod (.loop c) st x := by
  refine hand_sound (c0 := loopAt 105 [0, 1, 0, 1, 1, 1, 1]) (q := Concat_L80101111_q) (s := fun st' => Concat_L80101111_S (Concat_L80101111_gp0 st') (Concat_L80101111_gp1 st') (Concat_L80101111_gv st')) (L := fun st' => Concat_L80101111 F n n (Concat_L80101111_gp0 st') (Concat_L80101111_gp1 st') (Concat_L80101111_gv st')) (E := fun st' o => Concat_L80101111_E (Concat_L80101111_gp0 st') (Concat_L80101111_gp1 st') o) ?_ (fun st' o h => Concat_L80101111_said io (Concat_L80101111_gp0 st') (Concat_L80101111_gp1 st') n _ o h)
  rw [← h]
  unfold Concat_L80101111_H
  rfl
noncomputable def II10 (R : Type) (F : Tb) (n : Nat) : WI T R := { II9 R F n with loop := fun c p st k => bif Nat.beq (pnum p) 28489949473 && Nat.beq (skN0 [0, 1, 3, 4, 5, 7, 8, 9, 10, 11, 12, 13, 14, 15, 16, 17, 18, 19, 20, 21, 22, 23, 24, 28, 29, 30, 31, 32, 33, 34, 35] st) 2246939816615498886 then Concat_L80101111_H F n c st k else (II9 R F n).loop c p st k }
theorem II10_ok {R : Type} {F : Tb} {n : Nat} (sd : Sd F) : IOk cfgL cod (II10 R F n) :=
  have io : IOk cfgL cod (II9 R F n) := II9_ok sd
  { pur := fun h => io.pur h, ext := fun h => io.ext h, frz := fun h => io.frz h, call := fun h => io.call h, yld := fun h => io.yld h, cut := fun {_ p _ _ _} h => io.cut (p := p) h,
    loop := fun h => by
      rcases bif_or h with ⟨_, h⟩ | h
      · exact Concat_L80101111_Hs (II9_ok sd) h
      · exact io.loop h }
theorem Concat_L80101111v1_ok (F : Tb) (n : Nat) (p0 : List (List Form)) (p1 : Int) (v : (Int) × (List Form)) (K : Ex × WSt T → Option (Ex × WSt T)) : roundWK cfgL wcL (inlN cfgL wcL 6 (II10 _ F n)) (loopAt 105 [0, 1, 0, 1, 1, 1, 1]) [0, 1, 0, 1, 1, 1, 1, 105] Concat_L80101111v1_q (Concat_L80101111v1_S p0 p1 v) K = Concat_L80101111v1_R F n p0 p1 v fun x => sumK x (fun o => K ((.exit 2), Concat_L80101111v1_O0 p0 p1 o)) (fun v => K (.normal, Concat_L80101111v1_S p0 p1 v)) := by kernel_rfl
theorem Concat_L80101111v1_par {R : Type} (F : Tb) (n : Nat) (p0 : List (List Form)) (p1 : Int) (v : (Int) × (List Form)) (K : ((Int) × (List Form)) ⊕ ((Int) × (List Form)) → Option R) : Concat_L80101111v1_R F n p0 p1 v K = opK (Concat_L80101111v1_R F n p0 p1 v some) K := by
  unfold Concat_L80101111v1_R
  simp only [opK_cnd, opK_opK, opK_sumK, opK_none, opK_one]
theorem Concat_L80101111v1_said {F : Tb} {n : Nat} (io : IOk cfgL cod (II10 (Ex × WSt T) F n)) (p0 : List (List Form)) (p1 : Int) : ∀ m v o, Concat_L80101111v1 F n m p0 p1 v = some o → LoopSaid cfgL cod (.loop (loopAt 105 [0, 1, 0, 1, 1, 1, 1])) (Concat_L80101111v1_S p0 p1 v) (Concat_L80101111v1_E p0 p1 o) := by
  refine loop_gen (Concat_L80101111v1_S p0 p1) (Concat_L80101111v1_E p0 p1) ?_ (fun v => Concat_L80101111v1_R F n p0 p1 v some) (fun m v => Concat_L80101111v1 F n m p0 p1 v) ?_ (fun v => rfl) (fun m v => ?_)
  · intro o h; cases h
  · intro v x h
    have e := Concat_L80101111v1_ok F n p0 p1 v some
    rw [Concat_L80101111v1_par, h] at e
    have e' : roundWK cfgL wcL (inlN cfgL wcL 6 (II10 _ F n)) (loopAt 105 [0, 1, 0, 1, 1, 1, 1]) [0, 1, 0, 1, 1, 1, 1, 105] Concat_L80101111v1_q (Concat_L80101111v1_S p0 p1 v) some = some (stepE (Concat_L80101111v1_E p0 p1) (Concat_L80101111v1_S p0 p1) x) := by
      rw [e]
      rcases x with o | v <;> rfl
    obtain ⟨y, h1, h2⟩ := roundWK_sound codOk (inlN_ok codOk io 6) e'
    injection h1 with h1
    rw [← h1]
    exact @h2
  · show Concat_L80101111v1_R F n p0 p1 v _ = _
    rw [Concat_L80101111v1_par]
theorem Concat_L80101111v1_Hs {R : Type} {F : Tb} {n : Nat} (io : IOk cfgL cod (II10 (Ex × WSt T) F n)) {c : Code} {st : WSt T} {k : Ex × WSt T → Option R} {r : R} (h : Concat_L80101111v1_H F n c st k = some r) : ∃ x, k x = some r ∧ LoopSaid cfgL cod (.loop c) st x := by
  refine hand_sound (c0 := loopAt 105 [0, 1, 0, 1, 1, 1, 1]) (q := Concat_L80101111v1_q) (s := fun st' => Concat_L80101111v1_S (Concat_L80101111v1_gp0 st') (Concat_L80101111v1_gp1 st') (Concat_L80101111v1_gv st')) (L := fun st' => Concat_L80101111v1 F n n (Concat_L80101111v1_gp0 st') (Concat_L80101111v1_gp1 st') (Concat_L80101111v1_gv st')) (E := fun st' o => Concat_L80101111v1_E (Concat_L80101111v1_gp0 st') (Concat_L80101111v1_gp1 st') o) ?_ (fun st' o h => Concat_L80101111v1_said io (Concat_L80101111v1_gp0 st') (Concat_L80101111v1_gp1 st') n _ o h)
  rw [← h]
  unfold Concat_L80101111v1_H
  rfl
noncomputable def II11 (R : Type) (F : Tb) (n : Nat) : WI T R := { II10 R F n with loop := fun c p st k => bif Nat.beq (pnum p) 28489949473 && Nat.beq (skN0 [0, 1, 3, 4, 5, 7, 8, 9, 10, 11, 12, 13, 14, 15, 16, 17, 18, 19, 20, 21, 22, 23, 24, 28, 29, 30, 31, 32, 33, 34, 35] st) 1559947024427535353 then Concat_L80101111v1_H F n c st k else (II10 R F n).loop c p st k }
theorem II11_ok {R : Type} {F : Tb} {n : Nat} (sd : Sd F) : IOk cfgL cod (II11 R F n) :=
  have io : IOk cfgL cod (II10 R F n) := II10_ok sd
  { pur := fun h => io.pur h, ext := fun h => io.ext h, frz := fun h => io.frz h, call := fun h => io.call h, yld := fun h => io.yld h, cut := fun {_ p _ _ _} h => io.cut (p := p) h,
    loop := fun h => by
      rcases bif_or h with ⟨_, h⟩ | h
      · exact Concat_L80101111v1_Hs (II10_ok sd) h
      · exact io.loop h }
theorem rDotted_L7010111_ok (F : Tb) (n : Nat) (p0 : List Form) (p1 : Int) (p2 : Bs) (p3 : Bs) (p4 : List Form) (v : (Int) × (List Form)) (K : Ex × WSt T → Option (Ex × WSt T)) : roundWK cfgL wcL (inlN cfgL wcL 6 (II11 _ F n)) (loopAt 39 [0, 1, 0, 1, 1, 1]) [0, 1, 0, 1, 1, 1, 39] rDotted_L7010111_q (rDotted_L7010111_S p0 p1 p2 p3 p4 v) K = rDotted_L7010111_R F n p0 p1 p2 p3 p4 v fun x => sumK x (fun o => K ((.exit 0), rDotted_L7010111_O0 p0 p1 p2 p3 p4 o)) (fun v => K (.normal, rDotted_L7010111_S p0 p1 p2 p3 p4 v)) := by kernel_rfl
theorem rDotted_L7010111_par {R : Type} (F : Tb) (n : Nat) (p0 : List Form) (p1 : Int) (p2 : Bs) (p3 : Bs) (p4 : List Form) (v : (Int) × (List Form)) (K : ((Int) × (List Form)) ⊕ ((Int) × (List Form)) → Option R) : rDotted_L7010111_R F n p0 p1 p2 p3 p4 v K = opK (rDotted_L7010111_R F n p0 p1 p2 p3 p4 v some) K := by
  unfold rDotted_L7010111_R
  simp only [opK_cnd, opK_opK, opK_sumK, opK_none, opK_one]
theorem rDotted_L7010111_said {F : Tb} {n : Nat} (io : IOk cfgL cod (II11 (Ex × WSt T) F n)) (p0 : List Form) (p1 : Int) (p2 : Bs) (p3 : Bs) (p4 : List Form) : ∀ m v o, rDotted_L7010111 F n m p0 p1 p2 p3 p4 v = some o → LoopSaid cfgL cod (.loop (loopAt 39 [0, 1, 0, 1, 1, 1])) (rDotted_L7010111_S p0 p1 p2 p3 p4 v) (rDotted_L7010111_E p0 p1 p2 p3 p4 o) := by
  refine loop_gen (rDotted_L7010111_S p0 p1 p2 p3 p4) (rDotted_L7010111_E p0 p1 p2 p3 p4) ?_ (fun v => rDotted_L7010111_R F n p0 p1 p2 p3 p4 v some) (fun m v => rDotted_L7010111 F n m p0 p1 p2 p3 p4 v) ?_ (fun v => rfl) (fun m v => ?_)
  · intro o h; cases h
  · intro v x h
    have e := rDotted_L7010111_ok F n p0 p1 p2 p3 p4 v some
    rw [rDotted_L7010111_par, h] at e
    have e' : roundWK cfgL wcL (inlN cfgL wcL 6 (II11 _ F n)) (loopAt 39 [0, 1, 0, 1, 1, 1]) [0, 1, 0, 1, 1, 1, 39] rDotted_L7010111_q (rDotted_L7010111_S p0 p1 p2 p3 p4 v) some = some (stepE (rDotted_L7010111_E p0 p1 p2 p3 p4) (rDotted_L7010111_S p0 p1 p2 p3 p4) x) := by
      rw [e]
      rcases x with o | v <;> rfl
    obtain ⟨y, h1, h2⟩ := roundWK_sound codOk (inlN_ok codOk io 6) e'
    injection h1 with h1
    rw [← h1]
    exact @h2
  · show rDotted_L7010111_R F n p0 p1 p2 p3 p4 v _ = _
    rw [rDotted_L7010111_par]
theorem rDotted_L7010111_Hs {R : Type} {F : Tb} {n : Nat} (io : IOk cfgL cod (II11 (Ex × WSt T) F n)) {c : Code} {st : WSt T} {k : Ex × WSt T → Option R} {r : R} (h : rDotted_L7010111_H F n c st k = some r) : ∃ x, k x = some r ∧ LoopSaid cfgL cod (.loop c) st x := by
  refine hand_sound (c0 := loopAt 39 [0, 1, 0, 1, 1, 1]) (q := rDotted_L7010111_q) (s := fun st' => rDotted_L7010111_S (rDotted_L7010111_gp0 st') (rDotted_L7010111_gp1 st') (rDotted_L7010111_gp2 st') (rDotted_L7010111_gp3 st') (rDotted_L7010111_gp4 st') (rDotted_L7010111_gv st')) (L := fun st' => rDotted_L7010111 F n n (rDotted_L7010111_gp0 st') (rDotted_L7010111_gp1 st') (rDotted_L7010111_gp2 st') (rDotted_L7010111_gp3 st') (rDotted_L7010111_gp4 st') (rDotted_L7010111_gv st')) (E := fun st' o => rDotted_L7010111_E (rDotted_L7010111_gp0 st') (rDotted_L7010111_gp1 st') (rDotted_L7010111_gp2 st') (rDotted_L7010111_gp3 st') (rDotted_L7010111_gp4 st') o) ?_ (fun st' o h => rDotted_L7010111_said io (rDotted_L7010111_gp0 st') (rDotted_L7010111_gp1 st') (rDotted_L7010111_gp2 st') (rDotted_L7010111_gp3 st') (rDotted_L7010111_gp4 st') n _ o h)
  rw [← h]
  unfold rDotted_L7010111_H
  rfl
noncomputable def II12 (R : Type) (F : Tb) (n : Nat) : WI T R := { II11 R F n with loop := fun c p st k => bif Nat.beq (pnum p) 673325345 && Nat.beq (skN0 [1, 2, 7, 8, 9, 10, 11, 12, 13, 14, 15, 16, 17, 18, 19, 20, 21, 22, 23, 24, 25, 26, 27, 28, 29, 30, 31, 32, 33, 34, 35, 36, 37, 38, 39, 40, 41, 42, 43, 44, 45, 46, 47, 48, 49, 50, 51, 52, 53, 54, 55] st) 1509441457022245188 then rDotted_L7010111_H F n c st k else (II11 R F n).loop c p st k }
theorem II12_ok {R : Type} {F : Tb} {n : Nat} (sd : Sd F) : IOk cfgL cod (II12 R F n) :=
  have io : IOk cfgL cod (II11 R F n) := II11_ok sd
  { pur := fun h => io.pur h, ext := fun h => io.ext h, frz := fun h => io.frz h, call := fun h => io.call h, yld := fun h => io.yld h, cut := fun {_ p _ _ _} h => io.cut (p := p) h,
    loop := fun h => by
      rcases bif_or h with ⟨_, h⟩ | h
      · exact rDotted_L7010111_Hs (II11_ok sd) h
      · exact io.loop h }
theorem rDotted_L901011111_ok (F : Tb) (n : Nat) (p0 : Int) (p1 : Bs) (p2 : Bs) (p3 : List Form) (v : (Int) × (List Form)) (K : Ex × WSt T → Option (Ex × WSt T)) : roundWK cfgL wcL (inlN cfgL wcL 6 (II12 _ F n)) (loopAt 39 [0, 1, 0, 1, 1, 1, 1, 1]) [0, 1, 0, 1, 1, 1, 1, 1, 39] rDotted_L901011111_q (rDotted_L901011111_S p0 p1 p2 p3 v) K = rDotted_L901011111_R F n p0 p1 p2 p3 v fun x => sumK x (fun o => K ((.exit 2), rDotted_L901011111_O0 p0 p1 p2 p3 o)) (fun v => K (.normal, rDotted_L901011111_S p0 p1 p2 p3 v)) := by kernel_rfl
theorem rDotted_L901011111_par {R : Type} (F : Tb) (n : Nat) (p0 : Int) (p1 : Bs) (p2 : Bs) (p3 : List Form) (v : (Int) × (List Form)) (K : ((Int) × (List Form)) ⊕ ((Int) × (List Form)) → Option R) : rDotted_L901011111_R F n p0 p1 p2 p3 v K = opK (rDotted_L901011111_R F n p0 p1 p2 p3 v some) K := by
  unfold rDotted_L901011111_R
  simp only [opK_cnd, opK_opK, opK_sumK, opK_none, opK_one]
theorem rDotted_L901011111_said {F : Tb} {n : Nat} (io : IOk cfgL cod (II12 (Ex × WSt T) F n)) (p0 : Int) (p1 : Bs) (p2 : Bs) (p3 : List Form) : ∀ m v o, rDotted_L901011111 F n m p0 p1 p2 p3 v = some o → LoopSaid cfgL cod (.loop (loopAt 39 [0, 1, 0, 1, 1, 1, 1, 1])) (rDotted_L901011111_S p0 p1 p2 p3 v) (rDotted_L901011111_E p0 p1 p2 p3 o) := by
  refine loop_gen (rDotted_L901011111_S p0 p1 p2 p3) (rDotted_L901011111_E p0 p1 p2 p3) ?_ (fun v => rDotted_L901011111_R F n p0 p1 p2 p3 v some) (fun m v => rDotted_L901011111 F n m p0 p1 p2 p3 v) ?_ (fun v => rfl) (fun m v => ?_)
  · intro o h; cases h
  · intro v x h
    have e := rDotted_L901011111_ok F n p0 p1 p2 p3 v some
    rw [rDotted_L901011111_par, h] at e
    have e' : roundWK cfgL wcL (inlN cfgL wcL 6 (II12 _ F n)) (loopAt 39 [0, 1, 0, 1, 1, 1, 1, 1]) [0, 1, 0, 1, 1, 1, 1, 1, 39] rDotted_L901011111_q (rDotted_L901011111_S p0 p1 p2 p3 v) some = some (stepE (rDotted_L901011111_E p0 p1 p2 p3) (rDotted_L901011111_S p0 p1 p2 p3) x) := by
      rw [e]
      rcases x with o | v <;> rfl
    obtain ⟨y, h1, h2⟩ := roundWK_sound codOk (inlN_ok codOk io 6) e'
    injection h1 with h1
    rw [← h1]
    exact @h2
  · show rDotted_L901011111_R F n p0 p1 p2 p3 v _ = _
    rw [rDotted_L901011111_par]
theorem rDotted_L901011111_Hs {R : Type} {F : Tb} {n : Nat} (io : IOk cfgL cod (II12 (Ex × WSt T) F n)) {c : Code} {st : WSt T} {k : Ex × WSt T → Option R} {r : R} (h : rDotted_L901011111_H F n c st k = some r) : ∃ x, k x = some r ∧ LoopSaid cfgL cod (.loop c) st x := by
  refine hand_sound (c0 := loopAt 39 [0, 1, 0, 1, 1, 1, 1, 1]) (q := rDotted_L901011111_q) (s := fun st' => rDotted_L901011111_S (rDotted_L901011111_gp0 st') (rDotted_L901011111_gp1 st') (rDotted_L901011111_gp2 st') (rDotted_L901011111_gp3 st') (rDotted_L901011111_gv st')) (L := fun st' => rDotted_L901011111 F n n (rDotted_L901011111_gp0 st') (rDotted_L901011111_gp1 st') (rDotted_L901011111_gp2 st') (rDotted_L901011111_gp3 st') (rDotted_L901011111_gv st')) (E := fun st' o => rDotted_L901011111_E (rDotted_L901011111_gp0 st') (rDotted_L901011111_gp1 st') (rDotted_L901011111_gp2 st') (rDotted_L901011111_gp3 st') o) ?_ (fun st' o h => rDotted_L901011111_said io (rDotted_L901011111_gp0 st') (rDotted_L901011111_gp1 st') (rDotted_L901011111_gp2 st') (rDotted_L901011111_gp3 st') n _ o h)
  rw [← h]
  unfold rDotted_L901011111_H
  rfl
noncomputable def II13 (R : Type) (F : Tb) (n : Nat) : WI T R := { II12 R F n with loop := fun c p st k => bif Nat.beq (pnum p) 172371353889 && Nat.beq (skN0 [0, 1, 2, 6, 8, 9, 10, 11, 12, 13, 14, 15, 16, 17, 18, 19, 20, 21, 22, 23, 24, 25, 26, 27, 28, 29, 30, 31, 32, 33, 34, 35, 36, 37, 38, 39, 40, 41, 42, 43, 44, 45, 46, 47, 48, 49, 50, 51, 52, 53, 54, 55] st) 24826947636249059 then rDotted_L901011111_H F n c st k else (II12 R F n).loop c p st k }
theorem II13_ok {R : Type} {F : Tb} {n : Nat} (sd : Sd F) : IOk cfgL cod (II13 R F n) :=
  have io : IOk cfgL cod (II12 R F n) := II12_ok sd
  { pur := fun h => io.pur h, ext := fun h => io.ext h, frz := fun h => io.frz h, call := fun h => io.call h, yld := fun h => io.yld h, cut := fun {_ p _ _ _} h => io.cut (p := p) h,
    loop := fun h => by
      rcases bif_or h with ⟨_, h⟩ | h
      · exact rDotted_L901011111_Hs (II12_ok sd) h
      · exact io.loop h }
theorem rSpread_L7010111_ok (F : Tb) (n : Nat) (p0 : Int) (p1 : Bs) (p2 : Bs) (p3 : List Form) (v : (Int) × (List Form)) (K : Ex × WSt T → Option (Ex × WSt T)) : roundWK cfgL wcL (inlN cfgL wcL 6 (II13 _ F n)) (loopAt 40 [0, 1, 0, 1, 1, 1]) [0, 1, 0, 1, 1, 1, 40] rSpread_L7010111_q (rSpread_L7010111_S p0 p1 p2 p3 v) K = rSpread_L7010111_R F n p0 p1 p2 p3 v fun x => sumK x (fun o => K ((.exit 0), rSpread_L7010111_O0 p0 p1 p2 p3 o)) (fun v => K (.normal, rSpread_L7010111_S p0 p1 p2 p3 v)) := by kernel_rfl
theorem rSpread_L7010111_par {R : Type} (F : Tb) (n : Nat) (p0 : Int) (p1 : Bs) (p2 : Bs) (p3 : List Form) (v : (Int) × (List Form)) (K : ((Int) × (List Form)) ⊕ ((Int) × (List Form)) → Option R) : rSpread_L7010111_R F n p0 p1 p2 p3 v K = opK (rSpread_L7010111_R F n p0 p1 p2 p3 v some) K := by
  unfold rSpread_L7010111_R
  simp only [opK_cnd, opK_opK, opK_sumK, opK_none, opK_one]
theorem rSpread_L7010111_said {F : Tb} {n : Nat} (io : IOk cfgL cod (II13 (Ex × WSt T) F n)) (p0 : Int) (p1 : Bs) (p2 : Bs) (p3 : List Form) : ∀ m v o, rSpread_L7010111 F n m p0 p1 p2 p3 v = some o → LoopSaid cfgL cod (.loop (loopAt 40 [0, 1, 0, 1, 1, 1])) (rSpread_L7010111_S p0 p1 p2 p3 v) (rSpread_L7010111_E p0 p1 p2 p3 o) := by
  refine loop_gen (rSpread_L7010111_S p0 p1 p2 p3) (rSpread_L7010111_E p0 p1 p2 p3) ?_ (fun v => rSpread_L7010111_R F n p0 p1 p2 p3 v some) (fun m v => rSpread_L7010111 F n m p0 p1 p2 p3 v) ?_ (fun v => rfl) (fun m v => ?_)
  · intro o h; cases h
  · intro v x h
    have e := rSpread_L7010111_ok F n p0 p1 p2 p3 v some
    rw [rSpread_L7010111_par, h] at e
    have e' : roundWK cfgL wcL (inlN cfgL wcL 6 (II13 _ F n)) (loopAt 40 [0, 1, 0, 1, 1, 1]) [0, 1, 0, 1, 1, 1, 40] rSpread_L7010111_q (rSpread_L7010111_S p0 p1 p2 p3 v) some = some (stepE (rSpread_L7010111_E p0 p1 p2 p3) (rSpread_L7010111_S p0 p1 p2 p3) x) := by
      rw [e]
      rcases x with o | v <;> rfl
    obtain ⟨y, h1, h2⟩ := roundWK_sound codOk (inlN_ok codOk io 6) e'
    injection h1 with h1
    rw [← h1]
    exact @h2
  · show rSpread_L7010111_R F n p0 p1 p2 p3 v _ = _
    rw [rSpread_L7010111_par]
theorem rSpread_L7010111_Hs {R : Type} {F : Tb} {n : Nat} (io : IOk cfgL cod (II13 (Ex × WSt T) F n)) {c : Code} {st : WSt T} {k : Ex × WSt T → Option R} {r : R} (h : rSpread_L7010111_H F n c st k = some r) : ∃ x, k x = some r ∧ LoopSaid cfgL cod (.loop c) st x := by
  refine hand_sound (c0 := loopAt 40 [0, 1, 0, 1, 1, 1]) (q := rSpread_L7010111_q) (s := fun st' => rSpread_L7010111_S (rSpread_L7010111_gp0 st') (rSpread_L7010111_gp1 st') (rSpread_L7010111_gp2 st') (rSpread_L7010111_gp3 st') (rSpread_L7010111_gv st')) (L := fun st' => rSpread_L7010111 F n n (rSpread_L7010111_gp0 st') (rSpread_L7010111_gp1 st') (rSpread_L7010111_gp2 st') (rSpread_L7010111_gp3 st') (rSpread_L7010111_gv st')) (E := fun st' o => rSpread_L7010111_E (rSpread_L7010111_gp0 st') (rSpread_L7010111_gp1 st') (rSpread_L7010111_gp2 st') (rSpread_L7010111_gp3 st') o) ?_ (fun st' o h => rSpread_L7010111_said io (rSpread_L7010111_gp0 st') (rSpread_L7010111_gp1 st') (rSpread_L7010111_gp2 st') (rSpread_L7010111_gp3 st') n _ o h)
  rw [← h]
  unfold rSpread_L7010111_H
  rfl
noncomputable def II14 (R : Type) (F : Tb) (n : Nat) : WI T R := { II13 R F n with loop := fun c p st k => bif Nat.beq (pnum p) 690102561 && Nat.beq (skN0 [0, 6, 7, 8, 9, 10, 11, 12, 13, 14, 15, 16, 17, 18, 19, 20, 21, 22, 23, 24, 25, 26, 27, 28, 29, 30, 31, 32, 33, 34, 35, 36, 37, 38, 39, 40] st) 2145695091514018434 then rSpread_L7010111_H F n c st k else (II13 R F n).loop c p st k }
theorem II14_ok {R : Type} {F : Tb} {n : Nat} (sd : Sd F) : IOk cfgL cod (II14 R F n) :=
  have io : IOk cfgL cod (II13 R F n) := II13_ok sd
  { pur := fun h => io.pur h, ext := fun h => io.ext h, frz := fun h => io.frz h, call := fun h => io.call h, yld := fun h => io.yld h, cut := fun {_ p _ _ _} h => io.cut (p := p) h,
    loop := fun h => by
      rcases bif_or h with ⟨_, h⟩ | h
      · exact rSpread_L7010111_Hs (II13_ok sd) h
      · exact io.loop h }
theorem rCall_L601011_ok (F : Tb) (n : Nat) (p0 : List Form) (p1 : Int) (p2 : Bs) (p3 : Bs) (v : (Int) × (List Form)) (K : Ex × WSt T → Option (Ex × WSt T)) : roundWK cfgL wcL (inlN cfgL wcL 6 (II14 _ F n)) (loopAt 44 [0, 1, 0, 1, 1]) [0, 1, 0, 1, 1, 44] rCall_L601011_q (rCall_L601011_S p0 p1 p2 p3 v) K = rCall_L601011_R F n p0 p1 p2 p3 v fun x => sumK x (fun o => K ((.exit 0), rCall_L601011_O0 p0 p1 p2 p3 o)) (fun v => K (.normal, rCall_L601011_S p0 p1 p2 p3 v)) := by kernel_rfl
theorem rCall_L601011_par {R : Type} (F : Tb) (n : Nat) (p0 : List Form) (p1 : Int) (p2 : Bs) (p3 : Bs) (v : (Int) × (List Form)) (K : ((Int) × (List Form)) ⊕ ((Int) × (List Form)) → Option R) : rCall_L601011_R F n p0 p1 p2 p3 v K = opK (rCall_L601011_R F n p0 p1 p2 p3 v some) K := by
  unfold rCall_L601011_R
  simp only [opK_cnd, opK_opK, opK_sumK, opK_none, opK_one]
theorem rCall_L601011_said {F : Tb} {n : Nat} (io : IOk cfgL cod (II14 (Ex × WSt T) F n)) (p0 : List Form) (p1 : Int) (p2 : Bs) (p3 : Bs) : ∀ m v o, rCall_L601011 F n m p0 p1 p2 p3 v = some o → LoopSaid cfgL cod (.loop (loopAt 44 [0, 1, 0, 1, 1])) (rCall_L601011_S p0 p1 p2 p3 v) (rCall_L601011_E p0 p1 p2 p3 o) := by
  refine loop_gen (rCall_L601011_S p0 p1 p2 p3) (rCall_L601011_E p0 p1 p2 p3) ?_ (fun v => rCall_L601011_R F n p0 p1 p2 p3 v some) (fun m v => rCall_L601011 F n m p0 p1 p2 p3 v) ?_ (fun v => rfl) (fun m v => ?_)
  · intro o h; cases h
  · intro v x h
    have e := rCall_L601011_ok F n p0 p1 p2 p3 v some
    rw [rCall_L601011_par, h] at e
    have e' : roundWK cfgL wcL (inlN cfgL wcL 6 (II14 _ F n)) (loopAt 44 [0, 1, 0, 1, 1]) [0, 1, 0, 1, 1, 44] rCall_L601011_q (rCall_L601011_S p0 p1 p2 p3 v) some = some (stepE (rCall_L601011_E p0 p1 p2 p3) (rCall_L601011_S p0 p1 p2 p3) x) := by
      rw [e]
      rcases x with o | v <;> rfl
    obtain ⟨y, h1, h2⟩ := roundWK_sound codOk (inlN_ok codOk io 6) e'
    injection h1 with h1
    rw [← h1]
    exact @h2
  · show rCall_L601011_R F n p0 p1 p2 p3 v _ = _
    rw [rCall_L601011_par]
theorem rCall_L601011_Hs {R : Type} {F : Tb} {n : Nat} (io : IOk cfgL cod (II14 (Ex × WSt T) F n)) {c : Code} {st : WSt T} {k : Ex × WSt T → Option R} {r : R} (h : rCall_L601011_H F n c st k = some r) : ∃ x, k x = some r ∧ LoopSaid cfgL cod (.loop c) st x := by
  refine hand_sound (c0 := loopAt 44 [0, 1, 0, 1, 1]) (q := rCall_L601011_q) (s := fun st' => rCall_L601011_S (rCall_L601011_gp0 st') (rCall_L601011_gp1 st') (rCall_L601011_gp2 st') (rCall_L601011_gp3 st') (rCall_L601011_gv st')) (L := fun st' => rCall_L601011 F n n (rCall_L601011_gp0 st') (rCall_L601011_gp1 st') (rCall_L601011_gp2 st') (rCall_L601011_gp3 st') (rCall_L601011_gv st')) (E := fun st' o => rCall_L601011_E (rCall_L601011_gp0 st') (rCall_L601011_gp1 st') (rCall_L601011_gp2 st') (rCall_L601011_gp3 st') o) ?_ (fun st' o h => rCall_L601011_said io (rCall_L601011_gp0 st') (rCall_L601011_gp1 st') (rCall_L601011_gp2 st') (rCall_L601011_gp3 st') n _ o h)
  rw [← h]
  unfold rCall_L601011_H
  rfl
noncomputable def II15 (R : Type) (F : Tb) (n : Nat) : WI T R := { II14 R F n with loop := fun c p st k => bif Nat.beq (pnum p) 47325473 && Nat.beq (skN0 [0, 2, 3, 7, 8, 9, 10, 11, 12, 13, 14, 15, 16, 17, 18, 19, 20, 21, 22, 23, 24] st) 2050388531497036691 then rCall_L601011_H F n c st k else (II14 R F n).loop c p st k }
theorem II15_ok {R : Type} {F : Tb} {n : Nat} (sd : Sd F) : IOk cfgL cod (II15 R F n) :=
  have io : IOk cfgL cod (II14 R F n) := II14_ok sd
  { pur := fun h => io.pur h, ext := fun h => io.ext h, frz := fun h => io.frz h, call := fun h => io.call h, yld := fun h => io.yld h, cut := fun {_ p _ _ _} h => io.cut (p := p) h,
    loop := fun h => by
      rcases bif_or h with ⟨_, h⟩ | h
      · exact rCall_L601011_Hs (II14_ok sd) h
      · exact io.loop h }
noncomputable def rCall_L601011p_H {R : Type} (F : Tb) (n : Nat) (c : Code) (p : List Nat) (st : WSt T) (k : Ex × WSt T → Option R) : Option R :=
  opK (prepW rCall_L601011p_q st) fun st' => opK (chk2 c (loopAt 44 [0, 1, 0, 1, 1]) st' (rCall_L601011p_S (rCall_L601011p_gp0 st') (rCall_L601011p_gp1 st') (rCall_L601011p_gp2 st') (rCall_L601011p_gp3 st') (rCall_L601011p_gp4 st') (rCall_L601011p_gp5 st'))) fun _ => opK (rCall_L601011p F n (rCall_L601011p_gp0 st') (rCall_L601011p_gp1 st') (rCall_L601011p_gp2 st') (rCall_L601011p_gp3 st') (rCall_L601011p_gp4 st') (rCall_L601011p_gp5 st')) fun o => sumK o (fun o => (II15 R F n).loop c p (rCall_L601011p_O0 (rCall_L601011p_gp0 st') (rCall_L601011p_gp1 st') (rCall_L601011p_gp2 st') (rCall_L601011p_gp3 st') (rCall_L601011p_gp4 st') (rCall_L601011p_gp5 st') o) k) (fun o => k ((.exit 0), rCall_L601011p_O1 (rCall_L601011p_gp0 st') (rCall_L601011p_gp1 st') (rCall_L601011p_gp2 st') (rCall_L601011p_gp3 st') (rCall_L601011p_gp4 st') (rCall_L601011p_gp5 st') o))
theorem rCall_L601011p_ok (F : Tb) (n : Nat) (p0 : List Form) (p1 : List Form) (p2 : Int) (p3 : Int) (p4 : Bs) (p5 : Bs) (K : Ex × WSt T → Option (Ex × WSt T)) : roundWK cfgL wcL (inlN cfgL wcL 6 (II15 _ F n)) (loopAt 44 [0, 1, 0, 1, 1]) [0, 1, 0, 1, 1, 44] rCall_L601011p_q (rCall_L601011p_S p0 p1 p2 p3 p4 p5) K = rCall_L601011p_R F n p0 p1 p2 p3 p4 p5 fun o => sumK o (fun o => K (.normal, rCall_L601011p_O0 p0 p1 p2 p3 p4 p5 o)) (fun o => K ((.exit 0), rCall_L601011p_O1 p0 p1 p2 p3 p4 p5 o)) := by kernel_rfl
theorem rCall_L601011p_par {R : Type} (F : Tb) (n : Nat) (p0 : List Form) (p1 : List Form) (p2 : Int) (p3 : Int) (p4 : Bs) (p5 : Bs) (K : (((Int) × (List Form)) ⊕ (Unit)) → Option R) : rCall_L601011p_R F n p0 p1 p2 p3 p4 p5 K = opK (rCall_L601011p_R F n p0 p1 p2 p3 p4 p5 some) K := by
  unfold rCall_L601011p_R
  simp only [opK_cnd, opK_opK, opK_sumK, opK_none, opK_one]
theorem rCall_L601011p_said {F : Tb} {n : Nat} (io : IOk cfgL cod (II15 (Ex × WSt T) F n)) (p0 : List Form) (p1 : List Form) (p2 : Int) (p3 : Int) (p4 : Bs) (p5 : Bs) (o : ((Int) × (List Form)) ⊕ (Unit)) (h : rCall_L601011p F n p0 p1 p2 p3 p4 p5 = some o) : RoundSaid cfgL cod (loopAt 44 [0, 1, 0, 1, 1]) (rCall_L601011p_S p0 p1 p2 p3 p4 p5) (rCall_L601011p_E p0 p1 p2 p3 p4 p5 o) := by
  have e := rCall_L601011p_ok F n p0 p1 p2 p3 p4 p5 some
  have h : rCall_L601011p_R F n p0 p1 p2 p3 p4 p5 some = some o := h
  rw [rCall_L601011p_par, h] at e
  have e' : roundWK cfgL wcL (inlN cfgL wcL 6 (II15 _ F n)) (loopAt 44 [0, 1, 0, 1, 1]) [0, 1, 0, 1, 1, 44] rCall_L601011p_q (rCall_L601011p_S p0 p1 p2 p3 p4 p5) some = some (rCall_L601011p_E p0 p1 p2 p3 p4 p5 o) := by
    rw [e]
    rcases o with (o | o) <;> rfl
  obtain ⟨y, h1, h2⟩ := roundWK_sound codOk (inlN_ok codOk io 6) e'
  injection h1 with h1
  rw [← h1]
  exact @h2
theorem rCall_L601011p_Hs {R : Type} {F : Tb} {n : Nat} (io0 : IOk cfgL cod (II15 (Ex × WSt T) F n)) (io : IOk cfgL cod (II15 R F n)) {c : Code} {p : List Nat} {st : WSt T} {k : Ex × WSt T → Option R} {r : R} (h : rCall_L601011p_H F n c p st k = some r) : ∃ x, k x = some r ∧ LoopSaid cfgL cod (.loop c) st x := by
  refine hand_peel (c0 := loopAt 44 [0, 1, 0, 1, 1]) (q := rCall_L601011p_q) (s := fun st' => rCall_L601011p_S (rCall_L601011p_gp0 st') (rCall_L601011p_gp1 st') (rCall_L601011p_gp2 st') (rCall_L601011p_gp3 st') (rCall_L601011p_gp4 st') (rCall_L601011p_gp5 st')) (L := fun st' => rCall_L601011p F n (rCall_L601011p_gp0 st') (rCall_L601011p_gp1 st') (rCall_L601011p_gp2 st') (rCall_L601011p_gp3 st') (rCall_L601011p_gp4 st') (rCall_L601011p_gp5 st')) (E := fun st' o => rCall_L601011p_E (rCall_L601011p_gp0 st') (rCall_L601011p_gp1 st') (rCall_L601011p_gp2 st') (rCall_L601011p_gp3 st') (rCall_L601011p_gp4 st') (rCall_L601011p_gp5 st') o) (J := fun c st k => (II15 R F n).loop c p st k) ?_ (fun st' o h => rCall_L601011p_said io0 (rCall_L601011p_gp0 st') (rCall_L601011p_gp1 st') (rCall_L601011p_gp2 st') (rCall_L601011p_gp3 st') (rCall_L601011p_gp4 st') (rCall_L601011p_gp5 st') o h) (fun h => io.loop h)
  rw [← h]
  unfold rCall_L601011p_H
  congr 1; funext st'; congr 1; funext _; congr 1; funext o
  rcases o with (o | o) <;> rfl
noncomputable def II16 (R : Type) (F : Tb) (n : Nat) : WI T R := { II15 R F n with loop := fun c p st k => bif Nat.beq (pnum p) 47325473 && Nat.beq (skN0 [0, 2, 3, 7, 8, 9, 10, 11, 12, 13, 14, 15, 16, 17, 18, 19, 20, 21, 22, 23, 24] st) 1641110971673828679 then rCall_L601011p_H F n c p st k else (II15 R F n).loop c p st k }
theorem II16_ok {R : Type} {F : Tb} {n : Nat} (sd : Sd F) : IOk cfgL cod (II16 R F n) :=
  have io : IOk cfgL cod (II15 R F n) := II15_ok sd
  { pur := fun h => io.pur h, ext := fun h => io.ext h, frz := fun h => io.frz h, call := fun h => io.call h, yld := fun h => io.yld h, cut := fun {_ p _ _ _} h => io.cut (p := p) h,
    loop := fun h => by
      rcases bif_or h with ⟨_, h⟩ | h
      · exact rCall_L601011p_Hs (II15_ok sd) io h
      · exact io.loop h }
/-! ### Functions -/
theorem FormSpreads_ok (F : Tb) (n : Nat) (a0 : (List Form)) (a1 : (List Form)) (a2 : Form) (K : (Bool) → Option ((Bool))) : (bodyWK cfgL wcL (inlN cfgL wcL 6 (II16 _ F n)) 6 [outV cod 7 a0, outV cod 7 a1, outV cod 3 a2] wm0 fun x => sealK x.2 x.1 fun w => opK (inV cod 4 w) K) = FormSpreads_c F n a0 a1 a2 K := by kernel_rfl
theorem FormSpreads_sd {F : Tb} {n : Nat} (sd : Sd F) (a0 : (List Form)) (a1 : (List Form)) (a2 : Form) (y : (Bool)) (h : FormSpreads_c F n a0 a1 a2 some = some y) : PurSaid cfgL cod 6 [outV cod 7 a0, outV cod 7 a1, outV cod 3 a2] (outV cod 4 y) := by
  rw [← FormSpreads_ok] at h
  obtain ⟨w, h1, h2⟩ := pur_of codOk (inlN_ok codOk (II16_ok sd) 6) h
  exact PurSaid.out h2 fun hr => in1_out codOk h1 hr
theorem FormLists_ok (F : Tb) (n : Nat) (a0 : (List Form)) (a1 : Form) (a2 : Bs) (K : (Bool) → Option ((Bool))) : (bodyWK cfgL wcL (inlN cfgL wcL 6 (II16 _ F n)) 7 [outV cod 7 a0, outV cod 3 a1, outV cod 2 a2] wm0 fun x => sealK x.2 x.1 fun w => opK (inV cod 4 w) K) = FormLists_c F n a0 a1 a2 K := by kernel_rfl
theorem FormLists_sd {F : Tb} {n : Nat} (sd : Sd F) (a0 : (List Form)) (a1 : Form) (a2 : Bs) (y : (Bool)) (h : FormLists_c F n a0 a1 a2 some = some y) : PurSaid cfgL cod 7 [outV cod 7 a0, outV cod 3 a1, outV cod 2 a2] (outV cod 4 y) := by
  rw [← FormLists_ok] at h
  obtain ⟨w, h1, h2⟩ := pur_of codOk (inlN_ok codOk (II16_ok sd) 6) h
  exact PurSaid.out h2 fun hr => in1_out codOk h1 hr
theorem Size_ok (F : Tb) (n : Nat) (a0 : Form) (K : (Int) × (Int) → Option ((Int) × (Int))) : (bodyWK cfgL wcL (inlN cfgL wcL 6 (II16 _ F n)) 23 [outV cod 3 a0] wm0 fun x => sealK x.2 x.1 fun w => tup2K cod 0 0 w fun y0 y1 => K (y0, y1)) = Size_c F n a0 K := by kernel_rfl
theorem Size_sd {F : Tb} {n : Nat} (sd : Sd F) (a0 : Form) (y : (Int) × (Int)) (h : Size_c F n a0 some = some y) : PurSaid cfgL cod 23 [outV cod 3 a0] (.tup [outV cod 0 y.1, outV cod 0 y.2]) := by
  rw [← Size_ok] at h
  obtain ⟨w, h1, h2⟩ := pur_of codOk (inlN_ok codOk (II16_ok sd) 6) h
  exact PurSaid.out h2 fun hr => in2_out codOk h1 hr
theorem rEqual_ok (F : Tb) (n : Nat) (a0 : Form) (a1 : Form) (K : (Bool) → Option ((Bool))) : (bodyWK cfgL wcL (inlN cfgL wcL 6 (II16 _ F n)) 15 [outV cod 3 a0, outV cod 3 a1] wm0 fun x => sealK x.2 x.1 fun w => opK (inV cod 4 w) K) = rEqual_c F n a0 a1 K := by kernel_rfl
theorem rEqual_sd {F : Tb} {n : Nat} (sd : Sd F) (a0 : Form) (a1 : Form) (y : (Bool)) (h : rEqual_c F n a0 a1 some = some y) : PurSaid cfgL cod 15 [outV cod 3 a0, outV cod 3 a1] (outV cod 4 y) := by
  rw [← rEqual_ok] at h
  obtain ⟨w, h1, h2⟩ := pur_of codOk (inlN_ok codOk (II16_ok sd) 6) h
  exact PurSaid.out h2 fun hr => in1_out codOk h1 hr
theorem left_ok (F : Tb) (n : Nat) (a0 : Form) (a1 : Int) (K : (Int) → Option ((Int))) : (bodyWK cfgL wcL (inlN cfgL wcL 6 (II16 _ F n)) 73 [outV cod 3 a0, outV cod 0 a1] wm0 fun x => sealK x.2 x.1 fun w => opK (inV cod 0 w) K) = left_c F n a0 a1 K := by kernel_rfl
theorem left_sd {F : Tb} {n : Nat} (sd : Sd F) (a0 : Form) (a1 : Int) (y : (Int)) (h : left_c F n a0 a1 some = some y) : PurSaid cfgL cod 73 [outV cod 3 a0, outV cod 0 a1] (outV cod 0 y) := by
  rw [← left_ok] at h
  obtain ⟨w, h1, h2⟩ := pur_of codOk (inlN_ok codOk (II16_ok sd) 6) h
  exact PurSaid.out h2 fun hr => in1_out codOk h1 hr
theorem Few_ok (F : Tb) (n : Nat) (a0 : Form) (a1 : Int) (K : (Bool) → Option ((Bool))) : (bodyWK cfgL wcL (inlN cfgL wcL 6 (II16 _ F n)) 11 [outV cod 3 a0, outV cod 0 a1] wm0 fun x => sealK x.2 x.1 fun w => opK (inV cod 4 w) K) = Few_c F n a0 a1 K := by kernel_rfl
theorem Few_sd {F : Tb} {n : Nat} (sd : Sd F) (a0 : Form) (a1 : Int) (y : (Bool)) (h : Few_c F n a0 a1 some = some y) : PurSaid cfgL cod 11 [outV cod 3 a0, outV cod 0 a1] (outV cod 4 y) := by
  rw [← Few_ok] at h
  obtain ⟨w, h1, h2⟩ := pur_of codOk (inlN_ok codOk (II16_ok sd) 6) h
  exact PurSaid.out h2 fun hr => in1_out codOk h1 hr
theorem same_ok (F : Tb) (n : Nat) (a0 : (List Form)) (a1 : (List Form)) (K : (Bool) → Option ((Bool))) : (bodyWK cfgL wcL (inlN cfgL wcL 6 (II16 _ F n)) 36 [outV cod 7 a0, outV cod 7 a1] wm0 fun x => sealK x.2 x.1 fun w => opK (inV cod 4 w) K) = same_c F n a0 a1 K := by kernel_rfl
theorem same_sd {F : Tb} {n : Nat} (sd : Sd F) (a0 : (List Form)) (a1 : (List Form)) (y : (Bool)) (h : same_c F n a0 a1 some = some y) : PurSaid cfgL cod 36 [outV cod 7 a0, outV cod 7 a1] (outV cod 4 y) := by
  rw [← same_ok] at h
  obtain ⟨w, h1, h2⟩ := pur_of codOk (inlN_ok codOk (II16_ok sd) 6) h
  exact PurSaid.out h2 fun hr => in1_out codOk h1 hr
theorem Dotted_ok (F : Tb) (n : Nat) (a0 : (List Form)) (a1 : Form) (K : (Form) → Option ((Form))) : (bodyWK cfgL wcL (inlN cfgL wcL 6 (II16 _ F n)) 37 [outV cod 7 a0, outV cod 3 a1] wm0 fun x => sealK x.2 x.1 fun w => opK (inV cod 3 w) K) = Dotted_c F n a0 a1 K := by kernel_rfl
theorem Dotted_sd {F : Tb} {n : Nat} (sd : Sd F) (a0 : (List Form)) (a1 : Form) (y : (Form)) (h : Dotted_c F n a0 a1 some = some y) : PurSaid cfgL cod 37 [outV cod 7 a0, outV cod 3 a1] (outV cod 3 y) := by
  rw [← Dotted_ok] at h
  obtain ⟨w, h1, h2⟩ := pur_of codOk (inlN_ok codOk (II16_ok sd) 6) h
  exact PurSaid.out h2 fun hr => in1_out codOk h1 hr
theorem Spread_ok (F : Tb) (n : Nat) (a0 : Form) (K : ((List Form)) × (Form) → Option (((List Form)) × (Form))) : (bodyWK cfgL wcL (inlN cfgL wcL 6 (II16 _ F n)) 38 [outV cod 3 a0] wm0 fun x => sealK x.2 x.1 fun w => tup2K cod 7 3 w fun y0 y1 => K (y0, y1)) = Spread_c F n a0 K := by kernel_rfl
theorem Spread_sd {F : Tb} {n : Nat} (sd : Sd F) (a0 : Form) (y : ((List Form)) × (Form)) (h : Spread_c F n a0 some = some y) : PurSaid cfgL cod 38 [outV cod 3 a0] (.tup [outV cod 7 y.1, outV cod 3 y.2]) := by
  rw [← Spread_ok] at h
  obtain ⟨w, h1, h2⟩ := pur_of codOk (inlN_ok codOk (II16_ok sd) 6) h
  exact PurSaid.out h2 fun hr => in2_out codOk h1 hr
theorem mkList_ok (F : Tb) (n : Nat) (a0 : (List Form)) (K : (Form) → Option ((Form))) : (bodyWK cfgL wcL (inlN cfgL wcL 6 (II16 _ F n)) 35 [outV cod 7 a0] wm0 fun x => sealK x.2 x.1 fun w => opK (inV cod 3 w) K) = mkList_c F n a0 K := by kernel_rfl
theorem mkList_sd {F : Tb} {n : Nat} (sd : Sd F) (a0 : (List Form)) (y : (Form)) (h : mkList_c F n a0 some = some y) : PurSaid cfgL cod 35 [outV cod 7 a0] (outV cod 3 y) := by
  rw [← mkList_ok] at h
  obtain ⟨w, h1, h2⟩ := pur_of codOk (inlN_ok codOk (II16_ok sd) 6) h
  exact PurSaid.out h2 fun hr => in1_out codOk h1 hr
theorem Items_ok (F : Tb) (n : Nat) (a0 : Form) (K : ((List Form)) × (Bool) → Option (((List Form)) × (Bool))) : (bodyWK cfgL wcL (inlN cfgL wcL 6 (II16 _ F n)) 34 [outV cod 3 a0] wm0 fun x => sealK x.2 x.1 fun w => tup2K cod 7 4 w fun y0 y1 => K (y0, y1)) = Items_c F n a0 K := by kernel_rfl
theorem Items_sd {F : Tb} {n : Nat} (sd : Sd F) (a0 : Form) (y : ((List Form)) × (Bool)) (h : Items_c F n a0 some = some y) : PurSaid cfgL cod 34 [outV cod 3 a0] (.tup [outV cod 7 y.1, outV cod 4 y.2]) := by
  rw [← Items_ok] at h
  obtain ⟨w, h1, h2⟩ := pur_of codOk (inlN_ok codOk (II16_ok sd) 6) h
  exact PurSaid.out h2 fun hr => in2_out codOk h1 hr
theorem IsNil_ok (F : Tb) (n : Nat) (a0 : Form) (K : (Bool) → Option ((Bool))) : (bodyWK cfgL wcL (inlN cfgL wcL 6 (II16 _ F n)) 28 [outV cod 3 a0] wm0 fun x => sealK x.2 x.1 fun w => opK (inV cod 4 w) K) = IsNil_c F n a0 K := by kernel_rfl
theorem IsNil_sd {F : Tb} {n : Nat} (sd : Sd F) (a0 : Form) (y : (Bool)) (h : IsNil_c F n a0 some = some y) : PurSaid cfgL cod 28 [outV cod 3 a0] (outV cod 4 y) := by
  rw [← IsNil_ok] at h
  obtain ⟨w, h1, h2⟩ := pur_of codOk (inlN_ok codOk (II16_ok sd) 6) h
  exact PurSaid.out h2 fun hr => in1_out codOk h1 hr
theorem Is_ok (F : Tb) (n : Nat) (a0 : Form) (a1 : Bs) (a2 : Bs) (K : (Bool) → Option ((Bool))) : (bodyWK cfgL wcL (inlN cfgL wcL 6 (II16 _ F n)) 30 [outV cod 3 a0, outV cod 2 a1, outV cod 2 a2] wm0 fun x => sealK x.2 x.1 fun w => opK (inV cod 4 w) K) = Is_c F n a0 a1 a2 K := by kernel_rfl
theorem Is_sd {F : Tb} {n : Nat} (sd : Sd F) (a0 : Form) (a1 : Bs) (a2 : Bs) (y : (Bool)) (h : Is_c F n a0 a1 a2 some = some y) : PurSaid cfgL cod 30 [outV cod 3 a0, outV cod 2 a1, outV cod 2 a2] (outV cod 4 y) := by
  rw [← Is_ok] at h
  obtain ⟨w, h1, h2⟩ := pur_of codOk (inlN_ok codOk (II16_ok sd) 6) h
  exact PurSaid.out h2 fun hr => in1_out codOk h1 hr
theorem Symbol_ok (F : Tb) (n : Nat) (a0 : Bs) (a1 : Bs) (K : (Form) → Option ((Form))) : (bodyWK cfgL wcL (inlN cfgL wcL 6 (II16 _ F n)) 74 [outV cod 2 a0, outV cod 2 a1] wm0 fun x => sealK x.2 x.1 fun w => opK (inV cod 3 w) K) = Symbol_c F n a0 a1 K := by kernel_rfl
theorem Symbol_sd {F : Tb} {n : Nat} (sd : Sd F) (a0 : Bs) (a1 : Bs) (y : (Form)) (h : Symbol_c F n a0 a1 some = some y) : PurSaid cfgL cod 74 [outV cod 2 a0, outV cod 2 a1] (outV cod 3 y) := by
  rw [← Symbol_ok] at h
  obtain ⟨w, h1, h2⟩ := pur_of codOk (inlN_ok codOk (II16_ok sd) 6) h
  exact PurSaid.out h2 fun hr => in1_out codOk h1 hr
theorem Nil_ok (F : Tb) (n : Nat)  (K : (Form) → Option ((Form))) : (bodyWK cfgL wcL (inlN cfgL wcL 6 (II16 _ F n)) 75 [] wm0 fun x => sealK x.2 x.1 fun w => opK (inV cod 3 w) K) = Nil_c F n  K := by kernel_rfl
theorem Nil_sd {F : Tb} {n : Nat} (sd : Sd F)  (y : (Form)) (h : Nil_c F n  some = some y) : PurSaid cfgL cod 75 [] (outV cod 3 y) := by
  rw [← Nil_ok] at h
  obtain ⟨w, h1, h2⟩ := pur_of codOk (inlN_ok codOk (II16_ok sd) 6) h
  exact PurSaid.out h2 fun hr => in1_out codOk h1 hr
theorem Equal_ok (F : Tb) (n : Nat) (a0 : Form) (a1 : Form) (K : (Bool) → Option ((Bool))) : (bodyWK cfgL wcL (inlN cfgL wcL 6 (II16 _ F n)) 22 [outV cod 3 a0, outV cod 3 a1] wm0 fun x => sealK x.2 x.1 fun w => opK (inV cod 4 w) K) = Equal_c F n a0 a1 K := by kernel_rfl
theorem Equal_sd {F : Tb} {n : Nat} (sd : Sd F) (a0 : Form) (a1 : Form) (y : (Bool)) (h : Equal_c F n a0 a1 some = some y) : PurSaid cfgL cod 22 [outV cod 3 a0, outV cod 3 a1] (outV cod 4 y) := by
  rw [← Equal_ok] at h
  obtain ⟨w, h1, h2⟩ := pur_of codOk (inlN_ok codOk (II16_ok sd) 6) h
  exact PurSaid.out h2 fun hr => in1_out codOk h1 hr
theorem EqualFunc_ok (F : Tb) (n : Nat) (a0 : (List Form)) (a1 : (List Form)) (K : (Bool) → Option ((Bool))) : (bodyWK cfgL wcL (inlN cfgL wcL 6 (II16 _ F n)) 98 [outV cod 7 a0, outV cod 7 a1, .fn 22 []] wm0 fun x => sealK x.2 x.1 fun w => opK (inV cod 4 w) K) = EqualFunc_c F n a0 a1 K := by kernel_rfl
theorem EqualFunc_sd {F : Tb} {n : Nat} (sd : Sd F) (a0 : (List Form)) (a1 : (List Form)) (y : (Bool)) (h : EqualFunc_c F n a0 a1 some = some y) : PurSaid cfgL cod 98 [outV cod 7 a0, outV cod 7 a1, .fn 22 []] (outV cod 4 y) := by
  rw [← EqualFunc_ok] at h
  obtain ⟨w, h1, h2⟩ := pur_of codOk (inlN_ok codOk (II16_ok sd) 6) h
  exact PurSaid.out h2 fun hr => in1_out codOk h1 hr
theorem Concat_ok (F : Tb) (n : Nat) (a0 : (List (List Form))) (K : ((List Form)) → Option (((List Form)))) : (bodyWK cfgL wcL (inlN cfgL wcL 6 (II16 _ F n)) 105 [outV cod 8 a0] wm0 fun x => sealK x.2 x.1 fun w => opK (inV cod 7 w) K) = Concat_c F n a0 K := by kernel_rfl
theorem Concat_sd {F : Tb} {n : Nat} (sd : Sd F) (a0 : (List (List Form))) (y : ((List Form))) (h : Concat_c F n a0 some = some y) : PurSaid cfgL cod 105 [outV cod 8 a0] (outV cod 7 y) := by
  rw [← Concat_ok] at h
  obtain ⟨w, h1, h2⟩ := pur_of codOk (inlN_ok codOk (II16_ok sd) 6) h
  exact PurSaid.out h2 fun hr => in1_out codOk h1 hr
theorem rDotted_ok (F : Tb) (n : Nat) (a0 : (List Form)) (a1 : Form) (K : (Form) → Option ((Form))) : (bodyWK cfgL wcL (inlN cfgL wcL 6 (II16 _ F n)) 39 [outV cod 7 a0, outV cod 3 a1] wm0 fun x => sealK x.2 x.1 fun w => opK (inV cod 3 w) K) = rDotted_c F n a0 a1 K := by kernel_rfl
theorem rDotted_sd {F : Tb} {n : Nat} (sd : Sd F) (a0 : (List Form)) (a1 : Form) (y : (Form)) (h : rDotted_c F n a0 a1 some = some y) : PurSaid cfgL cod 39 [outV cod 7 a0, outV cod 3 a1] (outV cod 3 y) := by
  rw [← rDotted_ok] at h
  obtain ⟨w, h1, h2⟩ := pur_of codOk (inlN_ok codOk (II16_ok sd) 6) h
  exact PurSaid.out h2 fun hr => in1_out codOk h1 hr
theorem rSpread_ok (F : Tb) (n : Nat) (a0 : Form) (K : ((List Form)) × (Form) → Option (((List Form)) × (Form))) : (bodyWK cfgL wcL (inlN cfgL wcL 6 (II16 _ F n)) 40 [outV cod 3 a0] wm0 fun x => sealK x.2 x.1 fun w => tup2K cod 7 3 w fun y0 y1 => K (y0, y1)) = rSpread_c F n a0 K := by kernel_rfl
theorem rSpread_sd {F : Tb} {n : Nat} (sd : Sd F) (a0 : Form) (y : ((List Form)) × (Form)) (h : rSpread_c F n a0 some = some y) : PurSaid cfgL cod 40 [outV cod 3 a0] (.tup [outV cod 7 y.1, outV cod 3 y.2]) := by
  rw [← rSpread_ok] at h
  obtain ⟨w, h1, h2⟩ := pur_of codOk (inlN_ok codOk (II16_ok sd) 6) h
  exact PurSaid.out h2 fun hr => in2_out codOk h1 hr
theorem rItems_ok (F : Tb) (n : Nat) (a0 : Form) (K : ((List Form)) × (Bool) → Option (((List Form)) × (Bool))) : (bodyWK cfgL wcL (inlN cfgL wcL 6 (II16 _ F n)) 41 [outV cod 3 a0] wm0 fun x => sealK x.2 x.1 fun w => tup2K cod 7 4 w fun y0 y1 => K (y0, y1)) = rItems_c F n a0 K := by kernel_rfl
theorem rItems_sd {F : Tb} {n : Nat} (sd : Sd F) (a0 : Form) (y : ((List Form)) × (Bool)) (h : rItems_c F n a0 some = some y) : PurSaid cfgL cod 41 [outV cod 3 a0] (.tup [outV cod 7 y.1, outV cod 4 y.2]) := by
  rw [← rItems_ok] at h
  obtain ⟨w, h1, h2⟩ := pur_of codOk (inlN_ok codOk (II16_ok sd) 6) h
  exact PurSaid.out h2 fun hr => in2_out codOk h1 hr
theorem rList_ok (F : Tb) (n : Nat) (a0 : (List Form)) (K : (Form) → Option ((Form))) : (bodyWK cfgL wcL (inlN cfgL wcL 6 (II16 _ F n)) 42 [outV cod 7 a0] wm0 fun x => sealK x.2 x.1 fun w => opK (inV cod 3 w) K) = rList_c F n a0 K := by kernel_rfl
theorem rList_sd {F : Tb} {n : Nat} (sd : Sd F) (a0 : (List Form)) (y : (Form)) (h : rList_c F n a0 some = some y) : PurSaid cfgL cod 42 [outV cod 7 a0] (outV cod 3 y) := by
  rw [← rList_ok] at h
  obtain ⟨w, h1, h2⟩ := pur_of codOk (inlN_ok codOk (II16_ok sd) 6) h
  exact PurSaid.out h2 fun hr => in1_out codOk h1 hr
theorem Call_ok (F : Tb) (n : Nat) (a0 : Bs) (a1 : (List Form)) (K : (Form) → Option ((Form))) : (bodyWK cfgL wcL (inlN cfgL wcL 6 (II16 _ F n)) 43 [outV cod 2 a0, outV cod 7 a1] wm0 fun x => sealK x.2 x.1 fun w => opK (inV cod 3 w) K) = Call_c F n a0 a1 K := by kernel_rfl
theorem Call_sd {F : Tb} {n : Nat} (sd : Sd F) (a0 : Bs) (a1 : (List Form)) (y : (Form)) (h : Call_c F n a0 a1 some = some y) : PurSaid cfgL cod 43 [outV cod 2 a0, outV cod 7 a1] (outV cod 3 y) := by
  rw [← Call_ok] at h
  obtain ⟨w, h1, h2⟩ := pur_of codOk (inlN_ok codOk (II16_ok sd) 6) h
  exact PurSaid.out h2 fun hr => in1_out codOk h1 hr
theorem rNil_ok (F : Tb) (n : Nat)  (K : (Form) → Option ((Form))) : (bodyWK cfgL wcL (inlN cfgL wcL 6 (II16 _ F n)) 107 [] wm0 fun x => sealK x.2 x.1 fun w => opK (inV cod 3 w) K) = rNil_c F n  K := by kernel_rfl
theorem rNil_sd {F : Tb} {n : Nat} (sd : Sd F)  (y : (Form)) (h : rNil_c F n  some = some y) : PurSaid cfgL cod 107 [] (outV cod 3 y) := by
  rw [← rNil_ok] at h
  obtain ⟨w, h1, h2⟩ := pur_of codOk (inlN_ok codOk (II16_ok sd) 6) h
  exact PurSaid.out h2 fun hr => in1_out codOk h1 hr
theorem rSymbol_ok (F : Tb) (n : Nat) (a0 : Bs) (a1 : Bs) (K : (Form) → Option ((Form))) : (bodyWK cfgL wcL (inlN cfgL wcL 6 (II16 _ F n)) 108 [outV cod 2 a0, outV cod 2 a1] wm0 fun x => sealK x.2 x.1 fun w => opK (inV cod 3 w) K) = rSymbol_c F n a0 a1 K := by kernel_rfl
theorem rSymbol_sd {F : Tb} {n : Nat} (sd : Sd F) (a0 : Bs) (a1 : Bs) (y : (Form)) (h : rSymbol_c F n a0 a1 some = some y) : PurSaid cfgL cod 108 [outV cod 2 a0, outV cod 2 a1] (outV cod 3 y) := by
  rw [← rSymbol_ok] at h
  obtain ⟨w, h1, h2⟩ := pur_of codOk (inlN_ok codOk (II16_ok sd) 6) h
  exact PurSaid.out h2 fun hr => in1_out codOk h1 hr
theorem rIsNil_ok (F : Tb) (n : Nat) (a0 : Form) (K : (Bool) → Option ((Bool))) : (bodyWK cfgL wcL (inlN cfgL wcL 6 (II16 _ F n)) 29 [outV cod 3 a0] wm0 fun x => sealK x.2 x.1 fun w => opK (inV cod 4 w) K) = rIsNil_c F n a0 K := by kernel_rfl
theorem rIsNil_sd {F : Tb} {n : Nat} (sd : Sd F) (a0 : Form) (y : (Bool)) (h : rIsNil_c F n a0 some = some y) : PurSaid cfgL cod 29 [outV cod 3 a0] (outV cod 4 y) := by
  rw [← rIsNil_ok] at h
  obtain ⟨w, h1, h2⟩ := pur_of codOk (inlN_ok codOk (II16_ok sd) 6) h
  exact PurSaid.out h2 fun hr => in1_out codOk h1 hr
theorem rIs_ok (F : Tb) (n : Nat) (a0 : Form) (a1 : Bs) (a2 : Bs) (K : (Bool) → Option ((Bool))) : (bodyWK cfgL wcL (inlN cfgL wcL 6 (II16 _ F n)) 31 [outV cod 3 a0, outV cod 2 a1, outV cod 2 a2] wm0 fun x => sealK x.2 x.1 fun w => opK (inV cod 4 w) K) = rIs_c F n a0 a1 a2 K := by kernel_rfl
theorem rIs_sd {F : Tb} {n : Nat} (sd : Sd F) (a0 : Form) (a1 : Bs) (a2 : Bs) (y : (Bool)) (h : rIs_c F n a0 a1 a2 some = some y) : PurSaid cfgL cod 31 [outV cod 3 a0, outV cod 2 a1, outV cod 2 a2] (outV cod 4 y) := by
  rw [← rIs_ok] at h
  obtain ⟨w, h1, h2⟩ := pur_of codOk (inlN_ok codOk (II16_ok sd) 6) h
  exact PurSaid.out h2 fun hr => in1_out codOk h1 hr
theorem rCall_ok (F : Tb) (n : Nat) (a0 : Bs) (a1 : (List Form)) (K : (Form) → Option ((Form))) : (bodyWK cfgL wcL (inlN cfgL wcL 6 (II16 _ F n)) 44 [outV cod 2 a0, outV cod 7 a1] wm0 fun x => sealK x.2 x.1 fun w => opK (inV cod 3 w) K) = rCall_c F n a0 a1 K := by kernel_rfl
theorem rCall_sd {F : Tb} {n : Nat} (sd : Sd F) (a0 : Bs) (a1 : (List Form)) (y : (Form)) (h : rCall_c F n a0 a1 some = some y) : PurSaid cfgL cod 44 [outV cod 2 a0, outV cod 7 a1] (outV cod 3 y) := by
  rw [← rCall_ok] at h
  obtain ⟨w, h1, h2⟩ := pur_of codOk (inlN_ok codOk (II16_ok sd) 6) h
  exact PurSaid.out h2 fun hr => in1_out codOk h1 hr
theorem sd_step {F : Tb} (n : Nat) (sd : Sd F) : Sd (stepT F n) where
  Size := fun a0 y h => Size_sd (n := n) sd a0 y h
  rEqual := fun a0 a1 y h => rEqual_sd (n := n) sd a0 a1 y h
  left := fun a0 a1 y h => left_sd (n := n) sd a0 a1 y h
  Few := fun a0 a1 y h => Few_sd (n := n) sd a0 a1 y h
  same := fun a0 a1 y h => same_sd (n := n) sd a0 a1 y h
  Dotted := fun a0 a1 y h => Dotted_sd (n := n) sd a0 a1 y h
  Spread := fun a0 y h => Spread_sd (n := n) sd a0 y h
  mkList := fun a0 y h => mkList_sd (n := n) sd a0 y h
  Items := fun a0 y h => Items_sd (n := n) sd a0 y h
  IsNil := fun a0 y h => IsNil_sd (n := n) sd a0 y h
  Is := fun a0 a1 a2 y h => Is_sd (n := n) sd a0 a1 a2 y h
  Symbol := fun a0 a1 y h => Symbol_sd (n := n) sd a0 a1 y h
  Nil := fun  y h => Nil_sd (n := n) sd  y h
  Equal := fun a0 a1 y h => Equal_sd (n := n) sd a0 a1 y h
  EqualFunc_f22 := fun a0 a1 y h => EqualFunc_sd (n := n) sd a0 a1 y h
  Concat := fun a0 y h => Concat_sd (n := n) sd a0 y h
  rDotted := fun a0 a1 y h => rDotted_sd (n := n) sd a0 a1 y h
  rSpread := fun a0 y h => rSpread_sd (n := n) sd a0 y h
  rItems := fun a0 y h => rItems_sd (n := n) sd a0 y h
  rList := fun a0 y h => rList_sd (n := n) sd a0 y h
  Call := fun a0 a1 y h => Call_sd (n := n) sd a0 a1 y h
  rCall := fun a0 a1 y h => rCall_sd (n := n) sd a0 a1 y h
  rNil := fun  y h => rNil_sd (n := n) sd  y h
  rSymbol := fun a0 a1 y h => rSymbol_sd (n := n) sd a0 a1 y h
  rIsNil := fun a0 y h => rIsNil_sd (n := n) sd a0 y h
  rIs := fun a0 a1 a2 y h => rIs_sd (n := n) sd a0 a1 a2 y h
  awakeTrees := fun  y h => awakeTrees_told  y h
  FormSpreads := fun a0 a1 a2 y h => FormSpreads_sd (n := n) sd a0 a1 a2 y h
  FormLists := fun a0 a1 a2 y h => FormLists_sd (n := n) sd a0 a1 a2 y h
theorem sd_none : Sd noneT where
  Size := fun a0 y h => by cases h
  rEqual := fun a0 a1 y h => by cases h
  left := fun a0 a1 y h => by cases h
  Few := fun a0 a1 y h => by cases h
  same := fun a0 a1 y h => by cases h
  Dotted := fun a0 a1 y h => by cases h
  Spread := fun a0 y h => by cases h
  mkList := fun a0 y h => by cases h
  Items := fun a0 y h => by cases h
  IsNil := fun a0 y h => by cases h
  Is := fun a0 a1 a2 y h => by cases h
  Symbol := fun a0 a1 y h => by cases h
  Nil := fun  y h => by cases h
  Equal := fun a0 a1 y h => by cases h
  EqualFunc_f22 := fun a0 a1 y h => by cases h
  Concat := fun a0 y h => by cases h
  rDotted := fun a0 a1 y h => by cases h
  rSpread := fun a0 y h => by cases h
  rItems := fun a0 y h => by cases h
  rList := fun a0 y h => by cases h
  Call := fun a0 a1 y h => by cases h
  rCall := fun a0 a1 y h => by cases h
  rNil := fun  y h => by cases h
  rSymbol := fun a0 a1 y h => by cases h
  rIsNil := fun a0 y h => by cases h
  rIs := fun a0 a1 a2 y h => by cases h
  awakeTrees := fun  y h => by cases h
  FormSpreads := fun a0 a1 a2 y h => by cases h
  FormLists := fun a0 a1 a2 y h => by cases h
theorem sd : ∀ n, Sd (tb n)
  | 0 => sd_none
  | n + 1 => sd_step n (sd n)
end Go.Proofs.YtpdgbhjhodhkiaaGreatDoor.AI
