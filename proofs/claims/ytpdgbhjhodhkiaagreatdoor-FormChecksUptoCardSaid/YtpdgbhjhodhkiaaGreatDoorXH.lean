/- The code computes these functions (printed). -/
import Derived.Test.YtpdgbhjhodhkiaaGreatDoorXF
set_option linter.unusedVariables false
set_option linter.unusedSimpArgs false
set_option linter.unnecessarySimpa false
set_option maxRecDepth 100000
namespace Go.Proofs.YtpdgbhjhodhkiaaGreatDoor.AI
open Go Go.Proofs
noncomputable def Size_P {R : Type} (F : Tb) (ws : List (W T)) (k : W T → Option R) : Option R :=
 match ws with
 | [w0] => opK (inV cod 3 w0) fun a0 => opK (F.Size a0) fun y => k (.tup [outV cod 0 y.1, outV cod 0 y.2])
 | _ => none
noncomputable def rEqual_P {R : Type} (F : Tb) (ws : List (W T)) (k : W T → Option R) : Option R :=
 match ws with
 | [w0, w1] => opK (inV cod 3 w0) fun a0 => opK (inV cod 3 w1) fun a1 => opK (F.rEqual a0 a1) fun y => k (outV cod 4 y)
 | _ => none
noncomputable def left_P {R : Type} (F : Tb) (ws : List (W T)) (k : W T → Option R) : Option R :=
 match ws with
 | [w0, w1] => opK (inV cod 3 w0) fun a0 => opK (inV cod 0 w1) fun a1 => opK (F.left a0 a1) fun y => k (outV cod 0 y)
 | _ => none
noncomputable def Few_P {R : Type} (F : Tb) (ws : List (W T)) (k : W T → Option R) : Option R :=
 match ws with
 | [w0, w1] => opK (inV cod 3 w0) fun a0 => opK (inV cod 0 w1) fun a1 => opK (F.Few a0 a1) fun y => k (outV cod 4 y)
 | _ => none
noncomputable def IsNil_P {R : Type} (F : Tb) (ws : List (W T)) (k : W T → Option R) : Option R :=
 match ws with
 | [w0] => opK (inV cod 3 w0) fun a0 => opK (F.IsNil a0) fun y => k (outV cod 4 y)
 | _ => none
noncomputable def Is_P {R : Type} (F : Tb) (ws : List (W T)) (k : W T → Option R) : Option R :=
 match ws with
 | [w0, w1, w2] => opK (inV cod 3 w0) fun a0 => opK (inV cod 2 w1) fun a1 => opK (inV cod 2 w2) fun a2 => opK (F.Is a0 a1 a2) fun y => k (outV cod 4 y)
 | _ => none
noncomputable def Equal_P {R : Type} (F : Tb) (ws : List (W T)) (k : W T → Option R) : Option R :=
 match ws with
 | [w0, w1] => opK (inV cod 3 w0) fun a0 => opK (inV cod 3 w1) fun a1 => opK (F.Equal a0 a1) fun y => k (outV cod 4 y)
 | _ => none
noncomputable def EqualFunc_f22_P {R : Type} (F : Tb) (ws : List (W T)) (k : W T → Option R) : Option R :=
 match ws with
 | [w0, w1, .fn 22 []] => opK (inV cod 7 w0) fun a0 => opK (inV cod 7 w1) fun a1 => opK (F.EqualFunc_f22 a0 a1) fun y => k (outV cod 4 y)
 | _ => none
noncomputable def rIsNil_P {R : Type} (F : Tb) (ws : List (W T)) (k : W T → Option R) : Option R :=
 match ws with
 | [w0] => opK (inV cod 3 w0) fun a0 => opK (F.rIsNil a0) fun y => k (outV cod 4 y)
 | _ => none
noncomputable def rIs_P {R : Type} (F : Tb) (ws : List (W T)) (k : W T → Option R) : Option R :=
 match ws with
 | [w0, w1, w2] => opK (inV cod 3 w0) fun a0 => opK (inV cod 2 w1) fun a1 => opK (inV cod 2 w2) fun a2 => opK (F.rIs a0 a1 a2) fun y => k (outV cod 4 y)
 | _ => none
noncomputable def awakeTrees_P {R : Type} (F : Tb) (ws : List (W T)) (k : W T → Option R) : Option R :=
 match ws with
 | [] => opK (F.awakeTrees) fun y => k (outV cod 4 y)
 | _ => none
noncomputable def Check_P {R : Type} (F : Tb) (ws : List (W T)) (k : W T → Option R) : Option R :=
 match ws with
 | [w0] => opK (inV cod 3 w0) fun a0 => opK (F.Check a0) fun y => k (outV cod 0 y)
 | _ => none
noncomputable def limited_P {R : Type} (F : Tb) (ws : List (W T)) (k : W T → Option R) : Option R :=
 match ws with
 | [w0] => opK (inV cod 3 w0) fun a0 => opK (F.limited a0) fun y => k (outV cod 4 y)
 | _ => none
noncomputable def right_P {R : Type} (F : Tb) (ws : List (W T)) (k : W T → Option R) : Option R :=
 match ws with
 | [w0] => opK (inV cod 3 w0) fun a0 => opK (F.right a0) fun y => k (outV cod 4 y)
 | _ => none
noncomputable def dimensions_P {R : Type} (F : Tb) (ws : List (W T)) (k : W T → Option R) : Option R :=
 match ws with
 | [w0] => opK (inV cod 2 w0) fun a0 => opK (F.dimensions a0) fun y => k (.tup [outV cod 9 y.1, outV cod 4 y.2])
 | _ => none
noncomputable def integer_P {R : Type} (F : Tb) (ws : List (W T)) (k : W T → Option R) : Option R :=
 match ws with
 | [w0] => opK (inV cod 2 w0) fun a0 => opK (F.integer a0) fun y => k (outV cod 4 y)
 | _ => none
noncomputable def decimal_P {R : Type} (F : Tb) (ws : List (W T)) (k : W T → Option R) : Option R :=
 match ws with
 | [w0] => opK (inV cod 2 w0) fun a0 => opK (F.decimal a0) fun y => k (outV cod 4 y)
 | _ => none
noncomputable def ratio_P {R : Type} (F : Tb) (ws : List (W T)) (k : W T → Option R) : Option R :=
 match ws with
 | [w0] => opK (inV cod 2 w0) fun a0 => opK (F.ratio a0) fun y => k (outV cod 4 y)
 | _ => none
noncomputable def hexadecimal_P {R : Type} (F : Tb) (ws : List (W T)) (k : W T → Option R) : Option R :=
 match ws with
 | [w0, w1] => opK (inV cod 2 w0) fun a0 => opK (inV cod 0 w1) fun a1 => opK (F.hexadecimal a0 a1) fun y => k (outV cod 4 y)
 | _ => none
noncomputable def complex_P {R : Type} (F : Tb) (ws : List (W T)) (k : W T → Option R) : Option R :=
 match ws with
 | [w0] => opK (inV cod 7 w0) fun a0 => opK (F.complex a0) fun y => k (outV cod 4 y)
 | _ => none
noncomputable def product_P {R : Type} (F : Tb) (ws : List (W T)) (k : W T → Option R) : Option R :=
 match ws with
 | [w0] => opK (inV cod 9 w0) fun a0 => opK (F.product a0) fun y => k (outV cod 0 y)
 | _ => none
noncomputable def small_P {R : Type} (F : Tb) (ws : List (W T)) (k : W T → Option R) : Option R :=
 match ws with
 | [w0, w1] => opK (inV cod 2 w0) fun a0 => opK (inV cod 0 w1) fun a1 => opK (F.small a0 a1) fun y => k (outV cod 4 y)
 | _ => none
noncomputable def exact_P {R : Type} (F : Tb) (ws : List (W T)) (k : W T → Option R) : Option R :=
 match ws with
 | [w0] => opK (inV cod 3 w0) fun a0 => opK (F.exact a0) fun y => k (outV cod 4 y)
 | _ => none
noncomputable def Dimensions_P {R : Type} (F : Tb) (ws : List (W T)) (k : W T → Option R) : Option R :=
 match ws with
 | [w0] => opK (inV cod 3 w0) fun a0 => opK (F.Dimensions a0) fun y => k (.tup [outV cod 9 y.1, outV cod 0 y.2])
 | _ => none
noncomputable def Number_P {R : Type} (F : Tb) (ws : List (W T)) (k : W T → Option R) : Option R :=
 match ws with
 | [w0] => opK (inV cod 3 w0) fun a0 => opK (F.Number a0) fun y => k (outV cod 4 y)
 | _ => none
noncomputable def IndexInt_P {R : Type} (F : Tb) (ws : List (W T)) (k : W T → Option R) : Option R :=
 match ws with
 | [w0, w1] => opK (inV cod 9 w0) fun a0 => opK (inV cod 0 w1) fun a1 => opK (F.IndexInt a0 a1) fun y => k (outV cod 0 y)
 | _ => none
noncomputable def rCheck_P {R : Type} (F : Tb) (ws : List (W T)) (k : W T → Option R) : Option R :=
 match ws with
 | [w0] => opK (inV cod 3 w0) fun a0 => opK (F.rCheck a0) fun y => k (outV cod 0 y)
 | _ => none
noncomputable def rDimensions_P {R : Type} (F : Tb) (ws : List (W T)) (k : W T → Option R) : Option R :=
 match ws with
 | [w0] => opK (inV cod 3 w0) fun a0 => opK (F.rDimensions a0) fun y => k (.tup [outV cod 9 y.1, outV cod 0 y.2])
 | _ => none
noncomputable def rdimensions_P {R : Type} (F : Tb) (ws : List (W T)) (k : W T → Option R) : Option R :=
 match ws with
 | [w0] => opK (inV cod 2 w0) fun a0 => opK (F.rdimensions a0) fun y => k (.tup [outV cod 9 y.1, outV cod 4 y.2])
 | _ => none
noncomputable def nodes_P {R : Type} (F : Tb) (ws : List (W T)) (k : W T → Option R) : Option R :=
 match ws with
 | [w0] => opK (inV cod 3 w0) fun a0 => opK (F.nodes a0) fun y => k (outV cod 4 y)
 | _ => none
noncomputable def node_P {R : Type} (F : Tb) (ws : List (W T)) (k : W T → Option R) : Option R :=
 match ws with
 | [w0] => opK (inV cod 3 w0) fun a0 => opK (F.node a0) fun y => k (outV cod 4 y)
 | _ => none
noncomputable def within_P {R : Type} (F : Tb) (ws : List (W T)) (k : W T → Option R) : Option R :=
 match ws with
 | [w0, w1] => opK (inV cod 10 w0) fun a0 => opK (inV cod 2 w1) fun a1 => opK (F.within a0 a1) fun y => k (outV cod 4 y)
 | _ => none
noncomputable def digits_P {R : Type} (F : Tb) (ws : List (W T)) (k : W T → Option R) : Option R :=
 match ws with
 | [w0] => opK (inV cod 2 w0) fun a0 => opK (F.digits a0) fun y => k (outV cod 4 y)
 | _ => none
noncomputable def value_P {R : Type} (F : Tb) (ws : List (W T)) (k : W T → Option R) : Option R :=
 match ws with
 | [w0] => opK (inV cod 2 w0) fun a0 => opK (F.value a0) fun y => k (outV cod 0 y)
 | _ => none
noncomputable def parts_P {R : Type} (F : Tb) (ws : List (W T)) (k : W T → Option R) : Option R :=
 match ws with
 | [w0, w1] => opK (inV cod 3 w0) fun a0 => opK (inV cod 3 w1) fun a1 => opK (F.parts a0 a1) fun y => k (outV cod 4 y)
 | _ => none
noncomputable def rproduct_P {R : Type} (F : Tb) (ws : List (W T)) (k : W T → Option R) : Option R :=
 match ws with
 | [w0] => opK (inV cod 9 w0) fun a0 => opK (F.rproduct a0) fun y => k (outV cod 0 y)
 | _ => none
noncomputable def label_P {R : Type} (F : Tb) (ws : List (W T)) (k : W T → Option R) : Option R :=
 match ws with
 | [w0] => opK (inV cod 2 w0) fun a0 => opK (F.label a0) fun y => k (outV cod 4 y)
 | _ => none
noncomputable def atom_P {R : Type} (F : Tb) (ws : List (W T)) (k : W T → Option R) : Option R :=
 match ws with
 | [w0] => opK (inV cod 3 w0) fun a0 => opK (F.atom a0) fun y => k (outV cod 4 y)
 | _ => none
noncomputable def rexact_P {R : Type} (F : Tb) (ws : List (W T)) (k : W T → Option R) : Option R :=
 match ws with
 | [w0] => opK (inV cod 3 w0) fun a0 => opK (F.rexact a0) fun y => k (outV cod 4 y)
 | _ => none
noncomputable def whole_P {R : Type} (F : Tb) (ws : List (W T)) (k : W T → Option R) : Option R :=
 match ws with
 | [w0] => opK (inV cod 2 w0) fun a0 => opK (F.whole a0) fun y => k (outV cod 4 y)
 | _ => none
noncomputable def rratio_P {R : Type} (F : Tb) (ws : List (W T)) (k : W T → Option R) : Option R :=
 match ws with
 | [w0] => opK (inV cod 2 w0) fun a0 => opK (F.rratio a0) fun y => k (outV cod 4 y)
 | _ => none
noncomputable def hex_P {R : Type} (F : Tb) (ws : List (W T)) (k : W T → Option R) : Option R :=
 match ws with
 | [w0, w1] => opK (inV cod 2 w0) fun a0 => opK (inV cod 0 w1) fun a1 => opK (F.hex a0 a1) fun y => k (outV cod 4 y)
 | _ => none
noncomputable def rNumber_P {R : Type} (F : Tb) (ws : List (W T)) (k : W T → Option R) : Option R :=
 match ws with
 | [w0] => opK (inV cod 3 w0) fun a0 => opK (F.rNumber a0) fun y => k (outV cod 4 y)
 | _ => none
noncomputable def FormChecks_P {R : Type} (F : Tb) (ws : List (W T)) (k : W T → Option R) : Option R :=
 match ws with
 | [w0, w1, w2, w3] => opK (inV cod 3 w0) fun a0 => opK (inV cod 3 w1) fun a1 => opK (inV cod 2 w2) fun a2 => opK (inV cod 2 w3) fun a3 => opK (F.FormChecks a0 a1 a2 a3) fun y => k (outV cod 4 y)
 | _ => none
noncomputable def rSize_P {R : Type} (F : Tb) (ws : List (W T)) (k : W T → Option R) : Option R :=
 match ws with
 | [w0] => opK (inV cod 3 w0) fun a0 => opK (F.rSize a0) fun y => k (.tup [outV cod 0 y.1, outV cod 0 y.2])
 | _ => none
noncomputable def purT {R : Type} (F : Tb) (f : FuncId) (ws : List (W T)) (k : W T → Option R) : Option R :=
 bif Nat.beq f 23 then Size_P F ws k else
 bif Nat.beq f 15 then rEqual_P F ws k else
 bif Nat.beq f 73 then left_P F ws k else
 bif Nat.beq f 11 then Few_P F ws k else
 bif Nat.beq f 28 then IsNil_P F ws k else
 bif Nat.beq f 30 then Is_P F ws k else
 bif Nat.beq f 22 then Equal_P F ws k else
 bif Nat.beq f 98 then EqualFunc_f22_P F ws k else
 bif Nat.beq f 29 then rIsNil_P F ws k else
 bif Nat.beq f 31 then rIs_P F ws k else
 bif Nat.beq f 12 then awakeTrees_P F ws k else
 bif Nat.beq f 20 then Check_P F ws k else
 bif Nat.beq f 84 then limited_P F ws k else
 bif Nat.beq f 96 then right_P F ws k else
 bif Nat.beq f 100 then dimensions_P F ws k else
 bif Nat.beq f 154 then integer_P F ws k else
 bif Nat.beq f 185 then decimal_P F ws k else
 bif Nat.beq f 155 then ratio_P F ws k else
 bif Nat.beq f 156 then hexadecimal_P F ws k else
 bif Nat.beq f 157 then complex_P F ws k else
 bif Nat.beq f 159 then product_P F ws k else
 bif Nat.beq f 160 then small_P F ws k else
 bif Nat.beq f 188 then exact_P F ws k else
 bif Nat.beq f 25 then Dimensions_P F ws k else
 bif Nat.beq f 32 then Number_P F ws k else
 bif Nat.beq f 163 then IndexInt_P F ws k else
 bif Nat.beq f 27 then rCheck_P F ws k else
 bif Nat.beq f 26 then rDimensions_P F ws k else
 bif Nat.beq f 102 then rdimensions_P F ws k else
 bif Nat.beq f 103 then nodes_P F ws k else
 bif Nat.beq f 115 then node_P F ws k else
 bif Nat.beq f 147 then within_P F ws k else
 bif Nat.beq f 165 then digits_P F ws k else
 bif Nat.beq f 166 then value_P F ws k else
 bif Nat.beq f 171 then parts_P F ws k else
 bif Nat.beq f 172 then rproduct_P F ws k else
 bif Nat.beq f 173 then label_P F ws k else
 bif Nat.beq f 174 then atom_P F ws k else
 bif Nat.beq f 203 then rexact_P F ws k else
 bif Nat.beq f 204 then whole_P F ws k else
 bif Nat.beq f 205 then rratio_P F ws k else
 bif Nat.beq f 206 then hex_P F ws k else
 bif Nat.beq f 33 then rNumber_P F ws k else
 bif Nat.beq f 5 then FormChecks_P F ws k else
 bif Nat.beq f 24 then rSize_P F ws k else
 none
noncomputable def frzT {R : Type} (F : Tb) (f : FuncId) (ws : List (W T)) (wm : WM T) (k : W T → Option R) : Option R :=
 if norefL ws = true then
 none else none
noncomputable def heapN (f : FuncId) : Bool := [104, 144, 142].contains f
noncomputable def ksN (f : FuncId) : List Nat := if f = 104 then [3, 102] else if f = 144 then [3, 0, 99, 99] else if f = 142 then [3, 99] else []
noncomputable def maN (f : FuncId) : List (Nat × Nat × Nat) := []
noncomputable def through_H {R : Type} (F : Tb) (L : Win T) (k : W T × WM T → Option R) : Option R :=
 through_A L.ws L.wm fun p0 p1 => opK (chkP L.ws (through_S p0 p1).1 L.wm (through_S p0 p1).2) fun _ => opK (F.through p0 p1) fun o => sumK o (fun o => match (through_O0 p0 p1 o).1 with | [w] => opK (backW L (w, (through_O0 p0 p1 o).2)) k | _ => none) (fun o => match (through_O1 p0 p1 o).1 with | [w] => opK (backW L (w, (through_O1 p0 p1 o).2)) k | _ => none)
noncomputable def through_v1_H {R : Type} (F : Tb) (L : Win T) (k : W T × WM T → Option R) : Option R :=
 through_v1_A L.ws L.wm fun p0 p1 p2 => opK (chkP L.ws (through_v1_S p0 p1 p2).1 L.wm (through_v1_S p0 p1 p2).2) fun _ => opK (F.through_v1 p0 p1 p2) fun o => sumK o (fun o => match (through_v1_O0 p0 p1 p2 o).1 with | [w] => opK (backW L (w, (through_v1_O0 p0 p1 p2 o).2)) k | _ => none) (fun o => match (through_v1_O1 p0 p1 p2 o).1 with | [w] => opK (backW L (w, (through_v1_O1 p0 p1 p2 o).2)) k | _ => none)
noncomputable def look_H {R : Type} (F : Tb) (L : Win T) (k : W T × WM T → Option R) : Option R :=
 look_A L.ws L.wm fun p0 p1 p2 => opK (chkP L.ws (look_S p0 p1 p2).1 L.wm (look_S p0 p1 p2).2) fun _ => opK (F.look p0 p1 p2) fun o => match (look_O0 p0 p1 p2 o).1 with | [w] => opK (backW L (w, (look_O0 p0 p1 p2 o).2)) k | _ => none
noncomputable def labels_H {R : Type} (F : Tb) (L : Win T) (k : W T × WM T → Option R) : Option R :=
 labels_A L.ws L.wm fun p0 p1 => opK (chkP L.ws (labels_S p0 p1).1 L.wm (labels_S p0 p1).2) fun _ => opK (F.labels p0 p1) fun o => match (labels_O0 p0 p1 o).1 with | [w] => opK (backW L (w, (labels_O0 p0 p1 o).2)) k | _ => none
noncomputable def heapD {R : Type} (F : Tb) (f : FuncId) (L : Win T) (k : W T × WM T → Option R) : Option R :=
 bif Nat.beq f 142 && Nat.beq (skP L.ws L.wm) 1684554624394336570 then through_H F L k else
 bif Nat.beq f 142 && Nat.beq (skP L.ws L.wm) 1873958563562185242 then through_v1_H F L k else
 bif Nat.beq f 144 && Nat.beq (skP L.ws L.wm) 739279126447543731 then look_H F L k else
 bif Nat.beq f 104 && Nat.beq (skP L.ws L.wm) 1882275858955126175 then labels_H F L k else
 none
noncomputable def callT {R : Type} (F : Tb) (f : FuncId) (ws : List (W T)) (wm : WM T) (k : W T × WM T → Option R) : Option R := opK (winW cod (ksN f) (maN f) ws wm) fun L => heapD F f L k
noncomputable def Size_L0_H {R : Type} (F : Tb) (c : Code) (st : WSt T) (k : Ex × WSt T → Option R) : Option R :=
 opK (prepW Size_L0_q st) fun st' => Size_L0_A st' fun p0 p1 p2 p3 p4 v => opK (chk2 c (loopAt 23 [0, 1, 0, 1, 1]) st' (Size_L0_S p0 p1 p2 p3 p4 v)) fun _ => opK (F.Size_L0 p0 p1 p2 p3 p4 v) fun o => k ((.exit 0), Size_L0_O0 p0 p1 p2 p3 p4 o)
noncomputable def rEqual_L0_H {R : Type} (F : Tb) (c : Code) (st : WSt T) (k : Ex × WSt T → Option R) : Option R :=
 opK (prepW rEqual_L0_q st) fun st' => rEqual_L0_A st' fun p0 p1 p2 p3 p4 p5 p6 p7 v => opK (chk2 c (loopAt 15 [0, 1, 0, 1, 1]) st' (rEqual_L0_S p0 p1 p2 p3 p4 p5 p6 p7 v)) fun _ => opK (F.rEqual_L0 p0 p1 p2 p3 p4 p5 p6 p7 v) fun o => sumK o (fun o => k (.ret, rEqual_L0_O0 p0 p1 p2 p3 p4 p5 p6 p7 o)) (fun o => k ((.exit 0), rEqual_L0_O1 p0 p1 p2 p3 p4 p5 p6 p7 o))
noncomputable def left_L0_H {R : Type} (F : Tb) (c : Code) (st : WSt T) (k : Ex × WSt T → Option R) : Option R :=
 opK (prepW left_L0_q st) fun st' => left_L0_A st' fun p0 p1 p2 p3 v => opK (chk2 c (loopAt 73 [0, 1, 0, 1, 1]) st' (left_L0_S p0 p1 p2 p3 v)) fun _ => opK (F.left_L0 p0 p1 p2 p3 v) fun o => k ((.exit 0), left_L0_O0 p0 p1 p2 p3 o)
noncomputable def EqualFunc_L0_H {R : Type} (F : Tb) (c : Code) (st : WSt T) (k : Ex × WSt T → Option R) : Option R :=
 opK (prepW EqualFunc_L0_q st) fun st' => EqualFunc_L0_A st' fun p0 p1 p2 v => opK (chk2 c (loopAt 98 [0, 1, 0, 1, 1]) st' (EqualFunc_L0_S p0 p1 p2 v)) fun _ => opK (F.EqualFunc_L0 p0 p1 p2 v) fun o => sumK o (fun o => k (.ret, EqualFunc_L0_O0 p0 p1 p2 o)) (fun o => k ((.exit 0), EqualFunc_L0_O1 p0 p1 p2 o))
noncomputable def through_L0_H {R : Type} (F : Tb) (c : Code) (st : WSt T) (k : Ex × WSt T → Option R) : Option R :=
 opK (prepW through_L0_q st) fun st' => through_L0_A st' fun p0 p1 p2 p3 p4 p5 v => opK (chk2 c (loopAt 142 [0, 1, 0, 1, 1]) st' (through_L0_S p0 p1 p2 p3 p4 p5 v)) fun _ => opK (F.through_L0 p0 p1 p2 p3 p4 p5 v) fun o => sumK o (fun o => k (.ret, through_L0_O0 p0 p1 p2 p3 p4 p5 o)) (fun o => k ((.exit 0), through_L0_O1 p0 p1 p2 p3 p4 p5 o))
noncomputable def through_L1_H {R : Type} (F : Tb) (c : Code) (st : WSt T) (k : Ex × WSt T → Option R) : Option R :=
 opK (prepW through_L1_q st) fun st' => through_L1_A st' fun p0 p1 p2 p3 p4 p5 v => opK (chk2 c (loopAt 142 [0, 1, 0, 1, 1]) st' (through_L1_S p0 p1 p2 p3 p4 p5 v)) fun _ => opK (F.through_L1 p0 p1 p2 p3 p4 p5 v) fun o => sumK o (fun o => k (.ret, through_L1_O0 p0 p1 p2 p3 p4 p5 o)) (fun o => k ((.exit 0), through_L1_O1 p0 p1 p2 p3 p4 p5 o))
noncomputable def look_L0_H {R : Type} (F : Tb) (c : Code) (st : WSt T) (k : Ex × WSt T → Option R) : Option R :=
 opK (prepW look_L0_q st) fun st' => look_L0_A st' fun p0 p1 p2 p3 p4 p5 v => opK (chk2 c (loopAt 144 [0, 1, 0, 1, 1, 1]) st' (look_L0_S p0 p1 p2 p3 p4 p5 v)) fun _ => opK (F.look_L0 p0 p1 p2 p3 p4 p5 v) fun o => sumK o (fun o => k (.ret, look_L0_O0 p0 p1 p2 p3 p4 p5 o)) (fun o => k ((.exit 0), look_L0_O1 p0 p1 p2 p3 p4 p5 o))
noncomputable def right_L0_H {R : Type} (F : Tb) (c : Code) (st : WSt T) (k : Ex × WSt T → Option R) : Option R :=
 opK (prepW right_L0_q st) fun st' => right_L0_A st' fun p0 p1 p2 p3 v => opK (chk2 c (loopAt 96 [0, 1, 0, 1]) st' (right_L0_S p0 p1 p2 p3 v)) fun _ => opK (F.right_L0 p0 p1 p2 p3 v) fun o => sumK o (fun o => k (.ret, right_L0_O0 p0 p1 p2 p3 o)) (fun o => k ((.exit 0), right_L0_O1 p0 p1 p2 p3 o))
noncomputable def f221_L0_H {R : Type} (F : Tb) (c : Code) (st : WSt T) (k : Ex × WSt T → Option R) : Option R :=
 opK (prepW f221_L0_q st) fun st' => f221_L0_A st' fun v => opK (chk2 c (loopAt 221 [0, 0, 1]) st' (f221_L0_S v)) fun _ => opK (F.f221_L0 v) fun o => sumK o (fun o => k ((.exit 2), f221_L0_O0 o)) (fun o => k (.ret, f221_L0_O1 o))
noncomputable def decimal_L0_H {R : Type} (F : Tb) (c : Code) (st : WSt T) (k : Ex × WSt T → Option R) : Option R :=
 opK (prepW decimal_L0_q st) fun st' => decimal_L0_A st' fun p0 p1 v => opK (chk2 c (loopAt 185 [0, 1, 0, 1, 1]) st' (decimal_L0_S p0 p1 v)) fun _ => opK (F.decimal_L0 p0 p1 v) fun o => sumK o (fun o => k (.ret, decimal_L0_O0 p0 p1 o)) (fun o => k ((.exit 0), decimal_L0_O1 p0 p1 o))
noncomputable def ratio_L0_H {R : Type} (F : Tb) (c : Code) (st : WSt T) (k : Ex × WSt T → Option R) : Option R :=
 opK (prepW ratio_L0_q st) fun st' => ratio_L0_A st' fun v => opK (chk2 c (loopAt 155 [0, 0, 1, 1, 1, 1, 1, 1, 1]) st' (ratio_L0_S v)) fun _ => opK (F.ratio_L0 v) fun o => k ((.exit 0), ratio_L0_O0 o)
noncomputable def product_L0_H {R : Type} (F : Tb) (c : Code) (st : WSt T) (k : Ex × WSt T → Option R) : Option R :=
 opK (prepW product_L0_q st) fun st' => product_L0_A st' fun p0 p1 v => opK (chk2 c (loopAt 159 [0, 1, 0, 1, 1, 1]) st' (product_L0_S p0 p1 v)) fun _ => opK (F.product_L0 p0 p1 v) fun o => k ((.exit 0), product_L0_O0 p0 p1 o)
noncomputable def IndexInt_L0_H {R : Type} (F : Tb) (c : Code) (st : WSt T) (k : Ex × WSt T → Option R) : Option R :=
 opK (prepW IndexInt_L0_q st) fun st' => IndexInt_L0_A st' fun p0 p1 p2 v => opK (chk2 c (loopAt 163 [0, 1, 0, 1]) st' (IndexInt_L0_S p0 p1 p2 v)) fun _ => opK (F.IndexInt_L0 p0 p1 p2 v) fun o => sumK o (fun o => k (.ret, IndexInt_L0_O0 p0 p1 p2 o)) (fun o => k ((.exit 0), IndexInt_L0_O1 p0 p1 p2 o))
noncomputable def labels_L0_H {R : Type} (F : Tb) (c : Code) (st : WSt T) (k : Ex × WSt T → Option R) : Option R :=
 opK (prepW labels_L0_q st) fun st' => labels_L0_A st' fun p0 p1 p2 p3 v => opK (chk2 c (loopAt 104 [0, 1, 0, 1, 1, 1]) st' (labels_L0_S p0 p1 p2 p3 v)) fun _ => opK (F.labels_L0 p0 p1 p2 p3 v) fun o => sumK o (fun o => k (.ret, labels_L0_O0 p0 p1 p2 p3 o)) (fun o => k ((.exit 0), labels_L0_O1 p0 p1 p2 p3 o))
noncomputable def rdimensions_L0_H {R : Type} (F : Tb) (c : Code) (st : WSt T) (k : Ex × WSt T → Option R) : Option R :=
 opK (prepW rdimensions_L0_q st) fun st' => rdimensions_L0_A st' fun p0 v => opK (chk2 c (loopAt 102 [0, 1, 0, 1, 1, 1, 1]) st' (rdimensions_L0_S p0 v)) fun _ => opK (F.rdimensions_L0 p0 v) fun o => sumK o (fun o => k (.ret, rdimensions_L0_O0 p0 o)) (fun o => k ((.exit 0), rdimensions_L0_O1 p0 o))
noncomputable def nodes_L0_H {R : Type} (F : Tb) (c : Code) (st : WSt T) (k : Ex × WSt T → Option R) : Option R :=
 opK (prepW nodes_L0_q st) fun st' => nodes_L0_A st' fun p0 p1 p2 p3 v => opK (chk2 c (loopAt 103 [0, 1, 0, 1, 1]) st' (nodes_L0_S p0 p1 p2 p3 v)) fun _ => opK (F.nodes_L0 p0 p1 p2 p3 v) fun o => sumK o (fun o => k (.ret, nodes_L0_O0 p0 p1 p2 p3 o)) (fun o => k ((.exit 0), nodes_L0_O1 p0 p1 p2 p3 o))
noncomputable def within_L0_H {R : Type} (F : Tb) (c : Code) (st : WSt T) (k : Ex × WSt T → Option R) : Option R :=
 opK (prepW within_L0_q st) fun st' => within_L0_A st' fun p0 p1 v => opK (chk2 c (loopAt 147 [0, 1, 0, 1]) st' (within_L0_S p0 p1 v)) fun _ => opK (F.within_L0 p0 p1 v) fun o => sumK o (fun o => k (.ret, within_L0_O0 p0 p1 o)) (fun o => k ((.exit 0), within_L0_O1 p0 p1 o))
noncomputable def digits_L0_H {R : Type} (F : Tb) (c : Code) (st : WSt T) (k : Ex × WSt T → Option R) : Option R :=
 opK (prepW digits_L0_q st) fun st' => digits_L0_A st' fun p0 v => opK (chk2 c (loopAt 165 [0, 1, 0, 1]) st' (digits_L0_S p0 v)) fun _ => opK (F.digits_L0 p0 v) fun o => sumK o (fun o => k (.ret, digits_L0_O0 p0 o)) (fun o => k ((.exit 0), digits_L0_O1 p0 o))
noncomputable def value_L0_H {R : Type} (F : Tb) (c : Code) (st : WSt T) (k : Ex × WSt T → Option R) : Option R :=
 opK (prepW value_L0_q st) fun st' => value_L0_A st' fun p0 v => opK (chk2 c (loopAt 166 [0, 1, 0, 1, 1]) st' (value_L0_S p0 v)) fun _ => opK (F.value_L0 p0 v) fun o => k ((.exit 0), value_L0_O0 p0 o)
noncomputable def rproduct_L0_H {R : Type} (F : Tb) (c : Code) (st : WSt T) (k : Ex × WSt T → Option R) : Option R :=
 opK (prepW rproduct_L0_q st) fun st' => rproduct_L0_A st' fun p0 v => opK (chk2 c (loopAt 172 [0, 1, 0, 1]) st' (rproduct_L0_S p0 v)) fun _ => opK (F.rproduct_L0 p0 v) fun o => sumK o (fun o => k (.ret, rproduct_L0_O0 p0 o)) (fun o => k ((.exit 0), rproduct_L0_O1 p0 o))
noncomputable def rproduct_L1_H {R : Type} (F : Tb) (c : Code) (st : WSt T) (k : Ex × WSt T → Option R) : Option R :=
 opK (prepW rproduct_L1_q st) fun st' => rproduct_L1_A st' fun p0 v => opK (chk2 c (loopAt 172 [0, 1, 0, 1, 1, 1]) st' (rproduct_L1_S p0 v)) fun _ => opK (F.rproduct_L1 p0 v) fun o => k ((.exit 2), rproduct_L1_O0 p0 o)
noncomputable def atom_L0_H {R : Type} (F : Tb) (c : Code) (st : WSt T) (k : Ex × WSt T → Option R) : Option R :=
 opK (prepW atom_L0_q st) fun st' => atom_L0_A st' fun p0 p1 p2 p3 v => opK (chk2 c (loopAt 174 [0, 1, 0, 0, 1, 1, 1, 1, 1, 1, 1, 1, 1, 1, 1, 0, 1, 0, 1, 1]) st' (atom_L0_S p0 p1 p2 p3 v)) fun _ => opK (F.atom_L0 p0 p1 p2 p3 v) fun o => sumK o (fun o => k (.ret, atom_L0_O0 p0 p1 p2 p3 o)) (fun o => k ((.exit 1), atom_L0_O1 p0 p1 p2 p3 o))
noncomputable def rratio_L0_H {R : Type} (F : Tb) (c : Code) (st : WSt T) (k : Ex × WSt T → Option R) : Option R :=
 opK (prepW rratio_L0_q st) fun st' => rratio_L0_A st' fun p0 v => opK (chk2 c (loopAt 205 [0, 1, 0, 1, 1]) st' (rratio_L0_S p0 v)) fun _ => opK (F.rratio_L0 p0 v) fun o => k ((.exit 0), rratio_L0_O0 p0 o)
noncomputable def rratio_L1_H {R : Type} (F : Tb) (c : Code) (st : WSt T) (k : Ex × WSt T → Option R) : Option R :=
 opK (prepW rratio_L1_q st) fun st' => rratio_L1_A st' fun v => opK (chk2 c (loopAt 205 [0, 0, 1, 1, 1, 1, 1, 1, 1, 1, 1]) st' (rratio_L1_S v)) fun _ => opK (F.rratio_L1 v) fun o => k ((.exit 2), rratio_L1_O0 o)
noncomputable def hex_L0_H {R : Type} (F : Tb) (c : Code) (st : WSt T) (k : Ex × WSt T → Option R) : Option R :=
 opK (prepW hex_L0_q st) fun st' => hex_L0_A st' fun p0 p1 v => opK (chk2 c (loopAt 206 [0, 1, 0, 1]) st' (hex_L0_S p0 p1 v)) fun _ => opK (F.hex_L0 p0 p1 v) fun o => sumK o (fun o => k (.ret, hex_L0_O0 p0 p1 o)) (fun o => k ((.exit 0), hex_L0_O1 p0 p1 o))
noncomputable def FormChecks_L0_H {R : Type} (F : Tb) (c : Code) (st : WSt T) (k : Ex × WSt T → Option R) : Option R :=
 opK (prepW FormChecks_L0_q st) fun st' => FormChecks_L0_A st' fun p0 p1 p2 p3 p4 p5 p6 p7 p8 p9 p10 p11 p12 v => opK (chk2 c (loopAt 5 [0, 1, 0, 1, 1, 1, 1, 1, 1, 1]) st' (FormChecks_L0_S p0 p1 p2 p3 p4 p5 p6 p7 p8 p9 p10 p11 p12 v)) fun _ => opK (F.FormChecks_L0 p0 p1 p2 p3 p4 p5 p6 p7 p8 p9 p10 p11 p12 v) fun o => sumK o (fun o => k (.ret, FormChecks_L0_O0 p0 p1 p2 p3 p4 p5 p6 p7 p8 p9 p10 p11 p12 o)) (fun o => k ((.exit 0), FormChecks_L0_O1 p0 p1 p2 p3 p4 p5 p6 p7 p8 p9 p10 p11 p12 o))
noncomputable def rSize_L0_H {R : Type} (F : Tb) (c : Code) (st : WSt T) (k : Ex × WSt T → Option R) : Option R :=
 opK (prepW rSize_L0_q st) fun st' => rSize_L0_A st' fun p0 p1 p2 p3 v => opK (chk2 c (loopAt 24 [0, 1, 0, 1, 1]) st' (rSize_L0_S p0 p1 p2 p3 v)) fun _ => opK (F.rSize_L0 p0 p1 p2 p3 v) fun o => k ((.exit 0), rSize_L0_O0 p0 p1 p2 p3 o)
noncomputable def loopT0 {R : Type} (F : Tb) (c : Code) (p : List Nat) (st : WSt T) (k : Ex × WSt T → Option R) : Option R :=
 bif Nat.beq (pnum p) 25305377 && Nat.beq (skN0 [0, 1, 4, 5, 6, 7, 8, 12, 13, 14, 15, 16, 17, 18, 19, 20, 21, 22, 23, 24, 25, 26, 27, 28, 29] st) 1693527801451110576 then Size_L0_H F c st k else
 bif Nat.beq (pnum p) 16916769 && Nat.beq (skN0 [0, 1, 6, 7, 8, 9, 10, 11, 12, 13, 14, 15, 16, 17, 18, 19, 20, 21, 22, 23, 24, 25, 26, 27, 28, 29, 30, 31, 32, 33, 34, 35, 36, 37, 38, 39, 40, 41, 42, 43, 44, 45, 46, 47, 48, 49, 50, 51, 52] st) 712583109549193617 then rEqual_L0_H F c st k else
 bif Nat.beq (pnum p) 77734177 && Nat.beq (skN0 [0, 3, 6, 7, 8, 9, 10, 11, 12, 13, 14, 15, 16, 17, 18, 19, 20, 21, 22, 23, 24, 25, 26] st) 728430358762233886 then left_L0_H F c st k else
 bif Nat.beq (pnum p) 103948577 && Nat.beq (skN0 [0, 3, 4, 5, 7, 8, 9, 10, 11, 12, 13, 14, 18, 19, 20, 21, 22, 23, 24, 25, 26, 27, 28, 29, 30, 31] st) 2213919379138758322 then EqualFunc_L0_H F c st k else
 bif Nat.beq (pnum p) 150085921 && Nat.beq (skN0 [0, 2, 3, 5, 6, 7, 8, 9, 10, 11, 15, 16, 17, 18, 19, 20, 21, 22] st) 1449942991405351757 then through_L0_H F c st k else
 bif Nat.beq (pnum p) 150085921 && Nat.beq (skN0 [0, 2, 3, 5, 6, 7, 8, 9, 10, 11, 15, 16, 17, 18, 19, 20, 21, 22] st) 1621217834078987578 then through_L1_H F c st k else
 bif Nat.beq (pnum p) 2434933025 && Nat.beq (skN0 [0, 2, 4, 5, 7, 8, 9, 10, 11, 12, 13, 14, 15, 16, 17, 21, 22, 23, 24, 25, 26, 27, 28, 29, 30] st) 1311288321276977735 then look_L0_H F c st k else
 bif Nat.beq (pnum p) 6365473 && Nat.beq (skN0 [0, 3, 4, 5, 6, 7, 8, 9, 10, 11, 14, 15, 16, 17, 18, 19, 20, 21, 22, 23, 24, 25, 26, 27, 28, 29, 30, 31, 32, 33, 34, 35, 36, 37, 38, 39, 40, 41, 42, 43, 44, 45, 46, 47, 48, 49, 50, 51, 52, 53, 54, 55, 56, 57, 58, 59, 60, 61, 62, 63, 64, 65, 66, 67, 68, 69, 70, 71, 72, 73, 74, 75, 76, 77, 78, 79, 80, 81, 82, 83, 84, 85, 86, 87, 88, 89, 90, 91, 92, 93, 94, 95, 96, 97, 98, 99, 100, 101, 102, 103, 104, 105, 106, 107, 108, 109, 110, 111, 112, 113, 114, 115, 116, 117, 118, 119, 120, 121, 122, 123, 124, 125, 126, 127, 128, 129, 130, 131, 132, 133, 134, 135, 136, 137, 138, 139, 140, 141, 142, 143, 144, 145, 146, 147, 148, 149, 150, 151, 152, 153, 154, 155, 156, 157, 158, 159, 160] st) 150584949885133055 then right_L0_H F c st k else
 bif Nat.beq (pnum p) 909841 && Nat.beq (skN0 [4, 5, 6, 7, 8, 9, 10, 11, 12, 13, 14, 15, 16, 17, 18, 19, 20, 21, 22, 23, 24, 25, 26, 27, 28, 29, 30, 31, 32, 33, 34, 35, 36, 37, 38, 39, 40, 41, 42, 43, 44, 45, 46, 47, 48, 49, 50, 51] st) 153471800095390266 then f221_L0_H F c st k else
 bif Nat.beq (pnum p) 195174689 && Nat.beq (skN0 [0, 1, 3, 4, 5, 6, 7, 8, 9, 10, 11, 12, 13, 14, 15, 16, 17, 21, 22, 23, 24, 25, 26, 27, 28, 29, 30] st) 801053760943451275 then decimal_L0_H F c st k else
 bif Nat.beq (pnum p) 10729400967697 && Nat.beq (skN0 [0, 1, 3, 4, 5, 7, 9, 10, 11, 12, 13, 14, 15, 16, 17, 18, 19, 20, 21, 22, 23, 24, 25, 26, 27, 28, 29, 30, 31, 32, 33, 34, 35, 36, 37, 38, 39, 40, 41, 42, 43, 44, 45, 46, 47, 48, 49, 50, 51, 52, 53, 54, 55, 56, 57, 58, 59, 60, 61, 62, 63, 64, 65, 66, 67] st) 1463559157389715422 then ratio_L0_H F c st k else
 bif Nat.beq (pnum p) 2686591265 && Nat.beq (skN0 [0, 1, 4, 5, 6, 7, 11, 12, 13, 14, 15, 16, 17, 18, 19] st) 533893129734483816 then product_L0_H F c st k else
 bif Nat.beq (pnum p) 10756385 && Nat.beq (skN0 [2, 3, 5, 6, 9, 10, 11, 12, 13, 14, 15, 16, 17, 18] st) 1270022516066931490 then IndexInt_L0_H F c st k else
 bif Nat.beq (pnum p) 1763844385 && Nat.beq (skN0 [0, 3, 7, 8, 9, 10, 11, 12, 13, 14, 15, 16, 17, 18, 19, 20, 21, 22, 23, 24, 25, 26, 27, 28, 29, 30, 31, 32, 33, 34, 35, 36, 37, 38, 39, 40, 41, 42, 43, 44, 45, 46, 47, 48, 49, 50, 51, 52, 53, 54, 55, 56, 57, 58, 59, 60, 61, 62, 63, 64, 65, 66, 67, 68, 69, 70] st) 986824189549105785 then labels_L0_H F c st k else
 bif Nat.beq (pnum p) 27684643105 && Nat.beq (skN0 [1, 7, 8, 9, 10, 11, 12, 13, 14, 15, 16, 17, 18, 19, 20, 21, 22, 23, 24, 25, 26, 27, 28, 29, 30, 31, 32, 33, 34, 35, 36, 37, 38, 39, 40, 41, 42, 43, 44, 45, 46, 47, 48, 49, 50, 51, 52, 53, 54, 55, 56, 57, 58] st) 1693857301355011900 then rdimensions_L0_H F c st k else
 bif Nat.beq (pnum p) 109191457 && Nat.beq (skN0 [0, 4, 5, 6, 7, 8, 9, 10, 11, 12, 13, 14, 15, 16, 17, 18, 19, 20] st) 1162134511941262356 then nodes_L0_H F c st k else
 bif Nat.beq (pnum p) 9707809 && Nat.beq (skN0 [2, 3, 6, 7, 8, 9, 10, 11, 12, 13, 14, 15, 16, 17] st) 1398766664683549610 then within_L0_H F c st k else
 bif Nat.beq (pnum p) 10887457 && Nat.beq (skN0 [1, 4, 5, 6, 7, 8, 9, 10, 11, 12, 13, 14, 15, 16, 17, 18, 19, 20, 21, 22, 23, 24, 25, 26, 27, 28, 29, 30] st) 2286983214337659463 then digits_L0_H F c st k else
 bif Nat.beq (pnum p) 175251745 && Nat.beq (skN0 [1, 5, 6, 7, 8, 9, 10, 11, 12, 13, 14, 15, 16, 17, 18, 19] st) 162275588055069381 then value_L0_H F c st k else
 bif Nat.beq (pnum p) 11346209 && Nat.beq (skN0 [1, 4, 5, 6, 7, 8, 9, 10, 11, 12, 13, 14, 15, 16, 17, 18, 19, 20, 21, 22, 23, 24, 25, 26, 27, 28, 29, 30] st) 1385353101113659818 then rproduct_L0_H F c st k else
 bif Nat.beq (pnum p) 2904695073 && Nat.beq (skN0 [1, 3, 6, 7, 8, 9, 10, 11, 12, 13, 14, 15, 16, 17, 18, 19, 20, 21, 22, 23, 24, 25, 26, 27, 28, 29, 30] st) 959428769456720390 then rproduct_L1_H F c st k else
 bif Nat.beq (pnum p) 211722912241015372170531105 && Nat.beq (skN0 [0, 4, 5, 6, 7, 8, 9, 10, 11, 12, 13, 14, 15, 16, 17, 18, 19, 20, 21, 22, 23, 24, 25, 26, 27, 28, 29, 30, 31, 32, 33, 34, 35, 36, 37, 38, 39, 40, 41, 42, 43, 44, 45, 46, 47, 48, 49, 50, 51, 52, 53, 54, 55, 56, 57, 58, 59, 60, 61, 62, 63, 64, 65, 66, 67, 68, 69] st) 430252369109411660 then atom_L0_H F c st k else
 bif Nat.beq (pnum p) 216146209 && Nat.beq (skN0 [1, 5, 6, 7, 8, 9, 10, 11, 12, 13, 14, 15, 16, 17, 18, 19, 20, 21, 22, 23, 24, 25, 26, 27, 28, 29, 30, 31, 32, 33, 34, 35, 36, 37, 38, 39, 40, 41, 42, 43, 44, 45, 46, 47, 48, 49, 50, 51, 52, 53, 54, 55, 56, 57, 58, 59, 60, 61, 62, 63, 64, 65, 66, 67, 68, 69, 70, 71, 72, 73, 74, 75, 76, 77] st) 1001352759972864327 then rratio_L0_H F c st k else
 bif Nat.beq (pnum p) 3626335949955601 && Nat.beq (skN0 [0, 1, 3, 4, 5, 6, 9, 10, 11, 12, 13, 14, 15, 16, 17, 18, 19, 20, 21, 22, 23, 24, 25, 26, 27, 28, 29, 30, 31, 32, 33, 34, 35, 36, 37, 38, 39, 40, 41, 42, 43, 44, 45, 46, 47, 48, 49, 50, 51, 52, 53, 54, 55, 56, 57, 58, 59, 60, 61, 62, 63, 64, 65, 66, 67, 68, 69, 70, 71, 72, 73, 74, 75, 76, 77] st) 1287783913332195645 then rratio_L1_H F c st k else
 bif Nat.beq (pnum p) 13574433 && Nat.beq (skN0 [2, 3, 6, 7, 8, 9, 10, 11, 12, 13, 14, 15, 16, 17, 18, 19, 20, 21, 22, 23, 24, 25, 26, 27, 28, 29, 30, 31, 32, 33, 34, 35, 36, 37] st) 950584918273084865 then hex_L0_H F c st k else
 bif Nat.beq (pnum p) 6743671316769 && Nat.beq (skN0 [0, 1, 6, 7, 9, 10, 11, 12, 14, 16, 17, 18, 19, 20, 21, 22, 23, 24, 25, 26, 27, 28, 29, 30, 31, 32, 33, 34, 35, 36, 37, 38, 39, 40, 41, 42, 43, 44, 45, 46, 47, 48, 49, 50, 51, 52, 53, 54, 55, 56, 57, 58, 59, 60, 61, 62, 63, 64, 65, 66, 67, 68, 69, 70, 71, 72, 73, 74, 77, 78, 79, 80, 81, 82, 83, 84, 85, 86, 87, 88, 89, 90, 91, 92, 93, 94, 95, 96, 97, 98, 99, 100, 101, 102, 103, 104, 105, 106, 107, 108, 109, 110, 111, 112, 113, 114, 115, 116, 117, 118, 119, 120, 121, 122, 123] st) 1719960410083627087 then FormChecks_L0_H F c st k else
 bif Nat.beq (pnum p) 26353953 && Nat.beq (skN0 [0, 7, 8, 9, 10, 11, 12, 13, 14, 15, 16, 17, 18, 19, 20, 21, 22, 23, 24, 25, 26, 27, 28, 29, 30, 31, 32, 33] st) 62187374836814496 then rSize_L0_H F c st k else
 none
noncomputable def labels_P1_H {R : Type} (F : Tb) (c : Code) (p : List Nat) (st : WSt T) (k : Ex × WSt T → Option R) : Option R :=
 opK (prepW labels_P1_q st) fun st' => labels_P1_A st' fun p0 p1 p2 p3 p4 p5 p6 => opK (chk2 c (loopAt 104 [0, 1, 0, 1, 1, 1]) st' (labels_P1_S p0 p1 p2 p3 p4 p5 p6)) fun _ => opK (F.labels_P1 p0 p1 p2 p3 p4 p5 p6) fun o => sumK o (fun o => k (.ret, labels_P1_O0 p0 p1 p2 p3 p4 p5 p6 o)) (fun o => sumK o (fun o => loopT0 F c p (labels_P1_O1 p0 p1 p2 p3 p4 p5 p6 o) k) (fun o => k ((.exit 0), labels_P1_O2 p0 p1 p2 p3 p4 p5 p6 o)))
noncomputable def loopT1 {R : Type} (F : Tb) (c : Code) (p : List Nat) (st : WSt T) (k : Ex × WSt T → Option R) : Option R := bif Nat.beq (pnum p) 1763844385 && Nat.beq (skN0 [0, 3, 7, 8, 9, 10, 11, 12, 13, 14, 15, 16, 17, 18, 19, 20, 21, 22, 23, 24, 25, 26, 27, 28, 29, 30, 31, 32, 33, 34, 35, 36, 37, 38, 39, 40, 41, 42, 43, 44, 45, 46, 47, 48, 49, 50, 51, 52, 53, 54, 55, 56, 57, 58, 59, 60, 61, 62, 63, 64, 65, 66, 67, 68, 69, 70] st) 681777641739505916 then labels_P1_H F c p st k else loopT0 F c p st k
noncomputable def cutT {R : Type} (F : Tb) (c : Code) (p : List Nat) (st : WSt T) (k : Ex × WSt T → Option R) : Option R :=
 none
noncomputable def blkN (p : List Nat) : Bool := [].contains (pnum p)
noncomputable def II (R : Type) (F : Tb) : WI T R := { pur := purT F, ext := extT, frz := frzT F, call := callT F, yld := fun _ _ _ _ => none, loop := loopT1 F, heap := heapN, blk := blkN, cut := cutT F }
structure Sd (F : Tb) : Prop where
 through : ∀ (p0 : Form) (p1 : Int) o w, F.through p0 p1 = some o → (through_E p0 p1 o).1 = [w] → HeapSaid cfgL cod 142 (through_S p0 p1).1 (through_S p0 p1).2 w (through_E p0 p1 o).2
 through_v1 : ∀ (p0 : Form) (p1 : Int) (p2 : List (Bs × Bool)) o w, F.through_v1 p0 p1 p2 = some o → (through_v1_E p0 p1 p2 o).1 = [w] → HeapSaid cfgL cod 142 (through_v1_S p0 p1 p2).1 (through_v1_S p0 p1 p2).2 w (through_v1_E p0 p1 p2 o).2
 look : ∀ (p0 : Form) (p1 : Int) (p2 : Int) o w, F.look p0 p1 p2 = some o → (look_E p0 p1 p2 o).1 = [w] → HeapSaid cfgL cod 144 (look_S p0 p1 p2).1 (look_S p0 p1 p2).2 w (look_E p0 p1 p2 o).2
 labels : ∀ (p0 : Form) (p1 : List Bs) o w, F.labels p0 p1 = some o → (labels_E p0 p1 o).1 = [w] → HeapSaid cfgL cod 104 (labels_S p0 p1).1 (labels_S p0 p1).2 w (labels_E p0 p1 o).2
 Size : ∀ (a0 : Form) y, F.Size a0 = some y → PurSaid cfgL cod 23 [outV cod 3 a0] (.tup [outV cod 0 y.1, outV cod 0 y.2])
 rEqual : ∀ (a0 : Form) (a1 : Form) y, F.rEqual a0 a1 = some y → PurSaid cfgL cod 15 [outV cod 3 a0, outV cod 3 a1] (outV cod 4 y)
 left : ∀ (a0 : Form) (a1 : Int) y, F.left a0 a1 = some y → PurSaid cfgL cod 73 [outV cod 3 a0, outV cod 0 a1] (outV cod 0 y)
 Few : ∀ (a0 : Form) (a1 : Int) y, F.Few a0 a1 = some y → PurSaid cfgL cod 11 [outV cod 3 a0, outV cod 0 a1] (outV cod 4 y)
 IsNil : ∀ (a0 : Form) y, F.IsNil a0 = some y → PurSaid cfgL cod 28 [outV cod 3 a0] (outV cod 4 y)
 Is : ∀ (a0 : Form) (a1 : Bs) (a2 : Bs) y, F.Is a0 a1 a2 = some y → PurSaid cfgL cod 30 [outV cod 3 a0, outV cod 2 a1, outV cod 2 a2] (outV cod 4 y)
 Equal : ∀ (a0 : Form) (a1 : Form) y, F.Equal a0 a1 = some y → PurSaid cfgL cod 22 [outV cod 3 a0, outV cod 3 a1] (outV cod 4 y)
 EqualFunc_f22 : ∀ (a0 : (List Form)) (a1 : (List Form)) y, F.EqualFunc_f22 a0 a1 = some y → PurSaid cfgL cod 98 [outV cod 7 a0, outV cod 7 a1, .fn 22 []] (outV cod 4 y)
 rIsNil : ∀ (a0 : Form) y, F.rIsNil a0 = some y → PurSaid cfgL cod 29 [outV cod 3 a0] (outV cod 4 y)
 rIs : ∀ (a0 : Form) (a1 : Bs) (a2 : Bs) y, F.rIs a0 a1 a2 = some y → PurSaid cfgL cod 31 [outV cod 3 a0, outV cod 2 a1, outV cod 2 a2] (outV cod 4 y)
 awakeTrees : ∀ y, F.awakeTrees = some y → PurSaid cfgL cod 12 [] (outV cod 4 y)
 Check : ∀ (a0 : Form) y, F.Check a0 = some y → PurSaid cfgL cod 20 [outV cod 3 a0] (outV cod 0 y)
 limited : ∀ (a0 : Form) y, F.limited a0 = some y → PurSaid cfgL cod 84 [outV cod 3 a0] (outV cod 4 y)
 right : ∀ (a0 : Form) y, F.right a0 = some y → PurSaid cfgL cod 96 [outV cod 3 a0] (outV cod 4 y)
 dimensions : ∀ (a0 : Bs) y, F.dimensions a0 = some y → PurSaid cfgL cod 100 [outV cod 2 a0] (.tup [outV cod 9 y.1, outV cod 4 y.2])
 integer : ∀ (a0 : Bs) y, F.integer a0 = some y → PurSaid cfgL cod 154 [outV cod 2 a0] (outV cod 4 y)
 decimal : ∀ (a0 : Bs) y, F.decimal a0 = some y → PurSaid cfgL cod 185 [outV cod 2 a0] (outV cod 4 y)
 ratio : ∀ (a0 : Bs) y, F.ratio a0 = some y → PurSaid cfgL cod 155 [outV cod 2 a0] (outV cod 4 y)
 hexadecimal : ∀ (a0 : Bs) (a1 : Int) y, F.hexadecimal a0 a1 = some y → PurSaid cfgL cod 156 [outV cod 2 a0, outV cod 0 a1] (outV cod 4 y)
 complex : ∀ (a0 : (List Form)) y, F.complex a0 = some y → PurSaid cfgL cod 157 [outV cod 7 a0] (outV cod 4 y)
 product : ∀ (a0 : (List Int)) y, F.product a0 = some y → PurSaid cfgL cod 159 [outV cod 9 a0] (outV cod 0 y)
 small : ∀ (a0 : Bs) (a1 : Int) y, F.small a0 a1 = some y → PurSaid cfgL cod 160 [outV cod 2 a0, outV cod 0 a1] (outV cod 4 y)
 exact : ∀ (a0 : Form) y, F.exact a0 = some y → PurSaid cfgL cod 188 [outV cod 3 a0] (outV cod 4 y)
 Dimensions : ∀ (a0 : Form) y, F.Dimensions a0 = some y → PurSaid cfgL cod 25 [outV cod 3 a0] (.tup [outV cod 9 y.1, outV cod 0 y.2])
 Number : ∀ (a0 : Form) y, F.Number a0 = some y → PurSaid cfgL cod 32 [outV cod 3 a0] (outV cod 4 y)
 IndexInt : ∀ (a0 : (List Int)) (a1 : Int) y, F.IndexInt a0 a1 = some y → PurSaid cfgL cod 163 [outV cod 9 a0, outV cod 0 a1] (outV cod 0 y)
 rCheck : ∀ (a0 : Form) y, F.rCheck a0 = some y → PurSaid cfgL cod 27 [outV cod 3 a0] (outV cod 0 y)
 rDimensions : ∀ (a0 : Form) y, F.rDimensions a0 = some y → PurSaid cfgL cod 26 [outV cod 3 a0] (.tup [outV cod 9 y.1, outV cod 0 y.2])
 rdimensions : ∀ (a0 : Bs) y, F.rdimensions a0 = some y → PurSaid cfgL cod 102 [outV cod 2 a0] (.tup [outV cod 9 y.1, outV cod 4 y.2])
 nodes : ∀ (a0 : Form) y, F.nodes a0 = some y → PurSaid cfgL cod 103 [outV cod 3 a0] (outV cod 4 y)
 node : ∀ (a0 : Form) y, F.node a0 = some y → PurSaid cfgL cod 115 [outV cod 3 a0] (outV cod 4 y)
 within : ∀ (a0 : (List Bs)) (a1 : Bs) y, F.within a0 a1 = some y → PurSaid cfgL cod 147 [outV cod 10 a0, outV cod 2 a1] (outV cod 4 y)
 digits : ∀ (a0 : Bs) y, F.digits a0 = some y → PurSaid cfgL cod 165 [outV cod 2 a0] (outV cod 4 y)
 value : ∀ (a0 : Bs) y, F.value a0 = some y → PurSaid cfgL cod 166 [outV cod 2 a0] (outV cod 0 y)
 parts : ∀ (a0 : Form) (a1 : Form) y, F.parts a0 a1 = some y → PurSaid cfgL cod 171 [outV cod 3 a0, outV cod 3 a1] (outV cod 4 y)
 rproduct : ∀ (a0 : (List Int)) y, F.rproduct a0 = some y → PurSaid cfgL cod 172 [outV cod 9 a0] (outV cod 0 y)
 label : ∀ (a0 : Bs) y, F.label a0 = some y → PurSaid cfgL cod 173 [outV cod 2 a0] (outV cod 4 y)
 atom : ∀ (a0 : Form) y, F.atom a0 = some y → PurSaid cfgL cod 174 [outV cod 3 a0] (outV cod 4 y)
 rexact : ∀ (a0 : Form) y, F.rexact a0 = some y → PurSaid cfgL cod 203 [outV cod 3 a0] (outV cod 4 y)
 whole : ∀ (a0 : Bs) y, F.whole a0 = some y → PurSaid cfgL cod 204 [outV cod 2 a0] (outV cod 4 y)
 rratio : ∀ (a0 : Bs) y, F.rratio a0 = some y → PurSaid cfgL cod 205 [outV cod 2 a0] (outV cod 4 y)
 hex : ∀ (a0 : Bs) (a1 : Int) y, F.hex a0 a1 = some y → PurSaid cfgL cod 206 [outV cod 2 a0, outV cod 0 a1] (outV cod 4 y)
 rNumber : ∀ (a0 : Form) y, F.rNumber a0 = some y → PurSaid cfgL cod 33 [outV cod 3 a0] (outV cod 4 y)
 FormChecks : ∀ (a0 : Form) (a1 : Form) (a2 : Bs) (a3 : Bs) y, F.FormChecks a0 a1 a2 a3 = some y → PurSaid cfgL cod 5 [outV cod 3 a0, outV cod 3 a1, outV cod 2 a2, outV cod 2 a3] (outV cod 4 y)
 rSize : ∀ (a0 : Form) y, F.rSize a0 = some y → PurSaid cfgL cod 24 [outV cod 3 a0] (.tup [outV cod 0 y.1, outV cod 0 y.2])
 Size_L0 : ∀ (p0 : List Form) (p1 : Int) (p2 : Int) (p3 : Bs) (p4 : Bs) (v : (Int) × (Int) × (Int)) o, F.Size_L0 p0 p1 p2 p3 p4 v = some o → LoopSaid cfgL cod (.loop (loopAt 23 [0, 1, 0, 1, 1])) (Size_L0_S p0 p1 p2 p3 p4 v) (Size_L0_E p0 p1 p2 p3 p4 o)
 rEqual_L0 : ∀ (p0 : Int) (p1 : Bs) (p2 : Bs) (p3 : List Form) (p4 : Int) (p5 : Bs) (p6 : Bs) (p7 : List Form) (v : (Int)) o, F.rEqual_L0 p0 p1 p2 p3 p4 p5 p6 p7 v = some o → LoopSaid cfgL cod (.loop (loopAt 15 [0, 1, 0, 1, 1])) (rEqual_L0_S p0 p1 p2 p3 p4 p5 p6 p7 v) (rEqual_L0_E p0 p1 p2 p3 p4 p5 p6 p7 o)
 left_L0 : ∀ (p0 : Int) (p1 : Bs) (p2 : Bs) (p3 : List Form) (v : (Int) × (Int)) o, F.left_L0 p0 p1 p2 p3 v = some o → LoopSaid cfgL cod (.loop (loopAt 73 [0, 1, 0, 1, 1])) (left_L0_S p0 p1 p2 p3 v) (left_L0_E p0 p1 p2 p3 o)
 EqualFunc_L0 : ∀ (p0 : List Form) (p1 : List Form) (p2 : Int) (v : (Int)) o, F.EqualFunc_L0 p0 p1 p2 v = some o → LoopSaid cfgL cod (.loop (loopAt 98 [0, 1, 0, 1, 1])) (EqualFunc_L0_S p0 p1 p2 v) (EqualFunc_L0_E p0 p1 p2 o)
 through_L0 : ∀ (p0 : List Form) (p1 : Int) (p2 : Int) (p3 : Int) (p4 : Bs) (p5 : Bs) (v : (Int)) o, F.through_L0 p0 p1 p2 p3 p4 p5 v = some o → LoopSaid cfgL cod (.loop (loopAt 142 [0, 1, 0, 1, 1])) (through_L0_S p0 p1 p2 p3 p4 p5 v) (through_L0_E p0 p1 p2 p3 p4 p5 o)
 through_L1 : ∀ (p0 : List Form) (p1 : Int) (p2 : Int) (p3 : Int) (p4 : Bs) (p5 : Bs) (v : (Int) × (List (Bs × Bool))) o, F.through_L1 p0 p1 p2 p3 p4 p5 v = some o → LoopSaid cfgL cod (.loop (loopAt 142 [0, 1, 0, 1, 1])) (through_L1_S p0 p1 p2 p3 p4 p5 v) (through_L1_E p0 p1 p2 p3 p4 p5 o)
 look_L0 : ∀ (p0 : Int) (p1 : List Form) (p2 : Int) (p3 : Int) (p4 : Bs) (p5 : Bs) (v : (Int) × (Int)) o, F.look_L0 p0 p1 p2 p3 p4 p5 v = some o → LoopSaid cfgL cod (.loop (loopAt 144 [0, 1, 0, 1, 1, 1])) (look_L0_S p0 p1 p2 p3 p4 p5 v) (look_L0_E p0 p1 p2 p3 p4 p5 o)
 right_L0 : ∀ (p0 : Bs) (p1 : Bs) (p2 : Int) (p3 : List Form) (v : (Int)) o, F.right_L0 p0 p1 p2 p3 v = some o → LoopSaid cfgL cod (.loop (loopAt 96 [0, 1, 0, 1])) (right_L0_S p0 p1 p2 p3 v) (right_L0_E p0 p1 p2 p3 o)
 f221_L0 : ∀ (v : (Bs) × (List Int)) o, F.f221_L0 v = some o → LoopSaid cfgL cod (.loop (loopAt 221 [0, 0, 1])) (f221_L0_S v) (f221_L0_E o)
 decimal_L0 : ∀ (p0 : List UInt8) (p1 : Int) (v : (Int)) o, F.decimal_L0 p0 p1 v = some o → LoopSaid cfgL cod (.loop (loopAt 185 [0, 1, 0, 1, 1])) (decimal_L0_S p0 p1 v) (decimal_L0_E p0 p1 o)
 ratio_L0 : ∀ (v : (Int) × (Int)) o, F.ratio_L0 v = some o → LoopSaid cfgL cod (.loop (loopAt 155 [0, 0, 1, 1, 1, 1, 1, 1, 1])) (ratio_L0_S v) (ratio_L0_E o)
 product_L0 : ∀ (p0 : List Int) (p1 : Int) (v : (Int) × (Int)) o, F.product_L0 p0 p1 v = some o → LoopSaid cfgL cod (.loop (loopAt 159 [0, 1, 0, 1, 1, 1])) (product_L0_S p0 p1 v) (product_L0_E p0 p1 o)
 IndexInt_L0 : ∀ (p0 : List Int) (p1 : Int) (p2 : Int) (v : (Int)) o, F.IndexInt_L0 p0 p1 p2 v = some o → LoopSaid cfgL cod (.loop (loopAt 163 [0, 1, 0, 1])) (IndexInt_L0_S p0 p1 p2 v) (IndexInt_L0_E p0 p1 p2 o)
 labels_L0 : ∀ (p0 : Int) (p1 : Bs) (p2 : Bs) (p3 : List Form) (v : (Int) × (List Bs)) o, F.labels_L0 p0 p1 p2 p3 v = some o → LoopSaid cfgL cod (.loop (loopAt 104 [0, 1, 0, 1, 1, 1])) (labels_L0_S p0 p1 p2 p3 v) (labels_L0_E p0 p1 p2 p3 o)
 labels_P1 : ∀ (p0 : Int) (p1 : Int) (p2 : Int) (p3 : Bs) (p4 : Bs) (p5 : List Form) (p6 : List Bs) o, F.labels_P1 p0 p1 p2 p3 p4 p5 p6 = some o → RoundSaid cfgL cod (loopAt 104 [0, 1, 0, 1, 1, 1]) (labels_P1_S p0 p1 p2 p3 p4 p5 p6) (labels_P1_E p0 p1 p2 p3 p4 p5 p6 o)
 rdimensions_L0 : ∀ (p0 : Bs) (v : (Int) × (Int) × (List Int)) o, F.rdimensions_L0 p0 v = some o → LoopSaid cfgL cod (.loop (loopAt 102 [0, 1, 0, 1, 1, 1, 1])) (rdimensions_L0_S p0 v) (rdimensions_L0_E p0 o)
 nodes_L0 : ∀ (p0 : Int) (p1 : Bs) (p2 : Bs) (p3 : List Form) (v : (Int)) o, F.nodes_L0 p0 p1 p2 p3 v = some o → LoopSaid cfgL cod (.loop (loopAt 103 [0, 1, 0, 1, 1])) (nodes_L0_S p0 p1 p2 p3 v) (nodes_L0_E p0 p1 p2 p3 o)
 within_L0 : ∀ (p0 : List Bs) (p1 : Bs) (v : (Int)) o, F.within_L0 p0 p1 v = some o → LoopSaid cfgL cod (.loop (loopAt 147 [0, 1, 0, 1])) (within_L0_S p0 p1 v) (within_L0_E p0 p1 o)
 digits_L0 : ∀ (p0 : Bs) (v : (Int)) o, F.digits_L0 p0 v = some o → LoopSaid cfgL cod (.loop (loopAt 165 [0, 1, 0, 1])) (digits_L0_S p0 v) (digits_L0_E p0 o)
 value_L0 : ∀ (p0 : Bs) (v : (Int) × (Int)) o, F.value_L0 p0 v = some o → LoopSaid cfgL cod (.loop (loopAt 166 [0, 1, 0, 1, 1])) (value_L0_S p0 v) (value_L0_E p0 o)
 rproduct_L0 : ∀ (p0 : List Int) (v : (Int)) o, F.rproduct_L0 p0 v = some o → LoopSaid cfgL cod (.loop (loopAt 172 [0, 1, 0, 1])) (rproduct_L0_S p0 v) (rproduct_L0_E p0 o)
 rproduct_L1 : ∀ (p0 : List Int) (v : (Int) × (Int)) o, F.rproduct_L1 p0 v = some o → LoopSaid cfgL cod (.loop (loopAt 172 [0, 1, 0, 1, 1, 1])) (rproduct_L1_S p0 v) (rproduct_L1_E p0 o)
 atom_L0 : ∀ (p0 : Int) (p1 : Bs) (p2 : Bs) (p3 : List Form) (v : (Int)) o, F.atom_L0 p0 p1 p2 p3 v = some o → LoopSaid cfgL cod (.loop (loopAt 174 [0, 1, 0, 0, 1, 1, 1, 1, 1, 1, 1, 1, 1, 1, 1, 0, 1, 0, 1, 1])) (atom_L0_S p0 p1 p2 p3 v) (atom_L0_E p0 p1 p2 p3 o)
 rratio_L0 : ∀ (p0 : Bs) (v : (Int) × (Int)) o, F.rratio_L0 p0 v = some o → LoopSaid cfgL cod (.loop (loopAt 205 [0, 1, 0, 1, 1])) (rratio_L0_S p0 v) (rratio_L0_E p0 o)
 rratio_L1 : ∀ (v : (Int) × (Int)) o, F.rratio_L1 v = some o → LoopSaid cfgL cod (.loop (loopAt 205 [0, 0, 1, 1, 1, 1, 1, 1, 1, 1, 1])) (rratio_L1_S v) (rratio_L1_E o)
 hex_L0 : ∀ (p0 : Bs) (p1 : Int) (v : (Int)) o, F.hex_L0 p0 p1 v = some o → LoopSaid cfgL cod (.loop (loopAt 206 [0, 1, 0, 1])) (hex_L0_S p0 p1 v) (hex_L0_E p0 p1 o)
 FormChecks_L0 : ∀ (p0 : Bs) (p1 : Bs) (p2 : List Int) (p3 : List Int) (p4 : Int) (p5 : Int) (p6 : Bs) (p7 : Bs) (p8 : List Form) (p9 : Int) (p10 : Bs) (p11 : Bs) (p12 : List Form) (v : (Int)) o, F.FormChecks_L0 p0 p1 p2 p3 p4 p5 p6 p7 p8 p9 p10 p11 p12 v = some o → LoopSaid cfgL cod (.loop (loopAt 5 [0, 1, 0, 1, 1, 1, 1, 1, 1, 1])) (FormChecks_L0_S p0 p1 p2 p3 p4 p5 p6 p7 p8 p9 p10 p11 p12 v) (FormChecks_L0_E p0 p1 p2 p3 p4 p5 p6 p7 p8 p9 p10 p11 p12 o)
 rSize_L0 : ∀ (p0 : Int) (p1 : Bs) (p2 : Bs) (p3 : List Form) (v : (Int) × (Int) × (Int)) o, F.rSize_L0 p0 p1 p2 p3 v = some o → LoopSaid cfgL cod (.loop (loopAt 24 [0, 1, 0, 1, 1])) (rSize_L0_S p0 p1 p2 p3 v) (rSize_L0_E p0 p1 p2 p3 o)
theorem Size_Ps {R : Type} {F : Tb} (sd : Sd F) {ws : List (W T)} {k : W T → Option R} {r : R} (h : Size_P F ws k = some r) : ∃ w, k w = some r ∧ PurSaid cfgL cod 23 ws w := by
 unfold Size_P at h
 split at h
 ·obtain ⟨a0, h0, h⟩ := opK_some h
  obtain ⟨y, hy, h⟩ := opK_some h
  exact ⟨_, h, PurSaid.args (sd.Size a0 y hy) (repL_out codOk h0 (fun h => h))⟩
 ·cases h
theorem rEqual_Ps {R : Type} {F : Tb} (sd : Sd F) {ws : List (W T)} {k : W T → Option R} {r : R} (h : rEqual_P F ws k = some r) : ∃ w, k w = some r ∧ PurSaid cfgL cod 15 ws w := by
 unfold rEqual_P at h
 split at h
 ·obtain ⟨a0, h0, h⟩ := opK_some h
  obtain ⟨a1, h1, h⟩ := opK_some h
  obtain ⟨y, hy, h⟩ := opK_some h
  exact ⟨_, h, PurSaid.args (sd.rEqual a0 a1 y hy) (repL_out codOk h0 (repL_out codOk h1 (fun h => h)))⟩
 ·cases h
theorem left_Ps {R : Type} {F : Tb} (sd : Sd F) {ws : List (W T)} {k : W T → Option R} {r : R} (h : left_P F ws k = some r) : ∃ w, k w = some r ∧ PurSaid cfgL cod 73 ws w := by
 unfold left_P at h
 split at h
 ·obtain ⟨a0, h0, h⟩ := opK_some h
  obtain ⟨a1, h1, h⟩ := opK_some h
  obtain ⟨y, hy, h⟩ := opK_some h
  exact ⟨_, h, PurSaid.args (sd.left a0 a1 y hy) (repL_out codOk h0 (repL_out codOk h1 (fun h => h)))⟩
 ·cases h
theorem Few_Ps {R : Type} {F : Tb} (sd : Sd F) {ws : List (W T)} {k : W T → Option R} {r : R} (h : Few_P F ws k = some r) : ∃ w, k w = some r ∧ PurSaid cfgL cod 11 ws w := by
 unfold Few_P at h
 split at h
 ·obtain ⟨a0, h0, h⟩ := opK_some h
  obtain ⟨a1, h1, h⟩ := opK_some h
  obtain ⟨y, hy, h⟩ := opK_some h
  exact ⟨_, h, PurSaid.args (sd.Few a0 a1 y hy) (repL_out codOk h0 (repL_out codOk h1 (fun h => h)))⟩
 ·cases h
theorem IsNil_Ps {R : Type} {F : Tb} (sd : Sd F) {ws : List (W T)} {k : W T → Option R} {r : R} (h : IsNil_P F ws k = some r) : ∃ w, k w = some r ∧ PurSaid cfgL cod 28 ws w := by
 unfold IsNil_P at h
 split at h
 ·obtain ⟨a0, h0, h⟩ := opK_some h
  obtain ⟨y, hy, h⟩ := opK_some h
  exact ⟨_, h, PurSaid.args (sd.IsNil a0 y hy) (repL_out codOk h0 (fun h => h))⟩
 ·cases h
theorem Is_Ps {R : Type} {F : Tb} (sd : Sd F) {ws : List (W T)} {k : W T → Option R} {r : R} (h : Is_P F ws k = some r) : ∃ w, k w = some r ∧ PurSaid cfgL cod 30 ws w := by
 unfold Is_P at h
 split at h
 ·obtain ⟨a0, h0, h⟩ := opK_some h
  obtain ⟨a1, h1, h⟩ := opK_some h
  obtain ⟨a2, h2, h⟩ := opK_some h
  obtain ⟨y, hy, h⟩ := opK_some h
  exact ⟨_, h, PurSaid.args (sd.Is a0 a1 a2 y hy) (repL_out codOk h0 (repL_out codOk h1 (repL_out codOk h2 (fun h => h))))⟩
 ·cases h
theorem Equal_Ps {R : Type} {F : Tb} (sd : Sd F) {ws : List (W T)} {k : W T → Option R} {r : R} (h : Equal_P F ws k = some r) : ∃ w, k w = some r ∧ PurSaid cfgL cod 22 ws w := by
 unfold Equal_P at h
 split at h
 ·obtain ⟨a0, h0, h⟩ := opK_some h
  obtain ⟨a1, h1, h⟩ := opK_some h
  obtain ⟨y, hy, h⟩ := opK_some h
  exact ⟨_, h, PurSaid.args (sd.Equal a0 a1 y hy) (repL_out codOk h0 (repL_out codOk h1 (fun h => h)))⟩
 ·cases h
theorem EqualFunc_f22_Ps {R : Type} {F : Tb} (sd : Sd F) {ws : List (W T)} {k : W T → Option R} {r : R} (h : EqualFunc_f22_P F ws k = some r) : ∃ w, k w = some r ∧ PurSaid cfgL cod 98 ws w := by
 unfold EqualFunc_f22_P at h
 split at h
 ·obtain ⟨a0, h0, h⟩ := opK_some h
  obtain ⟨a1, h1, h⟩ := opK_some h
  obtain ⟨y, hy, h⟩ := opK_some h
  exact ⟨_, h, PurSaid.args (sd.EqualFunc_f22 a0 a1 y hy) (repL_out codOk h0 (repL_out codOk h1 (repL_same (fun h => h))))⟩
 ·cases h
theorem rIsNil_Ps {R : Type} {F : Tb} (sd : Sd F) {ws : List (W T)} {k : W T → Option R} {r : R} (h : rIsNil_P F ws k = some r) : ∃ w, k w = some r ∧ PurSaid cfgL cod 29 ws w := by
 unfold rIsNil_P at h
 split at h
 ·obtain ⟨a0, h0, h⟩ := opK_some h
  obtain ⟨y, hy, h⟩ := opK_some h
  exact ⟨_, h, PurSaid.args (sd.rIsNil a0 y hy) (repL_out codOk h0 (fun h => h))⟩
 ·cases h
theorem rIs_Ps {R : Type} {F : Tb} (sd : Sd F) {ws : List (W T)} {k : W T → Option R} {r : R} (h : rIs_P F ws k = some r) : ∃ w, k w = some r ∧ PurSaid cfgL cod 31 ws w := by
 unfold rIs_P at h
 split at h
 ·obtain ⟨a0, h0, h⟩ := opK_some h
  obtain ⟨a1, h1, h⟩ := opK_some h
  obtain ⟨a2, h2, h⟩ := opK_some h
  obtain ⟨y, hy, h⟩ := opK_some h
  exact ⟨_, h, PurSaid.args (sd.rIs a0 a1 a2 y hy) (repL_out codOk h0 (repL_out codOk h1 (repL_out codOk h2 (fun h => h))))⟩
 ·cases h
theorem awakeTrees_Ps {R : Type} {F : Tb} (sd : Sd F) {ws : List (W T)} {k : W T → Option R} {r : R} (h : awakeTrees_P F ws k = some r) : ∃ w, k w = some r ∧ PurSaid cfgL cod 12 ws w := by
 unfold awakeTrees_P at h
 split at h
 ·obtain ⟨y, hy, h⟩ := opK_some h
  exact ⟨_, h, PurSaid.args (sd.awakeTrees y hy) (fun h => h)⟩
 ·cases h
theorem Check_Ps {R : Type} {F : Tb} (sd : Sd F) {ws : List (W T)} {k : W T → Option R} {r : R} (h : Check_P F ws k = some r) : ∃ w, k w = some r ∧ PurSaid cfgL cod 20 ws w := by
 unfold Check_P at h
 split at h
 ·obtain ⟨a0, h0, h⟩ := opK_some h
  obtain ⟨y, hy, h⟩ := opK_some h
  exact ⟨_, h, PurSaid.args (sd.Check a0 y hy) (repL_out codOk h0 (fun h => h))⟩
 ·cases h
theorem limited_Ps {R : Type} {F : Tb} (sd : Sd F) {ws : List (W T)} {k : W T → Option R} {r : R} (h : limited_P F ws k = some r) : ∃ w, k w = some r ∧ PurSaid cfgL cod 84 ws w := by
 unfold limited_P at h
 split at h
 ·obtain ⟨a0, h0, h⟩ := opK_some h
  obtain ⟨y, hy, h⟩ := opK_some h
  exact ⟨_, h, PurSaid.args (sd.limited a0 y hy) (repL_out codOk h0 (fun h => h))⟩
 ·cases h
theorem right_Ps {R : Type} {F : Tb} (sd : Sd F) {ws : List (W T)} {k : W T → Option R} {r : R} (h : right_P F ws k = some r) : ∃ w, k w = some r ∧ PurSaid cfgL cod 96 ws w := by
 unfold right_P at h
 split at h
 ·obtain ⟨a0, h0, h⟩ := opK_some h
  obtain ⟨y, hy, h⟩ := opK_some h
  exact ⟨_, h, PurSaid.args (sd.right a0 y hy) (repL_out codOk h0 (fun h => h))⟩
 ·cases h
theorem dimensions_Ps {R : Type} {F : Tb} (sd : Sd F) {ws : List (W T)} {k : W T → Option R} {r : R} (h : dimensions_P F ws k = some r) : ∃ w, k w = some r ∧ PurSaid cfgL cod 100 ws w := by
 unfold dimensions_P at h
 split at h
 ·obtain ⟨a0, h0, h⟩ := opK_some h
  obtain ⟨y, hy, h⟩ := opK_some h
  exact ⟨_, h, PurSaid.args (sd.dimensions a0 y hy) (repL_out codOk h0 (fun h => h))⟩
 ·cases h
theorem integer_Ps {R : Type} {F : Tb} (sd : Sd F) {ws : List (W T)} {k : W T → Option R} {r : R} (h : integer_P F ws k = some r) : ∃ w, k w = some r ∧ PurSaid cfgL cod 154 ws w := by
 unfold integer_P at h
 split at h
 ·obtain ⟨a0, h0, h⟩ := opK_some h
  obtain ⟨y, hy, h⟩ := opK_some h
  exact ⟨_, h, PurSaid.args (sd.integer a0 y hy) (repL_out codOk h0 (fun h => h))⟩
 ·cases h
theorem decimal_Ps {R : Type} {F : Tb} (sd : Sd F) {ws : List (W T)} {k : W T → Option R} {r : R} (h : decimal_P F ws k = some r) : ∃ w, k w = some r ∧ PurSaid cfgL cod 185 ws w := by
 unfold decimal_P at h
 split at h
 ·obtain ⟨a0, h0, h⟩ := opK_some h
  obtain ⟨y, hy, h⟩ := opK_some h
  exact ⟨_, h, PurSaid.args (sd.decimal a0 y hy) (repL_out codOk h0 (fun h => h))⟩
 ·cases h
theorem ratio_Ps {R : Type} {F : Tb} (sd : Sd F) {ws : List (W T)} {k : W T → Option R} {r : R} (h : ratio_P F ws k = some r) : ∃ w, k w = some r ∧ PurSaid cfgL cod 155 ws w := by
 unfold ratio_P at h
 split at h
 ·obtain ⟨a0, h0, h⟩ := opK_some h
  obtain ⟨y, hy, h⟩ := opK_some h
  exact ⟨_, h, PurSaid.args (sd.ratio a0 y hy) (repL_out codOk h0 (fun h => h))⟩
 ·cases h
theorem hexadecimal_Ps {R : Type} {F : Tb} (sd : Sd F) {ws : List (W T)} {k : W T → Option R} {r : R} (h : hexadecimal_P F ws k = some r) : ∃ w, k w = some r ∧ PurSaid cfgL cod 156 ws w := by
 unfold hexadecimal_P at h
 split at h
 ·obtain ⟨a0, h0, h⟩ := opK_some h
  obtain ⟨a1, h1, h⟩ := opK_some h
  obtain ⟨y, hy, h⟩ := opK_some h
  exact ⟨_, h, PurSaid.args (sd.hexadecimal a0 a1 y hy) (repL_out codOk h0 (repL_out codOk h1 (fun h => h)))⟩
 ·cases h
theorem complex_Ps {R : Type} {F : Tb} (sd : Sd F) {ws : List (W T)} {k : W T → Option R} {r : R} (h : complex_P F ws k = some r) : ∃ w, k w = some r ∧ PurSaid cfgL cod 157 ws w := by
 unfold complex_P at h
 split at h
 ·obtain ⟨a0, h0, h⟩ := opK_some h
  obtain ⟨y, hy, h⟩ := opK_some h
  exact ⟨_, h, PurSaid.args (sd.complex a0 y hy) (repL_out codOk h0 (fun h => h))⟩
 ·cases h
theorem product_Ps {R : Type} {F : Tb} (sd : Sd F) {ws : List (W T)} {k : W T → Option R} {r : R} (h : product_P F ws k = some r) : ∃ w, k w = some r ∧ PurSaid cfgL cod 159 ws w := by
 unfold product_P at h
 split at h
 ·obtain ⟨a0, h0, h⟩ := opK_some h
  obtain ⟨y, hy, h⟩ := opK_some h
  exact ⟨_, h, PurSaid.args (sd.product a0 y hy) (repL_out codOk h0 (fun h => h))⟩
 ·cases h
theorem small_Ps {R : Type} {F : Tb} (sd : Sd F) {ws : List (W T)} {k : W T → Option R} {r : R} (h : small_P F ws k = some r) : ∃ w, k w = some r ∧ PurSaid cfgL cod 160 ws w := by
 unfold small_P at h
 split at h
 ·obtain ⟨a0, h0, h⟩ := opK_some h
  obtain ⟨a1, h1, h⟩ := opK_some h
  obtain ⟨y, hy, h⟩ := opK_some h
  exact ⟨_, h, PurSaid.args (sd.small a0 a1 y hy) (repL_out codOk h0 (repL_out codOk h1 (fun h => h)))⟩
 ·cases h
theorem exact_Ps {R : Type} {F : Tb} (sd : Sd F) {ws : List (W T)} {k : W T → Option R} {r : R} (h : exact_P F ws k = some r) : ∃ w, k w = some r ∧ PurSaid cfgL cod 188 ws w := by
 unfold exact_P at h
 split at h
 ·obtain ⟨a0, h0, h⟩ := opK_some h
  obtain ⟨y, hy, h⟩ := opK_some h
  exact ⟨_, h, PurSaid.args (sd.exact a0 y hy) (repL_out codOk h0 (fun h => h))⟩
 ·cases h
theorem Dimensions_Ps {R : Type} {F : Tb} (sd : Sd F) {ws : List (W T)} {k : W T → Option R} {r : R} (h : Dimensions_P F ws k = some r) : ∃ w, k w = some r ∧ PurSaid cfgL cod 25 ws w := by
 unfold Dimensions_P at h
 split at h
 ·obtain ⟨a0, h0, h⟩ := opK_some h
  obtain ⟨y, hy, h⟩ := opK_some h
  exact ⟨_, h, PurSaid.args (sd.Dimensions a0 y hy) (repL_out codOk h0 (fun h => h))⟩
 ·cases h
theorem Number_Ps {R : Type} {F : Tb} (sd : Sd F) {ws : List (W T)} {k : W T → Option R} {r : R} (h : Number_P F ws k = some r) : ∃ w, k w = some r ∧ PurSaid cfgL cod 32 ws w := by
 unfold Number_P at h
 split at h
 ·obtain ⟨a0, h0, h⟩ := opK_some h
  obtain ⟨y, hy, h⟩ := opK_some h
  exact ⟨_, h, PurSaid.args (sd.Number a0 y hy) (repL_out codOk h0 (fun h => h))⟩
 ·cases h
theorem IndexInt_Ps {R : Type} {F : Tb} (sd : Sd F) {ws : List (W T)} {k : W T → Option R} {r : R} (h : IndexInt_P F ws k = some r) : ∃ w, k w = some r ∧ PurSaid cfgL cod 163 ws w := by
 unfold IndexInt_P at h
 split at h
 ·obtain ⟨a0, h0, h⟩ := opK_some h
  obtain ⟨a1, h1, h⟩ := opK_some h
  obtain ⟨y, hy, h⟩ := opK_some h
  exact ⟨_, h, PurSaid.args (sd.IndexInt a0 a1 y hy) (repL_out codOk h0 (repL_out codOk h1 (fun h => h)))⟩
 ·cases h
theorem rCheck_Ps {R : Type} {F : Tb} (sd : Sd F) {ws : List (W T)} {k : W T → Option R} {r : R} (h : rCheck_P F ws k = some r) : ∃ w, k w = some r ∧ PurSaid cfgL cod 27 ws w := by
 unfold rCheck_P at h
 split at h
 ·obtain ⟨a0, h0, h⟩ := opK_some h
  obtain ⟨y, hy, h⟩ := opK_some h
  exact ⟨_, h, PurSaid.args (sd.rCheck a0 y hy) (repL_out codOk h0 (fun h => h))⟩
 ·cases h
theorem rDimensions_Ps {R : Type} {F : Tb} (sd : Sd F) {ws : List (W T)} {k : W T → Option R} {r : R} (h : rDimensions_P F ws k = some r) : ∃ w, k w = some r ∧ PurSaid cfgL cod 26 ws w := by
 unfold rDimensions_P at h
 split at h
 ·obtain ⟨a0, h0, h⟩ := opK_some h
  obtain ⟨y, hy, h⟩ := opK_some h
  exact ⟨_, h, PurSaid.args (sd.rDimensions a0 y hy) (repL_out codOk h0 (fun h => h))⟩
 ·cases h
theorem rdimensions_Ps {R : Type} {F : Tb} (sd : Sd F) {ws : List (W T)} {k : W T → Option R} {r : R} (h : rdimensions_P F ws k = some r) : ∃ w, k w = some r ∧ PurSaid cfgL cod 102 ws w := by
 unfold rdimensions_P at h
 split at h
 ·obtain ⟨a0, h0, h⟩ := opK_some h
  obtain ⟨y, hy, h⟩ := opK_some h
  exact ⟨_, h, PurSaid.args (sd.rdimensions a0 y hy) (repL_out codOk h0 (fun h => h))⟩
 ·cases h
theorem nodes_Ps {R : Type} {F : Tb} (sd : Sd F) {ws : List (W T)} {k : W T → Option R} {r : R} (h : nodes_P F ws k = some r) : ∃ w, k w = some r ∧ PurSaid cfgL cod 103 ws w := by
 unfold nodes_P at h
 split at h
 ·obtain ⟨a0, h0, h⟩ := opK_some h
  obtain ⟨y, hy, h⟩ := opK_some h
  exact ⟨_, h, PurSaid.args (sd.nodes a0 y hy) (repL_out codOk h0 (fun h => h))⟩
 ·cases h
theorem node_Ps {R : Type} {F : Tb} (sd : Sd F) {ws : List (W T)} {k : W T → Option R} {r : R} (h : node_P F ws k = some r) : ∃ w, k w = some r ∧ PurSaid cfgL cod 115 ws w := by
 unfold node_P at h
 split at h
 ·obtain ⟨a0, h0, h⟩ := opK_some h
  obtain ⟨y, hy, h⟩ := opK_some h
  exact ⟨_, h, PurSaid.args (sd.node a0 y hy) (repL_out codOk h0 (fun h => h))⟩
 ·cases h
theorem within_Ps {R : Type} {F : Tb} (sd : Sd F) {ws : List (W T)} {k : W T → Option R} {r : R} (h : within_P F ws k = some r) : ∃ w, k w = some r ∧ PurSaid cfgL cod 147 ws w := by
 unfold within_P at h
 split at h
 ·obtain ⟨a0, h0, h⟩ := opK_some h
  obtain ⟨a1, h1, h⟩ := opK_some h
  obtain ⟨y, hy, h⟩ := opK_some h
  exact ⟨_, h, PurSaid.args (sd.within a0 a1 y hy) (repL_out codOk h0 (repL_out codOk h1 (fun h => h)))⟩
 ·cases h
theorem digits_Ps {R : Type} {F : Tb} (sd : Sd F) {ws : List (W T)} {k : W T → Option R} {r : R} (h : digits_P F ws k = some r) : ∃ w, k w = some r ∧ PurSaid cfgL cod 165 ws w := by
 unfold digits_P at h
 split at h
 ·obtain ⟨a0, h0, h⟩ := opK_some h
  obtain ⟨y, hy, h⟩ := opK_some h
  exact ⟨_, h, PurSaid.args (sd.digits a0 y hy) (repL_out codOk h0 (fun h => h))⟩
 ·cases h
theorem value_Ps {R : Type} {F : Tb} (sd : Sd F) {ws : List (W T)} {k : W T → Option R} {r : R} (h : value_P F ws k = some r) : ∃ w, k w = some r ∧ PurSaid cfgL cod 166 ws w := by
 unfold value_P at h
 split at h
 ·obtain ⟨a0, h0, h⟩ := opK_some h
  obtain ⟨y, hy, h⟩ := opK_some h
  exact ⟨_, h, PurSaid.args (sd.value a0 y hy) (repL_out codOk h0 (fun h => h))⟩
 ·cases h
theorem parts_Ps {R : Type} {F : Tb} (sd : Sd F) {ws : List (W T)} {k : W T → Option R} {r : R} (h : parts_P F ws k = some r) : ∃ w, k w = some r ∧ PurSaid cfgL cod 171 ws w := by
 unfold parts_P at h
 split at h
 ·obtain ⟨a0, h0, h⟩ := opK_some h
  obtain ⟨a1, h1, h⟩ := opK_some h
  obtain ⟨y, hy, h⟩ := opK_some h
  exact ⟨_, h, PurSaid.args (sd.parts a0 a1 y hy) (repL_out codOk h0 (repL_out codOk h1 (fun h => h)))⟩
 ·cases h
theorem rproduct_Ps {R : Type} {F : Tb} (sd : Sd F) {ws : List (W T)} {k : W T → Option R} {r : R} (h : rproduct_P F ws k = some r) : ∃ w, k w = some r ∧ PurSaid cfgL cod 172 ws w := by
 unfold rproduct_P at h
 split at h
 ·obtain ⟨a0, h0, h⟩ := opK_some h
  obtain ⟨y, hy, h⟩ := opK_some h
  exact ⟨_, h, PurSaid.args (sd.rproduct a0 y hy) (repL_out codOk h0 (fun h => h))⟩
 ·cases h
theorem label_Ps {R : Type} {F : Tb} (sd : Sd F) {ws : List (W T)} {k : W T → Option R} {r : R} (h : label_P F ws k = some r) : ∃ w, k w = some r ∧ PurSaid cfgL cod 173 ws w := by
 unfold label_P at h
 split at h
 ·obtain ⟨a0, h0, h⟩ := opK_some h
  obtain ⟨y, hy, h⟩ := opK_some h
  exact ⟨_, h, PurSaid.args (sd.label a0 y hy) (repL_out codOk h0 (fun h => h))⟩
 ·cases h
theorem atom_Ps {R : Type} {F : Tb} (sd : Sd F) {ws : List (W T)} {k : W T → Option R} {r : R} (h : atom_P F ws k = some r) : ∃ w, k w = some r ∧ PurSaid cfgL cod 174 ws w := by
 unfold atom_P at h
 split at h
 ·obtain ⟨a0, h0, h⟩ := opK_some h
  obtain ⟨y, hy, h⟩ := opK_some h
  exact ⟨_, h, PurSaid.args (sd.atom a0 y hy) (repL_out codOk h0 (fun h => h))⟩
 ·cases h
theorem rexact_Ps {R : Type} {F : Tb} (sd : Sd F) {ws : List (W T)} {k : W T → Option R} {r : R} (h : rexact_P F ws k = some r) : ∃ w, k w = some r ∧ PurSaid cfgL cod 203 ws w := by
 unfold rexact_P at h
 split at h
 ·obtain ⟨a0, h0, h⟩ := opK_some h
  obtain ⟨y, hy, h⟩ := opK_some h
  exact ⟨_, h, PurSaid.args (sd.rexact a0 y hy) (repL_out codOk h0 (fun h => h))⟩
 ·cases h
theorem whole_Ps {R : Type} {F : Tb} (sd : Sd F) {ws : List (W T)} {k : W T → Option R} {r : R} (h : whole_P F ws k = some r) : ∃ w, k w = some r ∧ PurSaid cfgL cod 204 ws w := by
 unfold whole_P at h
 split at h
 ·obtain ⟨a0, h0, h⟩ := opK_some h
  obtain ⟨y, hy, h⟩ := opK_some h
  exact ⟨_, h, PurSaid.args (sd.whole a0 y hy) (repL_out codOk h0 (fun h => h))⟩
 ·cases h
theorem rratio_Ps {R : Type} {F : Tb} (sd : Sd F) {ws : List (W T)} {k : W T → Option R} {r : R} (h : rratio_P F ws k = some r) : ∃ w, k w = some r ∧ PurSaid cfgL cod 205 ws w := by
 unfold rratio_P at h
 split at h
 ·obtain ⟨a0, h0, h⟩ := opK_some h
  obtain ⟨y, hy, h⟩ := opK_some h
  exact ⟨_, h, PurSaid.args (sd.rratio a0 y hy) (repL_out codOk h0 (fun h => h))⟩
 ·cases h
theorem hex_Ps {R : Type} {F : Tb} (sd : Sd F) {ws : List (W T)} {k : W T → Option R} {r : R} (h : hex_P F ws k = some r) : ∃ w, k w = some r ∧ PurSaid cfgL cod 206 ws w := by
 unfold hex_P at h
 split at h
 ·obtain ⟨a0, h0, h⟩ := opK_some h
  obtain ⟨a1, h1, h⟩ := opK_some h
  obtain ⟨y, hy, h⟩ := opK_some h
  exact ⟨_, h, PurSaid.args (sd.hex a0 a1 y hy) (repL_out codOk h0 (repL_out codOk h1 (fun h => h)))⟩
 ·cases h
theorem rNumber_Ps {R : Type} {F : Tb} (sd : Sd F) {ws : List (W T)} {k : W T → Option R} {r : R} (h : rNumber_P F ws k = some r) : ∃ w, k w = some r ∧ PurSaid cfgL cod 33 ws w := by
 unfold rNumber_P at h
 split at h
 ·obtain ⟨a0, h0, h⟩ := opK_some h
  obtain ⟨y, hy, h⟩ := opK_some h
  exact ⟨_, h, PurSaid.args (sd.rNumber a0 y hy) (repL_out codOk h0 (fun h => h))⟩
 ·cases h
theorem FormChecks_Ps {R : Type} {F : Tb} (sd : Sd F) {ws : List (W T)} {k : W T → Option R} {r : R} (h : FormChecks_P F ws k = some r) : ∃ w, k w = some r ∧ PurSaid cfgL cod 5 ws w := by
 unfold FormChecks_P at h
 split at h
 ·obtain ⟨a0, h0, h⟩ := opK_some h
  obtain ⟨a1, h1, h⟩ := opK_some h
  obtain ⟨a2, h2, h⟩ := opK_some h
  obtain ⟨a3, h3, h⟩ := opK_some h
  obtain ⟨y, hy, h⟩ := opK_some h
  exact ⟨_, h, PurSaid.args (sd.FormChecks a0 a1 a2 a3 y hy) (repL_out codOk h0 (repL_out codOk h1 (repL_out codOk h2 (repL_out codOk h3 (fun h => h)))))⟩
 ·cases h
theorem rSize_Ps {R : Type} {F : Tb} (sd : Sd F) {ws : List (W T)} {k : W T → Option R} {r : R} (h : rSize_P F ws k = some r) : ∃ w, k w = some r ∧ PurSaid cfgL cod 24 ws w := by
 unfold rSize_P at h
 split at h
 ·obtain ⟨a0, h0, h⟩ := opK_some h
  obtain ⟨y, hy, h⟩ := opK_some h
  exact ⟨_, h, PurSaid.args (sd.rSize a0 y hy) (repL_out codOk h0 (fun h => h))⟩
 ·cases h
theorem purT_ok {R : Type} {F : Tb} (sd : Sd F) {f : FuncId} {ws : List (W T)} {k : W T → Option R} {r : R} (h : purT F f ws k = some r) : ∃ w, k w = some r ∧ PurSaid cfgL cod f ws w := by
 unfold purT at h
 rcases bif_or h with ⟨e, h⟩ | h
 ·rw [Nat.eq_of_beq_eq_true e]; exact Size_Ps sd h
 rcases bif_or h with ⟨e, h⟩ | h
 ·rw [Nat.eq_of_beq_eq_true e]; exact rEqual_Ps sd h
 rcases bif_or h with ⟨e, h⟩ | h
 ·rw [Nat.eq_of_beq_eq_true e]; exact left_Ps sd h
 rcases bif_or h with ⟨e, h⟩ | h
 ·rw [Nat.eq_of_beq_eq_true e]; exact Few_Ps sd h
 rcases bif_or h with ⟨e, h⟩ | h
 ·rw [Nat.eq_of_beq_eq_true e]; exact IsNil_Ps sd h
 rcases bif_or h with ⟨e, h⟩ | h
 ·rw [Nat.eq_of_beq_eq_true e]; exact Is_Ps sd h
 rcases bif_or h with ⟨e, h⟩ | h
 ·rw [Nat.eq_of_beq_eq_true e]; exact Equal_Ps sd h
 rcases bif_or h with ⟨e, h⟩ | h
 ·rw [Nat.eq_of_beq_eq_true e]; exact EqualFunc_f22_Ps sd h
 rcases bif_or h with ⟨e, h⟩ | h
 ·rw [Nat.eq_of_beq_eq_true e]; exact rIsNil_Ps sd h
 rcases bif_or h with ⟨e, h⟩ | h
 ·rw [Nat.eq_of_beq_eq_true e]; exact rIs_Ps sd h
 rcases bif_or h with ⟨e, h⟩ | h
 ·rw [Nat.eq_of_beq_eq_true e]; exact awakeTrees_Ps sd h
 rcases bif_or h with ⟨e, h⟩ | h
 ·rw [Nat.eq_of_beq_eq_true e]; exact Check_Ps sd h
 rcases bif_or h with ⟨e, h⟩ | h
 ·rw [Nat.eq_of_beq_eq_true e]; exact limited_Ps sd h
 rcases bif_or h with ⟨e, h⟩ | h
 ·rw [Nat.eq_of_beq_eq_true e]; exact right_Ps sd h
 rcases bif_or h with ⟨e, h⟩ | h
 ·rw [Nat.eq_of_beq_eq_true e]; exact dimensions_Ps sd h
 rcases bif_or h with ⟨e, h⟩ | h
 ·rw [Nat.eq_of_beq_eq_true e]; exact integer_Ps sd h
 rcases bif_or h with ⟨e, h⟩ | h
 ·rw [Nat.eq_of_beq_eq_true e]; exact decimal_Ps sd h
 rcases bif_or h with ⟨e, h⟩ | h
 ·rw [Nat.eq_of_beq_eq_true e]; exact ratio_Ps sd h
 rcases bif_or h with ⟨e, h⟩ | h
 ·rw [Nat.eq_of_beq_eq_true e]; exact hexadecimal_Ps sd h
 rcases bif_or h with ⟨e, h⟩ | h
 ·rw [Nat.eq_of_beq_eq_true e]; exact complex_Ps sd h
 rcases bif_or h with ⟨e, h⟩ | h
 ·rw [Nat.eq_of_beq_eq_true e]; exact product_Ps sd h
 rcases bif_or h with ⟨e, h⟩ | h
 ·rw [Nat.eq_of_beq_eq_true e]; exact small_Ps sd h
 rcases bif_or h with ⟨e, h⟩ | h
 ·rw [Nat.eq_of_beq_eq_true e]; exact exact_Ps sd h
 rcases bif_or h with ⟨e, h⟩ | h
 ·rw [Nat.eq_of_beq_eq_true e]; exact Dimensions_Ps sd h
 rcases bif_or h with ⟨e, h⟩ | h
 ·rw [Nat.eq_of_beq_eq_true e]; exact Number_Ps sd h
 rcases bif_or h with ⟨e, h⟩ | h
 ·rw [Nat.eq_of_beq_eq_true e]; exact IndexInt_Ps sd h
 rcases bif_or h with ⟨e, h⟩ | h
 ·rw [Nat.eq_of_beq_eq_true e]; exact rCheck_Ps sd h
 rcases bif_or h with ⟨e, h⟩ | h
 ·rw [Nat.eq_of_beq_eq_true e]; exact rDimensions_Ps sd h
 rcases bif_or h with ⟨e, h⟩ | h
 ·rw [Nat.eq_of_beq_eq_true e]; exact rdimensions_Ps sd h
 rcases bif_or h with ⟨e, h⟩ | h
 ·rw [Nat.eq_of_beq_eq_true e]; exact nodes_Ps sd h
 rcases bif_or h with ⟨e, h⟩ | h
 ·rw [Nat.eq_of_beq_eq_true e]; exact node_Ps sd h
 rcases bif_or h with ⟨e, h⟩ | h
 ·rw [Nat.eq_of_beq_eq_true e]; exact within_Ps sd h
 rcases bif_or h with ⟨e, h⟩ | h
 ·rw [Nat.eq_of_beq_eq_true e]; exact digits_Ps sd h
 rcases bif_or h with ⟨e, h⟩ | h
 ·rw [Nat.eq_of_beq_eq_true e]; exact value_Ps sd h
 rcases bif_or h with ⟨e, h⟩ | h
 ·rw [Nat.eq_of_beq_eq_true e]; exact parts_Ps sd h
 rcases bif_or h with ⟨e, h⟩ | h
 ·rw [Nat.eq_of_beq_eq_true e]; exact rproduct_Ps sd h
 rcases bif_or h with ⟨e, h⟩ | h
 ·rw [Nat.eq_of_beq_eq_true e]; exact label_Ps sd h
 rcases bif_or h with ⟨e, h⟩ | h
 ·rw [Nat.eq_of_beq_eq_true e]; exact atom_Ps sd h
 rcases bif_or h with ⟨e, h⟩ | h
 ·rw [Nat.eq_of_beq_eq_true e]; exact rexact_Ps sd h
 rcases bif_or h with ⟨e, h⟩ | h
 ·rw [Nat.eq_of_beq_eq_true e]; exact whole_Ps sd h
 rcases bif_or h with ⟨e, h⟩ | h
 ·rw [Nat.eq_of_beq_eq_true e]; exact rratio_Ps sd h
 rcases bif_or h with ⟨e, h⟩ | h
 ·rw [Nat.eq_of_beq_eq_true e]; exact hex_Ps sd h
 rcases bif_or h with ⟨e, h⟩ | h
 ·rw [Nat.eq_of_beq_eq_true e]; exact rNumber_Ps sd h
 rcases bif_or h with ⟨e, h⟩ | h
 ·rw [Nat.eq_of_beq_eq_true e]; exact FormChecks_Ps sd h
 rcases bif_or h with ⟨e, h⟩ | h
 ·rw [Nat.eq_of_beq_eq_true e]; exact rSize_Ps sd h
 cases h
theorem frzT_ok {R : Type} {F : Tb} (sd : Sd F) {f : FuncId} {ws : List (W T)} {wm : WM T} {k : W T → Option R} {r : R} (h : frzT F f ws wm k = some r) : ∃ w, k w = some r ∧ ∀ {bs α β m vs}, WSim bs cod α β wm m → RepL cod α β ws vs → ∃ v, fres cfgL f vs m = some v ∧ Rep cod [] [] w v := by
 unfold frzT at h
 split at h
 ·rename_i hn
  have key : ∀ {w}, k w = some r → FrzSaid cfgL cod f ws w → ∃ w, k w = some r ∧ ∀ {bs α β m vs}, WSim bs cod α β wm m → RepL cod α β ws vs → ∃ v, fres cfgL f vs m = some v ∧ Rep cod [] [] w v := fun hw hs => ⟨_, hw, fun {bs α β m vs} S hr => hs m (norefL_any hr hn)⟩
  cases h
 ·cases h
theorem through_Hs {R : Type} {F : Tb} (sd : Sd F) {ws : List (W T)} {wm : WM T} {L : Win T} {k : W T × WM T → Option R} {r : R} (hL : winW cod (ksN 142) (maN 142) ws wm = some L) (h : through_H F L k = some r) : ∃ w wm', k (w, wm') = some r ∧ CallSaid cod ws wm wm' w (callW cfgL (.fn 142)) := by
 refine hand_heap codOk hL (s := (through_A L.ws L.wm fun p0 p1 => through_S p0 p1)) (F := (through_A L.ws L.wm fun p0 p1 => F.through p0 p1)) (E := fun o => (through_A L.ws L.wm fun p0 p1 => through_E p0 p1 o)) ?_ (fun o w h1 h2 => sd.through _ _ o w h1 h2)
 rw [← h]
 unfold through_H
 exact congrArg (opK _) (funext fun _ => congrArg (opK _) (funext fun o => by rcases o with (o | o) <;> rfl))
theorem through_v1_Hs {R : Type} {F : Tb} (sd : Sd F) {ws : List (W T)} {wm : WM T} {L : Win T} {k : W T × WM T → Option R} {r : R} (hL : winW cod (ksN 142) (maN 142) ws wm = some L) (h : through_v1_H F L k = some r) : ∃ w wm', k (w, wm') = some r ∧ CallSaid cod ws wm wm' w (callW cfgL (.fn 142)) := by
 refine hand_heap codOk hL (s := (through_v1_A L.ws L.wm fun p0 p1 p2 => through_v1_S p0 p1 p2)) (F := (through_v1_A L.ws L.wm fun p0 p1 p2 => F.through_v1 p0 p1 p2)) (E := fun o => (through_v1_A L.ws L.wm fun p0 p1 p2 => through_v1_E p0 p1 p2 o)) ?_ (fun o w h1 h2 => sd.through_v1 _ _ _ o w h1 h2)
 rw [← h]
 unfold through_v1_H
 exact congrArg (opK _) (funext fun _ => congrArg (opK _) (funext fun o => by rcases o with (o | o) <;> rfl))
theorem look_Hs {R : Type} {F : Tb} (sd : Sd F) {ws : List (W T)} {wm : WM T} {L : Win T} {k : W T × WM T → Option R} {r : R} (hL : winW cod (ksN 144) (maN 144) ws wm = some L) (h : look_H F L k = some r) : ∃ w wm', k (w, wm') = some r ∧ CallSaid cod ws wm wm' w (callW cfgL (.fn 144)) := by
 refine hand_heap codOk hL (s := (look_A L.ws L.wm fun p0 p1 p2 => look_S p0 p1 p2)) (F := (look_A L.ws L.wm fun p0 p1 p2 => F.look p0 p1 p2)) (E := fun o => (look_A L.ws L.wm fun p0 p1 p2 => look_E p0 p1 p2 o)) ?_ (fun o w h1 h2 => sd.look _ _ _ o w h1 h2)
 rw [← h]
 unfold look_H
 rfl
theorem labels_Hs {R : Type} {F : Tb} (sd : Sd F) {ws : List (W T)} {wm : WM T} {L : Win T} {k : W T × WM T → Option R} {r : R} (hL : winW cod (ksN 104) (maN 104) ws wm = some L) (h : labels_H F L k = some r) : ∃ w wm', k (w, wm') = some r ∧ CallSaid cod ws wm wm' w (callW cfgL (.fn 104)) := by
 refine hand_heap codOk hL (s := (labels_A L.ws L.wm fun p0 p1 => labels_S p0 p1)) (F := (labels_A L.ws L.wm fun p0 p1 => F.labels p0 p1)) (E := fun o => (labels_A L.ws L.wm fun p0 p1 => labels_E p0 p1 o)) ?_ (fun o w h1 h2 => sd.labels _ _ o w h1 h2)
 rw [← h]
 unfold labels_H
 rfl
theorem callT_ok {R : Type} {F : Tb} (sd : Sd F) {f : FuncId} {ws : List (W T)} {wm : WM T} {k : W T × WM T → Option R} {r : R} (h : callT F f ws wm k = some r) : ∃ w wm', k (w, wm') = some r ∧ CallSaid cod ws wm wm' w (callW cfgL (.fn f)) := by
 have h0 := opK_some h
 clear h
 obtain ⟨L, hL, h⟩ := h0
 unfold heapD at h
 have hh := bif_or h
 clear h
 rcases hh with ⟨e, h⟩ | h
 ·rw [Bool.and_eq_true] at e
  obtain rfl := Nat.eq_of_beq_eq_true e.1
  exact through_Hs sd hL h
 have hh := bif_or h
 clear h
 rcases hh with ⟨e, h⟩ | h
 ·rw [Bool.and_eq_true] at e
  obtain rfl := Nat.eq_of_beq_eq_true e.1
  exact through_v1_Hs sd hL h
 have hh := bif_or h
 clear h
 rcases hh with ⟨e, h⟩ | h
 ·rw [Bool.and_eq_true] at e
  obtain rfl := Nat.eq_of_beq_eq_true e.1
  exact look_Hs sd hL h
 have hh := bif_or h
 clear h
 rcases hh with ⟨e, h⟩ | h
 ·rw [Bool.and_eq_true] at e
  obtain rfl := Nat.eq_of_beq_eq_true e.1
  exact labels_Hs sd hL h
 cases h
theorem Size_L0_Hs {R : Type} {F : Tb} (sd : Sd F) {c : Code} {st : WSt T} {k : Ex × WSt T → Option R} {r : R} (h : Size_L0_H F c st k = some r) : ∃ x, k x = some r ∧ LoopSaid cfgL cod (.loop c) st x := by
 refine hand_sound (c0 := loopAt 23 [0, 1, 0, 1, 1]) (q := Size_L0_q) (s := fun st' => (Size_L0_A st' fun p0 p1 p2 p3 p4 v => Size_L0_S p0 p1 p2 p3 p4 v)) (L := fun st' => (Size_L0_A st' fun p0 p1 p2 p3 p4 v => F.Size_L0 p0 p1 p2 p3 p4 v)) (E := fun st' o => (Size_L0_A st' fun p0 p1 p2 p3 p4 v => Size_L0_E p0 p1 p2 p3 p4 o)) ?_ (fun st' o h => sd.Size_L0 _ _ _ _ _ _ o h)
 rw [← h]
 unfold Size_L0_H
 rfl
theorem rEqual_L0_Hs {R : Type} {F : Tb} (sd : Sd F) {c : Code} {st : WSt T} {k : Ex × WSt T → Option R} {r : R} (h : rEqual_L0_H F c st k = some r) : ∃ x, k x = some r ∧ LoopSaid cfgL cod (.loop c) st x := by
 refine hand_sound (c0 := loopAt 15 [0, 1, 0, 1, 1]) (q := rEqual_L0_q) (s := fun st' => (rEqual_L0_A st' fun p0 p1 p2 p3 p4 p5 p6 p7 v => rEqual_L0_S p0 p1 p2 p3 p4 p5 p6 p7 v)) (L := fun st' => (rEqual_L0_A st' fun p0 p1 p2 p3 p4 p5 p6 p7 v => F.rEqual_L0 p0 p1 p2 p3 p4 p5 p6 p7 v)) (E := fun st' o => (rEqual_L0_A st' fun p0 p1 p2 p3 p4 p5 p6 p7 v => rEqual_L0_E p0 p1 p2 p3 p4 p5 p6 p7 o)) ?_ (fun st' o h => sd.rEqual_L0 _ _ _ _ _ _ _ _ _ o h)
 rw [← h]
 unfold rEqual_L0_H
 exact congrArg (opK _) (funext fun st' => congrArg (opK _) (funext fun _ => congrArg (opK _) (funext fun o => by rcases o with (o | o) <;> rfl)))
theorem left_L0_Hs {R : Type} {F : Tb} (sd : Sd F) {c : Code} {st : WSt T} {k : Ex × WSt T → Option R} {r : R} (h : left_L0_H F c st k = some r) : ∃ x, k x = some r ∧ LoopSaid cfgL cod (.loop c) st x := by
 refine hand_sound (c0 := loopAt 73 [0, 1, 0, 1, 1]) (q := left_L0_q) (s := fun st' => (left_L0_A st' fun p0 p1 p2 p3 v => left_L0_S p0 p1 p2 p3 v)) (L := fun st' => (left_L0_A st' fun p0 p1 p2 p3 v => F.left_L0 p0 p1 p2 p3 v)) (E := fun st' o => (left_L0_A st' fun p0 p1 p2 p3 v => left_L0_E p0 p1 p2 p3 o)) ?_ (fun st' o h => sd.left_L0 _ _ _ _ _ o h)
 rw [← h]
 unfold left_L0_H
 rfl
theorem EqualFunc_L0_Hs {R : Type} {F : Tb} (sd : Sd F) {c : Code} {st : WSt T} {k : Ex × WSt T → Option R} {r : R} (h : EqualFunc_L0_H F c st k = some r) : ∃ x, k x = some r ∧ LoopSaid cfgL cod (.loop c) st x := by
 refine hand_sound (c0 := loopAt 98 [0, 1, 0, 1, 1]) (q := EqualFunc_L0_q) (s := fun st' => (EqualFunc_L0_A st' fun p0 p1 p2 v => EqualFunc_L0_S p0 p1 p2 v)) (L := fun st' => (EqualFunc_L0_A st' fun p0 p1 p2 v => F.EqualFunc_L0 p0 p1 p2 v)) (E := fun st' o => (EqualFunc_L0_A st' fun p0 p1 p2 v => EqualFunc_L0_E p0 p1 p2 o)) ?_ (fun st' o h => sd.EqualFunc_L0 _ _ _ _ o h)
 rw [← h]
 unfold EqualFunc_L0_H
 exact congrArg (opK _) (funext fun st' => congrArg (opK _) (funext fun _ => congrArg (opK _) (funext fun o => by rcases o with (o | o) <;> rfl)))
theorem through_L0_Hs {R : Type} {F : Tb} (sd : Sd F) {c : Code} {st : WSt T} {k : Ex × WSt T → Option R} {r : R} (h : through_L0_H F c st k = some r) : ∃ x, k x = some r ∧ LoopSaid cfgL cod (.loop c) st x := by
 refine hand_sound (c0 := loopAt 142 [0, 1, 0, 1, 1]) (q := through_L0_q) (s := fun st' => (through_L0_A st' fun p0 p1 p2 p3 p4 p5 v => through_L0_S p0 p1 p2 p3 p4 p5 v)) (L := fun st' => (through_L0_A st' fun p0 p1 p2 p3 p4 p5 v => F.through_L0 p0 p1 p2 p3 p4 p5 v)) (E := fun st' o => (through_L0_A st' fun p0 p1 p2 p3 p4 p5 v => through_L0_E p0 p1 p2 p3 p4 p5 o)) ?_ (fun st' o h => sd.through_L0 _ _ _ _ _ _ _ o h)
 rw [← h]
 unfold through_L0_H
 exact congrArg (opK _) (funext fun st' => congrArg (opK _) (funext fun _ => congrArg (opK _) (funext fun o => by rcases o with (o | o) <;> rfl)))
theorem through_L1_Hs {R : Type} {F : Tb} (sd : Sd F) {c : Code} {st : WSt T} {k : Ex × WSt T → Option R} {r : R} (h : through_L1_H F c st k = some r) : ∃ x, k x = some r ∧ LoopSaid cfgL cod (.loop c) st x := by
 refine hand_sound (c0 := loopAt 142 [0, 1, 0, 1, 1]) (q := through_L1_q) (s := fun st' => (through_L1_A st' fun p0 p1 p2 p3 p4 p5 v => through_L1_S p0 p1 p2 p3 p4 p5 v)) (L := fun st' => (through_L1_A st' fun p0 p1 p2 p3 p4 p5 v => F.through_L1 p0 p1 p2 p3 p4 p5 v)) (E := fun st' o => (through_L1_A st' fun p0 p1 p2 p3 p4 p5 v => through_L1_E p0 p1 p2 p3 p4 p5 o)) ?_ (fun st' o h => sd.through_L1 _ _ _ _ _ _ _ o h)
 rw [← h]
 unfold through_L1_H
 exact congrArg (opK _) (funext fun st' => congrArg (opK _) (funext fun _ => congrArg (opK _) (funext fun o => by rcases o with (o | o) <;> rfl)))
theorem look_L0_Hs {R : Type} {F : Tb} (sd : Sd F) {c : Code} {st : WSt T} {k : Ex × WSt T → Option R} {r : R} (h : look_L0_H F c st k = some r) : ∃ x, k x = some r ∧ LoopSaid cfgL cod (.loop c) st x := by
 refine hand_sound (c0 := loopAt 144 [0, 1, 0, 1, 1, 1]) (q := look_L0_q) (s := fun st' => (look_L0_A st' fun p0 p1 p2 p3 p4 p5 v => look_L0_S p0 p1 p2 p3 p4 p5 v)) (L := fun st' => (look_L0_A st' fun p0 p1 p2 p3 p4 p5 v => F.look_L0 p0 p1 p2 p3 p4 p5 v)) (E := fun st' o => (look_L0_A st' fun p0 p1 p2 p3 p4 p5 v => look_L0_E p0 p1 p2 p3 p4 p5 o)) ?_ (fun st' o h => sd.look_L0 _ _ _ _ _ _ _ o h)
 rw [← h]
 unfold look_L0_H
 exact congrArg (opK _) (funext fun st' => congrArg (opK _) (funext fun _ => congrArg (opK _) (funext fun o => by rcases o with (o | o) <;> rfl)))
theorem right_L0_Hs {R : Type} {F : Tb} (sd : Sd F) {c : Code} {st : WSt T} {k : Ex × WSt T → Option R} {r : R} (h : right_L0_H F c st k = some r) : ∃ x, k x = some r ∧ LoopSaid cfgL cod (.loop c) st x := by
 refine hand_sound (c0 := loopAt 96 [0, 1, 0, 1]) (q := right_L0_q) (s := fun st' => (right_L0_A st' fun p0 p1 p2 p3 v => right_L0_S p0 p1 p2 p3 v)) (L := fun st' => (right_L0_A st' fun p0 p1 p2 p3 v => F.right_L0 p0 p1 p2 p3 v)) (E := fun st' o => (right_L0_A st' fun p0 p1 p2 p3 v => right_L0_E p0 p1 p2 p3 o)) ?_ (fun st' o h => sd.right_L0 _ _ _ _ _ o h)
 rw [← h]
 unfold right_L0_H
 exact congrArg (opK _) (funext fun st' => congrArg (opK _) (funext fun _ => congrArg (opK _) (funext fun o => by rcases o with (o | o) <;> rfl)))
theorem f221_L0_Hs {R : Type} {F : Tb} (sd : Sd F) {c : Code} {st : WSt T} {k : Ex × WSt T → Option R} {r : R} (h : f221_L0_H F c st k = some r) : ∃ x, k x = some r ∧ LoopSaid cfgL cod (.loop c) st x := by
 refine hand_sound (c0 := loopAt 221 [0, 0, 1]) (q := f221_L0_q) (s := fun st' => (f221_L0_A st' fun v => f221_L0_S v)) (L := fun st' => (f221_L0_A st' fun v => F.f221_L0 v)) (E := fun st' o => (f221_L0_A st' fun v => f221_L0_E o)) ?_ (fun st' o h => sd.f221_L0 _ o h)
 rw [← h]
 unfold f221_L0_H
 exact congrArg (opK _) (funext fun st' => congrArg (opK _) (funext fun _ => congrArg (opK _) (funext fun o => by rcases o with (o | o) <;> rfl)))
theorem decimal_L0_Hs {R : Type} {F : Tb} (sd : Sd F) {c : Code} {st : WSt T} {k : Ex × WSt T → Option R} {r : R} (h : decimal_L0_H F c st k = some r) : ∃ x, k x = some r ∧ LoopSaid cfgL cod (.loop c) st x := by
 refine hand_sound (c0 := loopAt 185 [0, 1, 0, 1, 1]) (q := decimal_L0_q) (s := fun st' => (decimal_L0_A st' fun p0 p1 v => decimal_L0_S p0 p1 v)) (L := fun st' => (decimal_L0_A st' fun p0 p1 v => F.decimal_L0 p0 p1 v)) (E := fun st' o => (decimal_L0_A st' fun p0 p1 v => decimal_L0_E p0 p1 o)) ?_ (fun st' o h => sd.decimal_L0 _ _ _ o h)
 rw [← h]
 unfold decimal_L0_H
 exact congrArg (opK _) (funext fun st' => congrArg (opK _) (funext fun _ => congrArg (opK _) (funext fun o => by rcases o with (o | o) <;> rfl)))
theorem ratio_L0_Hs {R : Type} {F : Tb} (sd : Sd F) {c : Code} {st : WSt T} {k : Ex × WSt T → Option R} {r : R} (h : ratio_L0_H F c st k = some r) : ∃ x, k x = some r ∧ LoopSaid cfgL cod (.loop c) st x := by
 refine hand_sound (c0 := loopAt 155 [0, 0, 1, 1, 1, 1, 1, 1, 1]) (q := ratio_L0_q) (s := fun st' => (ratio_L0_A st' fun v => ratio_L0_S v)) (L := fun st' => (ratio_L0_A st' fun v => F.ratio_L0 v)) (E := fun st' o => (ratio_L0_A st' fun v => ratio_L0_E o)) ?_ (fun st' o h => sd.ratio_L0 _ o h)
 rw [← h]
 unfold ratio_L0_H
 rfl
theorem product_L0_Hs {R : Type} {F : Tb} (sd : Sd F) {c : Code} {st : WSt T} {k : Ex × WSt T → Option R} {r : R} (h : product_L0_H F c st k = some r) : ∃ x, k x = some r ∧ LoopSaid cfgL cod (.loop c) st x := by
 refine hand_sound (c0 := loopAt 159 [0, 1, 0, 1, 1, 1]) (q := product_L0_q) (s := fun st' => (product_L0_A st' fun p0 p1 v => product_L0_S p0 p1 v)) (L := fun st' => (product_L0_A st' fun p0 p1 v => F.product_L0 p0 p1 v)) (E := fun st' o => (product_L0_A st' fun p0 p1 v => product_L0_E p0 p1 o)) ?_ (fun st' o h => sd.product_L0 _ _ _ o h)
 rw [← h]
 unfold product_L0_H
 rfl
theorem IndexInt_L0_Hs {R : Type} {F : Tb} (sd : Sd F) {c : Code} {st : WSt T} {k : Ex × WSt T → Option R} {r : R} (h : IndexInt_L0_H F c st k = some r) : ∃ x, k x = some r ∧ LoopSaid cfgL cod (.loop c) st x := by
 refine hand_sound (c0 := loopAt 163 [0, 1, 0, 1]) (q := IndexInt_L0_q) (s := fun st' => (IndexInt_L0_A st' fun p0 p1 p2 v => IndexInt_L0_S p0 p1 p2 v)) (L := fun st' => (IndexInt_L0_A st' fun p0 p1 p2 v => F.IndexInt_L0 p0 p1 p2 v)) (E := fun st' o => (IndexInt_L0_A st' fun p0 p1 p2 v => IndexInt_L0_E p0 p1 p2 o)) ?_ (fun st' o h => sd.IndexInt_L0 _ _ _ _ o h)
 rw [← h]
 unfold IndexInt_L0_H
 exact congrArg (opK _) (funext fun st' => congrArg (opK _) (funext fun _ => congrArg (opK _) (funext fun o => by rcases o with (o | o) <;> rfl)))
theorem labels_L0_Hs {R : Type} {F : Tb} (sd : Sd F) {c : Code} {st : WSt T} {k : Ex × WSt T → Option R} {r : R} (h : labels_L0_H F c st k = some r) : ∃ x, k x = some r ∧ LoopSaid cfgL cod (.loop c) st x := by
 refine hand_sound (c0 := loopAt 104 [0, 1, 0, 1, 1, 1]) (q := labels_L0_q) (s := fun st' => (labels_L0_A st' fun p0 p1 p2 p3 v => labels_L0_S p0 p1 p2 p3 v)) (L := fun st' => (labels_L0_A st' fun p0 p1 p2 p3 v => F.labels_L0 p0 p1 p2 p3 v)) (E := fun st' o => (labels_L0_A st' fun p0 p1 p2 p3 v => labels_L0_E p0 p1 p2 p3 o)) ?_ (fun st' o h => sd.labels_L0 _ _ _ _ _ o h)
 rw [← h]
 unfold labels_L0_H
 exact congrArg (opK _) (funext fun st' => congrArg (opK _) (funext fun _ => congrArg (opK _) (funext fun o => by rcases o with (o | o) <;> rfl)))
theorem rdimensions_L0_Hs {R : Type} {F : Tb} (sd : Sd F) {c : Code} {st : WSt T} {k : Ex × WSt T → Option R} {r : R} (h : rdimensions_L0_H F c st k = some r) : ∃ x, k x = some r ∧ LoopSaid cfgL cod (.loop c) st x := by
 refine hand_sound (c0 := loopAt 102 [0, 1, 0, 1, 1, 1, 1]) (q := rdimensions_L0_q) (s := fun st' => (rdimensions_L0_A st' fun p0 v => rdimensions_L0_S p0 v)) (L := fun st' => (rdimensions_L0_A st' fun p0 v => F.rdimensions_L0 p0 v)) (E := fun st' o => (rdimensions_L0_A st' fun p0 v => rdimensions_L0_E p0 o)) ?_ (fun st' o h => sd.rdimensions_L0 _ _ o h)
 rw [← h]
 unfold rdimensions_L0_H
 exact congrArg (opK _) (funext fun st' => congrArg (opK _) (funext fun _ => congrArg (opK _) (funext fun o => by rcases o with (o | o) <;> rfl)))
theorem nodes_L0_Hs {R : Type} {F : Tb} (sd : Sd F) {c : Code} {st : WSt T} {k : Ex × WSt T → Option R} {r : R} (h : nodes_L0_H F c st k = some r) : ∃ x, k x = some r ∧ LoopSaid cfgL cod (.loop c) st x := by
 refine hand_sound (c0 := loopAt 103 [0, 1, 0, 1, 1]) (q := nodes_L0_q) (s := fun st' => (nodes_L0_A st' fun p0 p1 p2 p3 v => nodes_L0_S p0 p1 p2 p3 v)) (L := fun st' => (nodes_L0_A st' fun p0 p1 p2 p3 v => F.nodes_L0 p0 p1 p2 p3 v)) (E := fun st' o => (nodes_L0_A st' fun p0 p1 p2 p3 v => nodes_L0_E p0 p1 p2 p3 o)) ?_ (fun st' o h => sd.nodes_L0 _ _ _ _ _ o h)
 rw [← h]
 unfold nodes_L0_H
 exact congrArg (opK _) (funext fun st' => congrArg (opK _) (funext fun _ => congrArg (opK _) (funext fun o => by rcases o with (o | o) <;> rfl)))
theorem within_L0_Hs {R : Type} {F : Tb} (sd : Sd F) {c : Code} {st : WSt T} {k : Ex × WSt T → Option R} {r : R} (h : within_L0_H F c st k = some r) : ∃ x, k x = some r ∧ LoopSaid cfgL cod (.loop c) st x := by
 refine hand_sound (c0 := loopAt 147 [0, 1, 0, 1]) (q := within_L0_q) (s := fun st' => (within_L0_A st' fun p0 p1 v => within_L0_S p0 p1 v)) (L := fun st' => (within_L0_A st' fun p0 p1 v => F.within_L0 p0 p1 v)) (E := fun st' o => (within_L0_A st' fun p0 p1 v => within_L0_E p0 p1 o)) ?_ (fun st' o h => sd.within_L0 _ _ _ o h)
 rw [← h]
 unfold within_L0_H
 exact congrArg (opK _) (funext fun st' => congrArg (opK _) (funext fun _ => congrArg (opK _) (funext fun o => by rcases o with (o | o) <;> rfl)))
theorem digits_L0_Hs {R : Type} {F : Tb} (sd : Sd F) {c : Code} {st : WSt T} {k : Ex × WSt T → Option R} {r : R} (h : digits_L0_H F c st k = some r) : ∃ x, k x = some r ∧ LoopSaid cfgL cod (.loop c) st x := by
 refine hand_sound (c0 := loopAt 165 [0, 1, 0, 1]) (q := digits_L0_q) (s := fun st' => (digits_L0_A st' fun p0 v => digits_L0_S p0 v)) (L := fun st' => (digits_L0_A st' fun p0 v => F.digits_L0 p0 v)) (E := fun st' o => (digits_L0_A st' fun p0 v => digits_L0_E p0 o)) ?_ (fun st' o h => sd.digits_L0 _ _ o h)
 rw [← h]
 unfold digits_L0_H
 exact congrArg (opK _) (funext fun st' => congrArg (opK _) (funext fun _ => congrArg (opK _) (funext fun o => by rcases o with (o | o) <;> rfl)))
theorem value_L0_Hs {R : Type} {F : Tb} (sd : Sd F) {c : Code} {st : WSt T} {k : Ex × WSt T → Option R} {r : R} (h : value_L0_H F c st k = some r) : ∃ x, k x = some r ∧ LoopSaid cfgL cod (.loop c) st x := by
 refine hand_sound (c0 := loopAt 166 [0, 1, 0, 1, 1]) (q := value_L0_q) (s := fun st' => (value_L0_A st' fun p0 v => value_L0_S p0 v)) (L := fun st' => (value_L0_A st' fun p0 v => F.value_L0 p0 v)) (E := fun st' o => (value_L0_A st' fun p0 v => value_L0_E p0 o)) ?_ (fun st' o h => sd.value_L0 _ _ o h)
 rw [← h]
 unfold value_L0_H
 rfl
theorem rproduct_L0_Hs {R : Type} {F : Tb} (sd : Sd F) {c : Code} {st : WSt T} {k : Ex × WSt T → Option R} {r : R} (h : rproduct_L0_H F c st k = some r) : ∃ x, k x = some r ∧ LoopSaid cfgL cod (.loop c) st x := by
 refine hand_sound (c0 := loopAt 172 [0, 1, 0, 1]) (q := rproduct_L0_q) (s := fun st' => (rproduct_L0_A st' fun p0 v => rproduct_L0_S p0 v)) (L := fun st' => (rproduct_L0_A st' fun p0 v => F.rproduct_L0 p0 v)) (E := fun st' o => (rproduct_L0_A st' fun p0 v => rproduct_L0_E p0 o)) ?_ (fun st' o h => sd.rproduct_L0 _ _ o h)
 rw [← h]
 unfold rproduct_L0_H
 exact congrArg (opK _) (funext fun st' => congrArg (opK _) (funext fun _ => congrArg (opK _) (funext fun o => by rcases o with (o | o) <;> rfl)))
theorem rproduct_L1_Hs {R : Type} {F : Tb} (sd : Sd F) {c : Code} {st : WSt T} {k : Ex × WSt T → Option R} {r : R} (h : rproduct_L1_H F c st k = some r) : ∃ x, k x = some r ∧ LoopSaid cfgL cod (.loop c) st x := by
 refine hand_sound (c0 := loopAt 172 [0, 1, 0, 1, 1, 1]) (q := rproduct_L1_q) (s := fun st' => (rproduct_L1_A st' fun p0 v => rproduct_L1_S p0 v)) (L := fun st' => (rproduct_L1_A st' fun p0 v => F.rproduct_L1 p0 v)) (E := fun st' o => (rproduct_L1_A st' fun p0 v => rproduct_L1_E p0 o)) ?_ (fun st' o h => sd.rproduct_L1 _ _ o h)
 rw [← h]
 unfold rproduct_L1_H
 rfl
theorem atom_L0_Hs {R : Type} {F : Tb} (sd : Sd F) {c : Code} {st : WSt T} {k : Ex × WSt T → Option R} {r : R} (h : atom_L0_H F c st k = some r) : ∃ x, k x = some r ∧ LoopSaid cfgL cod (.loop c) st x := by
 refine hand_sound (c0 := loopAt 174 [0, 1, 0, 0, 1, 1, 1, 1, 1, 1, 1, 1, 1, 1, 1, 0, 1, 0, 1, 1]) (q := atom_L0_q) (s := fun st' => (atom_L0_A st' fun p0 p1 p2 p3 v => atom_L0_S p0 p1 p2 p3 v)) (L := fun st' => (atom_L0_A st' fun p0 p1 p2 p3 v => F.atom_L0 p0 p1 p2 p3 v)) (E := fun st' o => (atom_L0_A st' fun p0 p1 p2 p3 v => atom_L0_E p0 p1 p2 p3 o)) ?_ (fun st' o h => sd.atom_L0 _ _ _ _ _ o h)
 rw [← h]
 unfold atom_L0_H
 exact congrArg (opK _) (funext fun st' => congrArg (opK _) (funext fun _ => congrArg (opK _) (funext fun o => by rcases o with (o | o) <;> rfl)))
theorem rratio_L0_Hs {R : Type} {F : Tb} (sd : Sd F) {c : Code} {st : WSt T} {k : Ex × WSt T → Option R} {r : R} (h : rratio_L0_H F c st k = some r) : ∃ x, k x = some r ∧ LoopSaid cfgL cod (.loop c) st x := by
 refine hand_sound (c0 := loopAt 205 [0, 1, 0, 1, 1]) (q := rratio_L0_q) (s := fun st' => (rratio_L0_A st' fun p0 v => rratio_L0_S p0 v)) (L := fun st' => (rratio_L0_A st' fun p0 v => F.rratio_L0 p0 v)) (E := fun st' o => (rratio_L0_A st' fun p0 v => rratio_L0_E p0 o)) ?_ (fun st' o h => sd.rratio_L0 _ _ o h)
 rw [← h]
 unfold rratio_L0_H
 rfl
theorem rratio_L1_Hs {R : Type} {F : Tb} (sd : Sd F) {c : Code} {st : WSt T} {k : Ex × WSt T → Option R} {r : R} (h : rratio_L1_H F c st k = some r) : ∃ x, k x = some r ∧ LoopSaid cfgL cod (.loop c) st x := by
 refine hand_sound (c0 := loopAt 205 [0, 0, 1, 1, 1, 1, 1, 1, 1, 1, 1]) (q := rratio_L1_q) (s := fun st' => (rratio_L1_A st' fun v => rratio_L1_S v)) (L := fun st' => (rratio_L1_A st' fun v => F.rratio_L1 v)) (E := fun st' o => (rratio_L1_A st' fun v => rratio_L1_E o)) ?_ (fun st' o h => sd.rratio_L1 _ o h)
 rw [← h]
 unfold rratio_L1_H
 rfl
theorem hex_L0_Hs {R : Type} {F : Tb} (sd : Sd F) {c : Code} {st : WSt T} {k : Ex × WSt T → Option R} {r : R} (h : hex_L0_H F c st k = some r) : ∃ x, k x = some r ∧ LoopSaid cfgL cod (.loop c) st x := by
 refine hand_sound (c0 := loopAt 206 [0, 1, 0, 1]) (q := hex_L0_q) (s := fun st' => (hex_L0_A st' fun p0 p1 v => hex_L0_S p0 p1 v)) (L := fun st' => (hex_L0_A st' fun p0 p1 v => F.hex_L0 p0 p1 v)) (E := fun st' o => (hex_L0_A st' fun p0 p1 v => hex_L0_E p0 p1 o)) ?_ (fun st' o h => sd.hex_L0 _ _ _ o h)
 rw [← h]
 unfold hex_L0_H
 exact congrArg (opK _) (funext fun st' => congrArg (opK _) (funext fun _ => congrArg (opK _) (funext fun o => by rcases o with (o | o) <;> rfl)))
theorem FormChecks_L0_Hs {R : Type} {F : Tb} (sd : Sd F) {c : Code} {st : WSt T} {k : Ex × WSt T → Option R} {r : R} (h : FormChecks_L0_H F c st k = some r) : ∃ x, k x = some r ∧ LoopSaid cfgL cod (.loop c) st x := by
 refine hand_sound (c0 := loopAt 5 [0, 1, 0, 1, 1, 1, 1, 1, 1, 1]) (q := FormChecks_L0_q) (s := fun st' => (FormChecks_L0_A st' fun p0 p1 p2 p3 p4 p5 p6 p7 p8 p9 p10 p11 p12 v => FormChecks_L0_S p0 p1 p2 p3 p4 p5 p6 p7 p8 p9 p10 p11 p12 v)) (L := fun st' => (FormChecks_L0_A st' fun p0 p1 p2 p3 p4 p5 p6 p7 p8 p9 p10 p11 p12 v => F.FormChecks_L0 p0 p1 p2 p3 p4 p5 p6 p7 p8 p9 p10 p11 p12 v)) (E := fun st' o => (FormChecks_L0_A st' fun p0 p1 p2 p3 p4 p5 p6 p7 p8 p9 p10 p11 p12 v => FormChecks_L0_E p0 p1 p2 p3 p4 p5 p6 p7 p8 p9 p10 p11 p12 o)) ?_ (fun st' o h => sd.FormChecks_L0 _ _ _ _ _ _ _ _ _ _ _ _ _ _ o h)
 rw [← h]
 unfold FormChecks_L0_H
 exact congrArg (opK _) (funext fun st' => congrArg (opK _) (funext fun _ => congrArg (opK _) (funext fun o => by rcases o with (o | o) <;> rfl)))
theorem rSize_L0_Hs {R : Type} {F : Tb} (sd : Sd F) {c : Code} {st : WSt T} {k : Ex × WSt T → Option R} {r : R} (h : rSize_L0_H F c st k = some r) : ∃ x, k x = some r ∧ LoopSaid cfgL cod (.loop c) st x := by
 refine hand_sound (c0 := loopAt 24 [0, 1, 0, 1, 1]) (q := rSize_L0_q) (s := fun st' => (rSize_L0_A st' fun p0 p1 p2 p3 v => rSize_L0_S p0 p1 p2 p3 v)) (L := fun st' => (rSize_L0_A st' fun p0 p1 p2 p3 v => F.rSize_L0 p0 p1 p2 p3 v)) (E := fun st' o => (rSize_L0_A st' fun p0 p1 p2 p3 v => rSize_L0_E p0 p1 p2 p3 o)) ?_ (fun st' o h => sd.rSize_L0 _ _ _ _ _ o h)
 rw [← h]
 unfold rSize_L0_H
 rfl
theorem loopT0_ok {R : Type} {F : Tb} (sd : Sd F) {c : Code} {p : List Nat} {st : WSt T} {k : Ex × WSt T → Option R} {r : R} (h : loopT0 F c p st k = some r) : ∃ x, k x = some r ∧ LoopSaid cfgL cod (.loop c) st x := by
 unfold loopT0 at h
 rcases bif_or h with ⟨_, h⟩ | h
 ·exact Size_L0_Hs sd h
 rcases bif_or h with ⟨_, h⟩ | h
 ·exact rEqual_L0_Hs sd h
 rcases bif_or h with ⟨_, h⟩ | h
 ·exact left_L0_Hs sd h
 rcases bif_or h with ⟨_, h⟩ | h
 ·exact EqualFunc_L0_Hs sd h
 rcases bif_or h with ⟨_, h⟩ | h
 ·exact through_L0_Hs sd h
 rcases bif_or h with ⟨_, h⟩ | h
 ·exact through_L1_Hs sd h
 rcases bif_or h with ⟨_, h⟩ | h
 ·exact look_L0_Hs sd h
 rcases bif_or h with ⟨_, h⟩ | h
 ·exact right_L0_Hs sd h
 rcases bif_or h with ⟨_, h⟩ | h
 ·exact f221_L0_Hs sd h
 rcases bif_or h with ⟨_, h⟩ | h
 ·exact decimal_L0_Hs sd h
 rcases bif_or h with ⟨_, h⟩ | h
 ·exact ratio_L0_Hs sd h
 rcases bif_or h with ⟨_, h⟩ | h
 ·exact product_L0_Hs sd h
 rcases bif_or h with ⟨_, h⟩ | h
 ·exact IndexInt_L0_Hs sd h
 rcases bif_or h with ⟨_, h⟩ | h
 ·exact labels_L0_Hs sd h
 rcases bif_or h with ⟨_, h⟩ | h
 ·exact rdimensions_L0_Hs sd h
 rcases bif_or h with ⟨_, h⟩ | h
 ·exact nodes_L0_Hs sd h
 rcases bif_or h with ⟨_, h⟩ | h
 ·exact within_L0_Hs sd h
 rcases bif_or h with ⟨_, h⟩ | h
 ·exact digits_L0_Hs sd h
 rcases bif_or h with ⟨_, h⟩ | h
 ·exact value_L0_Hs sd h
 rcases bif_or h with ⟨_, h⟩ | h
 ·exact rproduct_L0_Hs sd h
 rcases bif_or h with ⟨_, h⟩ | h
 ·exact rproduct_L1_Hs sd h
 rcases bif_or h with ⟨_, h⟩ | h
 ·exact atom_L0_Hs sd h
 rcases bif_or h with ⟨_, h⟩ | h
 ·exact rratio_L0_Hs sd h
 rcases bif_or h with ⟨_, h⟩ | h
 ·exact rratio_L1_Hs sd h
 rcases bif_or h with ⟨_, h⟩ | h
 ·exact hex_L0_Hs sd h
 rcases bif_or h with ⟨_, h⟩ | h
 ·exact FormChecks_L0_Hs sd h
 rcases bif_or h with ⟨_, h⟩ | h
 ·exact rSize_L0_Hs sd h
 cases h
theorem labels_P1_Hs {R : Type} {F : Tb} (sd : Sd F) {c : Code} {p : List Nat} {st : WSt T} {k : Ex × WSt T → Option R} {r : R} (h : labels_P1_H F c p st k = some r) : ∃ x, k x = some r ∧ LoopSaid cfgL cod (.loop c) st x := by
 refine hand_peel (c0 := loopAt 104 [0, 1, 0, 1, 1, 1]) (q := labels_P1_q) (s := fun st' => (labels_P1_A st' fun p0 p1 p2 p3 p4 p5 p6 => labels_P1_S p0 p1 p2 p3 p4 p5 p6)) (L := fun st' => (labels_P1_A st' fun p0 p1 p2 p3 p4 p5 p6 => F.labels_P1 p0 p1 p2 p3 p4 p5 p6)) (E := fun st' o => (labels_P1_A st' fun p0 p1 p2 p3 p4 p5 p6 => labels_P1_E p0 p1 p2 p3 p4 p5 p6 o)) (J := fun c st k => loopT0 F c p st k) ?_ (fun st' o h => sd.labels_P1 _ _ _ _ _ _ _ o h) (fun h => loopT0_ok sd h)
 rw [← h]
 unfold labels_P1_H
 exact congrArg (opK _) (funext fun st' => congrArg (opK _) (funext fun _ => congrArg (opK _) (funext fun o => by rcases o with (o | (o | o)) <;> rfl)))
theorem loopT1_ok {R : Type} {F : Tb} (sd : Sd F) {c : Code} {p : List Nat} {st : WSt T} {k : Ex × WSt T → Option R} {r : R} (h : loopT1 F c p st k = some r) : ∃ x, k x = some r ∧ LoopSaid cfgL cod (.loop c) st x := by
 unfold loopT1 at h
 rcases bif_or h with ⟨_, h⟩ | h
 ·exact labels_P1_Hs sd h
 ·exact loopT0_ok sd h
theorem cutT_ok {R : Type} {F : Tb} (sd : Sd F) {c : Code} {p : List Nat} {st : WSt T} {k : Ex × WSt T → Option R} {r : R} (h : cutT F c p st k = some r) : ∃ x, k x = some r ∧ LoopSaid cfgL cod c st x := by
 unfold cutT at h
 cases h
theorem II_ok {R : Type} {F : Tb} (sd : Sd F) : IOk cfgL cod (II R F) where
 pur := fun h => purT_ok sd h
 ext := fun h => extT_ok h
 frz := fun h => frzT_ok sd h
 call := fun h => callT_ok sd h
 yld := fun h => by cases h
 loop := fun h => loopT1_ok sd h
 cut := fun {_ p _ _ _} h => cutT_ok sd (p := p) h
theorem Size_L0_ok (F : Tb) (p0 : List Form) (p1 : Int) (p2 : Int) (p3 : Bs) (p4 : Bs) (v : (Int) × (Int) × (Int)) (K : Ex × WSt T → Option (Ex × WSt T)) : roundWK cfgL wcL (inlN cfgL wcL 6 (II _ F)) (loopAt 23 [0, 1, 0, 1, 1]) [0, 1, 0, 1, 1, 23] Size_L0_q (Size_L0_S p0 p1 p2 p3 p4 v) K = Size_L0_R F p0 p1 p2 p3 p4 v fun x => sumK x (fun o => K ((.exit 0), Size_L0_O0 p0 p1 p2 p3 p4 o)) (fun v => K (.normal, Size_L0_S p0 p1 p2 p3 p4 v)) := by kernel_rfl
theorem Size_L0_par {R : Type} (F : Tb) (p0 : List Form) (p1 : Int) (p2 : Int) (p3 : Bs) (p4 : Bs) (v : (Int) × (Int) × (Int)) (K : ((Int) × (Int) × (Int)) ⊕ ((Int) × (Int) × (Int)) → Option R) : Size_L0_R F p0 p1 p2 p3 p4 v K = opK (Size_L0_R F p0 p1 p2 p3 p4 v some) K := by
 unfold Size_L0_R
 simp only [opK_cnd, opK_opK, opK_sumK, opK_none, opK_one]
theorem Size_L0_sd {F : Tb} (sd : Sd F) (p0 : List Form) (p1 : Int) (p2 : Int) (p3 : Bs) (p4 : Bs) (m : Nat) (v : (Int) × (Int) × (Int)) (o : (Int) × (Int) × (Int)) (h : iterL (fun v K => Size_L0_R F p0 p1 p2 p3 p4 v K) m v = some o) : LoopSaid cfgL cod (.loop (loopAt 23 [0, 1, 0, 1, 1])) (Size_L0_S p0 p1 p2 p3 p4 v) (Size_L0_E p0 p1 p2 p3 p4 o) :=
 loop_sd codOk (II_ok sd) (Size_L0_S p0 p1 p2 p3 p4) (Size_L0_E p0 p1 p2 p3 p4) (by intro o; intro h; cases h) (fun v => Size_L0_R F p0 p1 p2 p3 p4 v some) _ (fun v K => Size_L0_par F p0 p1 p2 p3 p4 v K) (fun v x h => by
  have e := Size_L0_ok F p0 p1 p2 p3 p4 v some
  rw [Size_L0_par, h] at e
  rw [e]
  rcases x with o | v <;> rfl) m v o h
theorem rEqual_L0_ok (F : Tb) (p0 : Int) (p1 : Bs) (p2 : Bs) (p3 : List Form) (p4 : Int) (p5 : Bs) (p6 : Bs) (p7 : List Form) (v : (Int)) (K : Ex × WSt T → Option (Ex × WSt T)) : roundWK cfgL wcL (inlN cfgL wcL 6 (II _ F)) (loopAt 15 [0, 1, 0, 1, 1]) [0, 1, 0, 1, 1, 15] rEqual_L0_q (rEqual_L0_S p0 p1 p2 p3 p4 p5 p6 p7 v) K = rEqual_L0_R F p0 p1 p2 p3 p4 p5 p6 p7 v fun x => sumK x (fun o => sumK o (fun o => K (.ret, rEqual_L0_O0 p0 p1 p2 p3 p4 p5 p6 p7 o)) (fun o => K ((.exit 0), rEqual_L0_O1 p0 p1 p2 p3 p4 p5 p6 p7 o))) (fun v => K (.normal, rEqual_L0_S p0 p1 p2 p3 p4 p5 p6 p7 v)) := by kernel_rfl
theorem rEqual_L0_par {R : Type} (F : Tb) (p0 : Int) (p1 : Bs) (p2 : Bs) (p3 : List Form) (p4 : Int) (p5 : Bs) (p6 : Bs) (p7 : List Form) (v : (Int)) (K : (((Int)) ⊕ ((Int))) ⊕ ((Int)) → Option R) : rEqual_L0_R F p0 p1 p2 p3 p4 p5 p6 p7 v K = opK (rEqual_L0_R F p0 p1 p2 p3 p4 p5 p6 p7 v some) K := by
 unfold rEqual_L0_R
 simp only [opK_cnd, opK_opK, opK_sumK, opK_none, opK_one]
theorem rEqual_L0_sd {F : Tb} (sd : Sd F) (p0 : Int) (p1 : Bs) (p2 : Bs) (p3 : List Form) (p4 : Int) (p5 : Bs) (p6 : Bs) (p7 : List Form) (m : Nat) (v : (Int)) (o : ((Int)) ⊕ ((Int))) (h : iterL (fun v K => rEqual_L0_R F p0 p1 p2 p3 p4 p5 p6 p7 v K) m v = some o) : LoopSaid cfgL cod (.loop (loopAt 15 [0, 1, 0, 1, 1])) (rEqual_L0_S p0 p1 p2 p3 p4 p5 p6 p7 v) (rEqual_L0_E p0 p1 p2 p3 p4 p5 p6 p7 o) :=
 loop_sd codOk (II_ok sd) (rEqual_L0_S p0 p1 p2 p3 p4 p5 p6 p7) (rEqual_L0_E p0 p1 p2 p3 p4 p5 p6 p7) (by intro o; rcases o with (o | o) <;> (intro h; cases h)) (fun v => rEqual_L0_R F p0 p1 p2 p3 p4 p5 p6 p7 v some) _ (fun v K => rEqual_L0_par F p0 p1 p2 p3 p4 p5 p6 p7 v K) (fun v x h => by
  have e := rEqual_L0_ok F p0 p1 p2 p3 p4 p5 p6 p7 v some
  rw [rEqual_L0_par, h] at e
  rw [e]
  rcases x with (o | o) | v <;> rfl) m v o h
theorem left_L0_ok (F : Tb) (p0 : Int) (p1 : Bs) (p2 : Bs) (p3 : List Form) (v : (Int) × (Int)) (K : Ex × WSt T → Option (Ex × WSt T)) : roundWK cfgL wcL (inlN cfgL wcL 6 (II _ F)) (loopAt 73 [0, 1, 0, 1, 1]) [0, 1, 0, 1, 1, 73] left_L0_q (left_L0_S p0 p1 p2 p3 v) K = left_L0_R F p0 p1 p2 p3 v fun x => sumK x (fun o => K ((.exit 0), left_L0_O0 p0 p1 p2 p3 o)) (fun v => K (.normal, left_L0_S p0 p1 p2 p3 v)) := by kernel_rfl
theorem left_L0_par {R : Type} (F : Tb) (p0 : Int) (p1 : Bs) (p2 : Bs) (p3 : List Form) (v : (Int) × (Int)) (K : ((Int) × (Int)) ⊕ ((Int) × (Int)) → Option R) : left_L0_R F p0 p1 p2 p3 v K = opK (left_L0_R F p0 p1 p2 p3 v some) K := by
 unfold left_L0_R
 simp only [opK_cnd, opK_opK, opK_sumK, opK_none, opK_one]
theorem left_L0_sd {F : Tb} (sd : Sd F) (p0 : Int) (p1 : Bs) (p2 : Bs) (p3 : List Form) (m : Nat) (v : (Int) × (Int)) (o : (Int) × (Int)) (h : iterL (fun v K => left_L0_R F p0 p1 p2 p3 v K) m v = some o) : LoopSaid cfgL cod (.loop (loopAt 73 [0, 1, 0, 1, 1])) (left_L0_S p0 p1 p2 p3 v) (left_L0_E p0 p1 p2 p3 o) :=
 loop_sd codOk (II_ok sd) (left_L0_S p0 p1 p2 p3) (left_L0_E p0 p1 p2 p3) (by intro o; intro h; cases h) (fun v => left_L0_R F p0 p1 p2 p3 v some) _ (fun v K => left_L0_par F p0 p1 p2 p3 v K) (fun v x h => by
  have e := left_L0_ok F p0 p1 p2 p3 v some
  rw [left_L0_par, h] at e
  rw [e]
  rcases x with o | v <;> rfl) m v o h
theorem EqualFunc_L0_ok (F : Tb) (p0 : List Form) (p1 : List Form) (p2 : Int) (v : (Int)) (K : Ex × WSt T → Option (Ex × WSt T)) : roundWK cfgL wcL (inlN cfgL wcL 6 (II _ F)) (loopAt 98 [0, 1, 0, 1, 1]) [0, 1, 0, 1, 1, 98] EqualFunc_L0_q (EqualFunc_L0_S p0 p1 p2 v) K = EqualFunc_L0_R F p0 p1 p2 v fun x => sumK x (fun o => sumK o (fun o => K (.ret, EqualFunc_L0_O0 p0 p1 p2 o)) (fun o => K ((.exit 0), EqualFunc_L0_O1 p0 p1 p2 o))) (fun v => K (.normal, EqualFunc_L0_S p0 p1 p2 v)) := by kernel_rfl
theorem EqualFunc_L0_par {R : Type} (F : Tb) (p0 : List Form) (p1 : List Form) (p2 : Int) (v : (Int)) (K : (((Int)) ⊕ ((Int))) ⊕ ((Int)) → Option R) : EqualFunc_L0_R F p0 p1 p2 v K = opK (EqualFunc_L0_R F p0 p1 p2 v some) K := by
 unfold EqualFunc_L0_R
 simp only [opK_cnd, opK_opK, opK_sumK, opK_none, opK_one]
theorem EqualFunc_L0_sd {F : Tb} (sd : Sd F) (p0 : List Form) (p1 : List Form) (p2 : Int) (m : Nat) (v : (Int)) (o : ((Int)) ⊕ ((Int))) (h : iterL (fun v K => EqualFunc_L0_R F p0 p1 p2 v K) m v = some o) : LoopSaid cfgL cod (.loop (loopAt 98 [0, 1, 0, 1, 1])) (EqualFunc_L0_S p0 p1 p2 v) (EqualFunc_L0_E p0 p1 p2 o) :=
 loop_sd codOk (II_ok sd) (EqualFunc_L0_S p0 p1 p2) (EqualFunc_L0_E p0 p1 p2) (by intro o; rcases o with (o | o) <;> (intro h; cases h)) (fun v => EqualFunc_L0_R F p0 p1 p2 v some) _ (fun v K => EqualFunc_L0_par F p0 p1 p2 v K) (fun v x h => by
  have e := EqualFunc_L0_ok F p0 p1 p2 v some
  rw [EqualFunc_L0_par, h] at e
  rw [e]
  rcases x with (o | o) | v <;> rfl) m v o h
theorem through_L0_ok (F : Tb) (p0 : List Form) (p1 : Int) (p2 : Int) (p3 : Int) (p4 : Bs) (p5 : Bs) (v : (Int)) (K : Ex × WSt T → Option (Ex × WSt T)) : roundWK cfgL wcL (inlN cfgL wcL 6 (II _ F)) (loopAt 142 [0, 1, 0, 1, 1]) [0, 1, 0, 1, 1, 142] through_L0_q (through_L0_S p0 p1 p2 p3 p4 p5 v) K = through_L0_R F p0 p1 p2 p3 p4 p5 v fun x => sumK x (fun o => sumK o (fun o => K (.ret, through_L0_O0 p0 p1 p2 p3 p4 p5 o)) (fun o => K ((.exit 0), through_L0_O1 p0 p1 p2 p3 p4 p5 o))) (fun v => K (.normal, through_L0_S p0 p1 p2 p3 p4 p5 v)) := by kernel_rfl
theorem through_L0_par {R : Type} (F : Tb) (p0 : List Form) (p1 : Int) (p2 : Int) (p3 : Int) (p4 : Bs) (p5 : Bs) (v : (Int)) (K : (((Int)) ⊕ ((Int))) ⊕ ((Int)) → Option R) : through_L0_R F p0 p1 p2 p3 p4 p5 v K = opK (through_L0_R F p0 p1 p2 p3 p4 p5 v some) K := by
 unfold through_L0_R
 simp only [through_K, opK_cnd, opK_opK, opK_sumK, opK_none, opK_one]
theorem through_L0_sd {F : Tb} (sd : Sd F) (p0 : List Form) (p1 : Int) (p2 : Int) (p3 : Int) (p4 : Bs) (p5 : Bs) (m : Nat) (v : (Int)) (o : ((Int)) ⊕ ((Int))) (h : iterL (fun v K => through_L0_R F p0 p1 p2 p3 p4 p5 v K) m v = some o) : LoopSaid cfgL cod (.loop (loopAt 142 [0, 1, 0, 1, 1])) (through_L0_S p0 p1 p2 p3 p4 p5 v) (through_L0_E p0 p1 p2 p3 p4 p5 o) :=
 loop_sd codOk (II_ok sd) (through_L0_S p0 p1 p2 p3 p4 p5) (through_L0_E p0 p1 p2 p3 p4 p5) (by intro o; rcases o with (o | o) <;> (intro h; cases h)) (fun v => through_L0_R F p0 p1 p2 p3 p4 p5 v some) _ (fun v K => through_L0_par F p0 p1 p2 p3 p4 p5 v K) (fun v x h => by
  have e := through_L0_ok F p0 p1 p2 p3 p4 p5 v some
  rw [through_L0_par, h] at e
  rw [e]
  rcases x with (o | o) | v <;> rfl) m v o h
theorem through_L1_ok (F : Tb) (p0 : List Form) (p1 : Int) (p2 : Int) (p3 : Int) (p4 : Bs) (p5 : Bs) (v : (Int) × (List (Bs × Bool))) (K : Ex × WSt T → Option (Ex × WSt T)) : roundWK cfgL wcL (inlN cfgL wcL 6 (II _ F)) (loopAt 142 [0, 1, 0, 1, 1]) [0, 1, 0, 1, 1, 142] through_L1_q (through_L1_S p0 p1 p2 p3 p4 p5 v) K = through_L1_R F p0 p1 p2 p3 p4 p5 v fun x => sumK x (fun o => sumK o (fun o => K (.ret, through_L1_O0 p0 p1 p2 p3 p4 p5 o)) (fun o => K ((.exit 0), through_L1_O1 p0 p1 p2 p3 p4 p5 o))) (fun v => K (.normal, through_L1_S p0 p1 p2 p3 p4 p5 v)) := by kernel_rfl
theorem through_L1_par {R : Type} (F : Tb) (p0 : List Form) (p1 : Int) (p2 : Int) (p3 : Int) (p4 : Bs) (p5 : Bs) (v : (Int) × (List (Bs × Bool))) (K : (((Int) × (Int) × (List (Bs × Bool))) ⊕ ((Int) × (List (Bs × Bool)))) ⊕ ((Int) × (List (Bs × Bool))) → Option R) : through_L1_R F p0 p1 p2 p3 p4 p5 v K = opK (through_L1_R F p0 p1 p2 p3 p4 p5 v some) K := by
 unfold through_L1_R
 simp only [through_v1_K, opK_cnd, opK_opK, opK_sumK, opK_none, opK_one]
theorem through_L1_sd {F : Tb} (sd : Sd F) (p0 : List Form) (p1 : Int) (p2 : Int) (p3 : Int) (p4 : Bs) (p5 : Bs) (m : Nat) (v : (Int) × (List (Bs × Bool))) (o : ((Int) × (Int) × (List (Bs × Bool))) ⊕ ((Int) × (List (Bs × Bool)))) (h : iterL (fun v K => through_L1_R F p0 p1 p2 p3 p4 p5 v K) m v = some o) : LoopSaid cfgL cod (.loop (loopAt 142 [0, 1, 0, 1, 1])) (through_L1_S p0 p1 p2 p3 p4 p5 v) (through_L1_E p0 p1 p2 p3 p4 p5 o) :=
 loop_sd codOk (II_ok sd) (through_L1_S p0 p1 p2 p3 p4 p5) (through_L1_E p0 p1 p2 p3 p4 p5) (by intro o; rcases o with (o | o) <;> (intro h; cases h)) (fun v => through_L1_R F p0 p1 p2 p3 p4 p5 v some) _ (fun v K => through_L1_par F p0 p1 p2 p3 p4 p5 v K) (fun v x h => by
  have e := through_L1_ok F p0 p1 p2 p3 p4 p5 v some
  rw [through_L1_par, h] at e
  rw [e]
  rcases x with (o | o) | v <;> rfl) m v o h
theorem look_L0_ok (F : Tb) (p0 : Int) (p1 : List Form) (p2 : Int) (p3 : Int) (p4 : Bs) (p5 : Bs) (v : (Int) × (Int)) (K : Ex × WSt T → Option (Ex × WSt T)) : roundWK cfgL wcL (inlN cfgL wcL 6 (II _ F)) (loopAt 144 [0, 1, 0, 1, 1, 1]) [0, 1, 0, 1, 1, 1, 144] look_L0_q (look_L0_S p0 p1 p2 p3 p4 p5 v) K = look_L0_R F p0 p1 p2 p3 p4 p5 v fun x => sumK x (fun o => sumK o (fun o => K (.ret, look_L0_O0 p0 p1 p2 p3 p4 p5 o)) (fun o => K ((.exit 0), look_L0_O1 p0 p1 p2 p3 p4 p5 o))) (fun v => K (.normal, look_L0_S p0 p1 p2 p3 p4 p5 v)) := by kernel_rfl
theorem look_L0_par {R : Type} (F : Tb) (p0 : Int) (p1 : List Form) (p2 : Int) (p3 : Int) (p4 : Bs) (p5 : Bs) (v : (Int) × (Int)) (K : (((Int) × (Int)) ⊕ ((Int) × (Int))) ⊕ ((Int) × (Int)) → Option R) : look_L0_R F p0 p1 p2 p3 p4 p5 v K = opK (look_L0_R F p0 p1 p2 p3 p4 p5 v some) K := by
 unfold look_L0_R
 simp only [look_K, opK_cnd, opK_opK, opK_sumK, opK_none, opK_one]
theorem look_L0_sd {F : Tb} (sd : Sd F) (p0 : Int) (p1 : List Form) (p2 : Int) (p3 : Int) (p4 : Bs) (p5 : Bs) (m : Nat) (v : (Int) × (Int)) (o : ((Int) × (Int)) ⊕ ((Int) × (Int))) (h : iterL (fun v K => look_L0_R F p0 p1 p2 p3 p4 p5 v K) m v = some o) : LoopSaid cfgL cod (.loop (loopAt 144 [0, 1, 0, 1, 1, 1])) (look_L0_S p0 p1 p2 p3 p4 p5 v) (look_L0_E p0 p1 p2 p3 p4 p5 o) :=
 loop_sd codOk (II_ok sd) (look_L0_S p0 p1 p2 p3 p4 p5) (look_L0_E p0 p1 p2 p3 p4 p5) (by intro o; rcases o with (o | o) <;> (intro h; cases h)) (fun v => look_L0_R F p0 p1 p2 p3 p4 p5 v some) _ (fun v K => look_L0_par F p0 p1 p2 p3 p4 p5 v K) (fun v x h => by
  have e := look_L0_ok F p0 p1 p2 p3 p4 p5 v some
  rw [look_L0_par, h] at e
  rw [e]
  rcases x with (o | o) | v <;> rfl) m v o h
theorem right_L0_ok (F : Tb) (p0 : Bs) (p1 : Bs) (p2 : Int) (p3 : List Form) (v : (Int)) (K : Ex × WSt T → Option (Ex × WSt T)) : roundWK cfgL wcL (inlN cfgL wcL 6 (II _ F)) (loopAt 96 [0, 1, 0, 1]) [0, 1, 0, 1, 96] right_L0_q (right_L0_S p0 p1 p2 p3 v) K = right_L0_R F p0 p1 p2 p3 v fun x => sumK x (fun o => sumK o (fun o => K (.ret, right_L0_O0 p0 p1 p2 p3 o)) (fun o => K ((.exit 0), right_L0_O1 p0 p1 p2 p3 o))) (fun v => K (.normal, right_L0_S p0 p1 p2 p3 v)) := by kernel_rfl
theorem right_L0_par {R : Type} (F : Tb) (p0 : Bs) (p1 : Bs) (p2 : Int) (p3 : List Form) (v : (Int)) (K : (((Int)) ⊕ ((Int))) ⊕ ((Int)) → Option R) : right_L0_R F p0 p1 p2 p3 v K = opK (right_L0_R F p0 p1 p2 p3 v some) K := by
 unfold right_L0_R
 simp only [opK_cnd, opK_opK, opK_sumK, opK_none, opK_one]
theorem right_L0_sd {F : Tb} (sd : Sd F) (p0 : Bs) (p1 : Bs) (p2 : Int) (p3 : List Form) (m : Nat) (v : (Int)) (o : ((Int)) ⊕ ((Int))) (h : iterL (fun v K => right_L0_R F p0 p1 p2 p3 v K) m v = some o) : LoopSaid cfgL cod (.loop (loopAt 96 [0, 1, 0, 1])) (right_L0_S p0 p1 p2 p3 v) (right_L0_E p0 p1 p2 p3 o) :=
 loop_sd codOk (II_ok sd) (right_L0_S p0 p1 p2 p3) (right_L0_E p0 p1 p2 p3) (by intro o; rcases o with (o | o) <;> (intro h; cases h)) (fun v => right_L0_R F p0 p1 p2 p3 v some) _ (fun v K => right_L0_par F p0 p1 p2 p3 v K) (fun v x h => by
  have e := right_L0_ok F p0 p1 p2 p3 v some
  rw [right_L0_par, h] at e
  rw [e]
  rcases x with (o | o) | v <;> rfl) m v o h
theorem f221_L0_ok (F : Tb) (v : (Bs) × (List Int)) (K : Ex × WSt T → Option (Ex × WSt T)) : roundWK cfgL wcL (inlN cfgL wcL 6 (II _ F)) (loopAt 221 [0, 0, 1]) [0, 0, 1, 221] f221_L0_q (f221_L0_S v) K = f221_L0_R F v fun x => sumK x (fun o => sumK o (fun o => K ((.exit 2), f221_L0_O0 o)) (fun o => K (.ret, f221_L0_O1 o))) (fun v => K (.normal, f221_L0_S v)) := by kernel_rfl
theorem f221_L0_par {R : Type} (F : Tb) (v : (Bs) × (List Int)) (K : (((Bs) × (List Int)) ⊕ ((Bs) × (List Int))) ⊕ ((Bs) × (List Int)) → Option R) : f221_L0_R F v K = opK (f221_L0_R F v some) K := by
 unfold f221_L0_R
 simp only [opK_cnd, opK_opK, opK_sumK, opK_none, opK_one]
theorem f221_L0_sd {F : Tb} (sd : Sd F) (m : Nat) (v : (Bs) × (List Int)) (o : ((Bs) × (List Int)) ⊕ ((Bs) × (List Int))) (h : iterL (fun v K => f221_L0_R F v K) m v = some o) : LoopSaid cfgL cod (.loop (loopAt 221 [0, 0, 1])) (f221_L0_S v) (f221_L0_E o) :=
 loop_sd codOk (II_ok sd) (f221_L0_S) (f221_L0_E) (by intro o; rcases o with (o | o) <;> (intro h; cases h)) (fun v => f221_L0_R F v some) _ (fun v K => f221_L0_par F v K) (fun v x h => by
  have e := f221_L0_ok F v some
  rw [f221_L0_par, h] at e
  rw [e]
  rcases x with (o | o) | v <;> rfl) m v o h
theorem decimal_L0_ok (F : Tb) (p0 : List UInt8) (p1 : Int) (v : (Int)) (K : Ex × WSt T → Option (Ex × WSt T)) : roundWK cfgL wcL (inlN cfgL wcL 6 (II _ F)) (loopAt 185 [0, 1, 0, 1, 1]) [0, 1, 0, 1, 1, 185] decimal_L0_q (decimal_L0_S p0 p1 v) K = decimal_L0_R F p0 p1 v fun x => sumK x (fun o => sumK o (fun o => K (.ret, decimal_L0_O0 p0 p1 o)) (fun o => K ((.exit 0), decimal_L0_O1 p0 p1 o))) (fun v => K (.normal, decimal_L0_S p0 p1 v)) := by kernel_rfl
theorem decimal_L0_par {R : Type} (F : Tb) (p0 : List UInt8) (p1 : Int) (v : (Int)) (K : (((Int)) ⊕ ((Int))) ⊕ ((Int)) → Option R) : decimal_L0_R F p0 p1 v K = opK (decimal_L0_R F p0 p1 v some) K := by
 unfold decimal_L0_R
 simp only [opK_cnd, opK_opK, opK_sumK, opK_none, opK_one]
theorem decimal_L0_sd {F : Tb} (sd : Sd F) (p0 : List UInt8) (p1 : Int) (m : Nat) (v : (Int)) (o : ((Int)) ⊕ ((Int))) (h : iterL (fun v K => decimal_L0_R F p0 p1 v K) m v = some o) : LoopSaid cfgL cod (.loop (loopAt 185 [0, 1, 0, 1, 1])) (decimal_L0_S p0 p1 v) (decimal_L0_E p0 p1 o) :=
 loop_sd codOk (II_ok sd) (decimal_L0_S p0 p1) (decimal_L0_E p0 p1) (by intro o; rcases o with (o | o) <;> (intro h; cases h)) (fun v => decimal_L0_R F p0 p1 v some) _ (fun v K => decimal_L0_par F p0 p1 v K) (fun v x h => by
  have e := decimal_L0_ok F p0 p1 v some
  rw [decimal_L0_par, h] at e
  rw [e]
  rcases x with (o | o) | v <;> rfl) m v o h
theorem ratio_L0_ok (F : Tb) (v : (Int) × (Int)) (K : Ex × WSt T → Option (Ex × WSt T)) : roundWK cfgL wcL (inlN cfgL wcL 6 (II _ F)) (loopAt 155 [0, 0, 1, 1, 1, 1, 1, 1, 1]) [0, 0, 1, 1, 1, 1, 1, 1, 1, 155] ratio_L0_q (ratio_L0_S v) K = ratio_L0_R F v fun x => sumK x (fun o => K ((.exit 0), ratio_L0_O0 o)) (fun v => K (.normal, ratio_L0_S v)) := by kernel_rfl
theorem ratio_L0_par {R : Type} (F : Tb) (v : (Int) × (Int)) (K : ((Int) × (Int)) ⊕ ((Int) × (Int)) → Option R) : ratio_L0_R F v K = opK (ratio_L0_R F v some) K := by
 unfold ratio_L0_R
 simp only [opK_cnd, opK_opK, opK_sumK, opK_none, opK_one]
theorem ratio_L0_sd {F : Tb} (sd : Sd F) (m : Nat) (v : (Int) × (Int)) (o : (Int) × (Int)) (h : iterL (fun v K => ratio_L0_R F v K) m v = some o) : LoopSaid cfgL cod (.loop (loopAt 155 [0, 0, 1, 1, 1, 1, 1, 1, 1])) (ratio_L0_S v) (ratio_L0_E o) :=
 loop_sd codOk (II_ok sd) (ratio_L0_S) (ratio_L0_E) (by intro o; intro h; cases h) (fun v => ratio_L0_R F v some) _ (fun v K => ratio_L0_par F v K) (fun v x h => by
  have e := ratio_L0_ok F v some
  rw [ratio_L0_par, h] at e
  rw [e]
  rcases x with o | v <;> rfl) m v o h
theorem product_L0_ok (F : Tb) (p0 : List Int) (p1 : Int) (v : (Int) × (Int)) (K : Ex × WSt T → Option (Ex × WSt T)) : roundWK cfgL wcL (inlN cfgL wcL 6 (II _ F)) (loopAt 159 [0, 1, 0, 1, 1, 1]) [0, 1, 0, 1, 1, 1, 159] product_L0_q (product_L0_S p0 p1 v) K = product_L0_R F p0 p1 v fun x => sumK x (fun o => K ((.exit 0), product_L0_O0 p0 p1 o)) (fun v => K (.normal, product_L0_S p0 p1 v)) := by kernel_rfl
theorem product_L0_par {R : Type} (F : Tb) (p0 : List Int) (p1 : Int) (v : (Int) × (Int)) (K : ((Int) × (Int)) ⊕ ((Int) × (Int)) → Option R) : product_L0_R F p0 p1 v K = opK (product_L0_R F p0 p1 v some) K := by
 unfold product_L0_R
 simp only [opK_cnd, opK_opK, opK_sumK, opK_none, opK_one]
theorem product_L0_sd {F : Tb} (sd : Sd F) (p0 : List Int) (p1 : Int) (m : Nat) (v : (Int) × (Int)) (o : (Int) × (Int)) (h : iterL (fun v K => product_L0_R F p0 p1 v K) m v = some o) : LoopSaid cfgL cod (.loop (loopAt 159 [0, 1, 0, 1, 1, 1])) (product_L0_S p0 p1 v) (product_L0_E p0 p1 o) :=
 loop_sd codOk (II_ok sd) (product_L0_S p0 p1) (product_L0_E p0 p1) (by intro o; intro h; cases h) (fun v => product_L0_R F p0 p1 v some) _ (fun v K => product_L0_par F p0 p1 v K) (fun v x h => by
  have e := product_L0_ok F p0 p1 v some
  rw [product_L0_par, h] at e
  rw [e]
  rcases x with o | v <;> rfl) m v o h
theorem IndexInt_L0_ok (F : Tb) (p0 : List Int) (p1 : Int) (p2 : Int) (v : (Int)) (K : Ex × WSt T → Option (Ex × WSt T)) : roundWK cfgL wcL (inlN cfgL wcL 6 (II _ F)) (loopAt 163 [0, 1, 0, 1]) [0, 1, 0, 1, 163] IndexInt_L0_q (IndexInt_L0_S p0 p1 p2 v) K = IndexInt_L0_R F p0 p1 p2 v fun x => sumK x (fun o => sumK o (fun o => K (.ret, IndexInt_L0_O0 p0 p1 p2 o)) (fun o => K ((.exit 0), IndexInt_L0_O1 p0 p1 p2 o))) (fun v => K (.normal, IndexInt_L0_S p0 p1 p2 v)) := by kernel_rfl
theorem IndexInt_L0_par {R : Type} (F : Tb) (p0 : List Int) (p1 : Int) (p2 : Int) (v : (Int)) (K : (((Int) × (Int)) ⊕ ((Int))) ⊕ ((Int)) → Option R) : IndexInt_L0_R F p0 p1 p2 v K = opK (IndexInt_L0_R F p0 p1 p2 v some) K := by
 unfold IndexInt_L0_R
 simp only [opK_cnd, opK_opK, opK_sumK, opK_none, opK_one]
theorem IndexInt_L0_sd {F : Tb} (sd : Sd F) (p0 : List Int) (p1 : Int) (p2 : Int) (m : Nat) (v : (Int)) (o : ((Int) × (Int)) ⊕ ((Int))) (h : iterL (fun v K => IndexInt_L0_R F p0 p1 p2 v K) m v = some o) : LoopSaid cfgL cod (.loop (loopAt 163 [0, 1, 0, 1])) (IndexInt_L0_S p0 p1 p2 v) (IndexInt_L0_E p0 p1 p2 o) :=
 loop_sd codOk (II_ok sd) (IndexInt_L0_S p0 p1 p2) (IndexInt_L0_E p0 p1 p2) (by intro o; rcases o with (o | o) <;> (intro h; cases h)) (fun v => IndexInt_L0_R F p0 p1 p2 v some) _ (fun v K => IndexInt_L0_par F p0 p1 p2 v K) (fun v x h => by
  have e := IndexInt_L0_ok F p0 p1 p2 v some
  rw [IndexInt_L0_par, h] at e
  rw [e]
  rcases x with (o | o) | v <;> rfl) m v o h
theorem labels_L0_ok (F : Tb) (p0 : Int) (p1 : Bs) (p2 : Bs) (p3 : List Form) (v : (Int) × (List Bs)) (K : Ex × WSt T → Option (Ex × WSt T)) : roundWK cfgL wcL (inlN cfgL wcL 6 (II _ F)) (loopAt 104 [0, 1, 0, 1, 1, 1]) [0, 1, 0, 1, 1, 1, 104] labels_L0_q (labels_L0_S p0 p1 p2 p3 v) K = labels_L0_R F p0 p1 p2 p3 v fun x => sumK x (fun o => sumK o (fun o => K (.ret, labels_L0_O0 p0 p1 p2 p3 o)) (fun o => K ((.exit 0), labels_L0_O1 p0 p1 p2 p3 o))) (fun v => K (.normal, labels_L0_S p0 p1 p2 p3 v)) := by kernel_rfl
theorem labels_L0_par {R : Type} (F : Tb) (p0 : Int) (p1 : Bs) (p2 : Bs) (p3 : List Form) (v : (Int) × (List Bs)) (K : (((Int) × (Int) × (List Bs)) ⊕ ((Int) × (List Bs))) ⊕ ((Int) × (List Bs)) → Option R) : labels_L0_R F p0 p1 p2 p3 v K = opK (labels_L0_R F p0 p1 p2 p3 v some) K := by
 unfold labels_L0_R
 simp only [labels_K, opK_cnd, opK_opK, opK_sumK, opK_none, opK_one]
theorem labels_L0_sd {F : Tb} (sd : Sd F) (p0 : Int) (p1 : Bs) (p2 : Bs) (p3 : List Form) (m : Nat) (v : (Int) × (List Bs)) (o : ((Int) × (Int) × (List Bs)) ⊕ ((Int) × (List Bs))) (h : iterL (fun v K => labels_L0_R F p0 p1 p2 p3 v K) m v = some o) : LoopSaid cfgL cod (.loop (loopAt 104 [0, 1, 0, 1, 1, 1])) (labels_L0_S p0 p1 p2 p3 v) (labels_L0_E p0 p1 p2 p3 o) :=
 loop_sd codOk (II_ok sd) (labels_L0_S p0 p1 p2 p3) (labels_L0_E p0 p1 p2 p3) (by intro o; rcases o with (o | o) <;> (intro h; cases h)) (fun v => labels_L0_R F p0 p1 p2 p3 v some) _ (fun v K => labels_L0_par F p0 p1 p2 p3 v K) (fun v x h => by
  have e := labels_L0_ok F p0 p1 p2 p3 v some
  rw [labels_L0_par, h] at e
  rw [e]
  rcases x with (o | o) | v <;> rfl) m v o h
theorem labels_P1_ok (F : Tb) (p0 : Int) (p1 : Int) (p2 : Int) (p3 : Bs) (p4 : Bs) (p5 : List Form) (p6 : List Bs) (K : Ex × WSt T → Option (Ex × WSt T)) : roundWK cfgL wcL (inlN cfgL wcL 6 (II _ F)) (loopAt 104 [0, 1, 0, 1, 1, 1]) [0, 1, 0, 1, 1, 1, 104] labels_P1_q (labels_P1_S p0 p1 p2 p3 p4 p5 p6) K = labels_P1_R F p0 p1 p2 p3 p4 p5 p6 fun o => sumK o (fun o => K (.ret, labels_P1_O0 p0 p1 p2 p3 p4 p5 p6 o)) (fun o => sumK o (fun o => K (.normal, labels_P1_O1 p0 p1 p2 p3 p4 p5 p6 o)) (fun o => K ((.exit 0), labels_P1_O2 p0 p1 p2 p3 p4 p5 p6 o))) := by kernel_rfl
theorem labels_P1_par {R : Type} (F : Tb) (p0 : Int) (p1 : Int) (p2 : Int) (p3 : Bs) (p4 : Bs) (p5 : List Form) (p6 : List Bs) (K : (((Int) × (List Bs)) ⊕ (((Int) × (List Bs)) ⊕ (Unit))) → Option R) : labels_P1_R F p0 p1 p2 p3 p4 p5 p6 K = opK (labels_P1_R F p0 p1 p2 p3 p4 p5 p6 some) K := by
 unfold labels_P1_R
 simp only [labels_K, opK_cnd, opK_opK, opK_sumK, opK_none, opK_one]
theorem labels_P1_sd {F : Tb} (sd : Sd F) (p0 : Int) (p1 : Int) (p2 : Int) (p3 : Bs) (p4 : Bs) (p5 : List Form) (p6 : List Bs) (o : ((Int) × (List Bs)) ⊕ (((Int) × (List Bs)) ⊕ (Unit))) (h : labels_P1_R F p0 p1 p2 p3 p4 p5 p6 some = some o) : RoundSaid cfgL cod (loopAt 104 [0, 1, 0, 1, 1, 1]) (labels_P1_S p0 p1 p2 p3 p4 p5 p6) (labels_P1_E p0 p1 p2 p3 p4 p5 p6 o) := by
 have e := labels_P1_ok F p0 p1 p2 p3 p4 p5 p6 some
 rw [labels_P1_par, h] at e
 exact @peel_sd _ cfgL wcL _ _ _ codOk _ (II_ok sd) _ (labels_P1_E p0 p1 p2 p3 p4 p5 p6 o) (by rw [e]; rcases o with (o | (o | o)) <;> rfl)
theorem rdimensions_L0_ok (F : Tb) (p0 : Bs) (v : (Int) × (Int) × (List Int)) (K : Ex × WSt T → Option (Ex × WSt T)) : roundWK cfgL wcL (inlN cfgL wcL 6 (II _ F)) (loopAt 102 [0, 1, 0, 1, 1, 1, 1]) [0, 1, 0, 1, 1, 1, 1, 102] rdimensions_L0_q (rdimensions_L0_S p0 v) K = rdimensions_L0_R F p0 v fun x => sumK x (fun o => sumK o (fun o => K (.ret, rdimensions_L0_O0 p0 o)) (fun o => K ((.exit 0), rdimensions_L0_O1 p0 o))) (fun v => K (.normal, rdimensions_L0_S p0 v)) := by kernel_rfl
theorem rdimensions_L0_par {R : Type} (F : Tb) (p0 : Bs) (v : (Int) × (Int) × (List Int)) (K : (((Int) × (Int) × (List Int)) ⊕ ((Int) × (Int) × (List Int))) ⊕ ((Int) × (Int) × (List Int)) → Option R) : rdimensions_L0_R F p0 v K = opK (rdimensions_L0_R F p0 v some) K := by
 unfold rdimensions_L0_R
 simp only [opK_cnd, opK_opK, opK_sumK, opK_none, opK_one]
theorem rdimensions_L0_sd {F : Tb} (sd : Sd F) (p0 : Bs) (m : Nat) (v : (Int) × (Int) × (List Int)) (o : ((Int) × (Int) × (List Int)) ⊕ ((Int) × (Int) × (List Int))) (h : iterL (fun v K => rdimensions_L0_R F p0 v K) m v = some o) : LoopSaid cfgL cod (.loop (loopAt 102 [0, 1, 0, 1, 1, 1, 1])) (rdimensions_L0_S p0 v) (rdimensions_L0_E p0 o) :=
 loop_sd codOk (II_ok sd) (rdimensions_L0_S p0) (rdimensions_L0_E p0) (by intro o; rcases o with (o | o) <;> (intro h; cases h)) (fun v => rdimensions_L0_R F p0 v some) _ (fun v K => rdimensions_L0_par F p0 v K) (fun v x h => by
  have e := rdimensions_L0_ok F p0 v some
  rw [rdimensions_L0_par, h] at e
  rw [e]
  rcases x with (o | o) | v <;> rfl) m v o h
theorem nodes_L0_ok (F : Tb) (p0 : Int) (p1 : Bs) (p2 : Bs) (p3 : List Form) (v : (Int)) (K : Ex × WSt T → Option (Ex × WSt T)) : roundWK cfgL wcL (inlN cfgL wcL 6 (II _ F)) (loopAt 103 [0, 1, 0, 1, 1]) [0, 1, 0, 1, 1, 103] nodes_L0_q (nodes_L0_S p0 p1 p2 p3 v) K = nodes_L0_R F p0 p1 p2 p3 v fun x => sumK x (fun o => sumK o (fun o => K (.ret, nodes_L0_O0 p0 p1 p2 p3 o)) (fun o => K ((.exit 0), nodes_L0_O1 p0 p1 p2 p3 o))) (fun v => K (.normal, nodes_L0_S p0 p1 p2 p3 v)) := by kernel_rfl
theorem nodes_L0_par {R : Type} (F : Tb) (p0 : Int) (p1 : Bs) (p2 : Bs) (p3 : List Form) (v : (Int)) (K : (((Int)) ⊕ ((Int))) ⊕ ((Int)) → Option R) : nodes_L0_R F p0 p1 p2 p3 v K = opK (nodes_L0_R F p0 p1 p2 p3 v some) K := by
 unfold nodes_L0_R
 simp only [opK_cnd, opK_opK, opK_sumK, opK_none, opK_one]
theorem nodes_L0_sd {F : Tb} (sd : Sd F) (p0 : Int) (p1 : Bs) (p2 : Bs) (p3 : List Form) (m : Nat) (v : (Int)) (o : ((Int)) ⊕ ((Int))) (h : iterL (fun v K => nodes_L0_R F p0 p1 p2 p3 v K) m v = some o) : LoopSaid cfgL cod (.loop (loopAt 103 [0, 1, 0, 1, 1])) (nodes_L0_S p0 p1 p2 p3 v) (nodes_L0_E p0 p1 p2 p3 o) :=
 loop_sd codOk (II_ok sd) (nodes_L0_S p0 p1 p2 p3) (nodes_L0_E p0 p1 p2 p3) (by intro o; rcases o with (o | o) <;> (intro h; cases h)) (fun v => nodes_L0_R F p0 p1 p2 p3 v some) _ (fun v K => nodes_L0_par F p0 p1 p2 p3 v K) (fun v x h => by
  have e := nodes_L0_ok F p0 p1 p2 p3 v some
  rw [nodes_L0_par, h] at e
  rw [e]
  rcases x with (o | o) | v <;> rfl) m v o h
theorem within_L0_ok (F : Tb) (p0 : List Bs) (p1 : Bs) (v : (Int)) (K : Ex × WSt T → Option (Ex × WSt T)) : roundWK cfgL wcL (inlN cfgL wcL 6 (II _ F)) (loopAt 147 [0, 1, 0, 1]) [0, 1, 0, 1, 147] within_L0_q (within_L0_S p0 p1 v) K = within_L0_R F p0 p1 v fun x => sumK x (fun o => sumK o (fun o => K (.ret, within_L0_O0 p0 p1 o)) (fun o => K ((.exit 0), within_L0_O1 p0 p1 o))) (fun v => K (.normal, within_L0_S p0 p1 v)) := by kernel_rfl
theorem within_L0_par {R : Type} (F : Tb) (p0 : List Bs) (p1 : Bs) (v : (Int)) (K : (((Int)) ⊕ ((Int))) ⊕ ((Int)) → Option R) : within_L0_R F p0 p1 v K = opK (within_L0_R F p0 p1 v some) K := by
 unfold within_L0_R
 simp only [opK_cnd, opK_opK, opK_sumK, opK_none, opK_one]
theorem within_L0_sd {F : Tb} (sd : Sd F) (p0 : List Bs) (p1 : Bs) (m : Nat) (v : (Int)) (o : ((Int)) ⊕ ((Int))) (h : iterL (fun v K => within_L0_R F p0 p1 v K) m v = some o) : LoopSaid cfgL cod (.loop (loopAt 147 [0, 1, 0, 1])) (within_L0_S p0 p1 v) (within_L0_E p0 p1 o) :=
 loop_sd codOk (II_ok sd) (within_L0_S p0 p1) (within_L0_E p0 p1) (by intro o; rcases o with (o | o) <;> (intro h; cases h)) (fun v => within_L0_R F p0 p1 v some) _ (fun v K => within_L0_par F p0 p1 v K) (fun v x h => by
  have e := within_L0_ok F p0 p1 v some
  rw [within_L0_par, h] at e
  rw [e]
  rcases x with (o | o) | v <;> rfl) m v o h
theorem digits_L0_ok (F : Tb) (p0 : Bs) (v : (Int)) (K : Ex × WSt T → Option (Ex × WSt T)) : roundWK cfgL wcL (inlN cfgL wcL 6 (II _ F)) (loopAt 165 [0, 1, 0, 1]) [0, 1, 0, 1, 165] digits_L0_q (digits_L0_S p0 v) K = digits_L0_R F p0 v fun x => sumK x (fun o => sumK o (fun o => K (.ret, digits_L0_O0 p0 o)) (fun o => K ((.exit 0), digits_L0_O1 p0 o))) (fun v => K (.normal, digits_L0_S p0 v)) := by kernel_rfl
theorem digits_L0_par {R : Type} (F : Tb) (p0 : Bs) (v : (Int)) (K : (((Int)) ⊕ ((Int))) ⊕ ((Int)) → Option R) : digits_L0_R F p0 v K = opK (digits_L0_R F p0 v some) K := by
 unfold digits_L0_R
 simp only [opK_cnd, opK_opK, opK_sumK, opK_none, opK_one]
theorem digits_L0_sd {F : Tb} (sd : Sd F) (p0 : Bs) (m : Nat) (v : (Int)) (o : ((Int)) ⊕ ((Int))) (h : iterL (fun v K => digits_L0_R F p0 v K) m v = some o) : LoopSaid cfgL cod (.loop (loopAt 165 [0, 1, 0, 1])) (digits_L0_S p0 v) (digits_L0_E p0 o) :=
 loop_sd codOk (II_ok sd) (digits_L0_S p0) (digits_L0_E p0) (by intro o; rcases o with (o | o) <;> (intro h; cases h)) (fun v => digits_L0_R F p0 v some) _ (fun v K => digits_L0_par F p0 v K) (fun v x h => by
  have e := digits_L0_ok F p0 v some
  rw [digits_L0_par, h] at e
  rw [e]
  rcases x with (o | o) | v <;> rfl) m v o h
theorem value_L0_ok (F : Tb) (p0 : Bs) (v : (Int) × (Int)) (K : Ex × WSt T → Option (Ex × WSt T)) : roundWK cfgL wcL (inlN cfgL wcL 6 (II _ F)) (loopAt 166 [0, 1, 0, 1, 1]) [0, 1, 0, 1, 1, 166] value_L0_q (value_L0_S p0 v) K = value_L0_R F p0 v fun x => sumK x (fun o => K ((.exit 0), value_L0_O0 p0 o)) (fun v => K (.normal, value_L0_S p0 v)) := by kernel_rfl
theorem value_L0_par {R : Type} (F : Tb) (p0 : Bs) (v : (Int) × (Int)) (K : ((Int) × (Int)) ⊕ ((Int) × (Int)) → Option R) : value_L0_R F p0 v K = opK (value_L0_R F p0 v some) K := by
 unfold value_L0_R
 simp only [opK_cnd, opK_opK, opK_sumK, opK_none, opK_one]
theorem value_L0_sd {F : Tb} (sd : Sd F) (p0 : Bs) (m : Nat) (v : (Int) × (Int)) (o : (Int) × (Int)) (h : iterL (fun v K => value_L0_R F p0 v K) m v = some o) : LoopSaid cfgL cod (.loop (loopAt 166 [0, 1, 0, 1, 1])) (value_L0_S p0 v) (value_L0_E p0 o) :=
 loop_sd codOk (II_ok sd) (value_L0_S p0) (value_L0_E p0) (by intro o; intro h; cases h) (fun v => value_L0_R F p0 v some) _ (fun v K => value_L0_par F p0 v K) (fun v x h => by
  have e := value_L0_ok F p0 v some
  rw [value_L0_par, h] at e
  rw [e]
  rcases x with o | v <;> rfl) m v o h
theorem rproduct_L0_ok (F : Tb) (p0 : List Int) (v : (Int)) (K : Ex × WSt T → Option (Ex × WSt T)) : roundWK cfgL wcL (inlN cfgL wcL 6 (II _ F)) (loopAt 172 [0, 1, 0, 1]) [0, 1, 0, 1, 172] rproduct_L0_q (rproduct_L0_S p0 v) K = rproduct_L0_R F p0 v fun x => sumK x (fun o => sumK o (fun o => K (.ret, rproduct_L0_O0 p0 o)) (fun o => K ((.exit 0), rproduct_L0_O1 p0 o))) (fun v => K (.normal, rproduct_L0_S p0 v)) := by kernel_rfl
theorem rproduct_L0_par {R : Type} (F : Tb) (p0 : List Int) (v : (Int)) (K : (((Int)) ⊕ ((Int))) ⊕ ((Int)) → Option R) : rproduct_L0_R F p0 v K = opK (rproduct_L0_R F p0 v some) K := by
 unfold rproduct_L0_R
 simp only [opK_cnd, opK_opK, opK_sumK, opK_none, opK_one]
theorem rproduct_L0_sd {F : Tb} (sd : Sd F) (p0 : List Int) (m : Nat) (v : (Int)) (o : ((Int)) ⊕ ((Int))) (h : iterL (fun v K => rproduct_L0_R F p0 v K) m v = some o) : LoopSaid cfgL cod (.loop (loopAt 172 [0, 1, 0, 1])) (rproduct_L0_S p0 v) (rproduct_L0_E p0 o) :=
 loop_sd codOk (II_ok sd) (rproduct_L0_S p0) (rproduct_L0_E p0) (by intro o; rcases o with (o | o) <;> (intro h; cases h)) (fun v => rproduct_L0_R F p0 v some) _ (fun v K => rproduct_L0_par F p0 v K) (fun v x h => by
  have e := rproduct_L0_ok F p0 v some
  rw [rproduct_L0_par, h] at e
  rw [e]
  rcases x with (o | o) | v <;> rfl) m v o h
theorem rproduct_L1_ok (F : Tb) (p0 : List Int) (v : (Int) × (Int)) (K : Ex × WSt T → Option (Ex × WSt T)) : roundWK cfgL wcL (inlN cfgL wcL 6 (II _ F)) (loopAt 172 [0, 1, 0, 1, 1, 1]) [0, 1, 0, 1, 1, 1, 172] rproduct_L1_q (rproduct_L1_S p0 v) K = rproduct_L1_R F p0 v fun x => sumK x (fun o => K ((.exit 2), rproduct_L1_O0 p0 o)) (fun v => K (.normal, rproduct_L1_S p0 v)) := by kernel_rfl
theorem rproduct_L1_par {R : Type} (F : Tb) (p0 : List Int) (v : (Int) × (Int)) (K : ((Int) × (Int)) ⊕ ((Int) × (Int)) → Option R) : rproduct_L1_R F p0 v K = opK (rproduct_L1_R F p0 v some) K := by
 unfold rproduct_L1_R
 simp only [opK_cnd, opK_opK, opK_sumK, opK_none, opK_one]
theorem rproduct_L1_sd {F : Tb} (sd : Sd F) (p0 : List Int) (m : Nat) (v : (Int) × (Int)) (o : (Int) × (Int)) (h : iterL (fun v K => rproduct_L1_R F p0 v K) m v = some o) : LoopSaid cfgL cod (.loop (loopAt 172 [0, 1, 0, 1, 1, 1])) (rproduct_L1_S p0 v) (rproduct_L1_E p0 o) :=
 loop_sd codOk (II_ok sd) (rproduct_L1_S p0) (rproduct_L1_E p0) (by intro o; intro h; cases h) (fun v => rproduct_L1_R F p0 v some) _ (fun v K => rproduct_L1_par F p0 v K) (fun v x h => by
  have e := rproduct_L1_ok F p0 v some
  rw [rproduct_L1_par, h] at e
  rw [e]
  rcases x with o | v <;> rfl) m v o h
theorem atom_L0_ok (F : Tb) (p0 : Int) (p1 : Bs) (p2 : Bs) (p3 : List Form) (v : (Int)) (K : Ex × WSt T → Option (Ex × WSt T)) : roundWK cfgL wcL (inlN cfgL wcL 6 (II _ F)) (loopAt 174 [0, 1, 0, 0, 1, 1, 1, 1, 1, 1, 1, 1, 1, 1, 1, 0, 1, 0, 1, 1]) [0, 1, 0, 0, 1, 1, 1, 1, 1, 1, 1, 1, 1, 1, 1, 0, 1, 0, 1, 1, 174] atom_L0_q (atom_L0_S p0 p1 p2 p3 v) K = atom_L0_R F p0 p1 p2 p3 v fun x => sumK x (fun o => sumK o (fun o => K (.ret, atom_L0_O0 p0 p1 p2 p3 o)) (fun o => K ((.exit 1), atom_L0_O1 p0 p1 p2 p3 o))) (fun v => K (.normal, atom_L0_S p0 p1 p2 p3 v)) := by kernel_rfl
theorem atom_L0_par {R : Type} (F : Tb) (p0 : Int) (p1 : Bs) (p2 : Bs) (p3 : List Form) (v : (Int)) (K : (((Int)) ⊕ ((Int))) ⊕ ((Int)) → Option R) : atom_L0_R F p0 p1 p2 p3 v K = opK (atom_L0_R F p0 p1 p2 p3 v some) K := by
 unfold atom_L0_R
 simp only [opK_cnd, opK_opK, opK_sumK, opK_none, opK_one]
theorem atom_L0_sd {F : Tb} (sd : Sd F) (p0 : Int) (p1 : Bs) (p2 : Bs) (p3 : List Form) (m : Nat) (v : (Int)) (o : ((Int)) ⊕ ((Int))) (h : iterL (fun v K => atom_L0_R F p0 p1 p2 p3 v K) m v = some o) : LoopSaid cfgL cod (.loop (loopAt 174 [0, 1, 0, 0, 1, 1, 1, 1, 1, 1, 1, 1, 1, 1, 1, 0, 1, 0, 1, 1])) (atom_L0_S p0 p1 p2 p3 v) (atom_L0_E p0 p1 p2 p3 o) :=
 loop_sd codOk (II_ok sd) (atom_L0_S p0 p1 p2 p3) (atom_L0_E p0 p1 p2 p3) (by intro o; rcases o with (o | o) <;> (intro h; cases h)) (fun v => atom_L0_R F p0 p1 p2 p3 v some) _ (fun v K => atom_L0_par F p0 p1 p2 p3 v K) (fun v x h => by
  have e := atom_L0_ok F p0 p1 p2 p3 v some
  rw [atom_L0_par, h] at e
  rw [e]
  rcases x with (o | o) | v <;> rfl) m v o h
theorem rratio_L0_ok (F : Tb) (p0 : Bs) (v : (Int) × (Int)) (K : Ex × WSt T → Option (Ex × WSt T)) : roundWK cfgL wcL (inlN cfgL wcL 6 (II _ F)) (loopAt 205 [0, 1, 0, 1, 1]) [0, 1, 0, 1, 1, 205] rratio_L0_q (rratio_L0_S p0 v) K = rratio_L0_R F p0 v fun x => sumK x (fun o => K ((.exit 0), rratio_L0_O0 p0 o)) (fun v => K (.normal, rratio_L0_S p0 v)) := by kernel_rfl
theorem rratio_L0_par {R : Type} (F : Tb) (p0 : Bs) (v : (Int) × (Int)) (K : ((Int) × (Int)) ⊕ ((Int) × (Int)) → Option R) : rratio_L0_R F p0 v K = opK (rratio_L0_R F p0 v some) K := by
 unfold rratio_L0_R
 simp only [opK_cnd, opK_opK, opK_sumK, opK_none, opK_one]
theorem rratio_L0_sd {F : Tb} (sd : Sd F) (p0 : Bs) (m : Nat) (v : (Int) × (Int)) (o : (Int) × (Int)) (h : iterL (fun v K => rratio_L0_R F p0 v K) m v = some o) : LoopSaid cfgL cod (.loop (loopAt 205 [0, 1, 0, 1, 1])) (rratio_L0_S p0 v) (rratio_L0_E p0 o) :=
 loop_sd codOk (II_ok sd) (rratio_L0_S p0) (rratio_L0_E p0) (by intro o; intro h; cases h) (fun v => rratio_L0_R F p0 v some) _ (fun v K => rratio_L0_par F p0 v K) (fun v x h => by
  have e := rratio_L0_ok F p0 v some
  rw [rratio_L0_par, h] at e
  rw [e]
  rcases x with o | v <;> rfl) m v o h
theorem rratio_L1_ok (F : Tb) (v : (Int) × (Int)) (K : Ex × WSt T → Option (Ex × WSt T)) : roundWK cfgL wcL (inlN cfgL wcL 6 (II _ F)) (loopAt 205 [0, 0, 1, 1, 1, 1, 1, 1, 1, 1, 1]) [0, 0, 1, 1, 1, 1, 1, 1, 1, 1, 1, 205] rratio_L1_q (rratio_L1_S v) K = rratio_L1_R F v fun x => sumK x (fun o => K ((.exit 2), rratio_L1_O0 o)) (fun v => K (.normal, rratio_L1_S v)) := by kernel_rfl
theorem rratio_L1_par {R : Type} (F : Tb) (v : (Int) × (Int)) (K : ((Int) × (Int)) ⊕ ((Int) × (Int)) → Option R) : rratio_L1_R F v K = opK (rratio_L1_R F v some) K := by
 unfold rratio_L1_R
 simp only [opK_cnd, opK_opK, opK_sumK, opK_none, opK_one]
theorem rratio_L1_sd {F : Tb} (sd : Sd F) (m : Nat) (v : (Int) × (Int)) (o : (Int) × (Int)) (h : iterL (fun v K => rratio_L1_R F v K) m v = some o) : LoopSaid cfgL cod (.loop (loopAt 205 [0, 0, 1, 1, 1, 1, 1, 1, 1, 1, 1])) (rratio_L1_S v) (rratio_L1_E o) :=
 loop_sd codOk (II_ok sd) (rratio_L1_S) (rratio_L1_E) (by intro o; intro h; cases h) (fun v => rratio_L1_R F v some) _ (fun v K => rratio_L1_par F v K) (fun v x h => by
  have e := rratio_L1_ok F v some
  rw [rratio_L1_par, h] at e
  rw [e]
  rcases x with o | v <;> rfl) m v o h
theorem hex_L0_ok (F : Tb) (p0 : Bs) (p1 : Int) (v : (Int)) (K : Ex × WSt T → Option (Ex × WSt T)) : roundWK cfgL wcL (inlN cfgL wcL 6 (II _ F)) (loopAt 206 [0, 1, 0, 1]) [0, 1, 0, 1, 206] hex_L0_q (hex_L0_S p0 p1 v) K = hex_L0_R F p0 p1 v fun x => sumK x (fun o => sumK o (fun o => K (.ret, hex_L0_O0 p0 p1 o)) (fun o => K ((.exit 0), hex_L0_O1 p0 p1 o))) (fun v => K (.normal, hex_L0_S p0 p1 v)) := by kernel_rfl
theorem hex_L0_par {R : Type} (F : Tb) (p0 : Bs) (p1 : Int) (v : (Int)) (K : (((Int)) ⊕ ((Int))) ⊕ ((Int)) → Option R) : hex_L0_R F p0 p1 v K = opK (hex_L0_R F p0 p1 v some) K := by
 unfold hex_L0_R
 simp only [opK_cnd, opK_opK, opK_sumK, opK_none, opK_one]
theorem hex_L0_sd {F : Tb} (sd : Sd F) (p0 : Bs) (p1 : Int) (m : Nat) (v : (Int)) (o : ((Int)) ⊕ ((Int))) (h : iterL (fun v K => hex_L0_R F p0 p1 v K) m v = some o) : LoopSaid cfgL cod (.loop (loopAt 206 [0, 1, 0, 1])) (hex_L0_S p0 p1 v) (hex_L0_E p0 p1 o) :=
 loop_sd codOk (II_ok sd) (hex_L0_S p0 p1) (hex_L0_E p0 p1) (by intro o; rcases o with (o | o) <;> (intro h; cases h)) (fun v => hex_L0_R F p0 p1 v some) _ (fun v K => hex_L0_par F p0 p1 v K) (fun v x h => by
  have e := hex_L0_ok F p0 p1 v some
  rw [hex_L0_par, h] at e
  rw [e]
  rcases x with (o | o) | v <;> rfl) m v o h
theorem FormChecks_L0_ok (F : Tb) (p0 : Bs) (p1 : Bs) (p2 : List Int) (p3 : List Int) (p4 : Int) (p5 : Int) (p6 : Bs) (p7 : Bs) (p8 : List Form) (p9 : Int) (p10 : Bs) (p11 : Bs) (p12 : List Form) (v : (Int)) (K : Ex × WSt T → Option (Ex × WSt T)) : roundWK cfgL wcL (inlN cfgL wcL 6 (II _ F)) (loopAt 5 [0, 1, 0, 1, 1, 1, 1, 1, 1, 1]) [0, 1, 0, 1, 1, 1, 1, 1, 1, 1, 5] FormChecks_L0_q (FormChecks_L0_S p0 p1 p2 p3 p4 p5 p6 p7 p8 p9 p10 p11 p12 v) K = FormChecks_L0_R F p0 p1 p2 p3 p4 p5 p6 p7 p8 p9 p10 p11 p12 v fun x => sumK x (fun o => sumK o (fun o => K (.ret, FormChecks_L0_O0 p0 p1 p2 p3 p4 p5 p6 p7 p8 p9 p10 p11 p12 o)) (fun o => K ((.exit 0), FormChecks_L0_O1 p0 p1 p2 p3 p4 p5 p6 p7 p8 p9 p10 p11 p12 o))) (fun v => K (.normal, FormChecks_L0_S p0 p1 p2 p3 p4 p5 p6 p7 p8 p9 p10 p11 p12 v)) := by kernel_rfl
theorem FormChecks_L0_par {R : Type} (F : Tb) (p0 : Bs) (p1 : Bs) (p2 : List Int) (p3 : List Int) (p4 : Int) (p5 : Int) (p6 : Bs) (p7 : Bs) (p8 : List Form) (p9 : Int) (p10 : Bs) (p11 : Bs) (p12 : List Form) (v : (Int)) (K : (((Int)) ⊕ ((Int))) ⊕ ((Int)) → Option R) : FormChecks_L0_R F p0 p1 p2 p3 p4 p5 p6 p7 p8 p9 p10 p11 p12 v K = opK (FormChecks_L0_R F p0 p1 p2 p3 p4 p5 p6 p7 p8 p9 p10 p11 p12 v some) K := by
 unfold FormChecks_L0_R
 simp only [opK_cnd, opK_opK, opK_sumK, opK_none, opK_one]
theorem FormChecks_L0_sd {F : Tb} (sd : Sd F) (p0 : Bs) (p1 : Bs) (p2 : List Int) (p3 : List Int) (p4 : Int) (p5 : Int) (p6 : Bs) (p7 : Bs) (p8 : List Form) (p9 : Int) (p10 : Bs) (p11 : Bs) (p12 : List Form) (m : Nat) (v : (Int)) (o : ((Int)) ⊕ ((Int))) (h : iterL (fun v K => FormChecks_L0_R F p0 p1 p2 p3 p4 p5 p6 p7 p8 p9 p10 p11 p12 v K) m v = some o) : LoopSaid cfgL cod (.loop (loopAt 5 [0, 1, 0, 1, 1, 1, 1, 1, 1, 1])) (FormChecks_L0_S p0 p1 p2 p3 p4 p5 p6 p7 p8 p9 p10 p11 p12 v) (FormChecks_L0_E p0 p1 p2 p3 p4 p5 p6 p7 p8 p9 p10 p11 p12 o) :=
 loop_sd codOk (II_ok sd) (FormChecks_L0_S p0 p1 p2 p3 p4 p5 p6 p7 p8 p9 p10 p11 p12) (FormChecks_L0_E p0 p1 p2 p3 p4 p5 p6 p7 p8 p9 p10 p11 p12) (by intro o; rcases o with (o | o) <;> (intro h; cases h)) (fun v => FormChecks_L0_R F p0 p1 p2 p3 p4 p5 p6 p7 p8 p9 p10 p11 p12 v some) _ (fun v K => FormChecks_L0_par F p0 p1 p2 p3 p4 p5 p6 p7 p8 p9 p10 p11 p12 v K) (fun v x h => by
  have e := FormChecks_L0_ok F p0 p1 p2 p3 p4 p5 p6 p7 p8 p9 p10 p11 p12 v some
  rw [FormChecks_L0_par, h] at e
  rw [e]
  rcases x with (o | o) | v <;> rfl) m v o h
theorem rSize_L0_ok (F : Tb) (p0 : Int) (p1 : Bs) (p2 : Bs) (p3 : List Form) (v : (Int) × (Int) × (Int)) (K : Ex × WSt T → Option (Ex × WSt T)) : roundWK cfgL wcL (inlN cfgL wcL 6 (II _ F)) (loopAt 24 [0, 1, 0, 1, 1]) [0, 1, 0, 1, 1, 24] rSize_L0_q (rSize_L0_S p0 p1 p2 p3 v) K = rSize_L0_R F p0 p1 p2 p3 v fun x => sumK x (fun o => K ((.exit 0), rSize_L0_O0 p0 p1 p2 p3 o)) (fun v => K (.normal, rSize_L0_S p0 p1 p2 p3 v)) := by kernel_rfl
theorem rSize_L0_par {R : Type} (F : Tb) (p0 : Int) (p1 : Bs) (p2 : Bs) (p3 : List Form) (v : (Int) × (Int) × (Int)) (K : ((Int) × (Int) × (Int)) ⊕ ((Int) × (Int) × (Int)) → Option R) : rSize_L0_R F p0 p1 p2 p3 v K = opK (rSize_L0_R F p0 p1 p2 p3 v some) K := by
 unfold rSize_L0_R
 simp only [opK_cnd, opK_opK, opK_sumK, opK_none, opK_one]
theorem rSize_L0_sd {F : Tb} (sd : Sd F) (p0 : Int) (p1 : Bs) (p2 : Bs) (p3 : List Form) (m : Nat) (v : (Int) × (Int) × (Int)) (o : (Int) × (Int) × (Int)) (h : iterL (fun v K => rSize_L0_R F p0 p1 p2 p3 v K) m v = some o) : LoopSaid cfgL cod (.loop (loopAt 24 [0, 1, 0, 1, 1])) (rSize_L0_S p0 p1 p2 p3 v) (rSize_L0_E p0 p1 p2 p3 o) :=
 loop_sd codOk (II_ok sd) (rSize_L0_S p0 p1 p2 p3) (rSize_L0_E p0 p1 p2 p3) (by intro o; intro h; cases h) (fun v => rSize_L0_R F p0 p1 p2 p3 v some) _ (fun v K => rSize_L0_par F p0 p1 p2 p3 v K) (fun v x h => by
  have e := rSize_L0_ok F p0 p1 p2 p3 v some
  rw [rSize_L0_par, h] at e
  rw [e]
  rcases x with o | v <;> rfl) m v o h
theorem Size_ok (F : Tb) (a0 : Form) (K : (Int) × (Int) → Option ((Int) × (Int))) : (bodyWK cfgL wcL (inlN cfgL wcL 6 (II _ F)) 23 [outV cod 3 a0] wm0 fun x => sealK x.2 x.1 fun w => tup2K cod 0 0 w fun y0 y1 => K (y0, y1)) = Size_c F a0 K := by kernel_rfl
theorem Size_sd {F : Tb} (sd : Sd F) (a0 : Form) (y : (Int) × (Int)) (h : Size_c F a0 some = some y) : PurSaid cfgL cod 23 [outV cod 3 a0] (.tup [outV cod 0 y.1, outV cod 0 y.2]) := by
 rw [← Size_ok] at h
 obtain ⟨w, h1, h2⟩ := pur_of codOk (inlN_ok codOk (II_ok sd) 6) h
 exact PurSaid.out h2 fun hr => in2_out codOk h1 hr
theorem rEqual_ok (F : Tb) (a0 : Form) (a1 : Form) (K : (Bool) → Option ((Bool))) : (bodyWK cfgL wcL (inlN cfgL wcL 6 (II _ F)) 15 [outV cod 3 a0, outV cod 3 a1] wm0 fun x => sealK x.2 x.1 fun w => opK (inV cod 4 w) K) = rEqual_c F a0 a1 K := by kernel_rfl
theorem rEqual_sd {F : Tb} (sd : Sd F) (a0 : Form) (a1 : Form) (y : (Bool)) (h : rEqual_c F a0 a1 some = some y) : PurSaid cfgL cod 15 [outV cod 3 a0, outV cod 3 a1] (outV cod 4 y) := by
 rw [← rEqual_ok] at h
 obtain ⟨w, h1, h2⟩ := pur_of codOk (inlN_ok codOk (II_ok sd) 6) h
 exact PurSaid.out h2 fun hr => in1_out codOk h1 hr
theorem left_ok (F : Tb) (a0 : Form) (a1 : Int) (K : (Int) → Option ((Int))) : (bodyWK cfgL wcL (inlN cfgL wcL 6 (II _ F)) 73 [outV cod 3 a0, outV cod 0 a1] wm0 fun x => sealK x.2 x.1 fun w => opK (inV cod 0 w) K) = left_c F a0 a1 K := by kernel_rfl
theorem left_sd {F : Tb} (sd : Sd F) (a0 : Form) (a1 : Int) (y : (Int)) (h : left_c F a0 a1 some = some y) : PurSaid cfgL cod 73 [outV cod 3 a0, outV cod 0 a1] (outV cod 0 y) := by
 rw [← left_ok] at h
 obtain ⟨w, h1, h2⟩ := pur_of codOk (inlN_ok codOk (II_ok sd) 6) h
 exact PurSaid.out h2 fun hr => in1_out codOk h1 hr
theorem Few_ok (F : Tb) (a0 : Form) (a1 : Int) (K : (Bool) → Option ((Bool))) : (bodyWK cfgL wcL (inlN cfgL wcL 6 (II _ F)) 11 [outV cod 3 a0, outV cod 0 a1] wm0 fun x => sealK x.2 x.1 fun w => opK (inV cod 4 w) K) = Few_c F a0 a1 K := by kernel_rfl
theorem Few_sd {F : Tb} (sd : Sd F) (a0 : Form) (a1 : Int) (y : (Bool)) (h : Few_c F a0 a1 some = some y) : PurSaid cfgL cod 11 [outV cod 3 a0, outV cod 0 a1] (outV cod 4 y) := by
 rw [← Few_ok] at h
 obtain ⟨w, h1, h2⟩ := pur_of codOk (inlN_ok codOk (II_ok sd) 6) h
 exact PurSaid.out h2 fun hr => in1_out codOk h1 hr
theorem IsNil_ok (F : Tb) (a0 : Form) (K : (Bool) → Option ((Bool))) : (bodyWK cfgL wcL (inlN cfgL wcL 6 (II _ F)) 28 [outV cod 3 a0] wm0 fun x => sealK x.2 x.1 fun w => opK (inV cod 4 w) K) = IsNil_c F a0 K := by kernel_rfl
theorem IsNil_sd {F : Tb} (sd : Sd F) (a0 : Form) (y : (Bool)) (h : IsNil_c F a0 some = some y) : PurSaid cfgL cod 28 [outV cod 3 a0] (outV cod 4 y) := by
 rw [← IsNil_ok] at h
 obtain ⟨w, h1, h2⟩ := pur_of codOk (inlN_ok codOk (II_ok sd) 6) h
 exact PurSaid.out h2 fun hr => in1_out codOk h1 hr
theorem Is_ok (F : Tb) (a0 : Form) (a1 : Bs) (a2 : Bs) (K : (Bool) → Option ((Bool))) : (bodyWK cfgL wcL (inlN cfgL wcL 6 (II _ F)) 30 [outV cod 3 a0, outV cod 2 a1, outV cod 2 a2] wm0 fun x => sealK x.2 x.1 fun w => opK (inV cod 4 w) K) = Is_c F a0 a1 a2 K := by kernel_rfl
theorem Is_sd {F : Tb} (sd : Sd F) (a0 : Form) (a1 : Bs) (a2 : Bs) (y : (Bool)) (h : Is_c F a0 a1 a2 some = some y) : PurSaid cfgL cod 30 [outV cod 3 a0, outV cod 2 a1, outV cod 2 a2] (outV cod 4 y) := by
 rw [← Is_ok] at h
 obtain ⟨w, h1, h2⟩ := pur_of codOk (inlN_ok codOk (II_ok sd) 6) h
 exact PurSaid.out h2 fun hr => in1_out codOk h1 hr
theorem Equal_ok (F : Tb) (a0 : Form) (a1 : Form) (K : (Bool) → Option ((Bool))) : (bodyWK cfgL wcL (inlN cfgL wcL 6 (II _ F)) 22 [outV cod 3 a0, outV cod 3 a1] wm0 fun x => sealK x.2 x.1 fun w => opK (inV cod 4 w) K) = Equal_c F a0 a1 K := by kernel_rfl
theorem Equal_sd {F : Tb} (sd : Sd F) (a0 : Form) (a1 : Form) (y : (Bool)) (h : Equal_c F a0 a1 some = some y) : PurSaid cfgL cod 22 [outV cod 3 a0, outV cod 3 a1] (outV cod 4 y) := by
 rw [← Equal_ok] at h
 obtain ⟨w, h1, h2⟩ := pur_of codOk (inlN_ok codOk (II_ok sd) 6) h
 exact PurSaid.out h2 fun hr => in1_out codOk h1 hr
theorem EqualFunc_f22_ok (F : Tb) (a0 : (List Form)) (a1 : (List Form)) (K : (Bool) → Option ((Bool))) : (bodyWK cfgL wcL (inlN cfgL wcL 6 (II _ F)) 98 [outV cod 7 a0, outV cod 7 a1, .fn 22 []] wm0 fun x => sealK x.2 x.1 fun w => opK (inV cod 4 w) K) = EqualFunc_f22_c F a0 a1 K := by kernel_rfl
theorem EqualFunc_f22_sd {F : Tb} (sd : Sd F) (a0 : (List Form)) (a1 : (List Form)) (y : (Bool)) (h : EqualFunc_f22_c F a0 a1 some = some y) : PurSaid cfgL cod 98 [outV cod 7 a0, outV cod 7 a1, .fn 22 []] (outV cod 4 y) := by
 rw [← EqualFunc_f22_ok] at h
 obtain ⟨w, h1, h2⟩ := pur_of codOk (inlN_ok codOk (II_ok sd) 6) h
 exact PurSaid.out h2 fun hr => in1_out codOk h1 hr
theorem rIsNil_ok (F : Tb) (a0 : Form) (K : (Bool) → Option ((Bool))) : (bodyWK cfgL wcL (inlN cfgL wcL 6 (II _ F)) 29 [outV cod 3 a0] wm0 fun x => sealK x.2 x.1 fun w => opK (inV cod 4 w) K) = rIsNil_c F a0 K := by kernel_rfl
theorem rIsNil_sd {F : Tb} (sd : Sd F) (a0 : Form) (y : (Bool)) (h : rIsNil_c F a0 some = some y) : PurSaid cfgL cod 29 [outV cod 3 a0] (outV cod 4 y) := by
 rw [← rIsNil_ok] at h
 obtain ⟨w, h1, h2⟩ := pur_of codOk (inlN_ok codOk (II_ok sd) 6) h
 exact PurSaid.out h2 fun hr => in1_out codOk h1 hr
theorem rIs_ok (F : Tb) (a0 : Form) (a1 : Bs) (a2 : Bs) (K : (Bool) → Option ((Bool))) : (bodyWK cfgL wcL (inlN cfgL wcL 6 (II _ F)) 31 [outV cod 3 a0, outV cod 2 a1, outV cod 2 a2] wm0 fun x => sealK x.2 x.1 fun w => opK (inV cod 4 w) K) = rIs_c F a0 a1 a2 K := by kernel_rfl
theorem rIs_sd {F : Tb} (sd : Sd F) (a0 : Form) (a1 : Bs) (a2 : Bs) (y : (Bool)) (h : rIs_c F a0 a1 a2 some = some y) : PurSaid cfgL cod 31 [outV cod 3 a0, outV cod 2 a1, outV cod 2 a2] (outV cod 4 y) := by
 rw [← rIs_ok] at h
 obtain ⟨w, h1, h2⟩ := pur_of codOk (inlN_ok codOk (II_ok sd) 6) h
 exact PurSaid.out h2 fun hr => in1_out codOk h1 hr
theorem Check_ok (F : Tb) (a0 : Form) (K : (Int) → Option ((Int))) : (bodyWK cfgL wcL (inlN cfgL wcL 6 (II _ F)) 20 [outV cod 3 a0] wm0 fun x => sealK x.2 x.1 fun w => opK (inV cod 0 w) K) = Check_c F a0 K := by kernel_rfl
theorem Check_sd {F : Tb} (sd : Sd F) (a0 : Form) (y : (Int)) (h : Check_c F a0 some = some y) : PurSaid cfgL cod 20 [outV cod 3 a0] (outV cod 0 y) := by
 rw [← Check_ok] at h
 obtain ⟨w, h1, h2⟩ := pur_of codOk (inlN_ok codOk (II_ok sd) 6) h
 exact PurSaid.out h2 fun hr => in1_out codOk h1 hr
theorem limited_ok (F : Tb) (a0 : Form) (K : (Bool) → Option ((Bool))) : (bodyWK cfgL wcL (inlN cfgL wcL 6 (II _ F)) 84 [outV cod 3 a0] wm0 fun x => sealK x.2 x.1 fun w => opK (inV cod 4 w) K) = limited_c F a0 K := by kernel_rfl
theorem limited_sd {F : Tb} (sd : Sd F) (a0 : Form) (y : (Bool)) (h : limited_c F a0 some = some y) : PurSaid cfgL cod 84 [outV cod 3 a0] (outV cod 4 y) := by
 rw [← limited_ok] at h
 obtain ⟨w, h1, h2⟩ := pur_of codOk (inlN_ok codOk (II_ok sd) 6) h
 exact PurSaid.out h2 fun hr => in1_out codOk h1 hr
theorem right_ok (F : Tb) (a0 : Form) (K : (Bool) → Option ((Bool))) : (bodyWK cfgL wcL (inlN cfgL wcL 6 (II _ F)) 96 [outV cod 3 a0] wm0 fun x => sealK x.2 x.1 fun w => opK (inV cod 4 w) K) = right_c F a0 K := by kernel_rfl
theorem right_sd {F : Tb} (sd : Sd F) (a0 : Form) (y : (Bool)) (h : right_c F a0 some = some y) : PurSaid cfgL cod 96 [outV cod 3 a0] (outV cod 4 y) := by
 rw [← right_ok] at h
 obtain ⟨w, h1, h2⟩ := pur_of codOk (inlN_ok codOk (II_ok sd) 6) h
 exact PurSaid.out h2 fun hr => in1_out codOk h1 hr
theorem dimensions_ok (F : Tb) (a0 : Bs) (K : ((List Int)) × (Bool) → Option (((List Int)) × (Bool))) : (bodyWK cfgL wcL (inlN cfgL wcL 6 (II _ F)) 100 [outV cod 2 a0] wm0 fun x => sealK x.2 x.1 fun w => tup2K cod 9 4 w fun y0 y1 => K (y0, y1)) = dimensions_c F a0 K := by kernel_rfl
theorem dimensions_sd {F : Tb} (sd : Sd F) (a0 : Bs) (y : ((List Int)) × (Bool)) (h : dimensions_c F a0 some = some y) : PurSaid cfgL cod 100 [outV cod 2 a0] (.tup [outV cod 9 y.1, outV cod 4 y.2]) := by
 rw [← dimensions_ok] at h
 obtain ⟨w, h1, h2⟩ := pur_of codOk (inlN_ok codOk (II_ok sd) 6) h
 exact PurSaid.out h2 fun hr => in2_out codOk h1 hr
theorem integer_ok (F : Tb) (a0 : Bs) (K : (Bool) → Option ((Bool))) : (bodyWK cfgL wcL (inlN cfgL wcL 6 (II _ F)) 154 [outV cod 2 a0] wm0 fun x => sealK x.2 x.1 fun w => opK (inV cod 4 w) K) = integer_c F a0 K := by kernel_rfl
theorem integer_sd {F : Tb} (sd : Sd F) (a0 : Bs) (y : (Bool)) (h : integer_c F a0 some = some y) : PurSaid cfgL cod 154 [outV cod 2 a0] (outV cod 4 y) := by
 rw [← integer_ok] at h
 obtain ⟨w, h1, h2⟩ := pur_of codOk (inlN_ok codOk (II_ok sd) 6) h
 exact PurSaid.out h2 fun hr => in1_out codOk h1 hr
theorem decimal_ok (F : Tb) (a0 : Bs) (K : (Bool) → Option ((Bool))) : (bodyWK cfgL wcL (inlN cfgL wcL 6 (II _ F)) 185 [outV cod 2 a0] wm0 fun x => sealK x.2 x.1 fun w => opK (inV cod 4 w) K) = decimal_c F a0 K := by kernel_rfl
theorem decimal_sd {F : Tb} (sd : Sd F) (a0 : Bs) (y : (Bool)) (h : decimal_c F a0 some = some y) : PurSaid cfgL cod 185 [outV cod 2 a0] (outV cod 4 y) := by
 rw [← decimal_ok] at h
 obtain ⟨w, h1, h2⟩ := pur_of codOk (inlN_ok codOk (II_ok sd) 6) h
 exact PurSaid.out h2 fun hr => in1_out codOk h1 hr
theorem ratio_ok (F : Tb) (a0 : Bs) (K : (Bool) → Option ((Bool))) : (bodyWK cfgL wcL (inlN cfgL wcL 6 (II _ F)) 155 [outV cod 2 a0] wm0 fun x => sealK x.2 x.1 fun w => opK (inV cod 4 w) K) = ratio_c F a0 K := by kernel_rfl
theorem ratio_sd {F : Tb} (sd : Sd F) (a0 : Bs) (y : (Bool)) (h : ratio_c F a0 some = some y) : PurSaid cfgL cod 155 [outV cod 2 a0] (outV cod 4 y) := by
 rw [← ratio_ok] at h
 obtain ⟨w, h1, h2⟩ := pur_of codOk (inlN_ok codOk (II_ok sd) 6) h
 exact PurSaid.out h2 fun hr => in1_out codOk h1 hr
theorem hexadecimal_ok (F : Tb) (a0 : Bs) (a1 : Int) (K : (Bool) → Option ((Bool))) : (bodyWK cfgL wcL (inlN cfgL wcL 6 (II _ F)) 156 [outV cod 2 a0, outV cod 0 a1] wm0 fun x => sealK x.2 x.1 fun w => opK (inV cod 4 w) K) = hexadecimal_c F a0 a1 K := by kernel_rfl
theorem hexadecimal_sd {F : Tb} (sd : Sd F) (a0 : Bs) (a1 : Int) (y : (Bool)) (h : hexadecimal_c F a0 a1 some = some y) : PurSaid cfgL cod 156 [outV cod 2 a0, outV cod 0 a1] (outV cod 4 y) := by
 rw [← hexadecimal_ok] at h
 obtain ⟨w, h1, h2⟩ := pur_of codOk (inlN_ok codOk (II_ok sd) 6) h
 exact PurSaid.out h2 fun hr => in1_out codOk h1 hr
theorem complex_ok (F : Tb) (a0 : (List Form)) (K : (Bool) → Option ((Bool))) : (bodyWK cfgL wcL (inlN cfgL wcL 6 (II _ F)) 157 [outV cod 7 a0] wm0 fun x => sealK x.2 x.1 fun w => opK (inV cod 4 w) K) = complex_c F a0 K := by kernel_rfl
theorem complex_sd {F : Tb} (sd : Sd F) (a0 : (List Form)) (y : (Bool)) (h : complex_c F a0 some = some y) : PurSaid cfgL cod 157 [outV cod 7 a0] (outV cod 4 y) := by
 rw [← complex_ok] at h
 obtain ⟨w, h1, h2⟩ := pur_of codOk (inlN_ok codOk (II_ok sd) 6) h
 exact PurSaid.out h2 fun hr => in1_out codOk h1 hr
theorem product_ok (F : Tb) (a0 : (List Int)) (K : (Int) → Option ((Int))) : (bodyWK cfgL wcL (inlN cfgL wcL 6 (II _ F)) 159 [outV cod 9 a0] wm0 fun x => sealK x.2 x.1 fun w => opK (inV cod 0 w) K) = product_c F a0 K := by kernel_rfl
theorem product_sd {F : Tb} (sd : Sd F) (a0 : (List Int)) (y : (Int)) (h : product_c F a0 some = some y) : PurSaid cfgL cod 159 [outV cod 9 a0] (outV cod 0 y) := by
 rw [← product_ok] at h
 obtain ⟨w, h1, h2⟩ := pur_of codOk (inlN_ok codOk (II_ok sd) 6) h
 exact PurSaid.out h2 fun hr => in1_out codOk h1 hr
theorem small_ok (F : Tb) (a0 : Bs) (a1 : Int) (K : (Bool) → Option ((Bool))) : (bodyWK cfgL wcL (inlN cfgL wcL 6 (II _ F)) 160 [outV cod 2 a0, outV cod 0 a1] wm0 fun x => sealK x.2 x.1 fun w => opK (inV cod 4 w) K) = small_c F a0 a1 K := by kernel_rfl
theorem small_sd {F : Tb} (sd : Sd F) (a0 : Bs) (a1 : Int) (y : (Bool)) (h : small_c F a0 a1 some = some y) : PurSaid cfgL cod 160 [outV cod 2 a0, outV cod 0 a1] (outV cod 4 y) := by
 rw [← small_ok] at h
 obtain ⟨w, h1, h2⟩ := pur_of codOk (inlN_ok codOk (II_ok sd) 6) h
 exact PurSaid.out h2 fun hr => in1_out codOk h1 hr
theorem exact_ok (F : Tb) (a0 : Form) (K : (Bool) → Option ((Bool))) : (bodyWK cfgL wcL (inlN cfgL wcL 6 (II _ F)) 188 [outV cod 3 a0] wm0 fun x => sealK x.2 x.1 fun w => opK (inV cod 4 w) K) = exact_c F a0 K := by kernel_rfl
theorem exact_sd {F : Tb} (sd : Sd F) (a0 : Form) (y : (Bool)) (h : exact_c F a0 some = some y) : PurSaid cfgL cod 188 [outV cod 3 a0] (outV cod 4 y) := by
 rw [← exact_ok] at h
 obtain ⟨w, h1, h2⟩ := pur_of codOk (inlN_ok codOk (II_ok sd) 6) h
 exact PurSaid.out h2 fun hr => in1_out codOk h1 hr
theorem Dimensions_ok (F : Tb) (a0 : Form) (K : ((List Int)) × (Int) → Option (((List Int)) × (Int))) : (bodyWK cfgL wcL (inlN cfgL wcL 6 (II _ F)) 25 [outV cod 3 a0] wm0 fun x => sealK x.2 x.1 fun w => tup2K cod 9 0 w fun y0 y1 => K (y0, y1)) = Dimensions_c F a0 K := by kernel_rfl
theorem Dimensions_sd {F : Tb} (sd : Sd F) (a0 : Form) (y : ((List Int)) × (Int)) (h : Dimensions_c F a0 some = some y) : PurSaid cfgL cod 25 [outV cod 3 a0] (.tup [outV cod 9 y.1, outV cod 0 y.2]) := by
 rw [← Dimensions_ok] at h
 obtain ⟨w, h1, h2⟩ := pur_of codOk (inlN_ok codOk (II_ok sd) 6) h
 exact PurSaid.out h2 fun hr => in2_out codOk h1 hr
theorem Number_ok (F : Tb) (a0 : Form) (K : (Bool) → Option ((Bool))) : (bodyWK cfgL wcL (inlN cfgL wcL 6 (II _ F)) 32 [outV cod 3 a0] wm0 fun x => sealK x.2 x.1 fun w => opK (inV cod 4 w) K) = Number_c F a0 K := by kernel_rfl
theorem Number_sd {F : Tb} (sd : Sd F) (a0 : Form) (y : (Bool)) (h : Number_c F a0 some = some y) : PurSaid cfgL cod 32 [outV cod 3 a0] (outV cod 4 y) := by
 rw [← Number_ok] at h
 obtain ⟨w, h1, h2⟩ := pur_of codOk (inlN_ok codOk (II_ok sd) 6) h
 exact PurSaid.out h2 fun hr => in1_out codOk h1 hr
theorem IndexInt_ok (F : Tb) (a0 : (List Int)) (a1 : Int) (K : (Int) → Option ((Int))) : (bodyWK cfgL wcL (inlN cfgL wcL 6 (II _ F)) 163 [outV cod 9 a0, outV cod 0 a1] wm0 fun x => sealK x.2 x.1 fun w => opK (inV cod 0 w) K) = IndexInt_c F a0 a1 K := by kernel_rfl
theorem IndexInt_sd {F : Tb} (sd : Sd F) (a0 : (List Int)) (a1 : Int) (y : (Int)) (h : IndexInt_c F a0 a1 some = some y) : PurSaid cfgL cod 163 [outV cod 9 a0, outV cod 0 a1] (outV cod 0 y) := by
 rw [← IndexInt_ok] at h
 obtain ⟨w, h1, h2⟩ := pur_of codOk (inlN_ok codOk (II_ok sd) 6) h
 exact PurSaid.out h2 fun hr => in1_out codOk h1 hr
theorem rCheck_ok (F : Tb) (a0 : Form) (K : (Int) → Option ((Int))) : (bodyWK cfgL wcL (inlN cfgL wcL 6 (II _ F)) 27 [outV cod 3 a0] wm0 fun x => sealK x.2 x.1 fun w => opK (inV cod 0 w) K) = rCheck_c F a0 K := by kernel_rfl
theorem rCheck_sd {F : Tb} (sd : Sd F) (a0 : Form) (y : (Int)) (h : rCheck_c F a0 some = some y) : PurSaid cfgL cod 27 [outV cod 3 a0] (outV cod 0 y) := by
 rw [← rCheck_ok] at h
 obtain ⟨w, h1, h2⟩ := pur_of codOk (inlN_ok codOk (II_ok sd) 6) h
 exact PurSaid.out h2 fun hr => in1_out codOk h1 hr
theorem rDimensions_ok (F : Tb) (a0 : Form) (K : ((List Int)) × (Int) → Option (((List Int)) × (Int))) : (bodyWK cfgL wcL (inlN cfgL wcL 6 (II _ F)) 26 [outV cod 3 a0] wm0 fun x => sealK x.2 x.1 fun w => tup2K cod 9 0 w fun y0 y1 => K (y0, y1)) = rDimensions_c F a0 K := by kernel_rfl
theorem rDimensions_sd {F : Tb} (sd : Sd F) (a0 : Form) (y : ((List Int)) × (Int)) (h : rDimensions_c F a0 some = some y) : PurSaid cfgL cod 26 [outV cod 3 a0] (.tup [outV cod 9 y.1, outV cod 0 y.2]) := by
 rw [← rDimensions_ok] at h
 obtain ⟨w, h1, h2⟩ := pur_of codOk (inlN_ok codOk (II_ok sd) 6) h
 exact PurSaid.out h2 fun hr => in2_out codOk h1 hr
theorem rdimensions_ok (F : Tb) (a0 : Bs) (K : ((List Int)) × (Bool) → Option (((List Int)) × (Bool))) : (bodyWK cfgL wcL (inlN cfgL wcL 6 (II _ F)) 102 [outV cod 2 a0] wm0 fun x => sealK x.2 x.1 fun w => tup2K cod 9 4 w fun y0 y1 => K (y0, y1)) = rdimensions_c F a0 K := by kernel_rfl
theorem rdimensions_sd {F : Tb} (sd : Sd F) (a0 : Bs) (y : ((List Int)) × (Bool)) (h : rdimensions_c F a0 some = some y) : PurSaid cfgL cod 102 [outV cod 2 a0] (.tup [outV cod 9 y.1, outV cod 4 y.2]) := by
 rw [← rdimensions_ok] at h
 obtain ⟨w, h1, h2⟩ := pur_of codOk (inlN_ok codOk (II_ok sd) 6) h
 exact PurSaid.out h2 fun hr => in2_out codOk h1 hr
theorem nodes_ok (F : Tb) (a0 : Form) (K : (Bool) → Option ((Bool))) : (bodyWK cfgL wcL (inlN cfgL wcL 6 (II _ F)) 103 [outV cod 3 a0] wm0 fun x => sealK x.2 x.1 fun w => opK (inV cod 4 w) K) = nodes_c F a0 K := by kernel_rfl
theorem nodes_sd {F : Tb} (sd : Sd F) (a0 : Form) (y : (Bool)) (h : nodes_c F a0 some = some y) : PurSaid cfgL cod 103 [outV cod 3 a0] (outV cod 4 y) := by
 rw [← nodes_ok] at h
 obtain ⟨w, h1, h2⟩ := pur_of codOk (inlN_ok codOk (II_ok sd) 6) h
 exact PurSaid.out h2 fun hr => in1_out codOk h1 hr
theorem node_ok (F : Tb) (a0 : Form) (K : (Bool) → Option ((Bool))) : (bodyWK cfgL wcL (inlN cfgL wcL 6 (II _ F)) 115 [outV cod 3 a0] wm0 fun x => sealK x.2 x.1 fun w => opK (inV cod 4 w) K) = node_c F a0 K := by kernel_rfl
theorem node_sd {F : Tb} (sd : Sd F) (a0 : Form) (y : (Bool)) (h : node_c F a0 some = some y) : PurSaid cfgL cod 115 [outV cod 3 a0] (outV cod 4 y) := by
 rw [← node_ok] at h
 obtain ⟨w, h1, h2⟩ := pur_of codOk (inlN_ok codOk (II_ok sd) 6) h
 exact PurSaid.out h2 fun hr => in1_out codOk h1 hr
theorem within_ok (F : Tb) (a0 : (List Bs)) (a1 : Bs) (K : (Bool) → Option ((Bool))) : (bodyWK cfgL wcL (inlN cfgL wcL 6 (II _ F)) 147 [outV cod 10 a0, outV cod 2 a1] wm0 fun x => sealK x.2 x.1 fun w => opK (inV cod 4 w) K) = within_c F a0 a1 K := by kernel_rfl
theorem within_sd {F : Tb} (sd : Sd F) (a0 : (List Bs)) (a1 : Bs) (y : (Bool)) (h : within_c F a0 a1 some = some y) : PurSaid cfgL cod 147 [outV cod 10 a0, outV cod 2 a1] (outV cod 4 y) := by
 rw [← within_ok] at h
 obtain ⟨w, h1, h2⟩ := pur_of codOk (inlN_ok codOk (II_ok sd) 6) h
 exact PurSaid.out h2 fun hr => in1_out codOk h1 hr
theorem digits_ok (F : Tb) (a0 : Bs) (K : (Bool) → Option ((Bool))) : (bodyWK cfgL wcL (inlN cfgL wcL 6 (II _ F)) 165 [outV cod 2 a0] wm0 fun x => sealK x.2 x.1 fun w => opK (inV cod 4 w) K) = digits_c F a0 K := by kernel_rfl
theorem digits_sd {F : Tb} (sd : Sd F) (a0 : Bs) (y : (Bool)) (h : digits_c F a0 some = some y) : PurSaid cfgL cod 165 [outV cod 2 a0] (outV cod 4 y) := by
 rw [← digits_ok] at h
 obtain ⟨w, h1, h2⟩ := pur_of codOk (inlN_ok codOk (II_ok sd) 6) h
 exact PurSaid.out h2 fun hr => in1_out codOk h1 hr
theorem value_ok (F : Tb) (a0 : Bs) (K : (Int) → Option ((Int))) : (bodyWK cfgL wcL (inlN cfgL wcL 6 (II _ F)) 166 [outV cod 2 a0] wm0 fun x => sealK x.2 x.1 fun w => opK (inV cod 0 w) K) = value_c F a0 K := by kernel_rfl
theorem value_sd {F : Tb} (sd : Sd F) (a0 : Bs) (y : (Int)) (h : value_c F a0 some = some y) : PurSaid cfgL cod 166 [outV cod 2 a0] (outV cod 0 y) := by
 rw [← value_ok] at h
 obtain ⟨w, h1, h2⟩ := pur_of codOk (inlN_ok codOk (II_ok sd) 6) h
 exact PurSaid.out h2 fun hr => in1_out codOk h1 hr
theorem parts_ok (F : Tb) (a0 : Form) (a1 : Form) (K : (Bool) → Option ((Bool))) : (bodyWK cfgL wcL (inlN cfgL wcL 6 (II _ F)) 171 [outV cod 3 a0, outV cod 3 a1] wm0 fun x => sealK x.2 x.1 fun w => opK (inV cod 4 w) K) = parts_c F a0 a1 K := by kernel_rfl
theorem parts_sd {F : Tb} (sd : Sd F) (a0 : Form) (a1 : Form) (y : (Bool)) (h : parts_c F a0 a1 some = some y) : PurSaid cfgL cod 171 [outV cod 3 a0, outV cod 3 a1] (outV cod 4 y) := by
 rw [← parts_ok] at h
 obtain ⟨w, h1, h2⟩ := pur_of codOk (inlN_ok codOk (II_ok sd) 6) h
 exact PurSaid.out h2 fun hr => in1_out codOk h1 hr
theorem rproduct_ok (F : Tb) (a0 : (List Int)) (K : (Int) → Option ((Int))) : (bodyWK cfgL wcL (inlN cfgL wcL 6 (II _ F)) 172 [outV cod 9 a0] wm0 fun x => sealK x.2 x.1 fun w => opK (inV cod 0 w) K) = rproduct_c F a0 K := by kernel_rfl
theorem rproduct_sd {F : Tb} (sd : Sd F) (a0 : (List Int)) (y : (Int)) (h : rproduct_c F a0 some = some y) : PurSaid cfgL cod 172 [outV cod 9 a0] (outV cod 0 y) := by
 rw [← rproduct_ok] at h
 obtain ⟨w, h1, h2⟩ := pur_of codOk (inlN_ok codOk (II_ok sd) 6) h
 exact PurSaid.out h2 fun hr => in1_out codOk h1 hr
theorem label_ok (F : Tb) (a0 : Bs) (K : (Bool) → Option ((Bool))) : (bodyWK cfgL wcL (inlN cfgL wcL 6 (II _ F)) 173 [outV cod 2 a0] wm0 fun x => sealK x.2 x.1 fun w => opK (inV cod 4 w) K) = label_c F a0 K := by kernel_rfl
theorem label_sd {F : Tb} (sd : Sd F) (a0 : Bs) (y : (Bool)) (h : label_c F a0 some = some y) : PurSaid cfgL cod 173 [outV cod 2 a0] (outV cod 4 y) := by
 rw [← label_ok] at h
 obtain ⟨w, h1, h2⟩ := pur_of codOk (inlN_ok codOk (II_ok sd) 6) h
 exact PurSaid.out h2 fun hr => in1_out codOk h1 hr
theorem atom_ok (F : Tb) (a0 : Form) (K : (Bool) → Option ((Bool))) : (bodyWK cfgL wcL (inlN cfgL wcL 6 (II _ F)) 174 [outV cod 3 a0] wm0 fun x => sealK x.2 x.1 fun w => opK (inV cod 4 w) K) = atom_c F a0 K := by kernel_rfl
theorem atom_sd {F : Tb} (sd : Sd F) (a0 : Form) (y : (Bool)) (h : atom_c F a0 some = some y) : PurSaid cfgL cod 174 [outV cod 3 a0] (outV cod 4 y) := by
 rw [← atom_ok] at h
 obtain ⟨w, h1, h2⟩ := pur_of codOk (inlN_ok codOk (II_ok sd) 6) h
 exact PurSaid.out h2 fun hr => in1_out codOk h1 hr
theorem rexact_ok (F : Tb) (a0 : Form) (K : (Bool) → Option ((Bool))) : (bodyWK cfgL wcL (inlN cfgL wcL 6 (II _ F)) 203 [outV cod 3 a0] wm0 fun x => sealK x.2 x.1 fun w => opK (inV cod 4 w) K) = rexact_c F a0 K := by kernel_rfl
theorem rexact_sd {F : Tb} (sd : Sd F) (a0 : Form) (y : (Bool)) (h : rexact_c F a0 some = some y) : PurSaid cfgL cod 203 [outV cod 3 a0] (outV cod 4 y) := by
 rw [← rexact_ok] at h
 obtain ⟨w, h1, h2⟩ := pur_of codOk (inlN_ok codOk (II_ok sd) 6) h
 exact PurSaid.out h2 fun hr => in1_out codOk h1 hr
theorem whole_ok (F : Tb) (a0 : Bs) (K : (Bool) → Option ((Bool))) : (bodyWK cfgL wcL (inlN cfgL wcL 6 (II _ F)) 204 [outV cod 2 a0] wm0 fun x => sealK x.2 x.1 fun w => opK (inV cod 4 w) K) = whole_c F a0 K := by kernel_rfl
theorem whole_sd {F : Tb} (sd : Sd F) (a0 : Bs) (y : (Bool)) (h : whole_c F a0 some = some y) : PurSaid cfgL cod 204 [outV cod 2 a0] (outV cod 4 y) := by
 rw [← whole_ok] at h
 obtain ⟨w, h1, h2⟩ := pur_of codOk (inlN_ok codOk (II_ok sd) 6) h
 exact PurSaid.out h2 fun hr => in1_out codOk h1 hr
theorem rratio_ok (F : Tb) (a0 : Bs) (K : (Bool) → Option ((Bool))) : (bodyWK cfgL wcL (inlN cfgL wcL 6 (II _ F)) 205 [outV cod 2 a0] wm0 fun x => sealK x.2 x.1 fun w => opK (inV cod 4 w) K) = rratio_c F a0 K := by kernel_rfl
theorem rratio_sd {F : Tb} (sd : Sd F) (a0 : Bs) (y : (Bool)) (h : rratio_c F a0 some = some y) : PurSaid cfgL cod 205 [outV cod 2 a0] (outV cod 4 y) := by
 rw [← rratio_ok] at h
 obtain ⟨w, h1, h2⟩ := pur_of codOk (inlN_ok codOk (II_ok sd) 6) h
 exact PurSaid.out h2 fun hr => in1_out codOk h1 hr
theorem hex_ok (F : Tb) (a0 : Bs) (a1 : Int) (K : (Bool) → Option ((Bool))) : (bodyWK cfgL wcL (inlN cfgL wcL 6 (II _ F)) 206 [outV cod 2 a0, outV cod 0 a1] wm0 fun x => sealK x.2 x.1 fun w => opK (inV cod 4 w) K) = hex_c F a0 a1 K := by kernel_rfl
theorem hex_sd {F : Tb} (sd : Sd F) (a0 : Bs) (a1 : Int) (y : (Bool)) (h : hex_c F a0 a1 some = some y) : PurSaid cfgL cod 206 [outV cod 2 a0, outV cod 0 a1] (outV cod 4 y) := by
 rw [← hex_ok] at h
 obtain ⟨w, h1, h2⟩ := pur_of codOk (inlN_ok codOk (II_ok sd) 6) h
 exact PurSaid.out h2 fun hr => in1_out codOk h1 hr
theorem rNumber_ok (F : Tb) (a0 : Form) (K : (Bool) → Option ((Bool))) : (bodyWK cfgL wcL (inlN cfgL wcL 6 (II _ F)) 33 [outV cod 3 a0] wm0 fun x => sealK x.2 x.1 fun w => opK (inV cod 4 w) K) = rNumber_c F a0 K := by kernel_rfl
theorem rNumber_sd {F : Tb} (sd : Sd F) (a0 : Form) (y : (Bool)) (h : rNumber_c F a0 some = some y) : PurSaid cfgL cod 33 [outV cod 3 a0] (outV cod 4 y) := by
 rw [← rNumber_ok] at h
 obtain ⟨w, h1, h2⟩ := pur_of codOk (inlN_ok codOk (II_ok sd) 6) h
 exact PurSaid.out h2 fun hr => in1_out codOk h1 hr
theorem FormChecks_ok (F : Tb) (a0 : Form) (a1 : Form) (a2 : Bs) (a3 : Bs) (K : (Bool) → Option ((Bool))) : (bodyWK cfgL wcL (inlN cfgL wcL 6 (II _ F)) 5 [outV cod 3 a0, outV cod 3 a1, outV cod 2 a2, outV cod 2 a3] wm0 fun x => sealK x.2 x.1 fun w => opK (inV cod 4 w) K) = FormChecks_c F a0 a1 a2 a3 K := by kernel_rfl
theorem FormChecks_sd {F : Tb} (sd : Sd F) (a0 : Form) (a1 : Form) (a2 : Bs) (a3 : Bs) (y : (Bool)) (h : FormChecks_c F a0 a1 a2 a3 some = some y) : PurSaid cfgL cod 5 [outV cod 3 a0, outV cod 3 a1, outV cod 2 a2, outV cod 2 a3] (outV cod 4 y) := by
 rw [← FormChecks_ok] at h
 obtain ⟨w, h1, h2⟩ := pur_of codOk (inlN_ok codOk (II_ok sd) 6) h
 exact PurSaid.out h2 fun hr => in1_out codOk h1 hr
theorem rSize_ok (F : Tb) (a0 : Form) (K : (Int) × (Int) → Option ((Int) × (Int))) : (bodyWK cfgL wcL (inlN cfgL wcL 6 (II _ F)) 24 [outV cod 3 a0] wm0 fun x => sealK x.2 x.1 fun w => tup2K cod 0 0 w fun y0 y1 => K (y0, y1)) = rSize_c F a0 K := by kernel_rfl
theorem rSize_sd {F : Tb} (sd : Sd F) (a0 : Form) (y : (Int) × (Int)) (h : rSize_c F a0 some = some y) : PurSaid cfgL cod 24 [outV cod 3 a0] (.tup [outV cod 0 y.1, outV cod 0 y.2]) := by
 rw [← rSize_ok] at h
 obtain ⟨w, h1, h2⟩ := pur_of codOk (inlN_ok codOk (II_ok sd) 6) h
 exact PurSaid.out h2 fun hr => in2_out codOk h1 hr
theorem through_ok (F : Tb) (p0 : Form) (p1 : Int) (K : List (W T) × WM T → Option (List (W T) × WM T)) : (heapWK cfgL wcL (inlN cfgL wcL 6 (II _ F)) 142 (through_S p0 p1).1 (through_S p0 p1).2 fun x => opK (canR cod [4] x) fun x => K ([x.1], x.2)) = through_c F p0 p1 fun o => sumK o (fun o => K (through_O0 p0 p1 o)) (fun o => K (through_O1 p0 p1 o)) := by kernel_rfl
theorem through_par {R : Type} (F : Tb) (p0 : Form) (p1 : Int) (K : ((Unit) ⊕ (Unit)) → Option R) : through_c F p0 p1 K = opK (through_c F p0 p1 some) K := by
 unfold through_c
 simp only [through_L0_K, opK_cnd, opK_opK, opK_sumK, opK_none, opK_one]
theorem through_sd {F : Tb} (sd : Sd F) (p0 : Form) (p1 : Int) (o : (Unit) ⊕ (Unit)) (w : W T) (h : through_c F p0 p1 some = some o) (hw : (through_E p0 p1 o).1 = [w]) : HeapSaid cfgL cod 142 (through_S p0 p1).1 (through_S p0 p1).2 w (through_E p0 p1 o).2 := by
 have e := through_ok F p0 p1 some
 rw [through_par, h] at e
 exact @heap_sd _ cfgL wcL _ _ codOk _ (II_ok sd) _ _ (through_E p0 p1 o) _ (e.trans (by rcases o with (o | o) <;> rfl)) hw
theorem through_v1_ok (F : Tb) (p0 : Form) (p1 : Int) (p2 : List (Bs × Bool)) (K : List (W T) × WM T → Option (List (W T) × WM T)) : (heapWK cfgL wcL (inlN cfgL wcL 6 (II _ F)) 142 (through_v1_S p0 p1 p2).1 (through_v1_S p0 p1 p2).2 fun x => opK (canR cod [4] x) fun x => K ([x.1], x.2)) = through_v1_c F p0 p1 p2 fun o => sumK o (fun o => K (through_v1_O0 p0 p1 p2 o)) (fun o => K (through_v1_O1 p0 p1 p2 o)) := by kernel_rfl
theorem through_v1_par {R : Type} (F : Tb) (p0 : Form) (p1 : Int) (p2 : List (Bs × Bool)) (K : (((Int) × (List (Bs × Bool))) ⊕ ((List (Bs × Bool)))) → Option R) : through_v1_c F p0 p1 p2 K = opK (through_v1_c F p0 p1 p2 some) K := by
 unfold through_v1_c
 simp only [through_L1_K, opK_cnd, opK_opK, opK_sumK, opK_none, opK_one]
theorem through_v1_sd {F : Tb} (sd : Sd F) (p0 : Form) (p1 : Int) (p2 : List (Bs × Bool)) (o : ((Int) × (List (Bs × Bool))) ⊕ ((List (Bs × Bool)))) (w : W T) (h : through_v1_c F p0 p1 p2 some = some o) (hw : (through_v1_E p0 p1 p2 o).1 = [w]) : HeapSaid cfgL cod 142 (through_v1_S p0 p1 p2).1 (through_v1_S p0 p1 p2).2 w (through_v1_E p0 p1 p2 o).2 := by
 have e := through_v1_ok F p0 p1 p2 some
 rw [through_v1_par, h] at e
 exact @heap_sd _ cfgL wcL _ _ codOk _ (II_ok sd) _ _ (through_v1_E p0 p1 p2 o) _ (e.trans (by rcases o with (o | o) <;> rfl)) hw
theorem look_ok (F : Tb) (p0 : Form) (p1 : Int) (p2 : Int) (K : List (W T) × WM T → Option (List (W T) × WM T)) : (heapWK cfgL wcL (inlN cfgL wcL 6 (II _ F)) 144 (look_S p0 p1 p2).1 (look_S p0 p1 p2).2 fun x => opK (canR cod [4] x) fun x => K ([x.1], x.2)) = look_c F p0 p1 p2 fun o => K (look_O0 p0 p1 p2 o) := by kernel_rfl
theorem look_par {R : Type} (F : Tb) (p0 : Form) (p1 : Int) (p2 : Int) (K : ((Bool) × (Int)) → Option R) : look_c F p0 p1 p2 K = opK (look_c F p0 p1 p2 some) K := by
 unfold look_c
 simp only [look_L0_K, opK_cnd, opK_opK, opK_sumK, opK_none, opK_one]
theorem look_sd {F : Tb} (sd : Sd F) (p0 : Form) (p1 : Int) (p2 : Int) (o : (Bool) × (Int)) (w : W T) (h : look_c F p0 p1 p2 some = some o) (hw : (look_E p0 p1 p2 o).1 = [w]) : HeapSaid cfgL cod 144 (look_S p0 p1 p2).1 (look_S p0 p1 p2).2 w (look_E p0 p1 p2 o).2 := by
 have e := look_ok F p0 p1 p2 some
 rw [look_par, h] at e
 exact @heap_sd _ cfgL wcL _ _ codOk _ (II_ok sd) _ _ (look_E p0 p1 p2 o) _ (e.trans (by rfl)) hw
theorem labels_ok (F : Tb) (p0 : Form) (p1 : List Bs) (K : List (W T) × WM T → Option (List (W T) × WM T)) : (heapWK cfgL wcL (inlN cfgL wcL 6 (II _ F)) 104 (labels_S p0 p1).1 (labels_S p0 p1).2 fun x => opK (canR cod [102, 0] x) fun x => K ([x.1], x.2)) = labels_c F p0 p1 fun o => K (labels_O0 p0 p1 o) := by kernel_rfl
theorem labels_par {R : Type} (F : Tb) (p0 : Form) (p1 : List Bs) (K : ((Int) × (List Bs)) → Option R) : labels_c F p0 p1 K = opK (labels_c F p0 p1 some) K := by
 unfold labels_c
 simp only [labels_L0_K, labels_P1_K, opK_cnd, opK_opK, opK_sumK, opK_none, opK_one]
theorem labels_sd {F : Tb} (sd : Sd F) (p0 : Form) (p1 : List Bs) (o : (Int) × (List Bs)) (w : W T) (h : labels_c F p0 p1 some = some o) (hw : (labels_E p0 p1 o).1 = [w]) : HeapSaid cfgL cod 104 (labels_S p0 p1).1 (labels_S p0 p1).2 w (labels_E p0 p1 o).2 := by
 have e := labels_ok F p0 p1 some
 rw [labels_par, h] at e
 exact @heap_sd _ cfgL wcL _ _ codOk _ (II_ok sd) _ _ (labels_E p0 p1 o) _ (e.trans (by rfl)) hw
theorem sd_step {F : Tb} (n : Nat) (sd : Sd F) : Sd (stepT F n) where
 through := fun p0 p1 o w h hw => through_sd sd p0 p1 o w h hw
 through_v1 := fun p0 p1 p2 o w h hw => through_v1_sd sd p0 p1 p2 o w h hw
 look := fun p0 p1 p2 o w h hw => look_sd sd p0 p1 p2 o w h hw
 labels := fun p0 p1 o w h hw => labels_sd sd p0 p1 o w h hw
 Size := fun a0 y h => Size_sd sd a0 y h
 rEqual := fun a0 a1 y h => rEqual_sd sd a0 a1 y h
 left := fun a0 a1 y h => left_sd sd a0 a1 y h
 Few := fun a0 a1 y h => Few_sd sd a0 a1 y h
 IsNil := fun a0 y h => IsNil_sd sd a0 y h
 Is := fun a0 a1 a2 y h => Is_sd sd a0 a1 a2 y h
 Equal := fun a0 a1 y h => Equal_sd sd a0 a1 y h
 EqualFunc_f22 := fun a0 a1 y h => EqualFunc_f22_sd sd a0 a1 y h
 rIsNil := fun a0 y h => rIsNil_sd sd a0 y h
 rIs := fun a0 a1 a2 y h => rIs_sd sd a0 a1 a2 y h
 awakeTrees := fun y h => awakeTrees_told y h
 Check := fun a0 y h => Check_sd sd a0 y h
 limited := fun a0 y h => limited_sd sd a0 y h
 right := fun a0 y h => right_sd sd a0 y h
 dimensions := fun a0 y h => dimensions_sd sd a0 y h
 integer := fun a0 y h => integer_sd sd a0 y h
 decimal := fun a0 y h => decimal_sd sd a0 y h
 ratio := fun a0 y h => ratio_sd sd a0 y h
 hexadecimal := fun a0 a1 y h => hexadecimal_sd sd a0 a1 y h
 complex := fun a0 y h => complex_sd sd a0 y h
 product := fun a0 y h => product_sd sd a0 y h
 small := fun a0 a1 y h => small_sd sd a0 a1 y h
 exact := fun a0 y h => exact_sd sd a0 y h
 Dimensions := fun a0 y h => Dimensions_sd sd a0 y h
 Number := fun a0 y h => Number_sd sd a0 y h
 IndexInt := fun a0 a1 y h => IndexInt_sd sd a0 a1 y h
 rCheck := fun a0 y h => rCheck_sd sd a0 y h
 rDimensions := fun a0 y h => rDimensions_sd sd a0 y h
 rdimensions := fun a0 y h => rdimensions_sd sd a0 y h
 nodes := fun a0 y h => nodes_sd sd a0 y h
 node := fun a0 y h => node_sd sd a0 y h
 within := fun a0 a1 y h => within_sd sd a0 a1 y h
 digits := fun a0 y h => digits_sd sd a0 y h
 value := fun a0 y h => value_sd sd a0 y h
 parts := fun a0 a1 y h => parts_sd sd a0 a1 y h
 rproduct := fun a0 y h => rproduct_sd sd a0 y h
 label := fun a0 y h => label_sd sd a0 y h
 atom := fun a0 y h => atom_sd sd a0 y h
 rexact := fun a0 y h => rexact_sd sd a0 y h
 whole := fun a0 y h => whole_sd sd a0 y h
 rratio := fun a0 y h => rratio_sd sd a0 y h
 hex := fun a0 a1 y h => hex_sd sd a0 a1 y h
 rNumber := fun a0 y h => rNumber_sd sd a0 y h
 FormChecks := fun a0 a1 a2 a3 y h => FormChecks_sd sd a0 a1 a2 a3 y h
 rSize := fun a0 y h => rSize_sd sd a0 y h
 Size_L0 := fun p0 p1 p2 p3 p4 v o h => Size_L0_sd sd p0 p1 p2 p3 p4 n v o h
 rEqual_L0 := fun p0 p1 p2 p3 p4 p5 p6 p7 v o h => rEqual_L0_sd sd p0 p1 p2 p3 p4 p5 p6 p7 n v o h
 left_L0 := fun p0 p1 p2 p3 v o h => left_L0_sd sd p0 p1 p2 p3 n v o h
 EqualFunc_L0 := fun p0 p1 p2 v o h => EqualFunc_L0_sd sd p0 p1 p2 n v o h
 through_L0 := fun p0 p1 p2 p3 p4 p5 v o h => through_L0_sd sd p0 p1 p2 p3 p4 p5 n v o h
 through_L1 := fun p0 p1 p2 p3 p4 p5 v o h => through_L1_sd sd p0 p1 p2 p3 p4 p5 n v o h
 look_L0 := fun p0 p1 p2 p3 p4 p5 v o h => look_L0_sd sd p0 p1 p2 p3 p4 p5 n v o h
 right_L0 := fun p0 p1 p2 p3 v o h => right_L0_sd sd p0 p1 p2 p3 n v o h
 f221_L0 := fun v o h => f221_L0_sd sd n v o h
 decimal_L0 := fun p0 p1 v o h => decimal_L0_sd sd p0 p1 n v o h
 ratio_L0 := fun v o h => ratio_L0_sd sd n v o h
 product_L0 := fun p0 p1 v o h => product_L0_sd sd p0 p1 n v o h
 IndexInt_L0 := fun p0 p1 p2 v o h => IndexInt_L0_sd sd p0 p1 p2 n v o h
 labels_L0 := fun p0 p1 p2 p3 v o h => labels_L0_sd sd p0 p1 p2 p3 n v o h
 labels_P1 := fun p0 p1 p2 p3 p4 p5 p6 o h => labels_P1_sd sd p0 p1 p2 p3 p4 p5 p6 o h
 rdimensions_L0 := fun p0 v o h => rdimensions_L0_sd sd p0 n v o h
 nodes_L0 := fun p0 p1 p2 p3 v o h => nodes_L0_sd sd p0 p1 p2 p3 n v o h
 within_L0 := fun p0 p1 v o h => within_L0_sd sd p0 p1 n v o h
 digits_L0 := fun p0 v o h => digits_L0_sd sd p0 n v o h
 value_L0 := fun p0 v o h => value_L0_sd sd p0 n v o h
 rproduct_L0 := fun p0 v o h => rproduct_L0_sd sd p0 n v o h
 rproduct_L1 := fun p0 v o h => rproduct_L1_sd sd p0 n v o h
 atom_L0 := fun p0 p1 p2 p3 v o h => atom_L0_sd sd p0 p1 p2 p3 n v o h
 rratio_L0 := fun p0 v o h => rratio_L0_sd sd p0 n v o h
 rratio_L1 := fun v o h => rratio_L1_sd sd n v o h
 hex_L0 := fun p0 p1 v o h => hex_L0_sd sd p0 p1 n v o h
 FormChecks_L0 := fun p0 p1 p2 p3 p4 p5 p6 p7 p8 p9 p10 p11 p12 v o h => FormChecks_L0_sd sd p0 p1 p2 p3 p4 p5 p6 p7 p8 p9 p10 p11 p12 n v o h
 rSize_L0 := fun p0 p1 p2 p3 v o h => rSize_L0_sd sd p0 p1 p2 p3 n v o h
theorem sd_none : Sd noneT where
 through := fun p0 p1 o w h hw => by cases h
 through_v1 := fun p0 p1 p2 o w h hw => by cases h
 look := fun p0 p1 p2 o w h hw => by cases h
 labels := fun p0 p1 o w h hw => by cases h
 Size := fun a0 y h => by cases h
 rEqual := fun a0 a1 y h => by cases h
 left := fun a0 a1 y h => by cases h
 Few := fun a0 a1 y h => by cases h
 IsNil := fun a0 y h => by cases h
 Is := fun a0 a1 a2 y h => by cases h
 Equal := fun a0 a1 y h => by cases h
 EqualFunc_f22 := fun a0 a1 y h => by cases h
 rIsNil := fun a0 y h => by cases h
 rIs := fun a0 a1 a2 y h => by cases h
 awakeTrees := fun y h => by cases h
 Check := fun a0 y h => by cases h
 limited := fun a0 y h => by cases h
 right := fun a0 y h => by cases h
 dimensions := fun a0 y h => by cases h
 integer := fun a0 y h => by cases h
 decimal := fun a0 y h => by cases h
 ratio := fun a0 y h => by cases h
 hexadecimal := fun a0 a1 y h => by cases h
 complex := fun a0 y h => by cases h
 product := fun a0 y h => by cases h
 small := fun a0 a1 y h => by cases h
 exact := fun a0 y h => by cases h
 Dimensions := fun a0 y h => by cases h
 Number := fun a0 y h => by cases h
 IndexInt := fun a0 a1 y h => by cases h
 rCheck := fun a0 y h => by cases h
 rDimensions := fun a0 y h => by cases h
 rdimensions := fun a0 y h => by cases h
 nodes := fun a0 y h => by cases h
 node := fun a0 y h => by cases h
 within := fun a0 a1 y h => by cases h
 digits := fun a0 y h => by cases h
 value := fun a0 y h => by cases h
 parts := fun a0 a1 y h => by cases h
 rproduct := fun a0 y h => by cases h
 label := fun a0 y h => by cases h
 atom := fun a0 y h => by cases h
 rexact := fun a0 y h => by cases h
 whole := fun a0 y h => by cases h
 rratio := fun a0 y h => by cases h
 hex := fun a0 a1 y h => by cases h
 rNumber := fun a0 y h => by cases h
 FormChecks := fun a0 a1 a2 a3 y h => by cases h
 rSize := fun a0 y h => by cases h
 Size_L0 := fun p0 p1 p2 p3 p4 v o h => by cases h
 rEqual_L0 := fun p0 p1 p2 p3 p4 p5 p6 p7 v o h => by cases h
 left_L0 := fun p0 p1 p2 p3 v o h => by cases h
 EqualFunc_L0 := fun p0 p1 p2 v o h => by cases h
 through_L0 := fun p0 p1 p2 p3 p4 p5 v o h => by cases h
 through_L1 := fun p0 p1 p2 p3 p4 p5 v o h => by cases h
 look_L0 := fun p0 p1 p2 p3 p4 p5 v o h => by cases h
 right_L0 := fun p0 p1 p2 p3 v o h => by cases h
 f221_L0 := fun v o h => by cases h
 decimal_L0 := fun p0 p1 v o h => by cases h
 ratio_L0 := fun v o h => by cases h
 product_L0 := fun p0 p1 v o h => by cases h
 IndexInt_L0 := fun p0 p1 p2 v o h => by cases h
 labels_L0 := fun p0 p1 p2 p3 v o h => by cases h
 labels_P1 := fun p0 p1 p2 p3 p4 p5 p6 o h => by cases h
 rdimensions_L0 := fun p0 v o h => by cases h
 nodes_L0 := fun p0 p1 p2 p3 v o h => by cases h
 within_L0 := fun p0 p1 v o h => by cases h
 digits_L0 := fun p0 v o h => by cases h
 value_L0 := fun p0 v o h => by cases h
 rproduct_L0 := fun p0 v o h => by cases h
 rproduct_L1 := fun p0 v o h => by cases h
 atom_L0 := fun p0 p1 p2 p3 v o h => by cases h
 rratio_L0 := fun p0 v o h => by cases h
 rratio_L1 := fun v o h => by cases h
 hex_L0 := fun p0 p1 v o h => by cases h
 FormChecks_L0 := fun p0 p1 p2 p3 p4 p5 p6 p7 p8 p9 p10 p11 p12 v o h => by cases h
 rSize_L0 := fun p0 p1 p2 p3 v o h => by cases h
theorem sd : ∀ n, Sd (tb n)
 | 0 => sd_none
 | n + 1 => sd_step n (sd n)
end Go.Proofs.YtpdgbhjhodhkiaaGreatDoor.AI
