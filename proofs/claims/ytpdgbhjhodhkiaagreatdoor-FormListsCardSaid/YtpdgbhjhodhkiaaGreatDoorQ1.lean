/- What the functions do, as functions of Lean: printed by a program of ours out of the loaded program. -/
import Derived.Test.YtpdgbhjhodhkiaaGreatDoorQ0
set_option linter.unnecessarySimpa false
set_option linter.unusedVariables false
set_option linter.unusedSimpArgs false
set_option maxRecDepth 100000
namespace Go.Proofs.YtpdgbhjhodhkiaaGreatDoor.AI
open Go Go.Proofs
def un (n : Nat) : List (W T) := List.replicate n .undef
structure Tb where
  Size : (Form) → Option ((Int) × (Int))
  rEqual : (Form) → (Form) → Option ((Bool))
  left : (Form) → (Int) → Option ((Int))
  Few : (Form) → (Int) → Option ((Bool))
  same : ((List Form)) → ((List Form)) → Option ((Bool))
  Dotted : ((List Form)) → (Form) → Option ((Form))
  Spread : (Form) → Option (((List Form)) × (Form))
  mkList : ((List Form)) → Option ((Form))
  Items : (Form) → Option (((List Form)) × (Bool))
  IsNil : (Form) → Option ((Bool))
  Is : (Form) → (Bs) → (Bs) → Option ((Bool))
  Symbol : (Bs) → (Bs) → Option ((Form))
  Nil : Option ((Form))
  Equal : (Form) → (Form) → Option ((Bool))
  EqualFunc_f22 : ((List Form)) → ((List Form)) → Option ((Bool))
  Concat : ((List (List Form))) → Option (((List Form)))
  rDotted : ((List Form)) → (Form) → Option ((Form))
  rSpread : (Form) → Option (((List Form)) × (Form))
  rItems : (Form) → Option (((List Form)) × (Bool))
  rList : ((List Form)) → Option ((Form))
  Call : (Bs) → ((List Form)) → Option ((Form))
  rCall : (Bs) → ((List Form)) → Option ((Form))
  rNil : Option ((Form))
  rSymbol : (Bs) → (Bs) → Option ((Form))
  rIsNil : (Form) → Option ((Bool))
  rIs : (Form) → (Bs) → (Bs) → Option ((Bool))
  awakeTrees : Option ((Bool))
  FormSpreads : ((List Form)) → ((List Form)) → (Form) → Option ((Bool))
  FormLists : ((List Form)) → (Form) → (Bs) → Option ((Bool))
def FormSpreads_L7010111_S (p0 : List Form) (p1 : List Form) (p2 : Int) (p3 : Int) (p4 : Bs) (p5 : Bs) (p6 : List Form) (v : (Int) × (Int)) : WSt T := { tm := [.row 3 (p0) false, .row 3 (p1) false, .undef, .undef, .undef, .ptr 0 0, .bool (false), .int .i64 (v.fst)] ++ (un 32 ++ ([.row 3 (p0) false, .int .i64 (p2), .int .i64 (v.snd)] ++ (un 90))), mem := { A := [[.int .i64 (p3), .str (p4), .str (p5), .row 3 (p6) false]], H := [], la := 0, lh := 0, pa := 0, ph := 0 }, df := [], rd := false }
def FormSpreads_L7010111_gp0 (st : WSt T) : List Form := (W.toR 3 (st.tm.getD 0 .undef))
def FormSpreads_L7010111_gp1 (st : WSt T) : List Form := (W.toR 3 (st.tm.getD 1 .undef))
def FormSpreads_L7010111_gp2 (st : WSt T) : Int := (W.toI (st.tm.getD 41 .undef))
def FormSpreads_L7010111_gp3 (st : WSt T) : Int := (W.toI ((st.mem.A.getD 0 []).getD 0 .undef))
def FormSpreads_L7010111_gp4 (st : WSt T) : Bs := (W.toS ((st.mem.A.getD 0 []).getD 1 .undef))
def FormSpreads_L7010111_gp5 (st : WSt T) : Bs := (W.toS ((st.mem.A.getD 0 []).getD 2 .undef))
def FormSpreads_L7010111_gp6 (st : WSt T) : List Form := (W.toR 3 ((st.mem.A.getD 0 []).getD 3 .undef))
def FormSpreads_L7010111_gv (st : WSt T) : (Int) × (Int) := ((W.toI (st.tm.getD 7 .undef)), (W.toI (st.tm.getD 42 .undef)))
def FormSpreads_L7010111_O0 (p0 : List Form) (p1 : List Form) (p2 : Int) (p3 : Int) (p4 : Bs) (p5 : Bs) (p6 : List Form) (o : (Bool) × (Int) × (Int)) : WSt T := { tm := [.row 3 (p0) false, .row 3 (p1) false, .undef, .undef, .undef, .ptr 0 0, .bool (o.fst), .int .i64 (o.snd.fst)] ++ (un 32 ++ ([.row 3 (p0) false, .int .i64 (p2), .int .i64 (o.snd.snd)] ++ (un 90))), mem := { A := [[.int .i64 (p3), .str (p4), .str (p5), .row 3 (p6) false]], H := [], la := 0, lh := 0, pa := 0, ph := 0 }, df := [], rd := false }
def FormSpreads_L7010111_O1 (p0 : List Form) (p1 : List Form) (p2 : Int) (p3 : Int) (p4 : Bs) (p5 : Bs) (p6 : List Form) (o : (Int) × (Int)) : WSt T := { tm := [.row 3 (p0) false, .row 3 (p1) false, .undef, .undef, .undef, .ptr 0 0, .bool (false), .int .i64 (o.fst)] ++ (un 32 ++ ([.row 3 (p0) false, .int .i64 (p2), .int .i64 (o.snd)] ++ (un 90))), mem := { A := [[.int .i64 (p3), .str (p4), .str (p5), .row 3 (p6) false]], H := [], la := 0, lh := 0, pa := 0, ph := 0 }, df := [], rd := false }
noncomputable def FormSpreads_L7010111_R (F : Tb) (n : Nat) (p0 : List Form) (p1 : List Form) (p2 : Int) (p3 : Int) (p4 : Bs) (p5 : Bs) (p6 : List Form) (v : (Int) × (Int)) {R : Type} (K : (((Bool) × (Int) × (Int)) ⊕ ((Int) × (Int))) ⊕ ((Int) × (Int)) → Option R) : Option R :=
  cnd (decide (v.snd < p2))
    (
    opK (idx p0 v.snd) fun x13 =>
    opK (F.Few (Form.mk x13.kind x13.text x13.home x13.kids) (100)) fun y14 =>
    cnd (!y14)
      (
      opK (F.awakeTrees ) fun y15 =>
      K (.inl (.inl ((y15, v.fst, v.snd)))))
      (
      opK (F.Size (Form.mk x13.kind x13.text x13.home x13.kids)) fun y16 =>
      cnd (ok64 (v.fst + y16.fst))
        (
        cnd (ok64 (v.snd + 1))
          (
          K (.inr ((v.fst + y16.fst, v.snd + 1))))
          (
          none))
        (
        none)))
    (
    K (.inl (.inr ((v.fst, v.snd)))))
noncomputable def FormSpreads_L7010111 (F : Tb) (n : Nat) : Nat → (List Form) → (List Form) → (Int) → (Int) → (Bs) → (Bs) → (List Form) → ((Int) × (Int)) → Option (((Bool) × (Int) × (Int)) ⊕ ((Int) × (Int)))
  | 0, _, _, _, _, _, _, _, _ => none
  | m + 1, p0, p1, p2, p3, p4, p5, p6, v => FormSpreads_L7010111_R F n p0 p1 p2 p3 p4 p5 p6 v fun x => sumK x some fun v => FormSpreads_L7010111 F n m p0 p1 p2 p3 p4 p5 p6 v
def FormSpreads_L7010111_E (p0 : List Form) (p1 : List Form) (p2 : Int) (p3 : Int) (p4 : Bs) (p5 : Bs) (p6 : List Form) (o : ((Bool) × (Int) × (Int)) ⊕ ((Int) × (Int))) : Ex × WSt T := match o with
  | .inl o => (.ret, FormSpreads_L7010111_O0 p0 p1 p2 p3 p4 p5 p6 o)
  | .inr o => ((.exit 0), FormSpreads_L7010111_O1 p0 p1 p2 p3 p4 p5 p6 o)
def FormSpreads_L7010111_q : Prep := ⟨[2, 3, 4, 8, 9, 10, 11, 12, 13, 14, 15, 16, 17, 18, 19, 20, 21, 22, 23, 24, 25, 26, 27, 28, 29, 30, 31, 32, 33, 34, 35, 36, 37, 38, 39, 43, 44, 45, 46, 47, 48, 49, 50, 51, 52, 53, 54, 55, 56, 57, 58, 59, 60, 61, 62, 63, 64, 65, 66, 67, 68, 69, 70, 71, 72, 73, 74, 75, 76, 77, 78, 79, 80, 81, 82, 83, 84, 85, 86, 87, 88, 89, 90, 91, 92, 93, 94, 95, 96, 97, 98, 99, 100, 101, 102, 103, 104, 105, 106, 107, 108, 109, 110, 111, 112, 113, 114, 115, 116, 117, 118, 119, 120, 121, 122, 123, 124, 125, 126, 127, 128, 129, 130, 131, 132], [], []⟩
noncomputable def FormSpreads_L7010111_H {R : Type} (F : Tb) (n : Nat) (c : Code) (st : WSt T) (k : Ex × WSt T → Option R) : Option R :=
  opK (prepW FormSpreads_L7010111_q st) fun st' => opK (chk2 c (loopAt 6 [0, 1, 0, 1, 1, 1]) st' (FormSpreads_L7010111_S (FormSpreads_L7010111_gp0 st') (FormSpreads_L7010111_gp1 st') (FormSpreads_L7010111_gp2 st') (FormSpreads_L7010111_gp3 st') (FormSpreads_L7010111_gp4 st') (FormSpreads_L7010111_gp5 st') (FormSpreads_L7010111_gp6 st') (FormSpreads_L7010111_gv st'))) fun _ => opK (FormSpreads_L7010111 F n n (FormSpreads_L7010111_gp0 st') (FormSpreads_L7010111_gp1 st') (FormSpreads_L7010111_gp2 st') (FormSpreads_L7010111_gp3 st') (FormSpreads_L7010111_gp4 st') (FormSpreads_L7010111_gp5 st') (FormSpreads_L7010111_gp6 st') (FormSpreads_L7010111_gv st')) fun o => sumK o (fun o => k (.ret, FormSpreads_L7010111_O0 (FormSpreads_L7010111_gp0 st') (FormSpreads_L7010111_gp1 st') (FormSpreads_L7010111_gp2 st') (FormSpreads_L7010111_gp3 st') (FormSpreads_L7010111_gp4 st') (FormSpreads_L7010111_gp5 st') (FormSpreads_L7010111_gp6 st') o)) (fun o => k ((.exit 0), FormSpreads_L7010111_O1 (FormSpreads_L7010111_gp0 st') (FormSpreads_L7010111_gp1 st') (FormSpreads_L7010111_gp2 st') (FormSpreads_L7010111_gp3 st') (FormSpreads_L7010111_gp4 st') (FormSpreads_L7010111_gp5 st') (FormSpreads_L7010111_gp6 st') o))
def FormSpreads_L80101111_S (p0 : List Form) (p1 : List Form) (p2 : Int) (p3 : Int) (p4 : Int) (p5 : Bs) (p6 : Bs) (p7 : List Form) (v : (Int)) : WSt T := { tm := [.row 3 (p0) false, .row 3 (p1) false, .undef, .undef, .undef, .ptr 0 0, .bool (false), .int .i64 (p2)] ++ (un 51 ++ ([.row 3 (p1) false, .int .i64 (p3), .int .i64 (v)] ++ (un 71))), mem := { A := [[.int .i64 (p4), .str (p5), .str (p6), .row 3 (p7) false]], H := [], la := 0, lh := 0, pa := 0, ph := 0 }, df := [], rd := false }
def FormSpreads_L80101111_gp0 (st : WSt T) : List Form := (W.toR 3 (st.tm.getD 0 .undef))
def FormSpreads_L80101111_gp1 (st : WSt T) : List Form := (W.toR 3 (st.tm.getD 1 .undef))
def FormSpreads_L80101111_gp2 (st : WSt T) : Int := (W.toI (st.tm.getD 7 .undef))
def FormSpreads_L80101111_gp3 (st : WSt T) : Int := (W.toI (st.tm.getD 60 .undef))
def FormSpreads_L80101111_gp4 (st : WSt T) : Int := (W.toI ((st.mem.A.getD 0 []).getD 0 .undef))
def FormSpreads_L80101111_gp5 (st : WSt T) : Bs := (W.toS ((st.mem.A.getD 0 []).getD 1 .undef))
def FormSpreads_L80101111_gp6 (st : WSt T) : Bs := (W.toS ((st.mem.A.getD 0 []).getD 2 .undef))
def FormSpreads_L80101111_gp7 (st : WSt T) : List Form := (W.toR 3 ((st.mem.A.getD 0 []).getD 3 .undef))
def FormSpreads_L80101111_gv (st : WSt T) : (Int) := (W.toI (st.tm.getD 61 .undef))
def FormSpreads_L80101111_O0 (p0 : List Form) (p1 : List Form) (p2 : Int) (p3 : Int) (p4 : Int) (p5 : Bs) (p6 : Bs) (p7 : List Form) (o : (Bool) × (Int)) : WSt T := { tm := [.row 3 (p0) false, .row 3 (p1) false, .undef, .undef, .undef, .ptr 0 0, .bool (o.fst), .int .i64 (p2)] ++ (un 51 ++ ([.row 3 (p1) false, .int .i64 (p3), .int .i64 (o.snd)] ++ (un 71))), mem := { A := [[.int .i64 (p4), .str (p5), .str (p6), .row 3 (p7) false]], H := [], la := 0, lh := 0, pa := 0, ph := 0 }, df := [], rd := false }
def FormSpreads_L80101111_O1 (p0 : List Form) (p1 : List Form) (p2 : Int) (p3 : Int) (p4 : Int) (p5 : Bs) (p6 : Bs) (p7 : List Form) (o : (Int)) : WSt T := { tm := [.row 3 (p0) false, .row 3 (p1) false, .undef, .undef, .undef, .ptr 0 0, .bool (false), .int .i64 (p2)] ++ (un 51 ++ ([.row 3 (p1) false, .int .i64 (p3), .int .i64 (o)] ++ (un 71))), mem := { A := [[.int .i64 (p4), .str (p5), .str (p6), .row 3 (p7) false]], H := [], la := 0, lh := 0, pa := 0, ph := 0 }, df := [], rd := false }
noncomputable def FormSpreads_L80101111_R (F : Tb) (n : Nat) (p0 : List Form) (p1 : List Form) (p2 : Int) (p3 : Int) (p4 : Int) (p5 : Bs) (p6 : Bs) (p7 : List Form) (v : (Int)) {R : Type} (K : (((Bool) × (Int)) ⊕ ((Int))) ⊕ ((Int)) → Option R) : Option R :=
  cnd (decide (v < p3))
    (
    opK (idx p1 v) fun x26 =>
    opK (F.Few (Form.mk x26.kind x26.text x26.home x26.kids) (100)) fun y27 =>
    cnd (!y27)
      (
      opK (F.awakeTrees ) fun y28 =>
      K (.inl (.inl ((y28, v)))))
      (
      cnd (ok64 (v + 1))
        (
        K (.inr (v + 1)))
        (
        none)))
    (
    K (.inl (.inr (v))))
noncomputable def FormSpreads_L80101111 (F : Tb) (n : Nat) : Nat → (List Form) → (List Form) → (Int) → (Int) → (Int) → (Bs) → (Bs) → (List Form) → ((Int)) → Option (((Bool) × (Int)) ⊕ ((Int)))
  | 0, _, _, _, _, _, _, _, _, _ => none
  | m + 1, p0, p1, p2, p3, p4, p5, p6, p7, v => FormSpreads_L80101111_R F n p0 p1 p2 p3 p4 p5 p6 p7 v fun x => sumK x some fun v => FormSpreads_L80101111 F n m p0 p1 p2 p3 p4 p5 p6 p7 v
def FormSpreads_L80101111_E (p0 : List Form) (p1 : List Form) (p2 : Int) (p3 : Int) (p4 : Int) (p5 : Bs) (p6 : Bs) (p7 : List Form) (o : ((Bool) × (Int)) ⊕ ((Int))) : Ex × WSt T := match o with
  | .inl o => (.ret, FormSpreads_L80101111_O0 p0 p1 p2 p3 p4 p5 p6 p7 o)
  | .inr o => ((.exit 2), FormSpreads_L80101111_O1 p0 p1 p2 p3 p4 p5 p6 p7 o)
def FormSpreads_L80101111_q : Prep := ⟨[2, 3, 4, 8, 9, 10, 11, 12, 13, 14, 15, 16, 17, 18, 19, 20, 21, 22, 23, 24, 25, 26, 27, 28, 29, 30, 31, 32, 33, 34, 35, 36, 37, 38, 39, 40, 41, 42, 43, 44, 45, 46, 47, 48, 49, 50, 51, 52, 53, 54, 55, 56, 57, 58, 62, 63, 64, 65, 66, 67, 68, 69, 70, 71, 72, 73, 74, 75, 76, 77, 78, 79, 80, 81, 82, 83, 84, 85, 86, 87, 88, 89, 90, 91, 92, 93, 94, 95, 96, 97, 98, 99, 100, 101, 102, 103, 104, 105, 106, 107, 108, 109, 110, 111, 112, 113, 114, 115, 116, 117, 118, 119, 120, 121, 122, 123, 124, 125, 126, 127, 128, 129, 130, 131, 132], [], []⟩
noncomputable def FormSpreads_L80101111_H {R : Type} (F : Tb) (n : Nat) (c : Code) (st : WSt T) (k : Ex × WSt T → Option R) : Option R :=
  opK (prepW FormSpreads_L80101111_q st) fun st' => opK (chk2 c (loopAt 6 [0, 1, 0, 1, 1, 1, 1]) st' (FormSpreads_L80101111_S (FormSpreads_L80101111_gp0 st') (FormSpreads_L80101111_gp1 st') (FormSpreads_L80101111_gp2 st') (FormSpreads_L80101111_gp3 st') (FormSpreads_L80101111_gp4 st') (FormSpreads_L80101111_gp5 st') (FormSpreads_L80101111_gp6 st') (FormSpreads_L80101111_gp7 st') (FormSpreads_L80101111_gv st'))) fun _ => opK (FormSpreads_L80101111 F n n (FormSpreads_L80101111_gp0 st') (FormSpreads_L80101111_gp1 st') (FormSpreads_L80101111_gp2 st') (FormSpreads_L80101111_gp3 st') (FormSpreads_L80101111_gp4 st') (FormSpreads_L80101111_gp5 st') (FormSpreads_L80101111_gp6 st') (FormSpreads_L80101111_gp7 st') (FormSpreads_L80101111_gv st')) fun o => sumK o (fun o => k (.ret, FormSpreads_L80101111_O0 (FormSpreads_L80101111_gp0 st') (FormSpreads_L80101111_gp1 st') (FormSpreads_L80101111_gp2 st') (FormSpreads_L80101111_gp3 st') (FormSpreads_L80101111_gp4 st') (FormSpreads_L80101111_gp5 st') (FormSpreads_L80101111_gp6 st') (FormSpreads_L80101111_gp7 st') o)) (fun o => k ((.exit 2), FormSpreads_L80101111_O1 (FormSpreads_L80101111_gp0 st') (FormSpreads_L80101111_gp1 st') (FormSpreads_L80101111_gp2 st') (FormSpreads_L80101111_gp3 st') (FormSpreads_L80101111_gp4 st') (FormSpreads_L80101111_gp5 st') (FormSpreads_L80101111_gp6 st') (FormSpreads_L80101111_gp7 st') o))
noncomputable def FormSpreads_c (F : Tb) (n : Nat) (a0 : (List Form)) (a1 : (List Form)) (a2 : Form) {R : Type} (K : (Bool) → Option R) : Option R :=
  cnd (decide ((↑a0.length : Int) > 30))
    (
    opK (F.awakeTrees ) fun y0 =>
    K (y0))
    (
    cnd (decide ((↑a1.length : Int) > 30))
      (
      opK (F.awakeTrees ) fun y1 =>
      K (y1))
      (
      cnd (decide ((↑a0.length : Int) < 1))
        (
        opK (F.awakeTrees ) fun y2 =>
        K (y2))
        (
        opK (F.Few (Form.mk a2.kind a2.text a2.home a2.kids) (100)) fun y3 =>
        cnd (!y3)
          (
          opK (F.awakeTrees ) fun y4 =>
          K (y4))
          (
          opK (chk (loopAt 6 [0, 1, 0, 1, 1, 1]) (FormSpreads_L7010111_S (a0) (a1) ((↑a0.length : Int)) (a2.kind) (a2.text) (a2.home) (a2.kids) (1, 0))) fun _ => opK (FormSpreads_L7010111 F n n (a0) (a1) ((↑a0.length : Int)) (a2.kind) (a2.text) (a2.home) (a2.kids) (1, 0)) fun o17 =>
          sumK o17 (fun o18 =>
            K (o18.fst)) (fun o19 =>
            opK (chk (loopAt 6 [0, 1, 0, 1, 1, 1, 1]) (FormSpreads_L80101111_S (a0) (a1) (o19.fst) ((↑a1.length : Int)) (a2.kind) (a2.text) (a2.home) (a2.kids) 0)) fun _ => opK (FormSpreads_L80101111 F n n (a0) (a1) (o19.fst) ((↑a1.length : Int)) (a2.kind) (a2.text) (a2.home) (a2.kids) 0) fun o29 =>
            sumK o29 (fun o30 =>
              K (o30.fst)) (fun o31 =>
              opK (F.mkList (a0)) fun y32 =>
              opK (F.Items (Form.mk y32.kind y32.text y32.home y32.kids)) fun y33 =>
              opK (F.mkList (a0)) fun y34 =>
              opK (F.Size (Form.mk y34.kind y34.text y34.home y34.kids)) fun y35 =>
              cnd (!y33.snd)
                (
                K (false))
                (
                opK (F.same (y33.fst) (a0)) fun y36 =>
                cnd (!y36)
                  (
                  K (false))
                  (
                  cnd (ok64 (o19.fst + 1))
                    (
                    cnd (y35.fst != o19.fst + 1)
                      (
                      K (false))
                      (
                      cnd (decide (a0.length * 64 ≤ 140737488355328))
                        (
                        cnd (decide ((a0.length + a1.length) * 64 ≤ 140737488355328))
                          (
                          opK (F.Dotted (a1) (Form.mk a2.kind a2.text a2.home a2.kids)) fun y37 =>
                          opK (F.Dotted (a0) (Form.mk y37.kind y37.text y37.home y37.kids)) fun y38 =>
                          opK (F.Dotted (a0 ++ a1) (Form.mk a2.kind a2.text a2.home a2.kids)) fun y39 =>
                          opK (F.Equal (Form.mk y38.kind y38.text y38.home y38.kids) (Form.mk y39.kind y39.text y39.home y39.kids)) fun y40 =>
                          cnd (!y40)
                            (
                            K (false))
                            (
                            cnd (a2.kind == 10)
                              (
                              opK (F.awakeTrees ) fun y41 =>
                              K (y41))
                              (
                              opK (F.Dotted (a0) (Form.mk a2.kind a2.text a2.home a2.kids)) fun y42 =>
                              opK (F.Spread (Form.mk y42.kind y42.text y42.home y42.kids)) fun y43 =>
                              opK (F.same (y43.fst) (a0)) fun y44 =>
                              cnd (y44)
                                (
                                opK (F.Equal (Form.mk y43.snd.kind y43.snd.text y43.snd.home y43.snd.kids) (Form.mk a2.kind a2.text a2.home a2.kids)) fun y45 =>
                                cnd (y45)
                                  (
                                  opK (F.awakeTrees ) fun y46 =>
                                  K (y46))
                                  (
                                  K (false)))
                                (
                                K (false)))))
                          (
                          none))
                        (
                        none)))
                    (
                    none)))))))))
def FormLists_L601011_S (p0 : List Form) (p1 : Bs) (p2 : Int) (p3 : Int) (p4 : Bs) (p5 : Bs) (p6 : List Form) (v : (Int)) : WSt T := { tm := [.row 3 (p0) false, .undef, .str (p1), .undef, .ptr 0 0, .undef, .bool (false)] ++ (un 20 ++ ([.row 3 (p0) false, .int .i64 (p2), .int .i64 (v)] ++ (un 75))), mem := { A := [[.int .i64 (p3), .str (p4), .str (p5), .row 3 (p6) false]], H := [], la := 0, lh := 0, pa := 0, ph := 0 }, df := [], rd := false }
def FormLists_L601011_gp0 (st : WSt T) : List Form := (W.toR 3 (st.tm.getD 0 .undef))
def FormLists_L601011_gp1 (st : WSt T) : Bs := (W.toS (st.tm.getD 2 .undef))
def FormLists_L601011_gp2 (st : WSt T) : Int := (W.toI (st.tm.getD 28 .undef))
def FormLists_L601011_gp3 (st : WSt T) : Int := (W.toI ((st.mem.A.getD 0 []).getD 0 .undef))
def FormLists_L601011_gp4 (st : WSt T) : Bs := (W.toS ((st.mem.A.getD 0 []).getD 1 .undef))
def FormLists_L601011_gp5 (st : WSt T) : Bs := (W.toS ((st.mem.A.getD 0 []).getD 2 .undef))
def FormLists_L601011_gp6 (st : WSt T) : List Form := (W.toR 3 ((st.mem.A.getD 0 []).getD 3 .undef))
def FormLists_L601011_gv (st : WSt T) : (Int) := (W.toI (st.tm.getD 29 .undef))
def FormLists_L601011_O0 (p0 : List Form) (p1 : Bs) (p2 : Int) (p3 : Int) (p4 : Bs) (p5 : Bs) (p6 : List Form) (o : (Bool) × (Int)) : WSt T := { tm := [.row 3 (p0) false, .undef, .str (p1), .undef, .ptr 0 0, .undef, .bool (o.fst)] ++ (un 20 ++ ([.row 3 (p0) false, .int .i64 (p2), .int .i64 (o.snd)] ++ (un 75))), mem := { A := [[.int .i64 (p3), .str (p4), .str (p5), .row 3 (p6) false]], H := [], la := 0, lh := 0, pa := 0, ph := 0 }, df := [], rd := false }
def FormLists_L601011_O1 (p0 : List Form) (p1 : Bs) (p2 : Int) (p3 : Int) (p4 : Bs) (p5 : Bs) (p6 : List Form) (o : (Int)) : WSt T := { tm := [.row 3 (p0) false, .undef, .str (p1), .undef, .ptr 0 0, .undef, .bool (false)] ++ (un 20 ++ ([.row 3 (p0) false, .int .i64 (p2), .int .i64 (o)] ++ (un 75))), mem := { A := [[.int .i64 (p3), .str (p4), .str (p5), .row 3 (p6) false]], H := [], la := 0, lh := 0, pa := 0, ph := 0 }, df := [], rd := false }
noncomputable def FormLists_L601011_R (F : Tb) (n : Nat) (p0 : List Form) (p1 : Bs) (p2 : Int) (p3 : Int) (p4 : Bs) (p5 : Bs) (p6 : List Form) (v : (Int)) {R : Type} (K : (((Bool) × (Int)) ⊕ ((Int))) ⊕ ((Int)) → Option R) : Option R :=
  cnd (decide (v < p2))
    (
    opK (idx p0 v) fun x9 =>
    opK (F.Few (Form.mk x9.kind x9.text x9.home x9.kids) (200)) fun y10 =>
    cnd (!y10)
      (
      opK (F.awakeTrees ) fun y11 =>
      K (.inl (.inl ((y11, v)))))
      (
      cnd (ok64 (v + 1))
        (
        K (.inr (v + 1)))
        (
        none)))
    (
    K (.inl (.inr (v))))
noncomputable def FormLists_L601011 (F : Tb) (n : Nat) : Nat → (List Form) → (Bs) → (Int) → (Int) → (Bs) → (Bs) → (List Form) → ((Int)) → Option (((Bool) × (Int)) ⊕ ((Int)))
  | 0, _, _, _, _, _, _, _, _ => none
  | m + 1, p0, p1, p2, p3, p4, p5, p6, v => FormLists_L601011_R F n p0 p1 p2 p3 p4 p5 p6 v fun x => sumK x some fun v => FormLists_L601011 F n m p0 p1 p2 p3 p4 p5 p6 v
def FormLists_L601011_E (p0 : List Form) (p1 : Bs) (p2 : Int) (p3 : Int) (p4 : Bs) (p5 : Bs) (p6 : List Form) (o : ((Bool) × (Int)) ⊕ ((Int))) : Ex × WSt T := match o with
  | .inl o => (.ret, FormLists_L601011_O0 p0 p1 p2 p3 p4 p5 p6 o)
  | .inr o => ((.exit 0), FormLists_L601011_O1 p0 p1 p2 p3 p4 p5 p6 o)
def FormLists_L601011_q : Prep := ⟨[1, 3, 5, 7, 8, 9, 10, 11, 12, 13, 14, 15, 16, 17, 18, 19, 20, 21, 22, 23, 24, 25, 26, 30, 31, 32, 33, 34, 35, 36, 37, 38, 39, 40, 41, 42, 43, 44, 45, 46, 47, 48, 49, 50, 51, 52, 53, 54, 55, 56, 57, 58, 59, 60, 61, 62, 63, 64, 65, 66, 67, 68, 69, 70, 71, 72, 73, 74, 75, 76, 77, 78, 79, 80, 81, 82, 83, 84, 85, 86, 87, 88, 89, 90, 91, 92, 93, 94, 95, 96, 97, 98, 99, 100, 101, 102, 103, 104], [], []⟩
noncomputable def FormLists_L601011_H {R : Type} (F : Tb) (n : Nat) (c : Code) (st : WSt T) (k : Ex × WSt T → Option R) : Option R :=
  opK (prepW FormLists_L601011_q st) fun st' => opK (chk2 c (loopAt 7 [0, 1, 0, 1, 1]) st' (FormLists_L601011_S (FormLists_L601011_gp0 st') (FormLists_L601011_gp1 st') (FormLists_L601011_gp2 st') (FormLists_L601011_gp3 st') (FormLists_L601011_gp4 st') (FormLists_L601011_gp5 st') (FormLists_L601011_gp6 st') (FormLists_L601011_gv st'))) fun _ => opK (FormLists_L601011 F n n (FormLists_L601011_gp0 st') (FormLists_L601011_gp1 st') (FormLists_L601011_gp2 st') (FormLists_L601011_gp3 st') (FormLists_L601011_gp4 st') (FormLists_L601011_gp5 st') (FormLists_L601011_gp6 st') (FormLists_L601011_gv st')) fun o => sumK o (fun o => k (.ret, FormLists_L601011_O0 (FormLists_L601011_gp0 st') (FormLists_L601011_gp1 st') (FormLists_L601011_gp2 st') (FormLists_L601011_gp3 st') (FormLists_L601011_gp4 st') (FormLists_L601011_gp5 st') (FormLists_L601011_gp6 st') o)) (fun o => k ((.exit 0), FormLists_L601011_O1 (FormLists_L601011_gp0 st') (FormLists_L601011_gp1 st') (FormLists_L601011_gp2 st') (FormLists_L601011_gp3 st') (FormLists_L601011_gp4 st') (FormLists_L601011_gp5 st') (FormLists_L601011_gp6 st') o))
noncomputable def FormLists_c (F : Tb) (n : Nat) (a0 : (List Form)) (a1 : Form) (a2 : Bs) {R : Type} (K : (Bool) → Option R) : Option R :=
  cnd (decide ((↑a0.length : Int) > 40))
    (
    opK (F.awakeTrees ) fun y0 =>
    K (y0))
    (
    opK (F.Few (Form.mk a1.kind a1.text a1.home a1.kids) (200)) fun y1 =>
    cnd (!y1)
      (
      opK (F.awakeTrees ) fun y2 =>
      K (y2))
      (
      opK (chk (loopAt 7 [0, 1, 0, 1, 1]) (FormLists_L601011_S (a0) (a2) ((↑a0.length : Int)) (a1.kind) (a1.text) (a1.home) (a1.kids) 0)) fun _ => opK (FormLists_L601011 F n n (a0) (a2) ((↑a0.length : Int)) (a1.kind) (a1.text) (a1.home) (a1.kids) 0) fun o12 =>
      sumK o12 (fun o13 =>
        K (o13.fst)) (fun o14 =>
        opK (F.rDotted (a0) (Form.mk a1.kind a1.text a1.home a1.kids)) fun y15 =>
        opK (F.Spread (Form.mk y15.kind y15.text y15.home y15.kids)) fun y16 =>
        opK (F.rSpread (Form.mk y15.kind y15.text y15.home y15.kids)) fun y17 =>
        opK (F.Items (Form.mk y15.kind y15.text y15.home y15.kids)) fun y18 =>
        opK (F.rItems (Form.mk y15.kind y15.text y15.home y15.kids)) fun y19 =>
        opK (F.mkList (a0)) fun y20 =>
        opK (F.rList (a0)) fun y21 =>
        opK (F.rEqual (Form.mk y20.kind y20.text y20.home y20.kids) (Form.mk y21.kind y21.text y21.home y21.kids)) fun y22 =>
        cnd (y22)
          (
          opK (F.Dotted (a0) (Form.mk a1.kind a1.text a1.home a1.kids)) fun y23 =>
          opK (F.rEqual (Form.mk y23.kind y23.text y23.home y23.kids) (Form.mk y15.kind y15.text y15.home y15.kids)) fun y24 =>
          cnd (y24)
            (
            opK (F.Call (a2) (a0)) fun y25 =>
            opK (F.rCall (a2) (a0)) fun y26 =>
            opK (F.rEqual (Form.mk y25.kind y25.text y25.home y25.kids) (Form.mk y26.kind y26.text y26.home y26.kids)) fun y27 =>
            cnd (y27)
              (
              opK (F.same (y16.fst) (y17.fst)) fun y28 =>
              cnd (y28)
                (
                opK (F.rEqual (Form.mk y16.snd.kind y16.snd.text y16.snd.home y16.snd.kids) (Form.mk y17.snd.kind y17.snd.text y17.snd.home y17.snd.kids)) fun y29 =>
                cnd (y29)
                  (
                  opK (F.same (y18.fst) (y19.fst)) fun y30 =>
                  cnd (y30)
                    (
                    cnd (y18.snd == y19.snd)
                      (
                      opK (F.awakeTrees ) fun y31 =>
                      K (y31))
                      (
                      K (false)))
                    (
                    K (false)))
                  (
                  K (false)))
                (
                K (false)))
              (
              K (false)))
            (
            K (false)))
          (
          K (false)))))
def Size_L601011_S (p0 : List Form) (p1 : Int) (p2 : Int) (p3 : Bs) (p4 : Bs) (v : (Int) × (Int) × (Int)) : WSt T := { tm := [.undef, .undef, .int .i64 (v.fst), .int .i64 (v.snd.fst), .undef, .undef, .undef, .undef, .undef, .row 3 (p0) false, .int .i64 (p1), .int .i64 (v.snd.snd)] ++ (un 18), mem := { A := [[.int .i64 (p2), .str (p3), .str (p4), .row 3 (p0) false]], H := [], la := 0, lh := 0, pa := 0, ph := 0 }, df := [], rd := false }
def Size_L601011_gp0 (st : WSt T) : List Form := (W.toR 3 (st.tm.getD 9 .undef))
def Size_L601011_gp1 (st : WSt T) : Int := (W.toI (st.tm.getD 10 .undef))
def Size_L601011_gp2 (st : WSt T) : Int := (W.toI ((st.mem.A.getD 0 []).getD 0 .undef))
def Size_L601011_gp3 (st : WSt T) : Bs := (W.toS ((st.mem.A.getD 0 []).getD 1 .undef))
def Size_L601011_gp4 (st : WSt T) : Bs := (W.toS ((st.mem.A.getD 0 []).getD 2 .undef))
def Size_L601011_gv (st : WSt T) : (Int) × (Int) × (Int) := ((W.toI (st.tm.getD 2 .undef)), (W.toI (st.tm.getD 3 .undef)), (W.toI (st.tm.getD 11 .undef)))
def Size_L601011_O0 (p0 : List Form) (p1 : Int) (p2 : Int) (p3 : Bs) (p4 : Bs) (o : (Int) × (Int) × (Int)) : WSt T := { tm := [.undef, .undef, .int .i64 (o.fst), .int .i64 (o.snd.fst), .undef, .undef, .undef, .undef, .undef, .row 3 (p0) false, .int .i64 (p1), .int .i64 (o.snd.snd)] ++ (un 18), mem := { A := [[.int .i64 (p2), .str (p3), .str (p4), .row 3 (p0) false]], H := [], la := 0, lh := 0, pa := 0, ph := 0 }, df := [], rd := false }
noncomputable def Size_L601011_R (F : Tb) (n : Nat) (p0 : List Form) (p1 : Int) (p2 : Int) (p3 : Bs) (p4 : Bs) (v : (Int) × (Int) × (Int)) {R : Type} (K : ((Int) × (Int) × (Int)) ⊕ ((Int) × (Int) × (Int)) → Option R) : Option R :=
  cnd (decide (v.snd.snd < p1))
    (
    opK (idx p0 v.snd.snd) fun x4 =>
    opK (F.Size (Form.mk x4.kind x4.text x4.home x4.kids)) fun y5 =>
    cnd (ok64 (v.fst + y5.fst))
      (
      cnd (ok64 (v.snd.snd + 1))
        (
        K (.inr ((v.fst + y5.fst, max v.snd.fst y5.snd, v.snd.snd + 1))))
        (
        none))
      (
      none))
    (
    K (.inl ((v.fst, v.snd.fst, v.snd.snd))))
noncomputable def Size_L601011 (F : Tb) (n : Nat) : Nat → (List Form) → (Int) → (Int) → (Bs) → (Bs) → ((Int) × (Int) × (Int)) → Option ((Int) × (Int) × (Int))
  | 0, _, _, _, _, _, _ => none
  | m + 1, p0, p1, p2, p3, p4, v => Size_L601011_R F n p0 p1 p2 p3 p4 v fun x => sumK x some fun v => Size_L601011 F n m p0 p1 p2 p3 p4 v
def Size_L601011_E (p0 : List Form) (p1 : Int) (p2 : Int) (p3 : Bs) (p4 : Bs) (o : (Int) × (Int) × (Int)) : Ex × WSt T := ((.exit 0), Size_L601011_O0 p0 p1 p2 p3 p4 o)
def Size_L601011_q : Prep := ⟨[0, 1, 4, 5, 6, 7, 8, 12, 13, 14, 15, 16, 17, 18, 19, 20, 21, 22, 23, 24, 25, 26, 27, 28, 29], [], []⟩
noncomputable def Size_L601011_H {R : Type} (F : Tb) (n : Nat) (c : Code) (st : WSt T) (k : Ex × WSt T → Option R) : Option R :=
  opK (prepW Size_L601011_q st) fun st' => opK (chk2 c (loopAt 23 [0, 1, 0, 1, 1]) st' (Size_L601011_S (Size_L601011_gp0 st') (Size_L601011_gp1 st') (Size_L601011_gp2 st') (Size_L601011_gp3 st') (Size_L601011_gp4 st') (Size_L601011_gv st'))) fun _ => opK (Size_L601011 F n n (Size_L601011_gp0 st') (Size_L601011_gp1 st') (Size_L601011_gp2 st') (Size_L601011_gp3 st') (Size_L601011_gp4 st') (Size_L601011_gv st')) fun o => k ((.exit 0), Size_L601011_O0 (Size_L601011_gp0 st') (Size_L601011_gp1 st') (Size_L601011_gp2 st') (Size_L601011_gp3 st') (Size_L601011_gp4 st') o)
noncomputable def Size_c (F : Tb) (n : Nat) (a0 : Form) {R : Type} (K : (Int) × (Int) → Option R) : Option R :=
  opK (chk (loopAt 23 [0, 1, 0, 1, 1]) (Size_L601011_S (a0.kids) ((↑a0.kids.length : Int)) (a0.kind) (a0.text) (a0.home) (1, 0, 0))) fun _ => opK (Size_L601011 F n n (a0.kids) ((↑a0.kids.length : Int)) (a0.kind) (a0.text) (a0.home) (1, 0, 0)) fun o6 =>
  cnd (ok64 (o6.snd.fst + 1))
    (
    K (o6.fst, o6.snd.fst + 1))
    (
    none)
def rEqual_L601011_S (p0 : Int) (p1 : Bs) (p2 : Bs) (p3 : List Form) (p4 : Int) (p5 : Bs) (p6 : Bs) (p7 : List Form) (v : (Int)) : WSt T := { tm := [.undef, .undef, .ptr 0 0, .ptr 1 0, .bool (false), .int .i64 (v)] ++ (un 47), mem := { A := [[.int .i64 (p0), .str (p1), .str (p2), .row 3 (p3) false], [.int .i64 (p4), .str (p5), .str (p6), .row 3 (p7) false]], H := [], la := 0, lh := 0, pa := 0, ph := 0 }, df := [], rd := false }
def rEqual_L601011_gp0 (st : WSt T) : Int := (W.toI ((st.mem.A.getD 0 []).getD 0 .undef))
def rEqual_L601011_gp1 (st : WSt T) : Bs := (W.toS ((st.mem.A.getD 0 []).getD 1 .undef))
def rEqual_L601011_gp2 (st : WSt T) : Bs := (W.toS ((st.mem.A.getD 0 []).getD 2 .undef))
def rEqual_L601011_gp3 (st : WSt T) : List Form := (W.toR 3 ((st.mem.A.getD 0 []).getD 3 .undef))
def rEqual_L601011_gp4 (st : WSt T) : Int := (W.toI ((st.mem.A.getD 1 []).getD 0 .undef))
def rEqual_L601011_gp5 (st : WSt T) : Bs := (W.toS ((st.mem.A.getD 1 []).getD 1 .undef))
def rEqual_L601011_gp6 (st : WSt T) : Bs := (W.toS ((st.mem.A.getD 1 []).getD 2 .undef))
def rEqual_L601011_gp7 (st : WSt T) : List Form := (W.toR 3 ((st.mem.A.getD 1 []).getD 3 .undef))
def rEqual_L601011_gv (st : WSt T) : (Int) := (W.toI (st.tm.getD 5 .undef))
def rEqual_L601011_O0 (p0 : Int) (p1 : Bs) (p2 : Bs) (p3 : List Form) (p4 : Int) (p5 : Bs) (p6 : Bs) (p7 : List Form) (o : (Int)) : WSt T := { tm := [.undef, .undef, .ptr 0 0, .ptr 1 0, .bool (false), .int .i64 (o)] ++ (un 47), mem := { A := [[.int .i64 (p0), .str (p1), .str (p2), .row 3 (p3) false], [.int .i64 (p4), .str (p5), .str (p6), .row 3 (p7) false]], H := [], la := 0, lh := 0, pa := 0, ph := 0 }, df := [], rd := false }
def rEqual_L601011_O1 (p0 : Int) (p1 : Bs) (p2 : Bs) (p3 : List Form) (p4 : Int) (p5 : Bs) (p6 : Bs) (p7 : List Form) (o : (Int)) : WSt T := { tm := [.undef, .undef, .ptr 0 0, .ptr 1 0, .bool (false), .int .i64 (o)] ++ (un 47), mem := { A := [[.int .i64 (p0), .str (p1), .str (p2), .row 3 (p3) false], [.int .i64 (p4), .str (p5), .str (p6), .row 3 (p7) false]], H := [], la := 0, lh := 0, pa := 0, ph := 0 }, df := [], rd := false }
noncomputable def rEqual_L601011_R (F : Tb) (n : Nat) (p0 : Int) (p1 : Bs) (p2 : Bs) (p3 : List Form) (p4 : Int) (p5 : Bs) (p6 : Bs) (p7 : List Form) (v : (Int)) {R : Type} (K : (((Int)) ⊕ ((Int))) ⊕ ((Int)) → Option R) : Option R :=
  cnd (decide (v < (↑p3.length : Int)))
    (
    opK (idx p3 v) fun x13 =>
    opK (idx p7 v) fun x14 =>
    opK (F.rEqual (Form.mk x13.kind x13.text x13.home x13.kids) (Form.mk x14.kind x14.text x14.home x14.kids)) fun y15 =>
    cnd (!y15)
      (
      K (.inl (.inl (v))))
      (
      cnd (ok64 (v + 1))
        (
        K (.inr (v + 1)))
        (
        none)))
    (
    K (.inl (.inr (v))))
noncomputable def rEqual_L601011 (F : Tb) (n : Nat) : Nat → (Int) → (Bs) → (Bs) → (List Form) → (Int) → (Bs) → (Bs) → (List Form) → ((Int)) → Option (((Int)) ⊕ ((Int)))
  | 0, _, _, _, _, _, _, _, _, _ => none
  | m + 1, p0, p1, p2, p3, p4, p5, p6, p7, v => rEqual_L601011_R F n p0 p1 p2 p3 p4 p5 p6 p7 v fun x => sumK x some fun v => rEqual_L601011 F n m p0 p1 p2 p3 p4 p5 p6 p7 v
def rEqual_L601011_E (p0 : Int) (p1 : Bs) (p2 : Bs) (p3 : List Form) (p4 : Int) (p5 : Bs) (p6 : Bs) (p7 : List Form) (o : ((Int)) ⊕ ((Int))) : Ex × WSt T := match o with
  | .inl o => (.ret, rEqual_L601011_O0 p0 p1 p2 p3 p4 p5 p6 p7 o)
  | .inr o => ((.exit 0), rEqual_L601011_O1 p0 p1 p2 p3 p4 p5 p6 p7 o)
def rEqual_L601011_q : Prep := ⟨[0, 1, 6, 7, 8, 9, 10, 11, 12, 13, 14, 15, 16, 17, 18, 19, 20, 21, 22, 23, 24, 25, 26, 27, 28, 29, 30, 31, 32, 33, 34, 35, 36, 37, 38, 39, 40, 41, 42, 43, 44, 45, 46, 47, 48, 49, 50, 51, 52], [], []⟩
noncomputable def rEqual_L601011_H {R : Type} (F : Tb) (n : Nat) (c : Code) (st : WSt T) (k : Ex × WSt T → Option R) : Option R :=
  opK (prepW rEqual_L601011_q st) fun st' => opK (chk2 c (loopAt 15 [0, 1, 0, 1, 1]) st' (rEqual_L601011_S (rEqual_L601011_gp0 st') (rEqual_L601011_gp1 st') (rEqual_L601011_gp2 st') (rEqual_L601011_gp3 st') (rEqual_L601011_gp4 st') (rEqual_L601011_gp5 st') (rEqual_L601011_gp6 st') (rEqual_L601011_gp7 st') (rEqual_L601011_gv st'))) fun _ => opK (rEqual_L601011 F n n (rEqual_L601011_gp0 st') (rEqual_L601011_gp1 st') (rEqual_L601011_gp2 st') (rEqual_L601011_gp3 st') (rEqual_L601011_gp4 st') (rEqual_L601011_gp5 st') (rEqual_L601011_gp6 st') (rEqual_L601011_gp7 st') (rEqual_L601011_gv st')) fun o => sumK o (fun o => k (.ret, rEqual_L601011_O0 (rEqual_L601011_gp0 st') (rEqual_L601011_gp1 st') (rEqual_L601011_gp2 st') (rEqual_L601011_gp3 st') (rEqual_L601011_gp4 st') (rEqual_L601011_gp5 st') (rEqual_L601011_gp6 st') (rEqual_L601011_gp7 st') o)) (fun o => k ((.exit 0), rEqual_L601011_O1 (rEqual_L601011_gp0 st') (rEqual_L601011_gp1 st') (rEqual_L601011_gp2 st') (rEqual_L601011_gp3 st') (rEqual_L601011_gp4 st') (rEqual_L601011_gp5 st') (rEqual_L601011_gp6 st') (rEqual_L601011_gp7 st') o))
noncomputable def rEqual_c (F : Tb) (n : Nat) (a0 : Form) (a1 : Form) {R : Type} (K : (Bool) → Option R) : Option R :=
  cnd (a0.kind != a1.kind)
    (
    K (false))
    (
    cnd (!a0.text == a1.text)
      (
      K (false))
      (
      cnd (!a0.home == a1.home)
        (
        K (false))
        (
        cnd ((↑a0.kids.length : Int) != (↑a1.kids.length : Int))
          (
          K (false))
          (
          opK (chk (loopAt 15 [0, 1, 0, 1, 1]) (rEqual_L601011_S (a0.kind) (a0.text) (a0.home) (a0.kids) (a1.kind) (a1.text) (a1.home) (a1.kids) 0)) fun _ => opK (rEqual_L601011 F n n (a0.kind) (a0.text) (a0.home) (a0.kids) (a1.kind) (a1.text) (a1.home) (a1.kids) 0) fun o16 =>
          sumK o16 (fun o17 =>
            K (false)) (fun o18 =>
            K (true))))))
def left_L601011_S (p0 : Int) (p1 : Bs) (p2 : Bs) (p3 : List Form) (v : (Int) × (Int)) : WSt T := { tm := [.undef, .int .i64 (v.fst), .ptr 0 0, .undef, .int .i64 (0), .int .i64 (v.snd)] ++ (un 21), mem := { A := [[.int .i64 (p0), .str (p1), .str (p2), .row 3 (p3) false]], H := [], la := 0, lh := 0, pa := 0, ph := 0 }, df := [], rd := false }
def left_L601011_gp0 (st : WSt T) : Int := (W.toI ((st.mem.A.getD 0 []).getD 0 .undef))
def left_L601011_gp1 (st : WSt T) : Bs := (W.toS ((st.mem.A.getD 0 []).getD 1 .undef))
def left_L601011_gp2 (st : WSt T) : Bs := (W.toS ((st.mem.A.getD 0 []).getD 2 .undef))
def left_L601011_gp3 (st : WSt T) : List Form := (W.toR 3 ((st.mem.A.getD 0 []).getD 3 .undef))
def left_L601011_gv (st : WSt T) : (Int) × (Int) := ((W.toI (st.tm.getD 1 .undef)), (W.toI (st.tm.getD 5 .undef)))
def left_L601011_O0 (p0 : Int) (p1 : Bs) (p2 : Bs) (p3 : List Form) (o : (Int) × (Int)) : WSt T := { tm := [.undef, .int .i64 (o.fst), .ptr 0 0, .undef, .int .i64 (0), .int .i64 (o.snd)] ++ (un 21), mem := { A := [[.int .i64 (p0), .str (p1), .str (p2), .row 3 (p3) false]], H := [], la := 0, lh := 0, pa := 0, ph := 0 }, df := [], rd := false }
noncomputable def left_L601011_R (F : Tb) (n : Nat) (p0 : Int) (p1 : Bs) (p2 : Bs) (p3 : List Form) (v : (Int) × (Int)) {R : Type} (K : ((Int) × (Int)) ⊕ ((Int) × (Int)) → Option R) : Option R :=
  cnd (decide (v.snd < (↑p3.length : Int)))
    (
    cnd (decide (v.fst ≥ 0))
      (
      opK (idx p3 v.snd) fun x23 =>
      opK (F.left (Form.mk x23.kind x23.text x23.home x23.kids) (v.fst)) fun y24 =>
      cnd (ok64 (v.snd + 1))
        (
        K (.inr ((y24, v.snd + 1))))
        (
        none))
      (
      K (.inl ((v.fst, v.snd)))))
    (
    K (.inl ((v.fst, v.snd))))
noncomputable def left_L601011 (F : Tb) (n : Nat) : Nat → (Int) → (Bs) → (Bs) → (List Form) → ((Int) × (Int)) → Option ((Int) × (Int))
  | 0, _, _, _, _, _ => none
  | m + 1, p0, p1, p2, p3, v => left_L601011_R F n p0 p1 p2 p3 v fun x => sumK x some fun v => left_L601011 F n m p0 p1 p2 p3 v
def left_L601011_E (p0 : Int) (p1 : Bs) (p2 : Bs) (p3 : List Form) (o : (Int) × (Int)) : Ex × WSt T := ((.exit 0), left_L601011_O0 p0 p1 p2 p3 o)
def left_L601011_q : Prep := ⟨[0, 3, 6, 7, 8, 9, 10, 11, 12, 13, 14, 15, 16, 17, 18, 19, 20, 21, 22, 23, 24, 25, 26], [], []⟩
noncomputable def left_L601011_H {R : Type} (F : Tb) (n : Nat) (c : Code) (st : WSt T) (k : Ex × WSt T → Option R) : Option R :=
  opK (prepW left_L601011_q st) fun st' => opK (chk2 c (loopAt 73 [0, 1, 0, 1, 1]) st' (left_L601011_S (left_L601011_gp0 st') (left_L601011_gp1 st') (left_L601011_gp2 st') (left_L601011_gp3 st') (left_L601011_gv st'))) fun _ => opK (left_L601011 F n n (left_L601011_gp0 st') (left_L601011_gp1 st') (left_L601011_gp2 st') (left_L601011_gp3 st') (left_L601011_gv st')) fun o => k ((.exit 0), left_L601011_O0 (left_L601011_gp0 st') (left_L601011_gp1 st') (left_L601011_gp2 st') (left_L601011_gp3 st') o)
noncomputable def left_c (F : Tb) (n : Nat) (a0 : Form) (a1 : Int) {R : Type} (K : (Int) → Option R) : Option R :=
  cnd (ok64 (a1 - 1))
    (
    opK (chk (loopAt 73 [0, 1, 0, 1, 1]) (left_L601011_S (a0.kind) (a0.text) (a0.home) (a0.kids) (a1 - 1, 0))) fun _ => opK (left_L601011 F n n (a0.kind) (a0.text) (a0.home) (a0.kids) (a1 - 1, 0)) fun o25 =>
    K (o25.fst))
    (
    none)
noncomputable def Few_c (F : Tb) (n : Nat) (a0 : Form) (a1 : Int) {R : Type} (K : (Bool) → Option R) : Option R :=
  opK (F.left (Form.mk a0.kind a0.text a0.home a0.kids) (a1)) fun y26 =>
  K (decide (y26 ≥ 0))
def same_L601011_S (p0 : List Form) (p1 : List Form) (p2 : Int) (v : (Int)) : WSt T := { tm := [.row 3 (p0) false, .row 3 (p1) false, .undef, .undef, .bool (false)] ++ (un 7 ++ ([.int .i64 (p2), .int .i64 (v)] ++ (un 13))), mem := { A := [], H := [], la := 0, lh := 0, pa := 0, ph := 0 }, df := [], rd := false }
def same_L601011_gp0 (st : WSt T) : List Form := (W.toR 3 (st.tm.getD 0 .undef))
def same_L601011_gp1 (st : WSt T) : List Form := (W.toR 3 (st.tm.getD 1 .undef))
def same_L601011_gp2 (st : WSt T) : Int := (W.toI (st.tm.getD 12 .undef))
def same_L601011_gv (st : WSt T) : (Int) := (W.toI (st.tm.getD 13 .undef))
def same_L601011_O0 (p0 : List Form) (p1 : List Form) (p2 : Int) (o : (Int)) : WSt T := { tm := [.row 3 (p0) false, .row 3 (p1) false, .undef, .undef, .bool (false)] ++ (un 7 ++ ([.int .i64 (p2), .int .i64 (o)] ++ (un 13))), mem := { A := [], H := [], la := 0, lh := 0, pa := 0, ph := 0 }, df := [], rd := false }
def same_L601011_O1 (p0 : List Form) (p1 : List Form) (p2 : Int) (o : (Int)) : WSt T := { tm := [.row 3 (p0) false, .row 3 (p1) false, .undef, .undef, .bool (false)] ++ (un 7 ++ ([.int .i64 (p2), .int .i64 (o)] ++ (un 13))), mem := { A := [], H := [], la := 0, lh := 0, pa := 0, ph := 0 }, df := [], rd := false }
noncomputable def same_L601011_R (F : Tb) (n : Nat) (p0 : List Form) (p1 : List Form) (p2 : Int) (v : (Int)) {R : Type} (K : (((Int)) ⊕ ((Int))) ⊕ ((Int)) → Option R) : Option R :=
  cnd (decide (v < p2))
    (
    opK (idx p0 v) fun x33 =>
    opK (idx p1 v) fun x34 =>
    opK (F.rEqual (Form.mk x33.kind x33.text x33.home x33.kids) (Form.mk x34.kind x34.text x34.home x34.kids)) fun y35 =>
    cnd (!y35)
      (
      K (.inl (.inl (v))))
      (
      cnd (ok64 (v + 1))
        (
        K (.inr (v + 1)))
        (
        none)))
    (
    K (.inl (.inr (v))))
noncomputable def same_L601011 (F : Tb) (n : Nat) : Nat → (List Form) → (List Form) → (Int) → ((Int)) → Option (((Int)) ⊕ ((Int)))
  | 0, _, _, _, _ => none
  | m + 1, p0, p1, p2, v => same_L601011_R F n p0 p1 p2 v fun x => sumK x some fun v => same_L601011 F n m p0 p1 p2 v
def same_L601011_E (p0 : List Form) (p1 : List Form) (p2 : Int) (o : ((Int)) ⊕ ((Int))) : Ex × WSt T := match o with
  | .inl o => (.ret, same_L601011_O0 p0 p1 p2 o)
  | .inr o => ((.exit 0), same_L601011_O1 p0 p1 p2 o)
def same_L601011_q : Prep := ⟨[2, 3, 5, 6, 7, 8, 9, 10, 11, 14, 15, 16, 17, 18, 19, 20, 21, 22, 23, 24, 25, 26], [], []⟩
noncomputable def same_L601011_H {R : Type} (F : Tb) (n : Nat) (c : Code) (st : WSt T) (k : Ex × WSt T → Option R) : Option R :=
  opK (prepW same_L601011_q st) fun st' => opK (chk2 c (loopAt 36 [0, 1, 0, 1, 1]) st' (same_L601011_S (same_L601011_gp0 st') (same_L601011_gp1 st') (same_L601011_gp2 st') (same_L601011_gv st'))) fun _ => opK (same_L601011 F n n (same_L601011_gp0 st') (same_L601011_gp1 st') (same_L601011_gp2 st') (same_L601011_gv st')) fun o => sumK o (fun o => k (.ret, same_L601011_O0 (same_L601011_gp0 st') (same_L601011_gp1 st') (same_L601011_gp2 st') o)) (fun o => k ((.exit 0), same_L601011_O1 (same_L601011_gp0 st') (same_L601011_gp1 st') (same_L601011_gp2 st') o))
noncomputable def same_c (F : Tb) (n : Nat) (a0 : (List Form)) (a1 : (List Form)) {R : Type} (K : (Bool) → Option R) : Option R :=
  cnd ((↑a0.length : Int) != (↑a1.length : Int))
    (
    K (false))
    (
    opK (chk (loopAt 36 [0, 1, 0, 1, 1]) (same_L601011_S (a0) (a1) ((↑a0.length : Int)) 0)) fun _ => opK (same_L601011 F n n (a0) (a1) ((↑a0.length : Int)) 0) fun o36 =>
    sumK o36 (fun o37 =>
      K (false)) (fun o38 =>
      K (true)))
noncomputable def Dotted_c (F : Tb) (n : Nat) (a0 : (List Form)) (a1 : Form) {R : Type} (K : (Form) → Option R) : Option R :=
  cnd ((↑a0.length : Int) == 0)
    (
    K (Form.mk a1.kind a1.text a1.home a1.kids))
    (
    cnd (a1.kind == 10)
      (
      opK (F.Concat ([a0, a1.kids])) fun y39 =>
      K (Form.mk 10 [] [] y39))
      (
      opK (F.Concat ([a0, [Form.mk a1.kind a1.text a1.home a1.kids]])) fun y40 =>
      K (Form.mk 10 [] [] y40)))
noncomputable def Spread_c (F : Tb) (n : Nat) (a0 : Form) {R : Type} (K : ((List Form)) × (Form) → Option R) : Option R :=
  cnd (a0.kind != 10)
    (
    K ([], Form.mk a0.kind a0.text a0.home a0.kids))
    (
    cnd (decide ((↑a0.kids.length : Int) < 2))
      (
      K ([], Form.mk a0.kind a0.text a0.home a0.kids))
      (
      cnd (ok64 ((↑a0.kids.length : Int) - 1))
        (
        cnd (decide (0 ≤ (↑a0.kids.length : Int) - 1))
          (
          cnd (decide (0 ≤ ((↑a0.kids.length : Int) - 1).toNat ∧ ((↑a0.kids.length : Int) - 1).toNat ≤ a0.kids.length))
            (
            cnd (decide ((List.take (((↑a0.kids.length : Int) - 1).toNat - 0) (List.drop 0 a0.kids)).length * 64 ≤ 140737488355328))
              (
              cnd (ok64 ((↑a0.kids.length : Int) - 1))
                (
                opK (idx a0.kids ((↑a0.kids.length : Int) - 1)) fun x41 =>
                K (List.take (((↑a0.kids.length : Int) - 1).toNat - 0) (List.drop 0 a0.kids), Form.mk x41.kind x41.text x41.home x41.kids))
                (
                none))
              (
              none))
            (
            none))
          (
          none))
        (
        none)))
noncomputable def mkList_c (F : Tb) (n : Nat) (a0 : (List Form)) {R : Type} (K : (Form) → Option R) : Option R :=
  opK (F.Nil ) fun y42 =>
  opK (F.Dotted (a0) (Form.mk y42.kind y42.text y42.home y42.kids)) fun y43 =>
  K (Form.mk y43.kind y43.text y43.home y43.kids)
noncomputable def Items_c (F : Tb) (n : Nat) (a0 : Form) {R : Type} (K : ((List Form)) × (Bool) → Option R) : Option R :=
  opK (F.Spread (Form.mk a0.kind a0.text a0.home a0.kids)) fun y44 =>
  opK (F.IsNil (Form.mk y44.snd.kind y44.snd.text y44.snd.home y44.snd.kids)) fun y45 =>
  cnd (!y45)
    (
    K ([], false))
    (
    K (y44.fst, true))
noncomputable def IsNil_c (F : Tb) (n : Nat) (a0 : Form) {R : Type} (K : (Bool) → Option R) : Option R :=
  opK (F.Is (Form.mk a0.kind a0.text a0.home a0.kids) ([67, 79, 77, 77, 79, 78, 45, 76, 73, 83, 80]) ([78, 73, 76])) fun y46 =>
  K (y46)
noncomputable def Is_c (F : Tb) (n : Nat) (a0 : Form) (a1 : Bs) (a2 : Bs) {R : Type} (K : (Bool) → Option R) : Option R :=
  cnd (a0.kind == 1)
    (
    cnd (a0.text == a2)
      (
      K (a0.home == a1))
      (
      K (false)))
    (
    K (false))
noncomputable def Symbol_c (F : Tb) (n : Nat) (a0 : Bs) (a1 : Bs) {R : Type} (K : (Form) → Option R) : Option R :=
  K (Form.mk 1 a1 a0 [])
noncomputable def Nil_c (F : Tb) (n : Nat)  {R : Type} (K : (Form) → Option R) : Option R :=
  opK (F.Symbol ([67, 79, 77, 77, 79, 78, 45, 76, 73, 83, 80]) ([78, 73, 76])) fun y47 =>
  K (Form.mk y47.kind y47.text y47.home y47.kids)
noncomputable def Equal_c (F : Tb) (n : Nat) (a0 : Form) (a1 : Form) {R : Type} (K : (Bool) → Option R) : Option R :=
  cnd (a0.kind == a1.kind)
    (
    cnd (a0.text == a1.text)
      (
      cnd (a0.home == a1.home)
        (
        opK (F.EqualFunc_f22 (a0.kids) (a1.kids)) fun y48 =>
        K (y48))
        (
        K (false)))
      (
      K (false)))
    (
    K (false))
def EqualFunc_L601011_S (p0 : List Form) (p1 : List Form) (p2 : Int) (v : (Int)) : WSt T := { tm := [.undef, .row 3 (p0) false, .fn 22 [], .undef, .undef, .undef, .bool (false)] ++ (un 8 ++ ([.row 3 (p1) false, .int .i64 (p2), .int .i64 (v)] ++ (un 14))), mem := { A := [], H := [], la := 0, lh := 0, pa := 0, ph := 0 }, df := [], rd := false }
def EqualFunc_L601011_gp0 (st : WSt T) : List Form := (W.toR 3 (st.tm.getD 1 .undef))
def EqualFunc_L601011_gp1 (st : WSt T) : List Form := (W.toR 3 (st.tm.getD 15 .undef))
def EqualFunc_L601011_gp2 (st : WSt T) : Int := (W.toI (st.tm.getD 16 .undef))
def EqualFunc_L601011_gv (st : WSt T) : (Int) := (W.toI (st.tm.getD 17 .undef))
def EqualFunc_L601011_O0 (p0 : List Form) (p1 : List Form) (p2 : Int) (o : (Int)) : WSt T := { tm := [.undef, .row 3 (p0) false, .fn 22 [], .undef, .undef, .undef, .bool (false)] ++ (un 8 ++ ([.row 3 (p1) false, .int .i64 (p2), .int .i64 (o)] ++ (un 14))), mem := { A := [], H := [], la := 0, lh := 0, pa := 0, ph := 0 }, df := [], rd := false }
def EqualFunc_L601011_O1 (p0 : List Form) (p1 : List Form) (p2 : Int) (o : (Int)) : WSt T := { tm := [.undef, .row 3 (p0) false, .fn 22 [], .undef, .undef, .undef, .bool (false)] ++ (un 8 ++ ([.row 3 (p1) false, .int .i64 (p2), .int .i64 (o)] ++ (un 14))), mem := { A := [], H := [], la := 0, lh := 0, pa := 0, ph := 0 }, df := [], rd := false }
noncomputable def EqualFunc_L601011_R (F : Tb) (n : Nat) (p0 : List Form) (p1 : List Form) (p2 : Int) (v : (Int)) {R : Type} (K : (((Int)) ⊕ ((Int))) ⊕ ((Int)) → Option R) : Option R :=
  cnd (decide (v < p2))
    (
    opK (idx p1 v) fun x6 =>
    opK (idx p0 v) fun x7 =>
    opK (F.Equal (Form.mk x6.kind x6.text x6.home x6.kids) (Form.mk x7.kind x7.text x7.home x7.kids)) fun y8 =>
    cnd (!y8)
      (
      K (.inl (.inl (v))))
      (
      cnd (ok64 (v + 1))
        (
        K (.inr (v + 1)))
        (
        none)))
    (
    K (.inl (.inr (v))))
noncomputable def EqualFunc_L601011 (F : Tb) (n : Nat) : Nat → (List Form) → (List Form) → (Int) → ((Int)) → Option (((Int)) ⊕ ((Int)))
  | 0, _, _, _, _ => none
  | m + 1, p0, p1, p2, v => EqualFunc_L601011_R F n p0 p1 p2 v fun x => sumK x some fun v => EqualFunc_L601011 F n m p0 p1 p2 v
def EqualFunc_L601011_E (p0 : List Form) (p1 : List Form) (p2 : Int) (o : ((Int)) ⊕ ((Int))) : Ex × WSt T := match o with
  | .inl o => (.ret, EqualFunc_L601011_O0 p0 p1 p2 o)
  | .inr o => ((.exit 0), EqualFunc_L601011_O1 p0 p1 p2 o)
def EqualFunc_L601011_q : Prep := ⟨[0, 3, 4, 5, 7, 8, 9, 10, 11, 12, 13, 14, 18, 19, 20, 21, 22, 23, 24, 25, 26, 27, 28, 29, 30, 31], [], []⟩
noncomputable def EqualFunc_L601011_H {R : Type} (F : Tb) (n : Nat) (c : Code) (st : WSt T) (k : Ex × WSt T → Option R) : Option R :=
  opK (prepW EqualFunc_L601011_q st) fun st' => opK (chk2 c (loopAt 98 [0, 1, 0, 1, 1]) st' (EqualFunc_L601011_S (EqualFunc_L601011_gp0 st') (EqualFunc_L601011_gp1 st') (EqualFunc_L601011_gp2 st') (EqualFunc_L601011_gv st'))) fun _ => opK (EqualFunc_L601011 F n n (EqualFunc_L601011_gp0 st') (EqualFunc_L601011_gp1 st') (EqualFunc_L601011_gp2 st') (EqualFunc_L601011_gv st')) fun o => sumK o (fun o => k (.ret, EqualFunc_L601011_O0 (EqualFunc_L601011_gp0 st') (EqualFunc_L601011_gp1 st') (EqualFunc_L601011_gp2 st') o)) (fun o => k ((.exit 0), EqualFunc_L601011_O1 (EqualFunc_L601011_gp0 st') (EqualFunc_L601011_gp1 st') (EqualFunc_L601011_gp2 st') o))
noncomputable def EqualFunc_c (F : Tb) (n : Nat) (a0 : (List Form)) (a1 : (List Form)) {R : Type} (K : (Bool) → Option R) : Option R :=
  cnd ((↑a0.length : Int) != (↑a1.length : Int))
    (
    K (false))
    (
    opK (chk (loopAt 98 [0, 1, 0, 1, 1]) (EqualFunc_L601011_S (a1) (a0) ((↑a0.length : Int)) 0)) fun _ => opK (EqualFunc_L601011 F n n (a1) (a0) ((↑a0.length : Int)) 0) fun o9 =>
    sumK o9 (fun o10 =>
      K (false)) (fun o11 =>
      K (true)))
def Concat_L601011_S (p0 : List (List Form)) (p1 : Int) (v : (Int) × (Int)) : WSt T := { tm := [.row 7 (p0) false, .undef, .nilsl, .int .i64 (v.fst), .undef, .undef, .undef, .undef, .undef, .row 7 (p0) false, .int .i64 (p1), .int .i64 (v.snd)] ++ (un 24), mem := { A := [], H := [], la := 0, lh := 0, pa := 0, ph := 0 }, df := [], rd := false }
def Concat_L601011_gp0 (st : WSt T) : List (List Form) := (W.toR 7 (st.tm.getD 0 .undef))
def Concat_L601011_gp1 (st : WSt T) : Int := (W.toI (st.tm.getD 10 .undef))
def Concat_L601011_gv (st : WSt T) : (Int) × (Int) := ((W.toI (st.tm.getD 3 .undef)), (W.toI (st.tm.getD 11 .undef)))
def Concat_L601011_O0 (p0 : List (List Form)) (p1 : Int) (o : (Int) × (Int)) : WSt T := { tm := [.row 7 (p0) false, .undef, .nilsl, .int .i64 (o.fst), .undef, .undef, .undef, .undef, .undef, .row 7 (p0) false, .int .i64 (p1), .int .i64 (o.snd)] ++ (un 24), mem := { A := [], H := [], la := 0, lh := 0, pa := 0, ph := 0 }, df := [], rd := false }
noncomputable def Concat_L601011_R (F : Tb) (n : Nat) (p0 : List (List Form)) (p1 : Int) (v : (Int) × (Int)) {R : Type} (K : ((Int) × (Int)) ⊕ ((Int) × (Int)) → Option R) : Option R :=
  cnd (decide (v.snd < p1))
    (
    opK (idx p0 v.snd) fun x14 =>
    cnd (ok64 (v.fst + (↑x14.length : Int)))
      (
      cnd (decide (v.fst + (↑x14.length : Int) < 0))
        (
        none)
        (
        cnd (ok64 (v.snd + 1))
          (
          K (.inr ((v.fst + (↑x14.length : Int), v.snd + 1))))
          (
          none)))
      (
      none))
    (
    K (.inl ((v.fst, v.snd))))
noncomputable def Concat_L601011 (F : Tb) (n : Nat) : Nat → (List (List Form)) → (Int) → ((Int) × (Int)) → Option ((Int) × (Int))
  | 0, _, _, _ => none
  | m + 1, p0, p1, v => Concat_L601011_R F n p0 p1 v fun x => sumK x some fun v => Concat_L601011 F n m p0 p1 v
def Concat_L601011_E (p0 : List (List Form)) (p1 : Int) (o : (Int) × (Int)) : Ex × WSt T := ((.exit 0), Concat_L601011_O0 p0 p1 o)
def Concat_L601011_q : Prep := ⟨[1, 4, 5, 6, 7, 8, 12, 13, 14, 15, 16, 17, 18, 19, 20, 21, 22, 23, 24, 25, 26, 27, 28, 29, 30, 31, 32, 33, 34, 35], [], []⟩
noncomputable def Concat_L601011_H {R : Type} (F : Tb) (n : Nat) (c : Code) (st : WSt T) (k : Ex × WSt T → Option R) : Option R :=
  opK (prepW Concat_L601011_q st) fun st' => opK (chk2 c (loopAt 105 [0, 1, 0, 1, 1]) st' (Concat_L601011_S (Concat_L601011_gp0 st') (Concat_L601011_gp1 st') (Concat_L601011_gv st'))) fun _ => opK (Concat_L601011 F n n (Concat_L601011_gp0 st') (Concat_L601011_gp1 st') (Concat_L601011_gv st')) fun o => k ((.exit 0), Concat_L601011_O0 (Concat_L601011_gp0 st') (Concat_L601011_gp1 st') o)
def Concat_L80101111_S (p0 : List (List Form)) (p1 : Int) (v : (Nat) × (Int) × (List Form)) : WSt T := { tm := [.undef, .undef, .nilsl, .undef, .undef, .undef, .view 3 0 (0) (v.fst)] ++ (un 18 ++ ([.row 7 (p0) false, .int .i64 (p1), .int .i64 (v.snd.fst)] ++ (un 8))), mem := { A := [], H := [.rows 3 (v.snd.snd)], la := 0, lh := 0, pa := 0, ph := 0 }, df := [], rd := false }
def Concat_L80101111_gp0 (st : WSt T) : List (List Form) := (W.toR 7 (st.tm.getD 25 .undef))
def Concat_L80101111_gp1 (st : WSt T) : Int := (W.toI (st.tm.getD 26 .undef))
def Concat_L80101111_gv (st : WSt T) : (Nat) × (Int) × (List Form) := ((W.toLen (st.tm.getD 6 .undef)), (W.toI (st.tm.getD 27 .undef)), (En.toR 3 (st.mem.H.getD 0 .dead)))
def Concat_L80101111_O0 (p0 : List (List Form)) (p1 : Int) (o : (Nat) × (Int) × (List Form)) : WSt T := { tm := [.undef, .undef, .nilsl, .undef, .undef, .undef, .view 3 0 (0) (o.fst)] ++ (un 18 ++ ([.row 7 (p0) false, .int .i64 (p1), .int .i64 (o.snd.fst)] ++ (un 8))), mem := { A := [], H := [.rows 3 (o.snd.snd)], la := 0, lh := 0, pa := 0, ph := 0 }, df := [], rd := false }
noncomputable def Concat_L80101111_R (F : Tb) (n : Nat) (p0 : List (List Form)) (p1 : Int) (v : (Nat) × (Int) × (List Form)) {R : Type} (K : ((Nat) × (Int) × (List Form)) ⊕ ((Nat) × (Int) × (List Form)) → Option R) : Option R :=
  cnd (decide (v.snd.fst < p1))
    (
    opK (idx p0 v.snd.fst) fun x18 =>
    cnd (decide (0 + v.fst + x18.length ≤ v.snd.snd.length ∧ (v.fst + x18.length) * 64 ≤ 140737488355328))
      (
      cnd (ok64 (v.snd.fst + 1))
        (
        K (.inr ((v.fst + x18.length, v.snd.fst + 1, List.take (0 + v.fst) v.snd.snd ++ x18 ++ List.drop (0 + v.fst + x18.length) v.snd.snd))))
        (
        none))
      (
      none))
    (
    K (.inl ((v.fst, v.snd.fst, v.snd.snd))))
noncomputable def Concat_L80101111 (F : Tb) (n : Nat) : Nat → (List (List Form)) → (Int) → ((Nat) × (Int) × (List Form)) → Option ((Nat) × (Int) × (List Form))
  | 0, _, _, _ => none
  | m + 1, p0, p1, v => Concat_L80101111_R F n p0 p1 v fun x => sumK x some fun v => Concat_L80101111 F n m p0 p1 v
def Concat_L80101111_E (p0 : List (List Form)) (p1 : Int) (o : (Nat) × (Int) × (List Form)) : Ex × WSt T := ((.exit 2), Concat_L80101111_O0 p0 p1 o)
def Concat_L80101111_q : Prep := ⟨[0, 1, 3, 4, 5, 7, 8, 9, 10, 11, 12, 13, 14, 15, 16, 17, 18, 19, 20, 21, 22, 23, 24, 28, 29, 30, 31, 32, 33, 34, 35], [], []⟩
noncomputable def Concat_L80101111_H {R : Type} (F : Tb) (n : Nat) (c : Code) (st : WSt T) (k : Ex × WSt T → Option R) : Option R :=
  opK (prepW Concat_L80101111_q st) fun st' => opK (chk2 c (loopAt 105 [0, 1, 0, 1, 1, 1, 1]) st' (Concat_L80101111_S (Concat_L80101111_gp0 st') (Concat_L80101111_gp1 st') (Concat_L80101111_gv st'))) fun _ => opK (Concat_L80101111 F n n (Concat_L80101111_gp0 st') (Concat_L80101111_gp1 st') (Concat_L80101111_gv st')) fun o => k ((.exit 2), Concat_L80101111_O0 (Concat_L80101111_gp0 st') (Concat_L80101111_gp1 st') o)
def Concat_L80101111v1_S (p0 : List (List Form)) (p1 : Int) (v : (Int) × (List Form)) : WSt T := { tm := [.undef, .undef, .nilsl, .undef, .undef, .undef, .own 3 0] ++ (un 18 ++ ([.row 7 (p0) false, .int .i64 (p1), .int .i64 (v.fst)] ++ (un 8))), mem := { A := [], H := [.rows 3 (v.snd)], la := 0, lh := 0, pa := 0, ph := 0 }, df := [], rd := false }
def Concat_L80101111v1_gp0 (st : WSt T) : List (List Form) := (W.toR 7 (st.tm.getD 25 .undef))
def Concat_L80101111v1_gp1 (st : WSt T) : Int := (W.toI (st.tm.getD 26 .undef))
def Concat_L80101111v1_gv (st : WSt T) : (Int) × (List Form) := ((W.toI (st.tm.getD 27 .undef)), (En.toR 3 (st.mem.H.getD 0 .dead)))
def Concat_L80101111v1_O0 (p0 : List (List Form)) (p1 : Int) (o : (Int) × (List Form)) : WSt T := { tm := [.undef, .undef, .nilsl, .undef, .undef, .undef, .own 3 0] ++ (un 18 ++ ([.row 7 (p0) false, .int .i64 (p1), .int .i64 (o.fst)] ++ (un 8))), mem := { A := [], H := [.rows 3 (o.snd)], la := 0, lh := 0, pa := 0, ph := 0 }, df := [], rd := false }
noncomputable def Concat_L80101111v1_R (F : Tb) (n : Nat) (p0 : List (List Form)) (p1 : Int) (v : (Int) × (List Form)) {R : Type} (K : ((Int) × (List Form)) ⊕ ((Int) × (List Form)) → Option R) : Option R :=
  cnd (decide (v.fst < p1))
    (
    opK (idx p0 v.fst) fun x23 =>
    cnd (decide ((v.snd.length + x23.length) * 64 ≤ 140737488355328))
      (
      cnd (ok64 (v.fst + 1))
        (
        K (.inr ((v.fst + 1, v.snd ++ x23))))
        (
        none))
      (
      none))
    (
    K (.inl ((v.fst, v.snd))))
noncomputable def Concat_L80101111v1 (F : Tb) (n : Nat) : Nat → (List (List Form)) → (Int) → ((Int) × (List Form)) → Option ((Int) × (List Form))
  | 0, _, _, _ => none
  | m + 1, p0, p1, v => Concat_L80101111v1_R F n p0 p1 v fun x => sumK x some fun v => Concat_L80101111v1 F n m p0 p1 v
def Concat_L80101111v1_E (p0 : List (List Form)) (p1 : Int) (o : (Int) × (List Form)) : Ex × WSt T := ((.exit 2), Concat_L80101111v1_O0 p0 p1 o)
def Concat_L80101111v1_q : Prep := ⟨[0, 1, 3, 4, 5, 7, 8, 9, 10, 11, 12, 13, 14, 15, 16, 17, 18, 19, 20, 21, 22, 23, 24, 28, 29, 30, 31, 32, 33, 34, 35], [(6, 3)], []⟩
noncomputable def Concat_L80101111v1_H {R : Type} (F : Tb) (n : Nat) (c : Code) (st : WSt T) (k : Ex × WSt T → Option R) : Option R :=
  opK (prepW Concat_L80101111v1_q st) fun st' => opK (chk2 c (loopAt 105 [0, 1, 0, 1, 1, 1, 1]) st' (Concat_L80101111v1_S (Concat_L80101111v1_gp0 st') (Concat_L80101111v1_gp1 st') (Concat_L80101111v1_gv st'))) fun _ => opK (Concat_L80101111v1 F n n (Concat_L80101111v1_gp0 st') (Concat_L80101111v1_gp1 st') (Concat_L80101111v1_gv st')) fun o => k ((.exit 2), Concat_L80101111v1_O0 (Concat_L80101111v1_gp0 st') (Concat_L80101111v1_gp1 st') o)
noncomputable def Concat_c (F : Tb) (n : Nat) (a0 : (List (List Form))) {R : Type} (K : ((List Form)) → Option R) : Option R :=
  opK (chk (loopAt 105 [0, 1, 0, 1, 1]) (Concat_L601011_S (a0) ((↑a0.length : Int)) (0, 0))) fun _ => opK (Concat_L601011 F n n (a0) ((↑a0.length : Int)) (0, 0)) fun o15 =>
  cnd (decide (o15.fst < 0))
    (
    none)
    (
    cnd (ok64 (o15.fst - 0))
      (
      cnd (decide (o15.fst - 0 > 0))
        (
        cnd (decide (0 ≤ o15.fst - 0 ∧ (o15.fst - 0) * 64 ≤ 140737488355328))
          (
          opK (chk (loopAt 105 [0, 1, 0, 1, 1, 1, 1]) (Concat_L80101111_S (a0) ((↑a0.length : Int)) (0, 0, List.replicate (o15.fst - 0).toNat (Form.mk 0 [] [] [])))) fun _ => opK (Concat_L80101111 F n n (a0) ((↑a0.length : Int)) (0, 0, List.replicate (o15.fst - 0).toNat (Form.mk 0 [] [] []))) fun o19 =>
          cnd (decide (0 + o19.fst ≤ o19.snd.snd.length))
            (
            K (List.take o19.fst (List.drop 0 o19.snd.snd)))
            (
            none))
          (
          none))
        (
        opK (chk (loopAt 105 [0, 1, 0, 1, 1, 1, 1]) (Concat_L80101111v1_S (a0) ((↑a0.length : Int)) (0, []))) fun _ => opK (Concat_L80101111v1 F n n (a0) ((↑a0.length : Int)) (0, [])) fun o24 =>
        K (o24.snd)))
      (
      none))
def rDotted_L7010111_S (p0 : List Form) (p1 : Int) (p2 : Bs) (p3 : Bs) (p4 : List Form) (v : (Int) × (List Form)) : WSt T := { tm := [.row 3 (p0) false, .undef, .undef, .ptr 1 0, .ptr 0 0, .ptr 2 0, .int .i64 (v.fst)] ++ (un 49), mem := { A := [[.int .i64 (0), .str ([]), .str ([]), .nilsl], [.int .i64 (p1), .str (p2), .str (p3), .row 3 (p4) false], [.int .i64 (10), .str ([]), .str ([]), .own 3 0]], H := [.rows 3 (v.snd)], la := 0, lh := 0, pa := 0, ph := 0 }, df := [], rd := false }
def rDotted_L7010111_gp0 (st : WSt T) : List Form := (W.toR 3 (st.tm.getD 0 .undef))
def rDotted_L7010111_gp1 (st : WSt T) : Int := (W.toI ((st.mem.A.getD 1 []).getD 0 .undef))
def rDotted_L7010111_gp2 (st : WSt T) : Bs := (W.toS ((st.mem.A.getD 1 []).getD 1 .undef))
def rDotted_L7010111_gp3 (st : WSt T) : Bs := (W.toS ((st.mem.A.getD 1 []).getD 2 .undef))
def rDotted_L7010111_gp4 (st : WSt T) : List Form := (W.toR 3 ((st.mem.A.getD 1 []).getD 3 .undef))
def rDotted_L7010111_gv (st : WSt T) : (Int) × (List Form) := ((W.toI (st.tm.getD 6 .undef)), (En.toR 3 (st.mem.H.getD 0 .dead)))
def rDotted_L7010111_O0 (p0 : List Form) (p1 : Int) (p2 : Bs) (p3 : Bs) (p4 : List Form) (o : (Int) × (List Form)) : WSt T := { tm := [.row 3 (p0) false, .undef, .undef, .ptr 1 0, .ptr 0 0, .ptr 2 0, .int .i64 (o.fst)] ++ (un 49), mem := { A := [[.int .i64 (0), .str ([]), .str ([]), .nilsl], [.int .i64 (p1), .str (p2), .str (p3), .row 3 (p4) false], [.int .i64 (10), .str ([]), .str ([]), .own 3 0]], H := [.rows 3 (o.snd)], la := 0, lh := 0, pa := 0, ph := 0 }, df := [], rd := false }
noncomputable def rDotted_L7010111_R (F : Tb) (n : Nat) (p0 : List Form) (p1 : Int) (p2 : Bs) (p3 : Bs) (p4 : List Form) (v : (Int) × (List Form)) {R : Type} (K : ((Int) × (List Form)) ⊕ ((Int) × (List Form)) → Option R) : Option R :=
  cnd (decide (v.fst < (↑p0.length : Int)))
    (
    opK (idx p0 v.fst) fun x28 =>
    cnd (decide ((v.snd.length + 1) * 64 ≤ 140737488355328))
      (
      cnd (ok64 (v.fst + 1))
        (
        K (.inr ((v.fst + 1, v.snd ++ [Form.mk x28.kind x28.text x28.home x28.kids]))))
        (
        none))
      (
      none))
    (
    K (.inl ((v.fst, v.snd))))
noncomputable def rDotted_L7010111 (F : Tb) (n : Nat) : Nat → (List Form) → (Int) → (Bs) → (Bs) → (List Form) → ((Int) × (List Form)) → Option ((Int) × (List Form))
  | 0, _, _, _, _, _, _ => none
  | m + 1, p0, p1, p2, p3, p4, v => rDotted_L7010111_R F n p0 p1 p2 p3 p4 v fun x => sumK x some fun v => rDotted_L7010111 F n m p0 p1 p2 p3 p4 v
def rDotted_L7010111_E (p0 : List Form) (p1 : Int) (p2 : Bs) (p3 : Bs) (p4 : List Form) (o : (Int) × (List Form)) : Ex × WSt T := ((.exit 0), rDotted_L7010111_O0 p0 p1 p2 p3 p4 o)
def rDotted_L7010111_q : Prep := ⟨[1, 2, 7, 8, 9, 10, 11, 12, 13, 14, 15, 16, 17, 18, 19, 20, 21, 22, 23, 24, 25, 26, 27, 28, 29, 30, 31, 32, 33, 34, 35, 36, 37, 38, 39, 40, 41, 42, 43, 44, 45, 46, 47, 48, 49, 50, 51, 52, 53, 54, 55], [], [(2, (3, 3))]⟩
noncomputable def rDotted_L7010111_H {R : Type} (F : Tb) (n : Nat) (c : Code) (st : WSt T) (k : Ex × WSt T → Option R) : Option R :=
  opK (prepW rDotted_L7010111_q st) fun st' => opK (chk2 c (loopAt 39 [0, 1, 0, 1, 1, 1]) st' (rDotted_L7010111_S (rDotted_L7010111_gp0 st') (rDotted_L7010111_gp1 st') (rDotted_L7010111_gp2 st') (rDotted_L7010111_gp3 st') (rDotted_L7010111_gp4 st') (rDotted_L7010111_gv st'))) fun _ => opK (rDotted_L7010111 F n n (rDotted_L7010111_gp0 st') (rDotted_L7010111_gp1 st') (rDotted_L7010111_gp2 st') (rDotted_L7010111_gp3 st') (rDotted_L7010111_gp4 st') (rDotted_L7010111_gv st')) fun o => k ((.exit 0), rDotted_L7010111_O0 (rDotted_L7010111_gp0 st') (rDotted_L7010111_gp1 st') (rDotted_L7010111_gp2 st') (rDotted_L7010111_gp3 st') (rDotted_L7010111_gp4 st') o)
def rDotted_L901011111_S (p0 : Int) (p1 : Bs) (p2 : Bs) (p3 : List Form) (v : (Int) × (List Form)) : WSt T := { tm := [.undef, .undef, .undef, .ptr 1 0, .ptr 0 0, .ptr 2 0, .undef, .int .i64 (v.fst)] ++ (un 48), mem := { A := [[.int .i64 (0), .str ([]), .str ([]), .nilsl], [.int .i64 (p0), .str (p1), .str (p2), .row 3 (p3) false], [.int .i64 (10), .str ([]), .str ([]), .own 3 0]], H := [.rows 3 (v.snd)], la := 0, lh := 0, pa := 0, ph := 0 }, df := [], rd := false }
def rDotted_L901011111_gp0 (st : WSt T) : Int := (W.toI ((st.mem.A.getD 1 []).getD 0 .undef))
def rDotted_L901011111_gp1 (st : WSt T) : Bs := (W.toS ((st.mem.A.getD 1 []).getD 1 .undef))
def rDotted_L901011111_gp2 (st : WSt T) : Bs := (W.toS ((st.mem.A.getD 1 []).getD 2 .undef))
def rDotted_L901011111_gp3 (st : WSt T) : List Form := (W.toR 3 ((st.mem.A.getD 1 []).getD 3 .undef))
def rDotted_L901011111_gv (st : WSt T) : (Int) × (List Form) := ((W.toI (st.tm.getD 7 .undef)), (En.toR 3 (st.mem.H.getD 0 .dead)))
def rDotted_L901011111_O0 (p0 : Int) (p1 : Bs) (p2 : Bs) (p3 : List Form) (o : (Int) × (List Form)) : WSt T := { tm := [.undef, .undef, .undef, .ptr 1 0, .ptr 0 0, .ptr 2 0, .undef, .int .i64 (o.fst)] ++ (un 48), mem := { A := [[.int .i64 (0), .str ([]), .str ([]), .nilsl], [.int .i64 (p0), .str (p1), .str (p2), .row 3 (p3) false], [.int .i64 (10), .str ([]), .str ([]), .own 3 0]], H := [.rows 3 (o.snd)], la := 0, lh := 0, pa := 0, ph := 0 }, df := [], rd := false }
noncomputable def rDotted_L901011111_R (F : Tb) (n : Nat) (p0 : Int) (p1 : Bs) (p2 : Bs) (p3 : List Form) (v : (Int) × (List Form)) {R : Type} (K : ((Int) × (List Form)) ⊕ ((Int) × (List Form)) → Option R) : Option R :=
  cnd (decide (v.fst < (↑p3.length : Int)))
    (
    opK (idx p3 v.fst) fun x32 =>
    cnd (decide ((v.snd.length + 1) * 64 ≤ 140737488355328))
      (
      cnd (ok64 (v.fst + 1))
        (
        K (.inr ((v.fst + 1, v.snd ++ [Form.mk x32.kind x32.text x32.home x32.kids]))))
        (
        none))
      (
      none))
    (
    K (.inl ((v.fst, v.snd))))
noncomputable def rDotted_L901011111 (F : Tb) (n : Nat) : Nat → (Int) → (Bs) → (Bs) → (List Form) → ((Int) × (List Form)) → Option ((Int) × (List Form))
  | 0, _, _, _, _, _ => none
  | m + 1, p0, p1, p2, p3, v => rDotted_L901011111_R F n p0 p1 p2 p3 v fun x => sumK x some fun v => rDotted_L901011111 F n m p0 p1 p2 p3 v
def rDotted_L901011111_E (p0 : Int) (p1 : Bs) (p2 : Bs) (p3 : List Form) (o : (Int) × (List Form)) : Ex × WSt T := ((.exit 2), rDotted_L901011111_O0 p0 p1 p2 p3 o)
def rDotted_L901011111_q : Prep := ⟨[0, 1, 2, 6, 8, 9, 10, 11, 12, 13, 14, 15, 16, 17, 18, 19, 20, 21, 22, 23, 24, 25, 26, 27, 28, 29, 30, 31, 32, 33, 34, 35, 36, 37, 38, 39, 40, 41, 42, 43, 44, 45, 46, 47, 48, 49, 50, 51, 52, 53, 54, 55], [], []⟩
noncomputable def rDotted_L901011111_H {R : Type} (F : Tb) (n : Nat) (c : Code) (st : WSt T) (k : Ex × WSt T → Option R) : Option R :=
  opK (prepW rDotted_L901011111_q st) fun st' => opK (chk2 c (loopAt 39 [0, 1, 0, 1, 1, 1, 1, 1]) st' (rDotted_L901011111_S (rDotted_L901011111_gp0 st') (rDotted_L901011111_gp1 st') (rDotted_L901011111_gp2 st') (rDotted_L901011111_gp3 st') (rDotted_L901011111_gv st'))) fun _ => opK (rDotted_L901011111 F n n (rDotted_L901011111_gp0 st') (rDotted_L901011111_gp1 st') (rDotted_L901011111_gp2 st') (rDotted_L901011111_gp3 st') (rDotted_L901011111_gv st')) fun o => k ((.exit 2), rDotted_L901011111_O0 (rDotted_L901011111_gp0 st') (rDotted_L901011111_gp1 st') (rDotted_L901011111_gp2 st') (rDotted_L901011111_gp3 st') o)
noncomputable def rDotted_c (F : Tb) (n : Nat) (a0 : (List Form)) (a1 : Form) {R : Type} (K : (Form) → Option R) : Option R :=
  cnd ((↑a0.length : Int) == 0)
    (
    K (Form.mk a1.kind a1.text a1.home a1.kids))
    (
    opK (chk (loopAt 39 [0, 1, 0, 1, 1, 1]) (rDotted_L7010111_S (a0) (a1.kind) (a1.text) (a1.home) (a1.kids) (0, []))) fun _ => opK (rDotted_L7010111 F n n (a0) (a1.kind) (a1.text) (a1.home) (a1.kids) (0, [])) fun o29 =>
    cnd (a1.kind != 10)
      (
      cnd (decide ((o29.snd.length + 1) * 64 ≤ 140737488355328))
        (
        K (Form.mk 10 [] [] (o29.snd ++ [Form.mk a1.kind a1.text a1.home a1.kids])))
        (
        none))
      (
      opK (chk (loopAt 39 [0, 1, 0, 1, 1, 1, 1, 1]) (rDotted_L901011111_S (a1.kind) (a1.text) (a1.home) (a1.kids) (0, o29.snd))) fun _ => opK (rDotted_L901011111 F n n (a1.kind) (a1.text) (a1.home) (a1.kids) (0, o29.snd)) fun o33 =>
      K (Form.mk 10 [] [] o33.snd)))
def rSpread_L7010111_S (p0 : Int) (p1 : Bs) (p2 : Bs) (p3 : List Form) (v : (Int) × (List Form)) : WSt T := { tm := [.undef, .ptr 1 0, .nilsl, .ptr 0 0, .own 3 0, .int .i64 (v.fst)] ++ (un 35), mem := { A := [[.int .i64 (0), .str ([]), .str ([]), .nilsl], [.int .i64 (p0), .str (p1), .str (p2), .row 3 (p3) false]], H := [.rows 3 (v.snd)], la := 0, lh := 0, pa := 0, ph := 0 }, df := [], rd := false }
def rSpread_L7010111_gp0 (st : WSt T) : Int := (W.toI ((st.mem.A.getD 1 []).getD 0 .undef))
def rSpread_L7010111_gp1 (st : WSt T) : Bs := (W.toS ((st.mem.A.getD 1 []).getD 1 .undef))
def rSpread_L7010111_gp2 (st : WSt T) : Bs := (W.toS ((st.mem.A.getD 1 []).getD 2 .undef))
def rSpread_L7010111_gp3 (st : WSt T) : List Form := (W.toR 3 ((st.mem.A.getD 1 []).getD 3 .undef))
def rSpread_L7010111_gv (st : WSt T) : (Int) × (List Form) := ((W.toI (st.tm.getD 5 .undef)), (En.toR 3 (st.mem.H.getD 0 .dead)))
def rSpread_L7010111_O0 (p0 : Int) (p1 : Bs) (p2 : Bs) (p3 : List Form) (o : (Int) × (List Form)) : WSt T := { tm := [.undef, .ptr 1 0, .nilsl, .ptr 0 0, .own 3 0, .int .i64 (o.fst)] ++ (un 35), mem := { A := [[.int .i64 (0), .str ([]), .str ([]), .nilsl], [.int .i64 (p0), .str (p1), .str (p2), .row 3 (p3) false]], H := [.rows 3 (o.snd)], la := 0, lh := 0, pa := 0, ph := 0 }, df := [], rd := false }
noncomputable def rSpread_L7010111_R (F : Tb) (n : Nat) (p0 : Int) (p1 : Bs) (p2 : Bs) (p3 : List Form) (v : (Int) × (List Form)) {R : Type} (K : ((Int) × (List Form)) ⊕ ((Int) × (List Form)) → Option R) : Option R :=
  cnd (ok64 ((↑p3.length : Int) - 1))
    (
    cnd (decide (v.fst < (↑p3.length : Int) - 1))
      (
      opK (idx p3 v.fst) fun x37 =>
      cnd (decide ((v.snd.length + 1) * 64 ≤ 140737488355328))
        (
        cnd (ok64 (v.fst + 1))
          (
          K (.inr ((v.fst + 1, v.snd ++ [Form.mk x37.kind x37.text x37.home x37.kids]))))
          (
          none))
        (
        none))
      (
      K (.inl ((v.fst, v.snd)))))
    (
    none)
noncomputable def rSpread_L7010111 (F : Tb) (n : Nat) : Nat → (Int) → (Bs) → (Bs) → (List Form) → ((Int) × (List Form)) → Option ((Int) × (List Form))
  | 0, _, _, _, _, _ => none
  | m + 1, p0, p1, p2, p3, v => rSpread_L7010111_R F n p0 p1 p2 p3 v fun x => sumK x some fun v => rSpread_L7010111 F n m p0 p1 p2 p3 v
def rSpread_L7010111_E (p0 : Int) (p1 : Bs) (p2 : Bs) (p3 : List Form) (o : (Int) × (List Form)) : Ex × WSt T := ((.exit 0), rSpread_L7010111_O0 p0 p1 p2 p3 o)
def rSpread_L7010111_q : Prep := ⟨[0, 6, 7, 8, 9, 10, 11, 12, 13, 14, 15, 16, 17, 18, 19, 20, 21, 22, 23, 24, 25, 26, 27, 28, 29, 30, 31, 32, 33, 34, 35, 36, 37, 38, 39, 40], [(4, 3)], []⟩
noncomputable def rSpread_L7010111_H {R : Type} (F : Tb) (n : Nat) (c : Code) (st : WSt T) (k : Ex × WSt T → Option R) : Option R :=
  opK (prepW rSpread_L7010111_q st) fun st' => opK (chk2 c (loopAt 40 [0, 1, 0, 1, 1, 1]) st' (rSpread_L7010111_S (rSpread_L7010111_gp0 st') (rSpread_L7010111_gp1 st') (rSpread_L7010111_gp2 st') (rSpread_L7010111_gp3 st') (rSpread_L7010111_gv st'))) fun _ => opK (rSpread_L7010111 F n n (rSpread_L7010111_gp0 st') (rSpread_L7010111_gp1 st') (rSpread_L7010111_gp2 st') (rSpread_L7010111_gp3 st') (rSpread_L7010111_gv st')) fun o => k ((.exit 0), rSpread_L7010111_O0 (rSpread_L7010111_gp0 st') (rSpread_L7010111_gp1 st') (rSpread_L7010111_gp2 st') (rSpread_L7010111_gp3 st') o)
noncomputable def rSpread_c (F : Tb) (n : Nat) (a0 : Form) {R : Type} (K : ((List Form)) × (Form) → Option R) : Option R :=
  cnd (a0.kind != 10)
    (
    K ([], Form.mk a0.kind a0.text a0.home a0.kids))
    (
    cnd (decide ((↑a0.kids.length : Int) < 2))
      (
      K ([], Form.mk a0.kind a0.text a0.home a0.kids))
      (
      opK (chk (loopAt 40 [0, 1, 0, 1, 1, 1]) (rSpread_L7010111_S (a0.kind) (a0.text) (a0.home) (a0.kids) (0, []))) fun _ => opK (rSpread_L7010111 F n n (a0.kind) (a0.text) (a0.home) (a0.kids) (0, [])) fun o38 =>
      cnd (ok64 ((↑a0.kids.length : Int) - 1))
        (
        opK (idx a0.kids ((↑a0.kids.length : Int) - 1)) fun x39 =>
        K (o38.snd, Form.mk x39.kind x39.text x39.home x39.kids))
        (
        none)))
noncomputable def rItems_c (F : Tb) (n : Nat) (a0 : Form) {R : Type} (K : ((List Form)) × (Bool) → Option R) : Option R :=
  opK (F.rSpread (Form.mk a0.kind a0.text a0.home a0.kids)) fun y40 =>
  opK (F.rIsNil (Form.mk y40.snd.kind y40.snd.text y40.snd.home y40.snd.kids)) fun y41 =>
  cnd (!y41)
    (
    K ([], false))
    (
    K (y40.fst, true))
noncomputable def rList_c (F : Tb) (n : Nat) (a0 : (List Form)) {R : Type} (K : (Form) → Option R) : Option R :=
  opK (F.rNil ) fun y42 =>
  opK (F.rDotted (a0) (Form.mk y42.kind y42.text y42.home y42.kids)) fun y43 =>
  K (Form.mk y43.kind y43.text y43.home y43.kids)
noncomputable def Call_c (F : Tb) (n : Nat) (a0 : Bs) (a1 : (List Form)) {R : Type} (K : (Form) → Option R) : Option R :=
  opK (F.Symbol ([67, 79, 77, 77, 79, 78, 45, 76, 73, 83, 80]) (a0)) fun y44 =>
  opK (F.Concat ([[Form.mk y44.kind y44.text y44.home y44.kids], a1])) fun y45 =>
  opK (F.mkList (y45)) fun y46 =>
  K (Form.mk y46.kind y46.text y46.home y46.kids)
noncomputable def rNil_c (F : Tb) (n : Nat)  {R : Type} (K : (Form) → Option R) : Option R :=
  opK (F.rSymbol ([67, 79, 77, 77, 79, 78, 45, 76, 73, 83, 80]) ([78, 73, 76])) fun y47 =>
  K (Form.mk y47.kind y47.text y47.home y47.kids)
noncomputable def rSymbol_c (F : Tb) (n : Nat) (a0 : Bs) (a1 : Bs) {R : Type} (K : (Form) → Option R) : Option R :=
  K (Form.mk 1 a1 a0 [])
noncomputable def rIsNil_c (F : Tb) (n : Nat) (a0 : Form) {R : Type} (K : (Bool) → Option R) : Option R :=
  opK (F.rIs (Form.mk a0.kind a0.text a0.home a0.kids) ([67, 79, 77, 77, 79, 78, 45, 76, 73, 83, 80]) ([78, 73, 76])) fun y48 =>
  K (y48)
noncomputable def rIs_c (F : Tb) (n : Nat) (a0 : Form) (a1 : Bs) (a2 : Bs) {R : Type} (K : (Bool) → Option R) : Option R :=
  cnd (a0.kind == 1)
    (
    cnd (a0.home == a1)
      (
      K (a0.text == a2))
      (
      K (false)))
    (
    K (false))
def rCall_L601011_S (p0 : List Form) (p1 : Int) (p2 : Bs) (p3 : Bs) (v : (Int) × (List Form)) : WSt T := { tm := [.undef, .row 3 (p0) false, .undef, .undef, .ptr 0 0, .own 3 0, .int .i64 (v.fst)] ++ (un 18), mem := { A := [[.int .i64 (p1), .str (p2), .str (p3), .nilsl]], H := [.rows 3 (v.snd)], la := 0, lh := 0, pa := 0, ph := 0 }, df := [], rd := false }
def rCall_L601011_gp0 (st : WSt T) : List Form := (W.toR 3 (st.tm.getD 1 .undef))
def rCall_L601011_gp1 (st : WSt T) : Int := (W.toI ((st.mem.A.getD 0 []).getD 0 .undef))
def rCall_L601011_gp2 (st : WSt T) : Bs := (W.toS ((st.mem.A.getD 0 []).getD 1 .undef))
def rCall_L601011_gp3 (st : WSt T) : Bs := (W.toS ((st.mem.A.getD 0 []).getD 2 .undef))
def rCall_L601011_gv (st : WSt T) : (Int) × (List Form) := ((W.toI (st.tm.getD 6 .undef)), (En.toR 3 (st.mem.H.getD 0 .dead)))
def rCall_L601011_O0 (p0 : List Form) (p1 : Int) (p2 : Bs) (p3 : Bs) (o : (Int) × (List Form)) : WSt T := { tm := [.undef, .row 3 (p0) false, .undef, .undef, .ptr 0 0, .own 3 0, .int .i64 (o.fst)] ++ (un 18), mem := { A := [[.int .i64 (p1), .str (p2), .str (p3), .nilsl]], H := [.rows 3 (o.snd)], la := 0, lh := 0, pa := 0, ph := 0 }, df := [], rd := false }
noncomputable def rCall_L601011_R (F : Tb) (n : Nat) (p0 : List Form) (p1 : Int) (p2 : Bs) (p3 : Bs) (v : (Int) × (List Form)) {R : Type} (K : ((Int) × (List Form)) ⊕ ((Int) × (List Form)) → Option R) : Option R :=
  cnd (decide (v.fst < (↑p0.length : Int)))
    (
    opK (idx p0 v.fst) fun x54 =>
    cnd (decide ((v.snd.length + 1) * 64 ≤ 140737488355328))
      (
      cnd (ok64 (v.fst + 1))
        (
        K (.inr ((v.fst + 1, v.snd ++ [Form.mk x54.kind x54.text x54.home x54.kids]))))
        (
        none))
      (
      none))
    (
    K (.inl ((v.fst, v.snd))))
noncomputable def rCall_L601011 (F : Tb) (n : Nat) : Nat → (List Form) → (Int) → (Bs) → (Bs) → ((Int) × (List Form)) → Option ((Int) × (List Form))
  | 0, _, _, _, _, _ => none
  | m + 1, p0, p1, p2, p3, v => rCall_L601011_R F n p0 p1 p2 p3 v fun x => sumK x some fun v => rCall_L601011 F n m p0 p1 p2 p3 v
def rCall_L601011_E (p0 : List Form) (p1 : Int) (p2 : Bs) (p3 : Bs) (o : (Int) × (List Form)) : Ex × WSt T := ((.exit 0), rCall_L601011_O0 p0 p1 p2 p3 o)
def rCall_L601011_q : Prep := ⟨[0, 2, 3, 7, 8, 9, 10, 11, 12, 13, 14, 15, 16, 17, 18, 19, 20, 21, 22, 23, 24], [], []⟩
noncomputable def rCall_L601011_H {R : Type} (F : Tb) (n : Nat) (c : Code) (st : WSt T) (k : Ex × WSt T → Option R) : Option R :=
  opK (prepW rCall_L601011_q st) fun st' => opK (chk2 c (loopAt 44 [0, 1, 0, 1, 1]) st' (rCall_L601011_S (rCall_L601011_gp0 st') (rCall_L601011_gp1 st') (rCall_L601011_gp2 st') (rCall_L601011_gp3 st') (rCall_L601011_gv st'))) fun _ => opK (rCall_L601011 F n n (rCall_L601011_gp0 st') (rCall_L601011_gp1 st') (rCall_L601011_gp2 st') (rCall_L601011_gp3 st') (rCall_L601011_gv st')) fun o => k ((.exit 0), rCall_L601011_O0 (rCall_L601011_gp0 st') (rCall_L601011_gp1 st') (rCall_L601011_gp2 st') (rCall_L601011_gp3 st') o)
def rCall_L601011p_S (p0 : List Form) (p1 : List Form) (p2 : Int) (p3 : Int) (p4 : Bs) (p5 : Bs) : WSt T := { tm := [.undef, .row 3 (p0) false, .undef, .undef, .ptr 0 0, .row 3 (p1) true, .int .i64 (p2)] ++ (un 18), mem := { A := [[.int .i64 (p3), .str (p4), .str (p5), .nilsl]], H := [], la := 0, lh := 0, pa := 0, ph := 0 }, df := [], rd := false }
def rCall_L601011p_gp0 (st : WSt T) : List Form := (W.toR 3 (st.tm.getD 1 .undef))
def rCall_L601011p_gp1 (st : WSt T) : List Form := (W.toR 3 (st.tm.getD 5 .undef))
def rCall_L601011p_gp2 (st : WSt T) : Int := (W.toI (st.tm.getD 6 .undef))
def rCall_L601011p_gp3 (st : WSt T) : Int := (W.toI ((st.mem.A.getD 0 []).getD 0 .undef))
def rCall_L601011p_gp4 (st : WSt T) : Bs := (W.toS ((st.mem.A.getD 0 []).getD 1 .undef))
def rCall_L601011p_gp5 (st : WSt T) : Bs := (W.toS ((st.mem.A.getD 0 []).getD 2 .undef))
def rCall_L601011p_O0 (p0 : List Form) (p1 : List Form) (p2 : Int) (p3 : Int) (p4 : Bs) (p5 : Bs) (o : (Int) × (List Form)) : WSt T := { tm := [.undef, .row 3 (p0) false, .undef, .undef, .ptr 0 0, .own 3 0, .int .i64 (o.fst)] ++ (un 18), mem := { A := [[.int .i64 (p3), .str (p4), .str (p5), .nilsl]], H := [.rows 3 (o.snd)], la := 0, lh := 0, pa := 0, ph := 0 }, df := [], rd := false }
def rCall_L601011p_O1 (p0 : List Form) (p1 : List Form) (p2 : Int) (p3 : Int) (p4 : Bs) (p5 : Bs) (o : Unit) : WSt T := { tm := [.undef, .row 3 (p0) false, .undef, .undef, .ptr 0 0, .row 3 (p1) true, .int .i64 (p2)] ++ (un 18), mem := { A := [[.int .i64 (p3), .str (p4), .str (p5), .nilsl]], H := [], la := 0, lh := 0, pa := 0, ph := 0 }, df := [], rd := false }
noncomputable def rCall_L601011p_R (F : Tb) (n : Nat) (p0 : List Form) (p1 : List Form) (p2 : Int) (p3 : Int) (p4 : Bs) (p5 : Bs) {R : Type} (K : (((Int) × (List Form)) ⊕ (Unit)) → Option R) : Option R :=
  cnd (decide (p2 < (↑p0.length : Int)))
    (
    opK (idx p0 p2) fun x55 =>
    cnd (decide ((p1.length + 1) * 64 ≤ 140737488355328))
      (
      cnd (ok64 (p2 + 1))
        (
        K (.inl ((p2 + 1, p1 ++ [Form.mk x55.kind x55.text x55.home x55.kids]))))
        (
        none))
      (
      none))
    (
    K (.inr (())))
noncomputable def rCall_L601011p (F : Tb) (n : Nat) (p0 : List Form) (p1 : List Form) (p2 : Int) (p3 : Int) (p4 : Bs) (p5 : Bs) : Option (((Int) × (List Form)) ⊕ (Unit)) := rCall_L601011p_R F n p0 p1 p2 p3 p4 p5 some
def rCall_L601011p_E (p0 : List Form) (p1 : List Form) (p2 : Int) (p3 : Int) (p4 : Bs) (p5 : Bs) (o : ((Int) × (List Form)) ⊕ (Unit)) : Ex × WSt T := match o with
  | .inl o => (.normal, rCall_L601011p_O0 p0 p1 p2 p3 p4 p5 o)
  | .inr o => ((.exit 0), rCall_L601011p_O1 p0 p1 p2 p3 p4 p5 o)
def rCall_L601011p_q : Prep := ⟨[0, 2, 3, 7, 8, 9, 10, 11, 12, 13, 14, 15, 16, 17, 18, 19, 20, 21, 22, 23, 24], [], []⟩
noncomputable def rCall_c (F : Tb) (n : Nat) (a0 : Bs) (a1 : (List Form)) {R : Type} (K : (Form) → Option R) : Option R :=
  opK (F.rSymbol ([67, 79, 77, 77, 79, 78, 45, 76, 73, 83, 80]) (a0)) fun y49 =>
  opK (chk (loopAt 44 [0, 1, 0, 1, 1]) (rCall_L601011p_S (a1) ([Form.mk y49.kind y49.text y49.home y49.kids]) (0) (0) ([]) ([]))) fun _ => opK (rCall_L601011p F n (a1) ([Form.mk y49.kind y49.text y49.home y49.kids]) (0) (0) ([]) ([])) fun o56 =>
  sumK o56 (fun o57 =>
    opK (chk (loopAt 44 [0, 1, 0, 1, 1]) (rCall_L601011_S (a1) (0) ([]) ([]) (o57.fst, o57.snd))) fun _ => opK (rCall_L601011 F n n (a1) (0) ([]) ([]) (o57.fst, o57.snd)) fun o59 =>
    opK (F.rList (o59.snd)) fun y60 =>
    K (Form.mk y60.kind y60.text y60.home y60.kids)) (fun o58 =>
    opK (F.rList ([Form.mk y49.kind y49.text y49.home y49.kids])) fun y61 =>
    K (Form.mk y61.kind y61.text y61.home y61.kids))
noncomputable def stepT (F : Tb) (n : Nat) : Tb where
  Size := fun a0 => Size_c F n a0 some
  rEqual := fun a0 a1 => rEqual_c F n a0 a1 some
  left := fun a0 a1 => left_c F n a0 a1 some
  Few := fun a0 a1 => Few_c F n a0 a1 some
  same := fun a0 a1 => same_c F n a0 a1 some
  Dotted := fun a0 a1 => Dotted_c F n a0 a1 some
  Spread := fun a0 => Spread_c F n a0 some
  mkList := fun a0 => mkList_c F n a0 some
  Items := fun a0 => Items_c F n a0 some
  IsNil := fun a0 => IsNil_c F n a0 some
  Is := fun a0 a1 a2 => Is_c F n a0 a1 a2 some
  Symbol := fun a0 a1 => Symbol_c F n a0 a1 some
  Nil := Nil_c F n  some
  Equal := fun a0 a1 => Equal_c F n a0 a1 some
  EqualFunc_f22 := fun a0 a1 => EqualFunc_c F n a0 a1 some
  Concat := fun a0 => Concat_c F n a0 some
  rDotted := fun a0 a1 => rDotted_c F n a0 a1 some
  rSpread := fun a0 => rSpread_c F n a0 some
  rItems := fun a0 => rItems_c F n a0 some
  rList := fun a0 => rList_c F n a0 some
  Call := fun a0 a1 => Call_c F n a0 a1 some
  rCall := fun a0 a1 => rCall_c F n a0 a1 some
  rNil := rNil_c F n  some
  rSymbol := fun a0 a1 => rSymbol_c F n a0 a1 some
  rIsNil := fun a0 => rIsNil_c F n a0 some
  rIs := fun a0 a1 a2 => rIs_c F n a0 a1 a2 some
  awakeTrees := some true
  FormSpreads := fun a0 a1 a2 => FormSpreads_c F n a0 a1 a2 some
  FormLists := fun a0 a1 a2 => FormLists_c F n a0 a1 a2 some
def noneT : Tb where
  Size := fun _ => none
  rEqual := fun _ _ => none
  left := fun _ _ => none
  Few := fun _ _ => none
  same := fun _ _ => none
  Dotted := fun _ _ => none
  Spread := fun _ => none
  mkList := fun _ => none
  Items := fun _ => none
  IsNil := fun _ => none
  Is := fun _ _ _ => none
  Symbol := fun _ _ => none
  Nil := none
  Equal := fun _ _ => none
  EqualFunc_f22 := fun _ _ => none
  Concat := fun _ => none
  rDotted := fun _ _ => none
  rSpread := fun _ => none
  rItems := fun _ => none
  rList := fun _ => none
  Call := fun _ _ => none
  rCall := fun _ _ => none
  rNil := none
  rSymbol := fun _ _ => none
  rIsNil := fun _ => none
  rIs := fun _ _ _ => none
  awakeTrees := none
  FormSpreads := fun _ _ _ => none
  FormLists := fun _ _ _ => none
noncomputable def tb : Nat → Tb
  | 0 => noneT
  | n + 1 => stepT (tb n) n
end Go.Proofs.YtpdgbhjhodhkiaaGreatDoor.AI
