/- The functions without a bound (printed). -/
import Derived.Test.YtpdgbhjhodhkiaaGreatDoorXF
set_option linter.unusedVariables false
set_option linter.unusedSimpArgs false
set_option linter.unnecessarySimpa false
set_option maxRecDepth 100000
namespace Go.Proofs.YtpdgbhjhodhkiaaGreatDoor.AI
open Go Go.Proofs
structure Le (F G : Tb) : Prop where
 through : ∀ p0 p1, Mle (F.through p0 p1) (G.through p0 p1)
 through_v1 : ∀ p0 p1 p2, Mle (F.through_v1 p0 p1 p2) (G.through_v1 p0 p1 p2)
 look : ∀ p0 p1 p2, Mle (F.look p0 p1 p2) (G.look p0 p1 p2)
 labels : ∀ p0 p1, Mle (F.labels p0 p1) (G.labels p0 p1)
 Size : ∀ a0, Mle (F.Size a0) (G.Size a0)
 rEqual : ∀ a0 a1, Mle (F.rEqual a0 a1) (G.rEqual a0 a1)
 left : ∀ a0 a1, Mle (F.left a0 a1) (G.left a0 a1)
 Few : ∀ a0 a1, Mle (F.Few a0 a1) (G.Few a0 a1)
 IsNil : ∀ a0, Mle (F.IsNil a0) (G.IsNil a0)
 Is : ∀ a0 a1 a2, Mle (F.Is a0 a1 a2) (G.Is a0 a1 a2)
 Equal : ∀ a0 a1, Mle (F.Equal a0 a1) (G.Equal a0 a1)
 EqualFunc_f22 : ∀ a0 a1, Mle (F.EqualFunc_f22 a0 a1) (G.EqualFunc_f22 a0 a1)
 rIsNil : ∀ a0, Mle (F.rIsNil a0) (G.rIsNil a0)
 rIs : ∀ a0 a1 a2, Mle (F.rIs a0 a1 a2) (G.rIs a0 a1 a2)
 awakeTrees : ∀ (_ : Unit), Mle (F.awakeTrees) (G.awakeTrees)
 Check : ∀ a0, Mle (F.Check a0) (G.Check a0)
 limited : ∀ a0, Mle (F.limited a0) (G.limited a0)
 right : ∀ a0, Mle (F.right a0) (G.right a0)
 dimensions : ∀ a0, Mle (F.dimensions a0) (G.dimensions a0)
 integer : ∀ a0, Mle (F.integer a0) (G.integer a0)
 decimal : ∀ a0, Mle (F.decimal a0) (G.decimal a0)
 ratio : ∀ a0, Mle (F.ratio a0) (G.ratio a0)
 hexadecimal : ∀ a0 a1, Mle (F.hexadecimal a0 a1) (G.hexadecimal a0 a1)
 complex : ∀ a0, Mle (F.complex a0) (G.complex a0)
 product : ∀ a0, Mle (F.product a0) (G.product a0)
 small : ∀ a0 a1, Mle (F.small a0 a1) (G.small a0 a1)
 exact : ∀ a0, Mle (F.exact a0) (G.exact a0)
 Dimensions : ∀ a0, Mle (F.Dimensions a0) (G.Dimensions a0)
 Number : ∀ a0, Mle (F.Number a0) (G.Number a0)
 IndexInt : ∀ a0 a1, Mle (F.IndexInt a0 a1) (G.IndexInt a0 a1)
 rCheck : ∀ a0, Mle (F.rCheck a0) (G.rCheck a0)
 rDimensions : ∀ a0, Mle (F.rDimensions a0) (G.rDimensions a0)
 rdimensions : ∀ a0, Mle (F.rdimensions a0) (G.rdimensions a0)
 nodes : ∀ a0, Mle (F.nodes a0) (G.nodes a0)
 node : ∀ a0, Mle (F.node a0) (G.node a0)
 within : ∀ a0 a1, Mle (F.within a0 a1) (G.within a0 a1)
 digits : ∀ a0, Mle (F.digits a0) (G.digits a0)
 value : ∀ a0, Mle (F.value a0) (G.value a0)
 parts : ∀ a0 a1, Mle (F.parts a0 a1) (G.parts a0 a1)
 rproduct : ∀ a0, Mle (F.rproduct a0) (G.rproduct a0)
 label : ∀ a0, Mle (F.label a0) (G.label a0)
 atom : ∀ a0, Mle (F.atom a0) (G.atom a0)
 rexact : ∀ a0, Mle (F.rexact a0) (G.rexact a0)
 whole : ∀ a0, Mle (F.whole a0) (G.whole a0)
 rratio : ∀ a0, Mle (F.rratio a0) (G.rratio a0)
 hex : ∀ a0 a1, Mle (F.hex a0 a1) (G.hex a0 a1)
 rNumber : ∀ a0, Mle (F.rNumber a0) (G.rNumber a0)
 FormChecks : ∀ a0 a1 a2 a3, Mle (F.FormChecks a0 a1 a2 a3) (G.FormChecks a0 a1 a2 a3)
 rSize : ∀ a0, Mle (F.rSize a0) (G.rSize a0)
 Size_L0 : ∀ p0 p1 p2 p3 p4 v, Mle (F.Size_L0 p0 p1 p2 p3 p4 v) (G.Size_L0 p0 p1 p2 p3 p4 v)
 rEqual_L0 : ∀ p0 p1 p2 p3 p4 p5 p6 p7 v, Mle (F.rEqual_L0 p0 p1 p2 p3 p4 p5 p6 p7 v) (G.rEqual_L0 p0 p1 p2 p3 p4 p5 p6 p7 v)
 left_L0 : ∀ p0 p1 p2 p3 v, Mle (F.left_L0 p0 p1 p2 p3 v) (G.left_L0 p0 p1 p2 p3 v)
 EqualFunc_L0 : ∀ p0 p1 p2 v, Mle (F.EqualFunc_L0 p0 p1 p2 v) (G.EqualFunc_L0 p0 p1 p2 v)
 through_L0 : ∀ p0 p1 p2 p3 p4 p5 v, Mle (F.through_L0 p0 p1 p2 p3 p4 p5 v) (G.through_L0 p0 p1 p2 p3 p4 p5 v)
 through_L1 : ∀ p0 p1 p2 p3 p4 p5 v, Mle (F.through_L1 p0 p1 p2 p3 p4 p5 v) (G.through_L1 p0 p1 p2 p3 p4 p5 v)
 look_L0 : ∀ p0 p1 p2 p3 p4 p5 v, Mle (F.look_L0 p0 p1 p2 p3 p4 p5 v) (G.look_L0 p0 p1 p2 p3 p4 p5 v)
 right_L0 : ∀ p0 p1 p2 p3 v, Mle (F.right_L0 p0 p1 p2 p3 v) (G.right_L0 p0 p1 p2 p3 v)
 f221_L0 : ∀ v, Mle (F.f221_L0 v) (G.f221_L0 v)
 decimal_L0 : ∀ p0 p1 v, Mle (F.decimal_L0 p0 p1 v) (G.decimal_L0 p0 p1 v)
 ratio_L0 : ∀ v, Mle (F.ratio_L0 v) (G.ratio_L0 v)
 product_L0 : ∀ p0 p1 v, Mle (F.product_L0 p0 p1 v) (G.product_L0 p0 p1 v)
 IndexInt_L0 : ∀ p0 p1 p2 v, Mle (F.IndexInt_L0 p0 p1 p2 v) (G.IndexInt_L0 p0 p1 p2 v)
 labels_L0 : ∀ p0 p1 p2 p3 v, Mle (F.labels_L0 p0 p1 p2 p3 v) (G.labels_L0 p0 p1 p2 p3 v)
 labels_P1 : ∀ p0 p1 p2 p3 p4 p5 p6, Mle (F.labels_P1 p0 p1 p2 p3 p4 p5 p6) (G.labels_P1 p0 p1 p2 p3 p4 p5 p6)
 rdimensions_L0 : ∀ p0 v, Mle (F.rdimensions_L0 p0 v) (G.rdimensions_L0 p0 v)
 nodes_L0 : ∀ p0 p1 p2 p3 v, Mle (F.nodes_L0 p0 p1 p2 p3 v) (G.nodes_L0 p0 p1 p2 p3 v)
 within_L0 : ∀ p0 p1 v, Mle (F.within_L0 p0 p1 v) (G.within_L0 p0 p1 v)
 digits_L0 : ∀ p0 v, Mle (F.digits_L0 p0 v) (G.digits_L0 p0 v)
 value_L0 : ∀ p0 v, Mle (F.value_L0 p0 v) (G.value_L0 p0 v)
 rproduct_L0 : ∀ p0 v, Mle (F.rproduct_L0 p0 v) (G.rproduct_L0 p0 v)
 rproduct_L1 : ∀ p0 v, Mle (F.rproduct_L1 p0 v) (G.rproduct_L1 p0 v)
 atom_L0 : ∀ p0 p1 p2 p3 v, Mle (F.atom_L0 p0 p1 p2 p3 v) (G.atom_L0 p0 p1 p2 p3 v)
 rratio_L0 : ∀ p0 v, Mle (F.rratio_L0 p0 v) (G.rratio_L0 p0 v)
 rratio_L1 : ∀ v, Mle (F.rratio_L1 v) (G.rratio_L1 v)
 hex_L0 : ∀ p0 p1 v, Mle (F.hex_L0 p0 p1 v) (G.hex_L0 p0 p1 v)
 FormChecks_L0 : ∀ p0 p1 p2 p3 p4 p5 p6 p7 p8 p9 p10 p11 p12 v, Mle (F.FormChecks_L0 p0 p1 p2 p3 p4 p5 p6 p7 p8 p9 p10 p11 p12 v) (G.FormChecks_L0 p0 p1 p2 p3 p4 p5 p6 p7 p8 p9 p10 p11 p12 v)
 rSize_L0 : ∀ p0 p1 p2 p3 v, Mle (F.rSize_L0 p0 p1 p2 p3 v) (G.rSize_L0 p0 p1 p2 p3 v)
theorem Le.rfl' {F : Tb} : Le F F := ⟨fun _ _ => Mle.rfl', fun _ _ _ => Mle.rfl', fun _ _ _ => Mle.rfl', fun _ _ => Mle.rfl', fun _ => Mle.rfl', fun _ _ => Mle.rfl', fun _ _ => Mle.rfl', fun _ _ => Mle.rfl', fun _ => Mle.rfl', fun _ _ _ => Mle.rfl', fun _ _ => Mle.rfl', fun _ _ => Mle.rfl', fun _ => Mle.rfl', fun _ _ _ => Mle.rfl', fun _ => Mle.rfl', fun _ => Mle.rfl', fun _ => Mle.rfl', fun _ => Mle.rfl', fun _ => Mle.rfl', fun _ => Mle.rfl', fun _ => Mle.rfl', fun _ => Mle.rfl', fun _ _ => Mle.rfl', fun _ => Mle.rfl', fun _ => Mle.rfl', fun _ _ => Mle.rfl', fun _ => Mle.rfl', fun _ => Mle.rfl', fun _ => Mle.rfl', fun _ _ => Mle.rfl', fun _ => Mle.rfl', fun _ => Mle.rfl', fun _ => Mle.rfl', fun _ => Mle.rfl', fun _ => Mle.rfl', fun _ _ => Mle.rfl', fun _ => Mle.rfl', fun _ => Mle.rfl', fun _ _ => Mle.rfl', fun _ => Mle.rfl', fun _ => Mle.rfl', fun _ => Mle.rfl', fun _ => Mle.rfl', fun _ => Mle.rfl', fun _ => Mle.rfl', fun _ _ => Mle.rfl', fun _ => Mle.rfl', fun _ _ _ _ => Mle.rfl', fun _ => Mle.rfl', fun _ _ _ _ _ _ => Mle.rfl', fun _ _ _ _ _ _ _ _ _ => Mle.rfl', fun _ _ _ _ _ => Mle.rfl', fun _ _ _ _ => Mle.rfl', fun _ _ _ _ _ _ _ => Mle.rfl', fun _ _ _ _ _ _ _ => Mle.rfl', fun _ _ _ _ _ _ _ => Mle.rfl', fun _ _ _ _ _ => Mle.rfl', fun _ => Mle.rfl', fun _ _ _ => Mle.rfl', fun _ => Mle.rfl', fun _ _ _ => Mle.rfl', fun _ _ _ _ => Mle.rfl', fun _ _ _ _ _ => Mle.rfl', fun _ _ _ _ _ _ _ => Mle.rfl', fun _ _ => Mle.rfl', fun _ _ _ _ _ => Mle.rfl', fun _ _ _ => Mle.rfl', fun _ _ => Mle.rfl', fun _ _ => Mle.rfl', fun _ _ => Mle.rfl', fun _ _ => Mle.rfl', fun _ _ _ _ _ => Mle.rfl', fun _ _ => Mle.rfl', fun _ => Mle.rfl', fun _ _ _ => Mle.rfl', fun _ _ _ _ _ _ _ _ _ _ _ _ _ _ => Mle.rfl', fun _ _ _ _ _ => Mle.rfl'⟩
theorem Size_L0_R_m {F G : Tb} (h : Le F G) (p0 : List Form) (p1 : Int) (p2 : Int) (p3 : Bs) (p4 : Bs) (v : (Int) × (Int) × (Int)) {R : Type} {K K' : ((Int) × (Int) × (Int)) ⊕ ((Int) × (Int) × (Int)) → Option R} (hK : ∀ x, Mle (K x) (K' x)) : Mle (Size_L0_R F p0 p1 p2 p3 p4 v K) (Size_L0_R G p0 p1 p2 p3 p4 v K') := by
 unfold Size_L0_R
 repeat' (first | exact hK _ | exact Mle.none | exact h.Size _ | exact Mle.rfl' | refine Mle.cnd ?_ ?_ | refine Mle.sumK (fun _ => ?_) (fun _ => ?_) | refine Mle.opK ?_ fun _ => ?_)
theorem rEqual_L0_R_m {F G : Tb} (h : Le F G) (p0 : Int) (p1 : Bs) (p2 : Bs) (p3 : List Form) (p4 : Int) (p5 : Bs) (p6 : Bs) (p7 : List Form) (v : (Int)) {R : Type} {K K' : (((Int)) ⊕ ((Int))) ⊕ ((Int)) → Option R} (hK : ∀ x, Mle (K x) (K' x)) : Mle (rEqual_L0_R F p0 p1 p2 p3 p4 p5 p6 p7 v K) (rEqual_L0_R G p0 p1 p2 p3 p4 p5 p6 p7 v K') := by
 unfold rEqual_L0_R
 repeat' (first | exact hK _ | exact Mle.none | exact h.rEqual _ _ | exact Mle.rfl' | refine Mle.cnd ?_ ?_ | refine Mle.sumK (fun _ => ?_) (fun _ => ?_) | refine Mle.opK ?_ fun _ => ?_)
theorem left_L0_R_m {F G : Tb} (h : Le F G) (p0 : Int) (p1 : Bs) (p2 : Bs) (p3 : List Form) (v : (Int) × (Int)) {R : Type} {K K' : ((Int) × (Int)) ⊕ ((Int) × (Int)) → Option R} (hK : ∀ x, Mle (K x) (K' x)) : Mle (left_L0_R F p0 p1 p2 p3 v K) (left_L0_R G p0 p1 p2 p3 v K') := by
 unfold left_L0_R
 repeat' (first | exact hK _ | exact Mle.none | exact h.left _ _ | exact Mle.rfl' | refine Mle.cnd ?_ ?_ | refine Mle.sumK (fun _ => ?_) (fun _ => ?_) | refine Mle.opK ?_ fun _ => ?_)
theorem EqualFunc_L0_R_m {F G : Tb} (h : Le F G) (p0 : List Form) (p1 : List Form) (p2 : Int) (v : (Int)) {R : Type} {K K' : (((Int)) ⊕ ((Int))) ⊕ ((Int)) → Option R} (hK : ∀ x, Mle (K x) (K' x)) : Mle (EqualFunc_L0_R F p0 p1 p2 v K) (EqualFunc_L0_R G p0 p1 p2 v K') := by
 unfold EqualFunc_L0_R
 repeat' (first | exact hK _ | exact Mle.none | exact h.Equal _ _ | exact Mle.rfl' | refine Mle.cnd ?_ ?_ | refine Mle.sumK (fun _ => ?_) (fun _ => ?_) | refine Mle.opK ?_ fun _ => ?_)
theorem through_L0_R_m {F G : Tb} (h : Le F G) (p0 : List Form) (p1 : Int) (p2 : Int) (p3 : Int) (p4 : Bs) (p5 : Bs) (v : (Int)) {R : Type} {K K' : (((Int)) ⊕ ((Int))) ⊕ ((Int)) → Option R} (hK : ∀ x, Mle (K x) (K' x)) : Mle (through_L0_R F p0 p1 p2 p3 p4 p5 v K) (through_L0_R G p0 p1 p2 p3 p4 p5 v K') := by
 unfold through_L0_R
 simp only [through_K]
 repeat' (first | exact hK _ | exact Mle.none | exact h.through _ _ | exact Mle.rfl' | refine Mle.cnd ?_ ?_ | refine Mle.sumK (fun _ => ?_) (fun _ => ?_) | refine Mle.opK ?_ fun _ => ?_)
theorem through_L1_R_m {F G : Tb} (h : Le F G) (p0 : List Form) (p1 : Int) (p2 : Int) (p3 : Int) (p4 : Bs) (p5 : Bs) (v : (Int) × (List (Bs × Bool))) {R : Type} {K K' : (((Int) × (Int) × (List (Bs × Bool))) ⊕ ((Int) × (List (Bs × Bool)))) ⊕ ((Int) × (List (Bs × Bool))) → Option R} (hK : ∀ x, Mle (K x) (K' x)) : Mle (through_L1_R F p0 p1 p2 p3 p4 p5 v K) (through_L1_R G p0 p1 p2 p3 p4 p5 v K') := by
 unfold through_L1_R
 simp only [through_v1_K]
 repeat' (first | exact hK _ | exact Mle.none | exact h.through_v1 _ _ _ | exact Mle.rfl' | refine Mle.cnd ?_ ?_ | refine Mle.sumK (fun _ => ?_) (fun _ => ?_) | refine Mle.opK ?_ fun _ => ?_)
theorem look_L0_R_m {F G : Tb} (h : Le F G) (p0 : Int) (p1 : List Form) (p2 : Int) (p3 : Int) (p4 : Bs) (p5 : Bs) (v : (Int) × (Int)) {R : Type} {K K' : (((Int) × (Int)) ⊕ ((Int) × (Int))) ⊕ ((Int) × (Int)) → Option R} (hK : ∀ x, Mle (K x) (K' x)) : Mle (look_L0_R F p0 p1 p2 p3 p4 p5 v K) (look_L0_R G p0 p1 p2 p3 p4 p5 v K') := by
 unfold look_L0_R
 simp only [look_K]
 repeat' (first | exact hK _ | exact Mle.none | exact h.look _ _ _ | exact Mle.rfl' | refine Mle.cnd ?_ ?_ | refine Mle.sumK (fun _ => ?_) (fun _ => ?_) | refine Mle.opK ?_ fun _ => ?_)
theorem right_L0_R_m {F G : Tb} (h : Le F G) (p0 : Bs) (p1 : Bs) (p2 : Int) (p3 : List Form) (v : (Int)) {R : Type} {K K' : (((Int)) ⊕ ((Int))) ⊕ ((Int)) → Option R} (hK : ∀ x, Mle (K x) (K' x)) : Mle (right_L0_R F p0 p1 p2 p3 v K) (right_L0_R G p0 p1 p2 p3 v K') := by
 unfold right_L0_R
 repeat' (first | exact hK _ | exact Mle.none | exact Mle.rfl' | refine Mle.cnd ?_ ?_ | refine Mle.sumK (fun _ => ?_) (fun _ => ?_) | refine Mle.opK ?_ fun _ => ?_)
theorem f221_L0_R_m {F G : Tb} (h : Le F G) (v : (Bs) × (List Int)) {R : Type} {K K' : (((Bs) × (List Int)) ⊕ ((Bs) × (List Int))) ⊕ ((Bs) × (List Int)) → Option R} (hK : ∀ x, Mle (K x) (K' x)) : Mle (f221_L0_R F v K) (f221_L0_R G v K') := by
 unfold f221_L0_R
 repeat' (first | exact hK _ | exact Mle.none | exact h.small _ _ | exact Mle.rfl' | refine Mle.cnd ?_ ?_ | refine Mle.sumK (fun _ => ?_) (fun _ => ?_) | refine Mle.opK ?_ fun _ => ?_)
theorem decimal_L0_R_m {F G : Tb} (h : Le F G) (p0 : List UInt8) (p1 : Int) (v : (Int)) {R : Type} {K K' : (((Int)) ⊕ ((Int))) ⊕ ((Int)) → Option R} (hK : ∀ x, Mle (K x) (K' x)) : Mle (decimal_L0_R F p0 p1 v K) (decimal_L0_R G p0 p1 v K') := by
 unfold decimal_L0_R
 repeat' (first | exact hK _ | exact Mle.none | exact Mle.rfl' | refine Mle.cnd ?_ ?_ | refine Mle.sumK (fun _ => ?_) (fun _ => ?_) | refine Mle.opK ?_ fun _ => ?_)
theorem ratio_L0_R_m {F G : Tb} (h : Le F G) (v : (Int) × (Int)) {R : Type} {K K' : ((Int) × (Int)) ⊕ ((Int) × (Int)) → Option R} (hK : ∀ x, Mle (K x) (K' x)) : Mle (ratio_L0_R F v K) (ratio_L0_R G v K') := by
 unfold ratio_L0_R
 repeat' (first | exact hK _ | exact Mle.none | exact Mle.rfl' | refine Mle.cnd ?_ ?_ | refine Mle.sumK (fun _ => ?_) (fun _ => ?_) | refine Mle.opK ?_ fun _ => ?_)
theorem product_L0_R_m {F G : Tb} (h : Le F G) (p0 : List Int) (p1 : Int) (v : (Int) × (Int)) {R : Type} {K K' : ((Int) × (Int)) ⊕ ((Int) × (Int)) → Option R} (hK : ∀ x, Mle (K x) (K' x)) : Mle (product_L0_R F p0 p1 v K) (product_L0_R G p0 p1 v K') := by
 unfold product_L0_R
 repeat' (first | exact hK _ | exact Mle.none | exact Mle.rfl' | refine Mle.cnd ?_ ?_ | refine Mle.sumK (fun _ => ?_) (fun _ => ?_) | refine Mle.opK ?_ fun _ => ?_)
theorem IndexInt_L0_R_m {F G : Tb} (h : Le F G) (p0 : List Int) (p1 : Int) (p2 : Int) (v : (Int)) {R : Type} {K K' : (((Int) × (Int)) ⊕ ((Int))) ⊕ ((Int)) → Option R} (hK : ∀ x, Mle (K x) (K' x)) : Mle (IndexInt_L0_R F p0 p1 p2 v K) (IndexInt_L0_R G p0 p1 p2 v K') := by
 unfold IndexInt_L0_R
 repeat' (first | exact hK _ | exact Mle.none | exact Mle.rfl' | refine Mle.cnd ?_ ?_ | refine Mle.sumK (fun _ => ?_) (fun _ => ?_) | refine Mle.opK ?_ fun _ => ?_)
theorem labels_L0_R_m {F G : Tb} (h : Le F G) (p0 : Int) (p1 : Bs) (p2 : Bs) (p3 : List Form) (v : (Int) × (List Bs)) {R : Type} {K K' : (((Int) × (Int) × (List Bs)) ⊕ ((Int) × (List Bs))) ⊕ ((Int) × (List Bs)) → Option R} (hK : ∀ x, Mle (K x) (K' x)) : Mle (labels_L0_R F p0 p1 p2 p3 v K) (labels_L0_R G p0 p1 p2 p3 v K') := by
 unfold labels_L0_R
 simp only [labels_K]
 repeat' (first | exact hK _ | exact Mle.none | exact h.labels _ _ | exact Mle.rfl' | refine Mle.cnd ?_ ?_ | refine Mle.sumK (fun _ => ?_) (fun _ => ?_) | refine Mle.opK ?_ fun _ => ?_)
theorem labels_P1_R_m {F G : Tb} (h : Le F G) (p0 : Int) (p1 : Int) (p2 : Int) (p3 : Bs) (p4 : Bs) (p5 : List Form) (p6 : List Bs) {R : Type} {K K' : (((Int) × (List Bs)) ⊕ (((Int) × (List Bs)) ⊕ (Unit))) → Option R} (hK : ∀ x, Mle (K x) (K' x)) : Mle (labels_P1_R F p0 p1 p2 p3 p4 p5 p6 K) (labels_P1_R G p0 p1 p2 p3 p4 p5 p6 K') := by
 unfold labels_P1_R
 simp only [labels_K]
 repeat' (first | exact hK _ | exact Mle.none | exact h.labels _ _ | exact Mle.rfl' | refine Mle.cnd ?_ ?_ | refine Mle.sumK (fun _ => ?_) (fun _ => ?_) | refine Mle.opK ?_ fun _ => ?_)
theorem rdimensions_L0_R_m {F G : Tb} (h : Le F G) (p0 : Bs) (v : (Int) × (Int) × (List Int)) {R : Type} {K K' : (((Int) × (Int) × (List Int)) ⊕ ((Int) × (Int) × (List Int))) ⊕ ((Int) × (Int) × (List Int)) → Option R} (hK : ∀ x, Mle (K x) (K' x)) : Mle (rdimensions_L0_R F p0 v K) (rdimensions_L0_R G p0 v K') := by
 unfold rdimensions_L0_R
 repeat' (first | exact hK _ | exact Mle.none | exact h.digits _ | exact h.value _ | exact Mle.rfl' | refine Mle.cnd ?_ ?_ | refine Mle.sumK (fun _ => ?_) (fun _ => ?_) | refine Mle.opK ?_ fun _ => ?_)
theorem nodes_L0_R_m {F G : Tb} (h : Le F G) (p0 : Int) (p1 : Bs) (p2 : Bs) (p3 : List Form) (v : (Int)) {R : Type} {K K' : (((Int)) ⊕ ((Int))) ⊕ ((Int)) → Option R} (hK : ∀ x, Mle (K x) (K' x)) : Mle (nodes_L0_R F p0 p1 p2 p3 v K) (nodes_L0_R G p0 p1 p2 p3 v K') := by
 unfold nodes_L0_R
 repeat' (first | exact hK _ | exact Mle.none | exact h.nodes _ | exact Mle.rfl' | refine Mle.cnd ?_ ?_ | refine Mle.sumK (fun _ => ?_) (fun _ => ?_) | refine Mle.opK ?_ fun _ => ?_)
theorem within_L0_R_m {F G : Tb} (h : Le F G) (p0 : List Bs) (p1 : Bs) (v : (Int)) {R : Type} {K K' : (((Int)) ⊕ ((Int))) ⊕ ((Int)) → Option R} (hK : ∀ x, Mle (K x) (K' x)) : Mle (within_L0_R F p0 p1 v K) (within_L0_R G p0 p1 v K') := by
 unfold within_L0_R
 repeat' (first | exact hK _ | exact Mle.none | exact Mle.rfl' | refine Mle.cnd ?_ ?_ | refine Mle.sumK (fun _ => ?_) (fun _ => ?_) | refine Mle.opK ?_ fun _ => ?_)
theorem digits_L0_R_m {F G : Tb} (h : Le F G) (p0 : Bs) (v : (Int)) {R : Type} {K K' : (((Int)) ⊕ ((Int))) ⊕ ((Int)) → Option R} (hK : ∀ x, Mle (K x) (K' x)) : Mle (digits_L0_R F p0 v K) (digits_L0_R G p0 v K') := by
 unfold digits_L0_R
 repeat' (first | exact hK _ | exact Mle.none | exact Mle.rfl' | refine Mle.cnd ?_ ?_ | refine Mle.sumK (fun _ => ?_) (fun _ => ?_) | refine Mle.opK ?_ fun _ => ?_)
theorem value_L0_R_m {F G : Tb} (h : Le F G) (p0 : Bs) (v : (Int) × (Int)) {R : Type} {K K' : ((Int) × (Int)) ⊕ ((Int) × (Int)) → Option R} (hK : ∀ x, Mle (K x) (K' x)) : Mle (value_L0_R F p0 v K) (value_L0_R G p0 v K') := by
 unfold value_L0_R
 repeat' (first | exact hK _ | exact Mle.none | exact Mle.rfl' | refine Mle.cnd ?_ ?_ | refine Mle.sumK (fun _ => ?_) (fun _ => ?_) | refine Mle.opK ?_ fun _ => ?_)
theorem rproduct_L0_R_m {F G : Tb} (h : Le F G) (p0 : List Int) (v : (Int)) {R : Type} {K K' : (((Int)) ⊕ ((Int))) ⊕ ((Int)) → Option R} (hK : ∀ x, Mle (K x) (K' x)) : Mle (rproduct_L0_R F p0 v K) (rproduct_L0_R G p0 v K') := by
 unfold rproduct_L0_R
 repeat' (first | exact hK _ | exact Mle.none | exact Mle.rfl' | refine Mle.cnd ?_ ?_ | refine Mle.sumK (fun _ => ?_) (fun _ => ?_) | refine Mle.opK ?_ fun _ => ?_)
theorem rproduct_L1_R_m {F G : Tb} (h : Le F G) (p0 : List Int) (v : (Int) × (Int)) {R : Type} {K K' : ((Int) × (Int)) ⊕ ((Int) × (Int)) → Option R} (hK : ∀ x, Mle (K x) (K' x)) : Mle (rproduct_L1_R F p0 v K) (rproduct_L1_R G p0 v K') := by
 unfold rproduct_L1_R
 repeat' (first | exact hK _ | exact Mle.none | exact Mle.rfl' | refine Mle.cnd ?_ ?_ | refine Mle.sumK (fun _ => ?_) (fun _ => ?_) | refine Mle.opK ?_ fun _ => ?_)
theorem atom_L0_R_m {F G : Tb} (h : Le F G) (p0 : Int) (p1 : Bs) (p2 : Bs) (p3 : List Form) (v : (Int)) {R : Type} {K K' : (((Int)) ⊕ ((Int))) ⊕ ((Int)) → Option R} (hK : ∀ x, Mle (K x) (K' x)) : Mle (atom_L0_R F p0 p1 p2 p3 v K) (atom_L0_R G p0 p1 p2 p3 v K') := by
 unfold atom_L0_R
 repeat' (first | exact hK _ | exact Mle.none | exact Mle.rfl' | refine Mle.cnd ?_ ?_ | refine Mle.sumK (fun _ => ?_) (fun _ => ?_) | refine Mle.opK ?_ fun _ => ?_)
theorem rratio_L0_R_m {F G : Tb} (h : Le F G) (p0 : Bs) (v : (Int) × (Int)) {R : Type} {K K' : ((Int) × (Int)) ⊕ ((Int) × (Int)) → Option R} (hK : ∀ x, Mle (K x) (K' x)) : Mle (rratio_L0_R F p0 v K) (rratio_L0_R G p0 v K') := by
 unfold rratio_L0_R
 repeat' (first | exact hK _ | exact Mle.none | exact Mle.rfl' | refine Mle.cnd ?_ ?_ | refine Mle.sumK (fun _ => ?_) (fun _ => ?_) | refine Mle.opK ?_ fun _ => ?_)
theorem rratio_L1_R_m {F G : Tb} (h : Le F G) (v : (Int) × (Int)) {R : Type} {K K' : ((Int) × (Int)) ⊕ ((Int) × (Int)) → Option R} (hK : ∀ x, Mle (K x) (K' x)) : Mle (rratio_L1_R F v K) (rratio_L1_R G v K') := by
 unfold rratio_L1_R
 repeat' (first | exact hK _ | exact Mle.none | exact Mle.rfl' | refine Mle.cnd ?_ ?_ | refine Mle.sumK (fun _ => ?_) (fun _ => ?_) | refine Mle.opK ?_ fun _ => ?_)
theorem hex_L0_R_m {F G : Tb} (h : Le F G) (p0 : Bs) (p1 : Int) (v : (Int)) {R : Type} {K K' : (((Int)) ⊕ ((Int))) ⊕ ((Int)) → Option R} (hK : ∀ x, Mle (K x) (K' x)) : Mle (hex_L0_R F p0 p1 v K) (hex_L0_R G p0 p1 v K') := by
 unfold hex_L0_R
 repeat' (first | exact hK _ | exact Mle.none | exact Mle.rfl' | refine Mle.cnd ?_ ?_ | refine Mle.sumK (fun _ => ?_) (fun _ => ?_) | refine Mle.opK ?_ fun _ => ?_)
theorem FormChecks_L0_R_m {F G : Tb} (h : Le F G) (p0 : Bs) (p1 : Bs) (p2 : List Int) (p3 : List Int) (p4 : Int) (p5 : Int) (p6 : Bs) (p7 : Bs) (p8 : List Form) (p9 : Int) (p10 : Bs) (p11 : Bs) (p12 : List Form) (v : (Int)) {R : Type} {K K' : (((Int)) ⊕ ((Int))) ⊕ ((Int)) → Option R} (hK : ∀ x, Mle (K x) (K' x)) : Mle (FormChecks_L0_R F p0 p1 p2 p3 p4 p5 p6 p7 p8 p9 p10 p11 p12 v K) (FormChecks_L0_R G p0 p1 p2 p3 p4 p5 p6 p7 p8 p9 p10 p11 p12 v K') := by
 unfold FormChecks_L0_R
 repeat' (first | exact hK _ | exact Mle.none | exact Mle.rfl' | refine Mle.cnd ?_ ?_ | refine Mle.sumK (fun _ => ?_) (fun _ => ?_) | refine Mle.opK ?_ fun _ => ?_)
theorem rSize_L0_R_m {F G : Tb} (h : Le F G) (p0 : Int) (p1 : Bs) (p2 : Bs) (p3 : List Form) (v : (Int) × (Int) × (Int)) {R : Type} {K K' : ((Int) × (Int) × (Int)) ⊕ ((Int) × (Int) × (Int)) → Option R} (hK : ∀ x, Mle (K x) (K' x)) : Mle (rSize_L0_R F p0 p1 p2 p3 v K) (rSize_L0_R G p0 p1 p2 p3 v K') := by
 unfold rSize_L0_R
 repeat' (first | exact hK _ | exact Mle.none | exact h.rSize _ | exact Mle.rfl' | refine Mle.cnd ?_ ?_ | refine Mle.sumK (fun _ => ?_) (fun _ => ?_) | refine Mle.opK ?_ fun _ => ?_)
theorem through_c_m {F G : Tb} (h : Le F G) (p0 : Form) (p1 : Int) {R : Type} {K K' : ((Unit) ⊕ (Unit)) → Option R} (hK : ∀ x, Mle (K x) (K' x)) : Mle (through_c F p0 p1 K) (through_c G p0 p1 K') := by
 unfold through_c
 simp only [through_L0_K]
 repeat' (first | exact hK _ | exact Mle.none | exact h.right _ | exact h.through_L0 _ _ _ _ _ _ _ | exact Mle.rfl' | refine Mle.cnd ?_ ?_ | refine Mle.sumK (fun _ => ?_) (fun _ => ?_) | refine Mle.opK ?_ fun _ => ?_)
theorem through_v1_c_m {F G : Tb} (h : Le F G) (p0 : Form) (p1 : Int) (p2 : List (Bs × Bool)) {R : Type} {K K' : (((Int) × (List (Bs × Bool))) ⊕ ((List (Bs × Bool)))) → Option R} (hK : ∀ x, Mle (K x) (K' x)) : Mle (through_v1_c F p0 p1 p2 K) (through_v1_c G p0 p1 p2 K') := by
 unfold through_v1_c
 simp only [through_L1_K]
 repeat' (first | exact hK _ | exact Mle.none | exact h.through_L1 _ _ _ _ _ _ _ | exact Mle.rfl' | refine Mle.cnd ?_ ?_ | refine Mle.sumK (fun _ => ?_) (fun _ => ?_) | refine Mle.opK ?_ fun _ => ?_)
theorem look_c_m {F G : Tb} (h : Le F G) (p0 : Form) (p1 : Int) (p2 : Int) {R : Type} {K K' : ((Bool) × (Int)) → Option R} (hK : ∀ x, Mle (K x) (K' x)) : Mle (look_c F p0 p1 p2 K) (look_c G p0 p1 p2 K') := by
 unfold look_c
 simp only [look_L0_K]
 repeat' (first | exact hK _ | exact Mle.none | exact h.look_L0 _ _ _ _ _ _ _ | exact Mle.rfl' | refine Mle.cnd ?_ ?_ | refine Mle.sumK (fun _ => ?_) (fun _ => ?_) | refine Mle.opK ?_ fun _ => ?_)
theorem labels_c_m {F G : Tb} (h : Le F G) (p0 : Form) (p1 : List Bs) {R : Type} {K K' : ((Int) × (List Bs)) → Option R} (hK : ∀ x, Mle (K x) (K' x)) : Mle (labels_c F p0 p1 K) (labels_c G p0 p1 K') := by
 unfold labels_c
 simp only [labels_L0_K, labels_P1_K]
 repeat' (first | exact hK _ | exact Mle.none | exact h.within _ _ | exact h.labels_L0 _ _ _ _ _ | exact h.labels_P1 _ _ _ _ _ _ _ | exact Mle.rfl' | refine Mle.cnd ?_ ?_ | refine Mle.sumK (fun _ => ?_) (fun _ => ?_) | refine Mle.opK ?_ fun _ => ?_)
theorem Size_c_m {F G : Tb} (h : Le F G) (a0 : Form) {R : Type} {K K' : ((Int) × (Int)) → Option R} (hK : ∀ x, Mle (K x) (K' x)) : Mle (Size_c F a0 K) (Size_c G a0 K') := by
 unfold Size_c
 simp only [Size_L0_K]
 repeat' (first | exact hK _ | exact Mle.none | exact h.Size_L0 _ _ _ _ _ _ | exact Mle.rfl' | refine Mle.cnd ?_ ?_ | refine Mle.sumK (fun _ => ?_) (fun _ => ?_) | refine Mle.opK ?_ fun _ => ?_)
theorem rEqual_c_m {F G : Tb} (h : Le F G) (a0 : Form) (a1 : Form) {R : Type} {K K' : ((Bool)) → Option R} (hK : ∀ x, Mle (K x) (K' x)) : Mle (rEqual_c F a0 a1 K) (rEqual_c G a0 a1 K') := by
 unfold rEqual_c
 simp only [rEqual_L0_K]
 repeat' (first | exact hK _ | exact Mle.none | exact h.rEqual_L0 _ _ _ _ _ _ _ _ _ | exact Mle.rfl' | refine Mle.cnd ?_ ?_ | refine Mle.sumK (fun _ => ?_) (fun _ => ?_) | refine Mle.opK ?_ fun _ => ?_)
theorem left_c_m {F G : Tb} (h : Le F G) (a0 : Form) (a1 : Int) {R : Type} {K K' : ((Int)) → Option R} (hK : ∀ x, Mle (K x) (K' x)) : Mle (left_c F a0 a1 K) (left_c G a0 a1 K') := by
 unfold left_c
 simp only [left_L0_K]
 repeat' (first | exact hK _ | exact Mle.none | exact h.left_L0 _ _ _ _ _ | exact Mle.rfl' | refine Mle.cnd ?_ ?_ | refine Mle.sumK (fun _ => ?_) (fun _ => ?_) | refine Mle.opK ?_ fun _ => ?_)
theorem Few_c_m {F G : Tb} (h : Le F G) (a0 : Form) (a1 : Int) {R : Type} {K K' : ((Bool)) → Option R} (hK : ∀ x, Mle (K x) (K' x)) : Mle (Few_c F a0 a1 K) (Few_c G a0 a1 K') := by
 unfold Few_c
 repeat' (first | exact hK _ | exact Mle.none | exact h.left _ _ | exact Mle.rfl' | refine Mle.cnd ?_ ?_ | refine Mle.sumK (fun _ => ?_) (fun _ => ?_) | refine Mle.opK ?_ fun _ => ?_)
theorem IsNil_c_m {F G : Tb} (h : Le F G) (a0 : Form) {R : Type} {K K' : ((Bool)) → Option R} (hK : ∀ x, Mle (K x) (K' x)) : Mle (IsNil_c F a0 K) (IsNil_c G a0 K') := by
 unfold IsNil_c
 repeat' (first | exact hK _ | exact Mle.none | exact h.Is _ _ _ | exact Mle.rfl' | refine Mle.cnd ?_ ?_ | refine Mle.sumK (fun _ => ?_) (fun _ => ?_) | refine Mle.opK ?_ fun _ => ?_)
theorem Is_c_m {F G : Tb} (h : Le F G) (a0 : Form) (a1 : Bs) (a2 : Bs) {R : Type} {K K' : ((Bool)) → Option R} (hK : ∀ x, Mle (K x) (K' x)) : Mle (Is_c F a0 a1 a2 K) (Is_c G a0 a1 a2 K') := by
 unfold Is_c
 repeat' (first | exact hK _ | exact Mle.none | exact Mle.rfl' | refine Mle.cnd ?_ ?_ | refine Mle.sumK (fun _ => ?_) (fun _ => ?_) | refine Mle.opK ?_ fun _ => ?_)
theorem Equal_c_m {F G : Tb} (h : Le F G) (a0 : Form) (a1 : Form) {R : Type} {K K' : ((Bool)) → Option R} (hK : ∀ x, Mle (K x) (K' x)) : Mle (Equal_c F a0 a1 K) (Equal_c G a0 a1 K') := by
 unfold Equal_c
 repeat' (first | exact hK _ | exact Mle.none | exact h.EqualFunc_f22 _ _ | exact Mle.rfl' | refine Mle.cnd ?_ ?_ | refine Mle.sumK (fun _ => ?_) (fun _ => ?_) | refine Mle.opK ?_ fun _ => ?_)
theorem EqualFunc_f22_c_m {F G : Tb} (h : Le F G) (a0 : (List Form)) (a1 : (List Form)) {R : Type} {K K' : ((Bool)) → Option R} (hK : ∀ x, Mle (K x) (K' x)) : Mle (EqualFunc_f22_c F a0 a1 K) (EqualFunc_f22_c G a0 a1 K') := by
 unfold EqualFunc_f22_c
 simp only [EqualFunc_L0_K]
 repeat' (first | exact hK _ | exact Mle.none | exact h.EqualFunc_L0 _ _ _ _ | exact Mle.rfl' | refine Mle.cnd ?_ ?_ | refine Mle.sumK (fun _ => ?_) (fun _ => ?_) | refine Mle.opK ?_ fun _ => ?_)
theorem rIsNil_c_m {F G : Tb} (h : Le F G) (a0 : Form) {R : Type} {K K' : ((Bool)) → Option R} (hK : ∀ x, Mle (K x) (K' x)) : Mle (rIsNil_c F a0 K) (rIsNil_c G a0 K') := by
 unfold rIsNil_c
 repeat' (first | exact hK _ | exact Mle.none | exact h.rIs _ _ _ | exact Mle.rfl' | refine Mle.cnd ?_ ?_ | refine Mle.sumK (fun _ => ?_) (fun _ => ?_) | refine Mle.opK ?_ fun _ => ?_)
theorem rIs_c_m {F G : Tb} (h : Le F G) (a0 : Form) (a1 : Bs) (a2 : Bs) {R : Type} {K K' : ((Bool)) → Option R} (hK : ∀ x, Mle (K x) (K' x)) : Mle (rIs_c F a0 a1 a2 K) (rIs_c G a0 a1 a2 K') := by
 unfold rIs_c
 repeat' (first | exact hK _ | exact Mle.none | exact Mle.rfl' | refine Mle.cnd ?_ ?_ | refine Mle.sumK (fun _ => ?_) (fun _ => ?_) | refine Mle.opK ?_ fun _ => ?_)
theorem Check_c_m {F G : Tb} (h : Le F G) (a0 : Form) {R : Type} {K K' : ((Int)) → Option R} (hK : ∀ x, Mle (K x) (K' x)) : Mle (Check_c F a0 K) (Check_c G a0 K') := by
 unfold Check_c
 simp only [through_K, through_v1_K]
 repeat' (first | exact hK _ | exact Mle.none | exact h.limited _ | exact h.through _ _ | exact h.through_v1 _ _ _ | exact Mle.rfl' | refine Mle.cnd ?_ ?_ | refine Mle.sumK (fun _ => ?_) (fun _ => ?_) | refine Mle.opK ?_ fun _ => ?_)
theorem limited_c_m {F G : Tb} (h : Le F G) (a0 : Form) {R : Type} {K K' : ((Bool)) → Option R} (hK : ∀ x, Mle (K x) (K' x)) : Mle (limited_c F a0 K) (limited_c G a0 K') := by
 unfold limited_c
 simp only [look_K]
 repeat' (first | exact hK _ | exact Mle.none | exact h.look _ _ _ | exact Mle.rfl' | refine Mle.cnd ?_ ?_ | refine Mle.sumK (fun _ => ?_) (fun _ => ?_) | refine Mle.opK ?_ fun _ => ?_)
theorem right_c_m {F G : Tb} (h : Le F G) (a0 : Form) {R : Type} {K K' : ((Bool)) → Option R} (hK : ∀ x, Mle (K x) (K' x)) : Mle (right_c F a0 K) (right_c G a0 K') := by
 unfold right_c
 simp only [right_L0_K]
 repeat' (first | exact hK _ | exact Mle.none | exact h.right_L0 _ _ _ _ _ | exact h.integer _ | exact h.ratio _ | exact h.hexadecimal _ _ | exact h.complex _ | exact h.dimensions _ | exact h.product _ | exact h.small _ _ | exact Mle.rfl' | refine Mle.cnd ?_ ?_ | refine Mle.sumK (fun _ => ?_) (fun _ => ?_) | refine Mle.opK ?_ fun _ => ?_)
theorem dimensions_c_m {F G : Tb} (h : Le F G) (a0 : Bs) {R : Type} {K K' : (((List Int)) × (Bool)) → Option R} (hK : ∀ x, Mle (K x) (K' x)) : Mle (dimensions_c F a0 K) (dimensions_c G a0 K') := by
 unfold dimensions_c
 simp only [f221_L0_K]
 repeat' (first | exact hK _ | exact Mle.none | exact h.f221_L0 _ | exact h.small _ _ | exact Mle.rfl' | refine Mle.cnd ?_ ?_ | refine Mle.sumK (fun _ => ?_) (fun _ => ?_) | refine Mle.opK ?_ fun _ => ?_)
theorem integer_c_m {F G : Tb} (h : Le F G) (a0 : Bs) {R : Type} {K K' : ((Bool)) → Option R} (hK : ∀ x, Mle (K x) (K' x)) : Mle (integer_c F a0 K) (integer_c G a0 K') := by
 unfold integer_c
 repeat' (first | exact hK _ | exact Mle.none | exact h.decimal _ | exact Mle.rfl' | refine Mle.cnd ?_ ?_ | refine Mle.sumK (fun _ => ?_) (fun _ => ?_) | refine Mle.opK ?_ fun _ => ?_)
theorem decimal_c_m {F G : Tb} (h : Le F G) (a0 : Bs) {R : Type} {K K' : ((Bool)) → Option R} (hK : ∀ x, Mle (K x) (K' x)) : Mle (decimal_c F a0 K) (decimal_c G a0 K') := by
 unfold decimal_c
 simp only [decimal_L0_K]
 repeat' (first | exact hK _ | exact Mle.none | exact h.decimal_L0 _ _ _ | exact Mle.rfl' | refine Mle.cnd ?_ ?_ | refine Mle.sumK (fun _ => ?_) (fun _ => ?_) | refine Mle.opK ?_ fun _ => ?_)
theorem ratio_c_m {F G : Tb} (h : Le F G) (a0 : Bs) {R : Type} {K K' : ((Bool)) → Option R} (hK : ∀ x, Mle (K x) (K' x)) : Mle (ratio_c F a0 K) (ratio_c G a0 K') := by
 unfold ratio_c
 simp only [ratio_L0_K]
 repeat' (first | exact hK _ | exact Mle.none | exact h.integer _ | exact h.decimal _ | exact h.ratio_L0 _ | exact Mle.rfl' | refine Mle.cnd ?_ ?_ | refine Mle.sumK (fun _ => ?_) (fun _ => ?_) | refine Mle.opK ?_ fun _ => ?_)
theorem hexadecimal_c_m {F G : Tb} (h : Le F G) (a0 : Bs) (a1 : Int) {R : Type} {K K' : ((Bool)) → Option R} (hK : ∀ x, Mle (K x) (K' x)) : Mle (hexadecimal_c F a0 a1 K) (hexadecimal_c G a0 a1 K') := by
 unfold hexadecimal_c
 repeat' (first | exact hK _ | exact Mle.none | exact Mle.rfl' | refine Mle.cnd ?_ ?_ | refine Mle.sumK (fun _ => ?_) (fun _ => ?_) | refine Mle.opK ?_ fun _ => ?_)
theorem complex_c_m {F G : Tb} (h : Le F G) (a0 : (List Form)) {R : Type} {K K' : ((Bool)) → Option R} (hK : ∀ x, Mle (K x) (K' x)) : Mle (complex_c F a0 K) (complex_c G a0 K') := by
 unfold complex_c
 repeat' (first | exact hK _ | exact Mle.none | exact h.exact _ | exact Mle.rfl' | refine Mle.cnd ?_ ?_ | refine Mle.sumK (fun _ => ?_) (fun _ => ?_) | refine Mle.opK ?_ fun _ => ?_)
theorem product_c_m {F G : Tb} (h : Le F G) (a0 : (List Int)) {R : Type} {K K' : ((Int)) → Option R} (hK : ∀ x, Mle (K x) (K' x)) : Mle (product_c F a0 K) (product_c G a0 K') := by
 unfold product_c
 simp only [product_L0_K]
 repeat' (first | exact hK _ | exact Mle.none | exact h.IndexInt _ _ | exact h.product_L0 _ _ _ | exact Mle.rfl' | refine Mle.cnd ?_ ?_ | refine Mle.sumK (fun _ => ?_) (fun _ => ?_) | refine Mle.opK ?_ fun _ => ?_)
theorem small_c_m {F G : Tb} (h : Le F G) (a0 : Bs) (a1 : Int) {R : Type} {K K' : ((Bool)) → Option R} (hK : ∀ x, Mle (K x) (K' x)) : Mle (small_c F a0 a1 K) (small_c G a0 a1 K') := by
 unfold small_c
 repeat' (first | exact hK _ | exact Mle.none | exact h.decimal _ | exact Mle.rfl' | refine Mle.cnd ?_ ?_ | refine Mle.sumK (fun _ => ?_) (fun _ => ?_) | refine Mle.opK ?_ fun _ => ?_)
theorem exact_c_m {F G : Tb} (h : Le F G) (a0 : Form) {R : Type} {K K' : ((Bool)) → Option R} (hK : ∀ x, Mle (K x) (K' x)) : Mle (exact_c F a0 K) (exact_c G a0 K') := by
 unfold exact_c
 repeat' (first | exact hK _ | exact Mle.none | exact Mle.rfl' | refine Mle.cnd ?_ ?_ | refine Mle.sumK (fun _ => ?_) (fun _ => ?_) | refine Mle.opK ?_ fun _ => ?_)
theorem Dimensions_c_m {F G : Tb} (h : Le F G) (a0 : Form) {R : Type} {K K' : (((List Int)) × (Int)) → Option R} (hK : ∀ x, Mle (K x) (K' x)) : Mle (Dimensions_c F a0 K) (Dimensions_c G a0 K') := by
 unfold Dimensions_c
 repeat' (first | exact hK _ | exact Mle.none | exact h.IndexInt _ _ | exact h.Check _ | exact h.dimensions _ | exact Mle.rfl' | refine Mle.cnd ?_ ?_ | refine Mle.sumK (fun _ => ?_) (fun _ => ?_) | refine Mle.opK ?_ fun _ => ?_)
theorem Number_c_m {F G : Tb} (h : Le F G) (a0 : Form) {R : Type} {K K' : ((Bool)) → Option R} (hK : ∀ x, Mle (K x) (K' x)) : Mle (Number_c F a0 K) (Number_c G a0 K') := by
 unfold Number_c
 repeat' (first | exact hK _ | exact Mle.none | exact Mle.rfl' | refine Mle.cnd ?_ ?_ | refine Mle.sumK (fun _ => ?_) (fun _ => ?_) | refine Mle.opK ?_ fun _ => ?_)
theorem IndexInt_c_m {F G : Tb} (h : Le F G) (a0 : (List Int)) (a1 : Int) {R : Type} {K K' : ((Int)) → Option R} (hK : ∀ x, Mle (K x) (K' x)) : Mle (IndexInt_c F a0 a1 K) (IndexInt_c G a0 a1 K') := by
 unfold IndexInt_c
 simp only [IndexInt_L0_K]
 repeat' (first | exact hK _ | exact Mle.none | exact h.IndexInt_L0 _ _ _ _ | exact Mle.rfl' | refine Mle.cnd ?_ ?_ | refine Mle.sumK (fun _ => ?_) (fun _ => ?_) | refine Mle.opK ?_ fun _ => ?_)
theorem rCheck_c_m {F G : Tb} (h : Le F G) (a0 : Form) {R : Type} {K K' : ((Int)) → Option R} (hK : ∀ x, Mle (K x) (K' x)) : Mle (rCheck_c F a0 K) (rCheck_c G a0 K') := by
 unfold rCheck_c
 simp only [labels_K]
 repeat' (first | exact hK _ | exact Mle.none | exact h.rSize _ | exact h.nodes _ | exact h.labels _ _ | exact Mle.rfl' | refine Mle.cnd ?_ ?_ | refine Mle.sumK (fun _ => ?_) (fun _ => ?_) | refine Mle.opK ?_ fun _ => ?_)
theorem rDimensions_c_m {F G : Tb} (h : Le F G) (a0 : Form) {R : Type} {K K' : (((List Int)) × (Int)) → Option R} (hK : ∀ x, Mle (K x) (K' x)) : Mle (rDimensions_c F a0 K) (rDimensions_c G a0 K') := by
 unfold rDimensions_c
 repeat' (first | exact hK _ | exact Mle.none | exact h.rCheck _ | exact h.rdimensions _ | exact Mle.rfl' | refine Mle.cnd ?_ ?_ | refine Mle.sumK (fun _ => ?_) (fun _ => ?_) | refine Mle.opK ?_ fun _ => ?_)
theorem rdimensions_c_m {F G : Tb} (h : Le F G) (a0 : Bs) {R : Type} {K K' : (((List Int)) × (Bool)) → Option R} (hK : ∀ x, Mle (K x) (K' x)) : Mle (rdimensions_c F a0 K) (rdimensions_c G a0 K') := by
 unfold rdimensions_c
 simp only [rdimensions_L0_K]
 repeat' (first | exact hK _ | exact Mle.none | exact h.rdimensions_L0 _ _ | exact Mle.rfl' | refine Mle.cnd ?_ ?_ | refine Mle.sumK (fun _ => ?_) (fun _ => ?_) | refine Mle.opK ?_ fun _ => ?_)
theorem nodes_c_m {F G : Tb} (h : Le F G) (a0 : Form) {R : Type} {K K' : ((Bool)) → Option R} (hK : ∀ x, Mle (K x) (K' x)) : Mle (nodes_c F a0 K) (nodes_c G a0 K') := by
 unfold nodes_c
 simp only [nodes_L0_K]
 repeat' (first | exact hK _ | exact Mle.none | exact h.node _ | exact h.nodes_L0 _ _ _ _ _ | exact Mle.rfl' | refine Mle.cnd ?_ ?_ | refine Mle.sumK (fun _ => ?_) (fun _ => ?_) | refine Mle.opK ?_ fun _ => ?_)
theorem node_c_m {F G : Tb} (h : Le F G) (a0 : Form) {R : Type} {K K' : ((Bool)) → Option R} (hK : ∀ x, Mle (K x) (K' x)) : Mle (node_c F a0 K) (node_c G a0 K') := by
 unfold node_c
 repeat' (first | exact hK _ | exact Mle.none | exact h.parts _ _ | exact h.rdimensions _ | exact h.rproduct _ | exact h.label _ | exact h.atom _ | exact Mle.rfl' | refine Mle.cnd ?_ ?_ | refine Mle.sumK (fun _ => ?_) (fun _ => ?_) | refine Mle.opK ?_ fun _ => ?_)
theorem within_c_m {F G : Tb} (h : Le F G) (a0 : (List Bs)) (a1 : Bs) {R : Type} {K K' : ((Bool)) → Option R} (hK : ∀ x, Mle (K x) (K' x)) : Mle (within_c F a0 a1 K) (within_c G a0 a1 K') := by
 unfold within_c
 simp only [within_L0_K]
 repeat' (first | exact hK _ | exact Mle.none | exact h.within_L0 _ _ _ | exact Mle.rfl' | refine Mle.cnd ?_ ?_ | refine Mle.sumK (fun _ => ?_) (fun _ => ?_) | refine Mle.opK ?_ fun _ => ?_)
theorem digits_c_m {F G : Tb} (h : Le F G) (a0 : Bs) {R : Type} {K K' : ((Bool)) → Option R} (hK : ∀ x, Mle (K x) (K' x)) : Mle (digits_c F a0 K) (digits_c G a0 K') := by
 unfold digits_c
 simp only [digits_L0_K]
 repeat' (first | exact hK _ | exact Mle.none | exact h.digits_L0 _ _ | exact Mle.rfl' | refine Mle.cnd ?_ ?_ | refine Mle.sumK (fun _ => ?_) (fun _ => ?_) | refine Mle.opK ?_ fun _ => ?_)
theorem value_c_m {F G : Tb} (h : Le F G) (a0 : Bs) {R : Type} {K K' : ((Int)) → Option R} (hK : ∀ x, Mle (K x) (K' x)) : Mle (value_c F a0 K) (value_c G a0 K') := by
 unfold value_c
 simp only [value_L0_K]
 repeat' (first | exact hK _ | exact Mle.none | exact h.value_L0 _ _ | exact Mle.rfl' | refine Mle.cnd ?_ ?_ | refine Mle.sumK (fun _ => ?_) (fun _ => ?_) | refine Mle.opK ?_ fun _ => ?_)
theorem parts_c_m {F G : Tb} (h : Le F G) (a0 : Form) (a1 : Form) {R : Type} {K K' : ((Bool)) → Option R} (hK : ∀ x, Mle (K x) (K' x)) : Mle (parts_c F a0 a1 K) (parts_c G a0 a1 K') := by
 unfold parts_c
 repeat' (first | exact hK _ | exact Mle.none | exact h.rexact _ | exact Mle.rfl' | refine Mle.cnd ?_ ?_ | refine Mle.sumK (fun _ => ?_) (fun _ => ?_) | refine Mle.opK ?_ fun _ => ?_)
theorem rproduct_c_m {F G : Tb} (h : Le F G) (a0 : (List Int)) {R : Type} {K K' : ((Int)) → Option R} (hK : ∀ x, Mle (K x) (K' x)) : Mle (rproduct_c F a0 K) (rproduct_c G a0 K') := by
 unfold rproduct_c
 simp only [rproduct_L0_K, rproduct_L1_K]
 repeat' (first | exact hK _ | exact Mle.none | exact h.rproduct_L0 _ _ | exact h.rproduct_L1 _ _ | exact Mle.rfl' | refine Mle.cnd ?_ ?_ | refine Mle.sumK (fun _ => ?_) (fun _ => ?_) | refine Mle.opK ?_ fun _ => ?_)
theorem label_c_m {F G : Tb} (h : Le F G) (a0 : Bs) {R : Type} {K K' : ((Bool)) → Option R} (hK : ∀ x, Mle (K x) (K' x)) : Mle (label_c F a0 K) (label_c G a0 K') := by
 unfold label_c
 repeat' (first | exact hK _ | exact Mle.none | exact h.digits _ | exact Mle.rfl' | refine Mle.cnd ?_ ?_ | refine Mle.sumK (fun _ => ?_) (fun _ => ?_) | refine Mle.opK ?_ fun _ => ?_)
theorem atom_c_m {F G : Tb} (h : Le F G) (a0 : Form) {R : Type} {K K' : ((Bool)) → Option R} (hK : ∀ x, Mle (K x) (K' x)) : Mle (atom_c F a0 K) (atom_c G a0 K') := by
 unfold atom_c
 simp only [atom_L0_K]
 repeat' (first | exact hK _ | exact Mle.none | exact h.whole _ | exact h.rratio _ | exact h.hex _ _ | exact h.atom_L0 _ _ _ _ _ | exact h.label _ | exact Mle.rfl' | refine Mle.cnd ?_ ?_ | refine Mle.sumK (fun _ => ?_) (fun _ => ?_) | refine Mle.opK ?_ fun _ => ?_)
theorem rexact_c_m {F G : Tb} (h : Le F G) (a0 : Form) {R : Type} {K K' : ((Bool)) → Option R} (hK : ∀ x, Mle (K x) (K' x)) : Mle (rexact_c F a0 K) (rexact_c G a0 K') := by
 unfold rexact_c
 repeat' (first | exact hK _ | exact Mle.none | exact Mle.rfl' | refine Mle.cnd ?_ ?_ | refine Mle.sumK (fun _ => ?_) (fun _ => ?_) | refine Mle.opK ?_ fun _ => ?_)
theorem whole_c_m {F G : Tb} (h : Le F G) (a0 : Bs) {R : Type} {K K' : ((Bool)) → Option R} (hK : ∀ x, Mle (K x) (K' x)) : Mle (whole_c F a0 K) (whole_c G a0 K') := by
 unfold whole_c
 repeat' (first | exact hK _ | exact Mle.none | exact h.digits _ | exact Mle.rfl' | refine Mle.cnd ?_ ?_ | refine Mle.sumK (fun _ => ?_) (fun _ => ?_) | refine Mle.opK ?_ fun _ => ?_)
theorem rratio_c_m {F G : Tb} (h : Le F G) (a0 : Bs) {R : Type} {K K' : ((Bool)) → Option R} (hK : ∀ x, Mle (K x) (K' x)) : Mle (rratio_c F a0 K) (rratio_c G a0 K') := by
 unfold rratio_c
 simp only [rratio_L0_K, rratio_L1_K]
 repeat' (first | exact hK _ | exact Mle.none | exact h.rratio_L0 _ _ | exact h.whole _ | exact h.digits _ | exact h.value _ | exact h.rratio_L1 _ | exact Mle.rfl' | refine Mle.cnd ?_ ?_ | refine Mle.sumK (fun _ => ?_) (fun _ => ?_) | refine Mle.opK ?_ fun _ => ?_)
theorem hex_c_m {F G : Tb} (h : Le F G) (a0 : Bs) (a1 : Int) {R : Type} {K K' : ((Bool)) → Option R} (hK : ∀ x, Mle (K x) (K' x)) : Mle (hex_c F a0 a1 K) (hex_c G a0 a1 K') := by
 unfold hex_c
 simp only [hex_L0_K]
 repeat' (first | exact hK _ | exact Mle.none | exact h.hex_L0 _ _ _ | exact Mle.rfl' | refine Mle.cnd ?_ ?_ | refine Mle.sumK (fun _ => ?_) (fun _ => ?_) | refine Mle.opK ?_ fun _ => ?_)
theorem rNumber_c_m {F G : Tb} (h : Le F G) (a0 : Form) {R : Type} {K K' : ((Bool)) → Option R} (hK : ∀ x, Mle (K x) (K' x)) : Mle (rNumber_c F a0 K) (rNumber_c G a0 K') := by
 unfold rNumber_c
 repeat' (first | exact hK _ | exact Mle.none | exact Mle.rfl' | refine Mle.cnd ?_ ?_ | refine Mle.sumK (fun _ => ?_) (fun _ => ?_) | refine Mle.opK ?_ fun _ => ?_)
theorem FormChecks_c_m {F G : Tb} (h : Le F G) (a0 : Form) (a1 : Form) (a2 : Bs) (a3 : Bs) {R : Type} {K K' : ((Bool)) → Option R} (hK : ∀ x, Mle (K x) (K' x)) : Mle (FormChecks_c F a0 a1 a2 a3 K) (FormChecks_c G a0 a1 a2 a3 K') := by
 unfold FormChecks_c
 simp only [FormChecks_L0_K]
 repeat' (first | exact hK _ | exact Mle.none | exact h.Few _ _ | exact h.awakeTrees () | exact h.Size _ | exact h.rSize _ | exact h.Dimensions _ | exact h.rDimensions _ | exact h.Check _ | exact h.rCheck _ | exact h.FormChecks_L0 _ _ _ _ _ _ _ _ _ _ _ _ _ _ | exact h.IsNil _ | exact h.rIsNil _ | exact h.Is _ _ _ | exact h.rIs _ _ _ | exact h.Number _ | exact h.rNumber _ | exact h.Equal _ _ | exact h.rEqual _ _ | exact Mle.rfl' | refine Mle.cnd ?_ ?_ | refine Mle.sumK (fun _ => ?_) (fun _ => ?_) | refine Mle.opK ?_ fun _ => ?_)
theorem rSize_c_m {F G : Tb} (h : Le F G) (a0 : Form) {R : Type} {K K' : ((Int) × (Int)) → Option R} (hK : ∀ x, Mle (K x) (K' x)) : Mle (rSize_c F a0 K) (rSize_c G a0 K') := by
 unfold rSize_c
 simp only [rSize_L0_K]
 repeat' (first | exact hK _ | exact Mle.none | exact h.rSize_L0 _ _ _ _ _ | exact Mle.rfl' | refine Mle.cnd ?_ ?_ | refine Mle.sumK (fun _ => ?_) (fun _ => ?_) | refine Mle.opK ?_ fun _ => ?_)
theorem step_le {F G : Tb} (h : Le F G) {n n' : Nat} (hn : n ≤ n') : Le (stepT F n) (stepT G n') where
 through := fun p0 p1 => through_c_m h p0 p1 fun _ => Mle.rfl'
 through_v1 := fun p0 p1 p2 => through_v1_c_m h p0 p1 p2 fun _ => Mle.rfl'
 look := fun p0 p1 p2 => look_c_m h p0 p1 p2 fun _ => Mle.rfl'
 labels := fun p0 p1 => labels_c_m h p0 p1 fun _ => Mle.rfl'
 Size := fun a0 => Size_c_m h a0 fun _ => Mle.rfl'
 rEqual := fun a0 a1 => rEqual_c_m h a0 a1 fun _ => Mle.rfl'
 left := fun a0 a1 => left_c_m h a0 a1 fun _ => Mle.rfl'
 Few := fun a0 a1 => Few_c_m h a0 a1 fun _ => Mle.rfl'
 IsNil := fun a0 => IsNil_c_m h a0 fun _ => Mle.rfl'
 Is := fun a0 a1 a2 => Is_c_m h a0 a1 a2 fun _ => Mle.rfl'
 Equal := fun a0 a1 => Equal_c_m h a0 a1 fun _ => Mle.rfl'
 EqualFunc_f22 := fun a0 a1 => EqualFunc_f22_c_m h a0 a1 fun _ => Mle.rfl'
 rIsNil := fun a0 => rIsNil_c_m h a0 fun _ => Mle.rfl'
 rIs := fun a0 a1 a2 => rIs_c_m h a0 a1 a2 fun _ => Mle.rfl'
 awakeTrees := fun _ => Mle.rfl'
 Check := fun a0 => Check_c_m h a0 fun _ => Mle.rfl'
 limited := fun a0 => limited_c_m h a0 fun _ => Mle.rfl'
 right := fun a0 => right_c_m h a0 fun _ => Mle.rfl'
 dimensions := fun a0 => dimensions_c_m h a0 fun _ => Mle.rfl'
 integer := fun a0 => integer_c_m h a0 fun _ => Mle.rfl'
 decimal := fun a0 => decimal_c_m h a0 fun _ => Mle.rfl'
 ratio := fun a0 => ratio_c_m h a0 fun _ => Mle.rfl'
 hexadecimal := fun a0 a1 => hexadecimal_c_m h a0 a1 fun _ => Mle.rfl'
 complex := fun a0 => complex_c_m h a0 fun _ => Mle.rfl'
 product := fun a0 => product_c_m h a0 fun _ => Mle.rfl'
 small := fun a0 a1 => small_c_m h a0 a1 fun _ => Mle.rfl'
 exact := fun a0 => exact_c_m h a0 fun _ => Mle.rfl'
 Dimensions := fun a0 => Dimensions_c_m h a0 fun _ => Mle.rfl'
 Number := fun a0 => Number_c_m h a0 fun _ => Mle.rfl'
 IndexInt := fun a0 a1 => IndexInt_c_m h a0 a1 fun _ => Mle.rfl'
 rCheck := fun a0 => rCheck_c_m h a0 fun _ => Mle.rfl'
 rDimensions := fun a0 => rDimensions_c_m h a0 fun _ => Mle.rfl'
 rdimensions := fun a0 => rdimensions_c_m h a0 fun _ => Mle.rfl'
 nodes := fun a0 => nodes_c_m h a0 fun _ => Mle.rfl'
 node := fun a0 => node_c_m h a0 fun _ => Mle.rfl'
 within := fun a0 a1 => within_c_m h a0 a1 fun _ => Mle.rfl'
 digits := fun a0 => digits_c_m h a0 fun _ => Mle.rfl'
 value := fun a0 => value_c_m h a0 fun _ => Mle.rfl'
 parts := fun a0 a1 => parts_c_m h a0 a1 fun _ => Mle.rfl'
 rproduct := fun a0 => rproduct_c_m h a0 fun _ => Mle.rfl'
 label := fun a0 => label_c_m h a0 fun _ => Mle.rfl'
 atom := fun a0 => atom_c_m h a0 fun _ => Mle.rfl'
 rexact := fun a0 => rexact_c_m h a0 fun _ => Mle.rfl'
 whole := fun a0 => whole_c_m h a0 fun _ => Mle.rfl'
 rratio := fun a0 => rratio_c_m h a0 fun _ => Mle.rfl'
 hex := fun a0 a1 => hex_c_m h a0 a1 fun _ => Mle.rfl'
 rNumber := fun a0 => rNumber_c_m h a0 fun _ => Mle.rfl'
 FormChecks := fun a0 a1 a2 a3 => FormChecks_c_m h a0 a1 a2 a3 fun _ => Mle.rfl'
 rSize := fun a0 => rSize_c_m h a0 fun _ => Mle.rfl'
 Size_L0 := fun p0 p1 p2 p3 p4 v => iterL_mono (fun v {K K'} hK => Size_L0_R_m h p0 p1 p2 p3 p4 v hK) hn v
 rEqual_L0 := fun p0 p1 p2 p3 p4 p5 p6 p7 v => iterL_mono (fun v {K K'} hK => rEqual_L0_R_m h p0 p1 p2 p3 p4 p5 p6 p7 v hK) hn v
 left_L0 := fun p0 p1 p2 p3 v => iterL_mono (fun v {K K'} hK => left_L0_R_m h p0 p1 p2 p3 v hK) hn v
 EqualFunc_L0 := fun p0 p1 p2 v => iterL_mono (fun v {K K'} hK => EqualFunc_L0_R_m h p0 p1 p2 v hK) hn v
 through_L0 := fun p0 p1 p2 p3 p4 p5 v => iterL_mono (fun v {K K'} hK => through_L0_R_m h p0 p1 p2 p3 p4 p5 v hK) hn v
 through_L1 := fun p0 p1 p2 p3 p4 p5 v => iterL_mono (fun v {K K'} hK => through_L1_R_m h p0 p1 p2 p3 p4 p5 v hK) hn v
 look_L0 := fun p0 p1 p2 p3 p4 p5 v => iterL_mono (fun v {K K'} hK => look_L0_R_m h p0 p1 p2 p3 p4 p5 v hK) hn v
 right_L0 := fun p0 p1 p2 p3 v => iterL_mono (fun v {K K'} hK => right_L0_R_m h p0 p1 p2 p3 v hK) hn v
 f221_L0 := fun v => iterL_mono (fun v {K K'} hK => f221_L0_R_m h v hK) hn v
 decimal_L0 := fun p0 p1 v => iterL_mono (fun v {K K'} hK => decimal_L0_R_m h p0 p1 v hK) hn v
 ratio_L0 := fun v => iterL_mono (fun v {K K'} hK => ratio_L0_R_m h v hK) hn v
 product_L0 := fun p0 p1 v => iterL_mono (fun v {K K'} hK => product_L0_R_m h p0 p1 v hK) hn v
 IndexInt_L0 := fun p0 p1 p2 v => iterL_mono (fun v {K K'} hK => IndexInt_L0_R_m h p0 p1 p2 v hK) hn v
 labels_L0 := fun p0 p1 p2 p3 v => iterL_mono (fun v {K K'} hK => labels_L0_R_m h p0 p1 p2 p3 v hK) hn v
 labels_P1 := fun p0 p1 p2 p3 p4 p5 p6 => labels_P1_R_m h p0 p1 p2 p3 p4 p5 p6 fun _ => Mle.rfl'
 rdimensions_L0 := fun p0 v => iterL_mono (fun v {K K'} hK => rdimensions_L0_R_m h p0 v hK) hn v
 nodes_L0 := fun p0 p1 p2 p3 v => iterL_mono (fun v {K K'} hK => nodes_L0_R_m h p0 p1 p2 p3 v hK) hn v
 within_L0 := fun p0 p1 v => iterL_mono (fun v {K K'} hK => within_L0_R_m h p0 p1 v hK) hn v
 digits_L0 := fun p0 v => iterL_mono (fun v {K K'} hK => digits_L0_R_m h p0 v hK) hn v
 value_L0 := fun p0 v => iterL_mono (fun v {K K'} hK => value_L0_R_m h p0 v hK) hn v
 rproduct_L0 := fun p0 v => iterL_mono (fun v {K K'} hK => rproduct_L0_R_m h p0 v hK) hn v
 rproduct_L1 := fun p0 v => iterL_mono (fun v {K K'} hK => rproduct_L1_R_m h p0 v hK) hn v
 atom_L0 := fun p0 p1 p2 p3 v => iterL_mono (fun v {K K'} hK => atom_L0_R_m h p0 p1 p2 p3 v hK) hn v
 rratio_L0 := fun p0 v => iterL_mono (fun v {K K'} hK => rratio_L0_R_m h p0 v hK) hn v
 rratio_L1 := fun v => iterL_mono (fun v {K K'} hK => rratio_L1_R_m h v hK) hn v
 hex_L0 := fun p0 p1 v => iterL_mono (fun v {K K'} hK => hex_L0_R_m h p0 p1 v hK) hn v
 FormChecks_L0 := fun p0 p1 p2 p3 p4 p5 p6 p7 p8 p9 p10 p11 p12 v => iterL_mono (fun v {K K'} hK => FormChecks_L0_R_m h p0 p1 p2 p3 p4 p5 p6 p7 p8 p9 p10 p11 p12 v hK) hn v
 rSize_L0 := fun p0 p1 p2 p3 v => iterL_mono (fun v {K K'} hK => rSize_L0_R_m h p0 p1 p2 p3 v hK) hn v
theorem none_le {F : Tb} : Le noneT F := ⟨fun _ _ => Mle.none, fun _ _ _ => Mle.none, fun _ _ _ => Mle.none, fun _ _ => Mle.none, fun _ => Mle.none, fun _ _ => Mle.none, fun _ _ => Mle.none, fun _ _ => Mle.none, fun _ => Mle.none, fun _ _ _ => Mle.none, fun _ _ => Mle.none, fun _ _ => Mle.none, fun _ => Mle.none, fun _ _ _ => Mle.none, fun _ => Mle.none, fun _ => Mle.none, fun _ => Mle.none, fun _ => Mle.none, fun _ => Mle.none, fun _ => Mle.none, fun _ => Mle.none, fun _ => Mle.none, fun _ _ => Mle.none, fun _ => Mle.none, fun _ => Mle.none, fun _ _ => Mle.none, fun _ => Mle.none, fun _ => Mle.none, fun _ => Mle.none, fun _ _ => Mle.none, fun _ => Mle.none, fun _ => Mle.none, fun _ => Mle.none, fun _ => Mle.none, fun _ => Mle.none, fun _ _ => Mle.none, fun _ => Mle.none, fun _ => Mle.none, fun _ _ => Mle.none, fun _ => Mle.none, fun _ => Mle.none, fun _ => Mle.none, fun _ => Mle.none, fun _ => Mle.none, fun _ => Mle.none, fun _ _ => Mle.none, fun _ => Mle.none, fun _ _ _ _ => Mle.none, fun _ => Mle.none, fun _ _ _ _ _ _ => Mle.none, fun _ _ _ _ _ _ _ _ _ => Mle.none, fun _ _ _ _ _ => Mle.none, fun _ _ _ _ => Mle.none, fun _ _ _ _ _ _ _ => Mle.none, fun _ _ _ _ _ _ _ => Mle.none, fun _ _ _ _ _ _ _ => Mle.none, fun _ _ _ _ _ => Mle.none, fun _ => Mle.none, fun _ _ _ => Mle.none, fun _ => Mle.none, fun _ _ _ => Mle.none, fun _ _ _ _ => Mle.none, fun _ _ _ _ _ => Mle.none, fun _ _ _ _ _ _ _ => Mle.none, fun _ _ => Mle.none, fun _ _ _ _ _ => Mle.none, fun _ _ _ => Mle.none, fun _ _ => Mle.none, fun _ _ => Mle.none, fun _ _ => Mle.none, fun _ _ => Mle.none, fun _ _ _ _ _ => Mle.none, fun _ _ => Mle.none, fun _ => Mle.none, fun _ _ _ => Mle.none, fun _ _ _ _ _ _ _ _ _ _ _ _ _ _ => Mle.none, fun _ _ _ _ _ => Mle.none⟩
theorem tb_le : ∀ n, Le (tb n) (tb (n + 1))
 | 0 => none_le
 | n + 1 => step_le (tb_le n) (Nat.le_succ n)
theorem Le.trans {F G H : Tb} (h : Le F G) (k : Le G H) : Le F H := ⟨fun p0 p1 => (h.through p0 p1).trans (k.through p0 p1), fun p0 p1 p2 => (h.through_v1 p0 p1 p2).trans (k.through_v1 p0 p1 p2), fun p0 p1 p2 => (h.look p0 p1 p2).trans (k.look p0 p1 p2), fun p0 p1 => (h.labels p0 p1).trans (k.labels p0 p1), fun a0 => (h.Size a0).trans (k.Size a0), fun a0 a1 => (h.rEqual a0 a1).trans (k.rEqual a0 a1), fun a0 a1 => (h.left a0 a1).trans (k.left a0 a1), fun a0 a1 => (h.Few a0 a1).trans (k.Few a0 a1), fun a0 => (h.IsNil a0).trans (k.IsNil a0), fun a0 a1 a2 => (h.Is a0 a1 a2).trans (k.Is a0 a1 a2), fun a0 a1 => (h.Equal a0 a1).trans (k.Equal a0 a1), fun a0 a1 => (h.EqualFunc_f22 a0 a1).trans (k.EqualFunc_f22 a0 a1), fun a0 => (h.rIsNil a0).trans (k.rIsNil a0), fun a0 a1 a2 => (h.rIs a0 a1 a2).trans (k.rIs a0 a1 a2), fun _ => (h.awakeTrees ()).trans (k.awakeTrees ()), fun a0 => (h.Check a0).trans (k.Check a0), fun a0 => (h.limited a0).trans (k.limited a0), fun a0 => (h.right a0).trans (k.right a0), fun a0 => (h.dimensions a0).trans (k.dimensions a0), fun a0 => (h.integer a0).trans (k.integer a0), fun a0 => (h.decimal a0).trans (k.decimal a0), fun a0 => (h.ratio a0).trans (k.ratio a0), fun a0 a1 => (h.hexadecimal a0 a1).trans (k.hexadecimal a0 a1), fun a0 => (h.complex a0).trans (k.complex a0), fun a0 => (h.product a0).trans (k.product a0), fun a0 a1 => (h.small a0 a1).trans (k.small a0 a1), fun a0 => (h.exact a0).trans (k.exact a0), fun a0 => (h.Dimensions a0).trans (k.Dimensions a0), fun a0 => (h.Number a0).trans (k.Number a0), fun a0 a1 => (h.IndexInt a0 a1).trans (k.IndexInt a0 a1), fun a0 => (h.rCheck a0).trans (k.rCheck a0), fun a0 => (h.rDimensions a0).trans (k.rDimensions a0), fun a0 => (h.rdimensions a0).trans (k.rdimensions a0), fun a0 => (h.nodes a0).trans (k.nodes a0), fun a0 => (h.node a0).trans (k.node a0), fun a0 a1 => (h.within a0 a1).trans (k.within a0 a1), fun a0 => (h.digits a0).trans (k.digits a0), fun a0 => (h.value a0).trans (k.value a0), fun a0 a1 => (h.parts a0 a1).trans (k.parts a0 a1), fun a0 => (h.rproduct a0).trans (k.rproduct a0), fun a0 => (h.label a0).trans (k.label a0), fun a0 => (h.atom a0).trans (k.atom a0), fun a0 => (h.rexact a0).trans (k.rexact a0), fun a0 => (h.whole a0).trans (k.whole a0), fun a0 => (h.rratio a0).trans (k.rratio a0), fun a0 a1 => (h.hex a0 a1).trans (k.hex a0 a1), fun a0 => (h.rNumber a0).trans (k.rNumber a0), fun a0 a1 a2 a3 => (h.FormChecks a0 a1 a2 a3).trans (k.FormChecks a0 a1 a2 a3), fun a0 => (h.rSize a0).trans (k.rSize a0), fun p0 p1 p2 p3 p4 v => (h.Size_L0 p0 p1 p2 p3 p4 v).trans (k.Size_L0 p0 p1 p2 p3 p4 v), fun p0 p1 p2 p3 p4 p5 p6 p7 v => (h.rEqual_L0 p0 p1 p2 p3 p4 p5 p6 p7 v).trans (k.rEqual_L0 p0 p1 p2 p3 p4 p5 p6 p7 v), fun p0 p1 p2 p3 v => (h.left_L0 p0 p1 p2 p3 v).trans (k.left_L0 p0 p1 p2 p3 v), fun p0 p1 p2 v => (h.EqualFunc_L0 p0 p1 p2 v).trans (k.EqualFunc_L0 p0 p1 p2 v), fun p0 p1 p2 p3 p4 p5 v => (h.through_L0 p0 p1 p2 p3 p4 p5 v).trans (k.through_L0 p0 p1 p2 p3 p4 p5 v), fun p0 p1 p2 p3 p4 p5 v => (h.through_L1 p0 p1 p2 p3 p4 p5 v).trans (k.through_L1 p0 p1 p2 p3 p4 p5 v), fun p0 p1 p2 p3 p4 p5 v => (h.look_L0 p0 p1 p2 p3 p4 p5 v).trans (k.look_L0 p0 p1 p2 p3 p4 p5 v), fun p0 p1 p2 p3 v => (h.right_L0 p0 p1 p2 p3 v).trans (k.right_L0 p0 p1 p2 p3 v), fun v => (h.f221_L0 v).trans (k.f221_L0 v), fun p0 p1 v => (h.decimal_L0 p0 p1 v).trans (k.decimal_L0 p0 p1 v), fun v => (h.ratio_L0 v).trans (k.ratio_L0 v), fun p0 p1 v => (h.product_L0 p0 p1 v).trans (k.product_L0 p0 p1 v), fun p0 p1 p2 v => (h.IndexInt_L0 p0 p1 p2 v).trans (k.IndexInt_L0 p0 p1 p2 v), fun p0 p1 p2 p3 v => (h.labels_L0 p0 p1 p2 p3 v).trans (k.labels_L0 p0 p1 p2 p3 v), fun p0 p1 p2 p3 p4 p5 p6 => (h.labels_P1 p0 p1 p2 p3 p4 p5 p6).trans (k.labels_P1 p0 p1 p2 p3 p4 p5 p6), fun p0 v => (h.rdimensions_L0 p0 v).trans (k.rdimensions_L0 p0 v), fun p0 p1 p2 p3 v => (h.nodes_L0 p0 p1 p2 p3 v).trans (k.nodes_L0 p0 p1 p2 p3 v), fun p0 p1 v => (h.within_L0 p0 p1 v).trans (k.within_L0 p0 p1 v), fun p0 v => (h.digits_L0 p0 v).trans (k.digits_L0 p0 v), fun p0 v => (h.value_L0 p0 v).trans (k.value_L0 p0 v), fun p0 v => (h.rproduct_L0 p0 v).trans (k.rproduct_L0 p0 v), fun p0 v => (h.rproduct_L1 p0 v).trans (k.rproduct_L1 p0 v), fun p0 p1 p2 p3 v => (h.atom_L0 p0 p1 p2 p3 v).trans (k.atom_L0 p0 p1 p2 p3 v), fun p0 v => (h.rratio_L0 p0 v).trans (k.rratio_L0 p0 v), fun v => (h.rratio_L1 v).trans (k.rratio_L1 v), fun p0 p1 v => (h.hex_L0 p0 p1 v).trans (k.hex_L0 p0 p1 v), fun p0 p1 p2 p3 p4 p5 p6 p7 p8 p9 p10 p11 p12 v => (h.FormChecks_L0 p0 p1 p2 p3 p4 p5 p6 p7 p8 p9 p10 p11 p12 v).trans (k.FormChecks_L0 p0 p1 p2 p3 p4 p5 p6 p7 p8 p9 p10 p11 p12 v), fun p0 p1 p2 p3 v => (h.rSize_L0 p0 p1 p2 p3 v).trans (k.rSize_L0 p0 p1 p2 p3 v)⟩
theorem tb_mono {a b : Nat} (h : a ≤ b) : Le (tb a) (tb b) := by
 induction h with
 | refl => exact Le.rfl'
 | step _ ih => exact ih.trans (tb_le _)
noncomputable def lim : Tb where
 through := fun p0 p1 => sup fun n => (tb n).through p0 p1
 through_v1 := fun p0 p1 p2 => sup fun n => (tb n).through_v1 p0 p1 p2
 look := fun p0 p1 p2 => sup fun n => (tb n).look p0 p1 p2
 labels := fun p0 p1 => sup fun n => (tb n).labels p0 p1
 Size := fun a0 => sup fun n => (tb n).Size a0
 rEqual := fun a0 a1 => sup fun n => (tb n).rEqual a0 a1
 left := fun a0 a1 => sup fun n => (tb n).left a0 a1
 Few := fun a0 a1 => sup fun n => (tb n).Few a0 a1
 IsNil := fun a0 => sup fun n => (tb n).IsNil a0
 Is := fun a0 a1 a2 => sup fun n => (tb n).Is a0 a1 a2
 Equal := fun a0 a1 => sup fun n => (tb n).Equal a0 a1
 EqualFunc_f22 := fun a0 a1 => sup fun n => (tb n).EqualFunc_f22 a0 a1
 rIsNil := fun a0 => sup fun n => (tb n).rIsNil a0
 rIs := fun a0 a1 a2 => sup fun n => (tb n).rIs a0 a1 a2
 awakeTrees := sup fun n => (tb n).awakeTrees
 Check := fun a0 => sup fun n => (tb n).Check a0
 limited := fun a0 => sup fun n => (tb n).limited a0
 right := fun a0 => sup fun n => (tb n).right a0
 dimensions := fun a0 => sup fun n => (tb n).dimensions a0
 integer := fun a0 => sup fun n => (tb n).integer a0
 decimal := fun a0 => sup fun n => (tb n).decimal a0
 ratio := fun a0 => sup fun n => (tb n).ratio a0
 hexadecimal := fun a0 a1 => sup fun n => (tb n).hexadecimal a0 a1
 complex := fun a0 => sup fun n => (tb n).complex a0
 product := fun a0 => sup fun n => (tb n).product a0
 small := fun a0 a1 => sup fun n => (tb n).small a0 a1
 exact := fun a0 => sup fun n => (tb n).exact a0
 Dimensions := fun a0 => sup fun n => (tb n).Dimensions a0
 Number := fun a0 => sup fun n => (tb n).Number a0
 IndexInt := fun a0 a1 => sup fun n => (tb n).IndexInt a0 a1
 rCheck := fun a0 => sup fun n => (tb n).rCheck a0
 rDimensions := fun a0 => sup fun n => (tb n).rDimensions a0
 rdimensions := fun a0 => sup fun n => (tb n).rdimensions a0
 nodes := fun a0 => sup fun n => (tb n).nodes a0
 node := fun a0 => sup fun n => (tb n).node a0
 within := fun a0 a1 => sup fun n => (tb n).within a0 a1
 digits := fun a0 => sup fun n => (tb n).digits a0
 value := fun a0 => sup fun n => (tb n).value a0
 parts := fun a0 a1 => sup fun n => (tb n).parts a0 a1
 rproduct := fun a0 => sup fun n => (tb n).rproduct a0
 label := fun a0 => sup fun n => (tb n).label a0
 atom := fun a0 => sup fun n => (tb n).atom a0
 rexact := fun a0 => sup fun n => (tb n).rexact a0
 whole := fun a0 => sup fun n => (tb n).whole a0
 rratio := fun a0 => sup fun n => (tb n).rratio a0
 hex := fun a0 a1 => sup fun n => (tb n).hex a0 a1
 rNumber := fun a0 => sup fun n => (tb n).rNumber a0
 FormChecks := fun a0 a1 a2 a3 => sup fun n => (tb n).FormChecks a0 a1 a2 a3
 rSize := fun a0 => sup fun n => (tb n).rSize a0
 Size_L0 := fun p0 p1 p2 p3 p4 v => sup fun n => (tb n).Size_L0 p0 p1 p2 p3 p4 v
 rEqual_L0 := fun p0 p1 p2 p3 p4 p5 p6 p7 v => sup fun n => (tb n).rEqual_L0 p0 p1 p2 p3 p4 p5 p6 p7 v
 left_L0 := fun p0 p1 p2 p3 v => sup fun n => (tb n).left_L0 p0 p1 p2 p3 v
 EqualFunc_L0 := fun p0 p1 p2 v => sup fun n => (tb n).EqualFunc_L0 p0 p1 p2 v
 through_L0 := fun p0 p1 p2 p3 p4 p5 v => sup fun n => (tb n).through_L0 p0 p1 p2 p3 p4 p5 v
 through_L1 := fun p0 p1 p2 p3 p4 p5 v => sup fun n => (tb n).through_L1 p0 p1 p2 p3 p4 p5 v
 look_L0 := fun p0 p1 p2 p3 p4 p5 v => sup fun n => (tb n).look_L0 p0 p1 p2 p3 p4 p5 v
 right_L0 := fun p0 p1 p2 p3 v => sup fun n => (tb n).right_L0 p0 p1 p2 p3 v
 f221_L0 := fun v => sup fun n => (tb n).f221_L0 v
 decimal_L0 := fun p0 p1 v => sup fun n => (tb n).decimal_L0 p0 p1 v
 ratio_L0 := fun v => sup fun n => (tb n).ratio_L0 v
 product_L0 := fun p0 p1 v => sup fun n => (tb n).product_L0 p0 p1 v
 IndexInt_L0 := fun p0 p1 p2 v => sup fun n => (tb n).IndexInt_L0 p0 p1 p2 v
 labels_L0 := fun p0 p1 p2 p3 v => sup fun n => (tb n).labels_L0 p0 p1 p2 p3 v
 labels_P1 := fun p0 p1 p2 p3 p4 p5 p6 => sup fun n => (tb n).labels_P1 p0 p1 p2 p3 p4 p5 p6
 rdimensions_L0 := fun p0 v => sup fun n => (tb n).rdimensions_L0 p0 v
 nodes_L0 := fun p0 p1 p2 p3 v => sup fun n => (tb n).nodes_L0 p0 p1 p2 p3 v
 within_L0 := fun p0 p1 v => sup fun n => (tb n).within_L0 p0 p1 v
 digits_L0 := fun p0 v => sup fun n => (tb n).digits_L0 p0 v
 value_L0 := fun p0 v => sup fun n => (tb n).value_L0 p0 v
 rproduct_L0 := fun p0 v => sup fun n => (tb n).rproduct_L0 p0 v
 rproduct_L1 := fun p0 v => sup fun n => (tb n).rproduct_L1 p0 v
 atom_L0 := fun p0 p1 p2 p3 v => sup fun n => (tb n).atom_L0 p0 p1 p2 p3 v
 rratio_L0 := fun p0 v => sup fun n => (tb n).rratio_L0 p0 v
 rratio_L1 := fun v => sup fun n => (tb n).rratio_L1 v
 hex_L0 := fun p0 p1 v => sup fun n => (tb n).hex_L0 p0 p1 v
 FormChecks_L0 := fun p0 p1 p2 p3 p4 p5 p6 p7 p8 p9 p10 p11 p12 v => sup fun n => (tb n).FormChecks_L0 p0 p1 p2 p3 p4 p5 p6 p7 p8 p9 p10 p11 p12 v
 rSize_L0 := fun p0 p1 p2 p3 v => sup fun n => (tb n).rSize_L0 p0 p1 p2 p3 v
theorem through_rel {σ : Nat → Nat} (hσ : ∀ n, n ≤ σ n) (p0 : Form) (p1 : Int) : Rel (fun n => (tb (σ n)).through p0 p1) (lim.through p0 p1) := (rel_sup fun n => (tb_le n).through p0 p1).along (fun n => (tb_le n).through p0 p1) hσ
theorem through_v1_rel {σ : Nat → Nat} (hσ : ∀ n, n ≤ σ n) (p0 : Form) (p1 : Int) (p2 : List (Bs × Bool)) : Rel (fun n => (tb (σ n)).through_v1 p0 p1 p2) (lim.through_v1 p0 p1 p2) := (rel_sup fun n => (tb_le n).through_v1 p0 p1 p2).along (fun n => (tb_le n).through_v1 p0 p1 p2) hσ
theorem look_rel {σ : Nat → Nat} (hσ : ∀ n, n ≤ σ n) (p0 : Form) (p1 : Int) (p2 : Int) : Rel (fun n => (tb (σ n)).look p0 p1 p2) (lim.look p0 p1 p2) := (rel_sup fun n => (tb_le n).look p0 p1 p2).along (fun n => (tb_le n).look p0 p1 p2) hσ
theorem labels_rel {σ : Nat → Nat} (hσ : ∀ n, n ≤ σ n) (p0 : Form) (p1 : List Bs) : Rel (fun n => (tb (σ n)).labels p0 p1) (lim.labels p0 p1) := (rel_sup fun n => (tb_le n).labels p0 p1).along (fun n => (tb_le n).labels p0 p1) hσ
theorem Size_rel {σ : Nat → Nat} (hσ : ∀ n, n ≤ σ n) (a0 : Form) : Rel (fun n => (tb (σ n)).Size a0) (lim.Size a0) := (rel_sup fun n => (tb_le n).Size a0).along (fun n => (tb_le n).Size a0) hσ
theorem rEqual_rel {σ : Nat → Nat} (hσ : ∀ n, n ≤ σ n) (a0 : Form) (a1 : Form) : Rel (fun n => (tb (σ n)).rEqual a0 a1) (lim.rEqual a0 a1) := (rel_sup fun n => (tb_le n).rEqual a0 a1).along (fun n => (tb_le n).rEqual a0 a1) hσ
theorem left_rel {σ : Nat → Nat} (hσ : ∀ n, n ≤ σ n) (a0 : Form) (a1 : Int) : Rel (fun n => (tb (σ n)).left a0 a1) (lim.left a0 a1) := (rel_sup fun n => (tb_le n).left a0 a1).along (fun n => (tb_le n).left a0 a1) hσ
theorem Few_rel {σ : Nat → Nat} (hσ : ∀ n, n ≤ σ n) (a0 : Form) (a1 : Int) : Rel (fun n => (tb (σ n)).Few a0 a1) (lim.Few a0 a1) := (rel_sup fun n => (tb_le n).Few a0 a1).along (fun n => (tb_le n).Few a0 a1) hσ
theorem IsNil_rel {σ : Nat → Nat} (hσ : ∀ n, n ≤ σ n) (a0 : Form) : Rel (fun n => (tb (σ n)).IsNil a0) (lim.IsNil a0) := (rel_sup fun n => (tb_le n).IsNil a0).along (fun n => (tb_le n).IsNil a0) hσ
theorem Is_rel {σ : Nat → Nat} (hσ : ∀ n, n ≤ σ n) (a0 : Form) (a1 : Bs) (a2 : Bs) : Rel (fun n => (tb (σ n)).Is a0 a1 a2) (lim.Is a0 a1 a2) := (rel_sup fun n => (tb_le n).Is a0 a1 a2).along (fun n => (tb_le n).Is a0 a1 a2) hσ
theorem Equal_rel {σ : Nat → Nat} (hσ : ∀ n, n ≤ σ n) (a0 : Form) (a1 : Form) : Rel (fun n => (tb (σ n)).Equal a0 a1) (lim.Equal a0 a1) := (rel_sup fun n => (tb_le n).Equal a0 a1).along (fun n => (tb_le n).Equal a0 a1) hσ
theorem EqualFunc_f22_rel {σ : Nat → Nat} (hσ : ∀ n, n ≤ σ n) (a0 : (List Form)) (a1 : (List Form)) : Rel (fun n => (tb (σ n)).EqualFunc_f22 a0 a1) (lim.EqualFunc_f22 a0 a1) := (rel_sup fun n => (tb_le n).EqualFunc_f22 a0 a1).along (fun n => (tb_le n).EqualFunc_f22 a0 a1) hσ
theorem rIsNil_rel {σ : Nat → Nat} (hσ : ∀ n, n ≤ σ n) (a0 : Form) : Rel (fun n => (tb (σ n)).rIsNil a0) (lim.rIsNil a0) := (rel_sup fun n => (tb_le n).rIsNil a0).along (fun n => (tb_le n).rIsNil a0) hσ
theorem rIs_rel {σ : Nat → Nat} (hσ : ∀ n, n ≤ σ n) (a0 : Form) (a1 : Bs) (a2 : Bs) : Rel (fun n => (tb (σ n)).rIs a0 a1 a2) (lim.rIs a0 a1 a2) := (rel_sup fun n => (tb_le n).rIs a0 a1 a2).along (fun n => (tb_le n).rIs a0 a1 a2) hσ
theorem awakeTrees_rel {σ : Nat → Nat} (hσ : ∀ n, n ≤ σ n) : Rel (fun n => (tb (σ n)).awakeTrees) (lim.awakeTrees) := (rel_sup fun n => (tb_le n).awakeTrees ()).along (fun n => (tb_le n).awakeTrees ()) hσ
theorem Check_rel {σ : Nat → Nat} (hσ : ∀ n, n ≤ σ n) (a0 : Form) : Rel (fun n => (tb (σ n)).Check a0) (lim.Check a0) := (rel_sup fun n => (tb_le n).Check a0).along (fun n => (tb_le n).Check a0) hσ
theorem limited_rel {σ : Nat → Nat} (hσ : ∀ n, n ≤ σ n) (a0 : Form) : Rel (fun n => (tb (σ n)).limited a0) (lim.limited a0) := (rel_sup fun n => (tb_le n).limited a0).along (fun n => (tb_le n).limited a0) hσ
theorem right_rel {σ : Nat → Nat} (hσ : ∀ n, n ≤ σ n) (a0 : Form) : Rel (fun n => (tb (σ n)).right a0) (lim.right a0) := (rel_sup fun n => (tb_le n).right a0).along (fun n => (tb_le n).right a0) hσ
theorem dimensions_rel {σ : Nat → Nat} (hσ : ∀ n, n ≤ σ n) (a0 : Bs) : Rel (fun n => (tb (σ n)).dimensions a0) (lim.dimensions a0) := (rel_sup fun n => (tb_le n).dimensions a0).along (fun n => (tb_le n).dimensions a0) hσ
theorem integer_rel {σ : Nat → Nat} (hσ : ∀ n, n ≤ σ n) (a0 : Bs) : Rel (fun n => (tb (σ n)).integer a0) (lim.integer a0) := (rel_sup fun n => (tb_le n).integer a0).along (fun n => (tb_le n).integer a0) hσ
theorem decimal_rel {σ : Nat → Nat} (hσ : ∀ n, n ≤ σ n) (a0 : Bs) : Rel (fun n => (tb (σ n)).decimal a0) (lim.decimal a0) := (rel_sup fun n => (tb_le n).decimal a0).along (fun n => (tb_le n).decimal a0) hσ
theorem ratio_rel {σ : Nat → Nat} (hσ : ∀ n, n ≤ σ n) (a0 : Bs) : Rel (fun n => (tb (σ n)).ratio a0) (lim.ratio a0) := (rel_sup fun n => (tb_le n).ratio a0).along (fun n => (tb_le n).ratio a0) hσ
theorem hexadecimal_rel {σ : Nat → Nat} (hσ : ∀ n, n ≤ σ n) (a0 : Bs) (a1 : Int) : Rel (fun n => (tb (σ n)).hexadecimal a0 a1) (lim.hexadecimal a0 a1) := (rel_sup fun n => (tb_le n).hexadecimal a0 a1).along (fun n => (tb_le n).hexadecimal a0 a1) hσ
theorem complex_rel {σ : Nat → Nat} (hσ : ∀ n, n ≤ σ n) (a0 : (List Form)) : Rel (fun n => (tb (σ n)).complex a0) (lim.complex a0) := (rel_sup fun n => (tb_le n).complex a0).along (fun n => (tb_le n).complex a0) hσ
theorem product_rel {σ : Nat → Nat} (hσ : ∀ n, n ≤ σ n) (a0 : (List Int)) : Rel (fun n => (tb (σ n)).product a0) (lim.product a0) := (rel_sup fun n => (tb_le n).product a0).along (fun n => (tb_le n).product a0) hσ
theorem small_rel {σ : Nat → Nat} (hσ : ∀ n, n ≤ σ n) (a0 : Bs) (a1 : Int) : Rel (fun n => (tb (σ n)).small a0 a1) (lim.small a0 a1) := (rel_sup fun n => (tb_le n).small a0 a1).along (fun n => (tb_le n).small a0 a1) hσ
theorem exact_rel {σ : Nat → Nat} (hσ : ∀ n, n ≤ σ n) (a0 : Form) : Rel (fun n => (tb (σ n)).exact a0) (lim.exact a0) := (rel_sup fun n => (tb_le n).exact a0).along (fun n => (tb_le n).exact a0) hσ
theorem Dimensions_rel {σ : Nat → Nat} (hσ : ∀ n, n ≤ σ n) (a0 : Form) : Rel (fun n => (tb (σ n)).Dimensions a0) (lim.Dimensions a0) := (rel_sup fun n => (tb_le n).Dimensions a0).along (fun n => (tb_le n).Dimensions a0) hσ
theorem Number_rel {σ : Nat → Nat} (hσ : ∀ n, n ≤ σ n) (a0 : Form) : Rel (fun n => (tb (σ n)).Number a0) (lim.Number a0) := (rel_sup fun n => (tb_le n).Number a0).along (fun n => (tb_le n).Number a0) hσ
theorem IndexInt_rel {σ : Nat → Nat} (hσ : ∀ n, n ≤ σ n) (a0 : (List Int)) (a1 : Int) : Rel (fun n => (tb (σ n)).IndexInt a0 a1) (lim.IndexInt a0 a1) := (rel_sup fun n => (tb_le n).IndexInt a0 a1).along (fun n => (tb_le n).IndexInt a0 a1) hσ
theorem rCheck_rel {σ : Nat → Nat} (hσ : ∀ n, n ≤ σ n) (a0 : Form) : Rel (fun n => (tb (σ n)).rCheck a0) (lim.rCheck a0) := (rel_sup fun n => (tb_le n).rCheck a0).along (fun n => (tb_le n).rCheck a0) hσ
theorem rDimensions_rel {σ : Nat → Nat} (hσ : ∀ n, n ≤ σ n) (a0 : Form) : Rel (fun n => (tb (σ n)).rDimensions a0) (lim.rDimensions a0) := (rel_sup fun n => (tb_le n).rDimensions a0).along (fun n => (tb_le n).rDimensions a0) hσ
theorem rdimensions_rel {σ : Nat → Nat} (hσ : ∀ n, n ≤ σ n) (a0 : Bs) : Rel (fun n => (tb (σ n)).rdimensions a0) (lim.rdimensions a0) := (rel_sup fun n => (tb_le n).rdimensions a0).along (fun n => (tb_le n).rdimensions a0) hσ
theorem nodes_rel {σ : Nat → Nat} (hσ : ∀ n, n ≤ σ n) (a0 : Form) : Rel (fun n => (tb (σ n)).nodes a0) (lim.nodes a0) := (rel_sup fun n => (tb_le n).nodes a0).along (fun n => (tb_le n).nodes a0) hσ
theorem node_rel {σ : Nat → Nat} (hσ : ∀ n, n ≤ σ n) (a0 : Form) : Rel (fun n => (tb (σ n)).node a0) (lim.node a0) := (rel_sup fun n => (tb_le n).node a0).along (fun n => (tb_le n).node a0) hσ
theorem within_rel {σ : Nat → Nat} (hσ : ∀ n, n ≤ σ n) (a0 : (List Bs)) (a1 : Bs) : Rel (fun n => (tb (σ n)).within a0 a1) (lim.within a0 a1) := (rel_sup fun n => (tb_le n).within a0 a1).along (fun n => (tb_le n).within a0 a1) hσ
theorem digits_rel {σ : Nat → Nat} (hσ : ∀ n, n ≤ σ n) (a0 : Bs) : Rel (fun n => (tb (σ n)).digits a0) (lim.digits a0) := (rel_sup fun n => (tb_le n).digits a0).along (fun n => (tb_le n).digits a0) hσ
theorem value_rel {σ : Nat → Nat} (hσ : ∀ n, n ≤ σ n) (a0 : Bs) : Rel (fun n => (tb (σ n)).value a0) (lim.value a0) := (rel_sup fun n => (tb_le n).value a0).along (fun n => (tb_le n).value a0) hσ
theorem parts_rel {σ : Nat → Nat} (hσ : ∀ n, n ≤ σ n) (a0 : Form) (a1 : Form) : Rel (fun n => (tb (σ n)).parts a0 a1) (lim.parts a0 a1) := (rel_sup fun n => (tb_le n).parts a0 a1).along (fun n => (tb_le n).parts a0 a1) hσ
theorem rproduct_rel {σ : Nat → Nat} (hσ : ∀ n, n ≤ σ n) (a0 : (List Int)) : Rel (fun n => (tb (σ n)).rproduct a0) (lim.rproduct a0) := (rel_sup fun n => (tb_le n).rproduct a0).along (fun n => (tb_le n).rproduct a0) hσ
theorem label_rel {σ : Nat → Nat} (hσ : ∀ n, n ≤ σ n) (a0 : Bs) : Rel (fun n => (tb (σ n)).label a0) (lim.label a0) := (rel_sup fun n => (tb_le n).label a0).along (fun n => (tb_le n).label a0) hσ
theorem atom_rel {σ : Nat → Nat} (hσ : ∀ n, n ≤ σ n) (a0 : Form) : Rel (fun n => (tb (σ n)).atom a0) (lim.atom a0) := (rel_sup fun n => (tb_le n).atom a0).along (fun n => (tb_le n).atom a0) hσ
theorem rexact_rel {σ : Nat → Nat} (hσ : ∀ n, n ≤ σ n) (a0 : Form) : Rel (fun n => (tb (σ n)).rexact a0) (lim.rexact a0) := (rel_sup fun n => (tb_le n).rexact a0).along (fun n => (tb_le n).rexact a0) hσ
theorem whole_rel {σ : Nat → Nat} (hσ : ∀ n, n ≤ σ n) (a0 : Bs) : Rel (fun n => (tb (σ n)).whole a0) (lim.whole a0) := (rel_sup fun n => (tb_le n).whole a0).along (fun n => (tb_le n).whole a0) hσ
theorem rratio_rel {σ : Nat → Nat} (hσ : ∀ n, n ≤ σ n) (a0 : Bs) : Rel (fun n => (tb (σ n)).rratio a0) (lim.rratio a0) := (rel_sup fun n => (tb_le n).rratio a0).along (fun n => (tb_le n).rratio a0) hσ
theorem hex_rel {σ : Nat → Nat} (hσ : ∀ n, n ≤ σ n) (a0 : Bs) (a1 : Int) : Rel (fun n => (tb (σ n)).hex a0 a1) (lim.hex a0 a1) := (rel_sup fun n => (tb_le n).hex a0 a1).along (fun n => (tb_le n).hex a0 a1) hσ
theorem rNumber_rel {σ : Nat → Nat} (hσ : ∀ n, n ≤ σ n) (a0 : Form) : Rel (fun n => (tb (σ n)).rNumber a0) (lim.rNumber a0) := (rel_sup fun n => (tb_le n).rNumber a0).along (fun n => (tb_le n).rNumber a0) hσ
theorem FormChecks_rel {σ : Nat → Nat} (hσ : ∀ n, n ≤ σ n) (a0 : Form) (a1 : Form) (a2 : Bs) (a3 : Bs) : Rel (fun n => (tb (σ n)).FormChecks a0 a1 a2 a3) (lim.FormChecks a0 a1 a2 a3) := (rel_sup fun n => (tb_le n).FormChecks a0 a1 a2 a3).along (fun n => (tb_le n).FormChecks a0 a1 a2 a3) hσ
theorem rSize_rel {σ : Nat → Nat} (hσ : ∀ n, n ≤ σ n) (a0 : Form) : Rel (fun n => (tb (σ n)).rSize a0) (lim.rSize a0) := (rel_sup fun n => (tb_le n).rSize a0).along (fun n => (tb_le n).rSize a0) hσ
theorem Size_L0_rel {σ : Nat → Nat} (hσ : ∀ n, n ≤ σ n) (p0 : List Form) (p1 : Int) (p2 : Int) (p3 : Bs) (p4 : Bs) (v : (Int) × (Int) × (Int)) : Rel (fun n => (tb (σ n)).Size_L0 p0 p1 p2 p3 p4 v) (lim.Size_L0 p0 p1 p2 p3 p4 v) := (rel_sup fun n => (tb_le n).Size_L0 p0 p1 p2 p3 p4 v).along (fun n => (tb_le n).Size_L0 p0 p1 p2 p3 p4 v) hσ
theorem rEqual_L0_rel {σ : Nat → Nat} (hσ : ∀ n, n ≤ σ n) (p0 : Int) (p1 : Bs) (p2 : Bs) (p3 : List Form) (p4 : Int) (p5 : Bs) (p6 : Bs) (p7 : List Form) (v : (Int)) : Rel (fun n => (tb (σ n)).rEqual_L0 p0 p1 p2 p3 p4 p5 p6 p7 v) (lim.rEqual_L0 p0 p1 p2 p3 p4 p5 p6 p7 v) := (rel_sup fun n => (tb_le n).rEqual_L0 p0 p1 p2 p3 p4 p5 p6 p7 v).along (fun n => (tb_le n).rEqual_L0 p0 p1 p2 p3 p4 p5 p6 p7 v) hσ
theorem left_L0_rel {σ : Nat → Nat} (hσ : ∀ n, n ≤ σ n) (p0 : Int) (p1 : Bs) (p2 : Bs) (p3 : List Form) (v : (Int) × (Int)) : Rel (fun n => (tb (σ n)).left_L0 p0 p1 p2 p3 v) (lim.left_L0 p0 p1 p2 p3 v) := (rel_sup fun n => (tb_le n).left_L0 p0 p1 p2 p3 v).along (fun n => (tb_le n).left_L0 p0 p1 p2 p3 v) hσ
theorem EqualFunc_L0_rel {σ : Nat → Nat} (hσ : ∀ n, n ≤ σ n) (p0 : List Form) (p1 : List Form) (p2 : Int) (v : (Int)) : Rel (fun n => (tb (σ n)).EqualFunc_L0 p0 p1 p2 v) (lim.EqualFunc_L0 p0 p1 p2 v) := (rel_sup fun n => (tb_le n).EqualFunc_L0 p0 p1 p2 v).along (fun n => (tb_le n).EqualFunc_L0 p0 p1 p2 v) hσ
theorem through_L0_rel {σ : Nat → Nat} (hσ : ∀ n, n ≤ σ n) (p0 : List Form) (p1 : Int) (p2 : Int) (p3 : Int) (p4 : Bs) (p5 : Bs) (v : (Int)) : Rel (fun n => (tb (σ n)).through_L0 p0 p1 p2 p3 p4 p5 v) (lim.through_L0 p0 p1 p2 p3 p4 p5 v) := (rel_sup fun n => (tb_le n).through_L0 p0 p1 p2 p3 p4 p5 v).along (fun n => (tb_le n).through_L0 p0 p1 p2 p3 p4 p5 v) hσ
theorem through_L1_rel {σ : Nat → Nat} (hσ : ∀ n, n ≤ σ n) (p0 : List Form) (p1 : Int) (p2 : Int) (p3 : Int) (p4 : Bs) (p5 : Bs) (v : (Int) × (List (Bs × Bool))) : Rel (fun n => (tb (σ n)).through_L1 p0 p1 p2 p3 p4 p5 v) (lim.through_L1 p0 p1 p2 p3 p4 p5 v) := (rel_sup fun n => (tb_le n).through_L1 p0 p1 p2 p3 p4 p5 v).along (fun n => (tb_le n).through_L1 p0 p1 p2 p3 p4 p5 v) hσ
theorem look_L0_rel {σ : Nat → Nat} (hσ : ∀ n, n ≤ σ n) (p0 : Int) (p1 : List Form) (p2 : Int) (p3 : Int) (p4 : Bs) (p5 : Bs) (v : (Int) × (Int)) : Rel (fun n => (tb (σ n)).look_L0 p0 p1 p2 p3 p4 p5 v) (lim.look_L0 p0 p1 p2 p3 p4 p5 v) := (rel_sup fun n => (tb_le n).look_L0 p0 p1 p2 p3 p4 p5 v).along (fun n => (tb_le n).look_L0 p0 p1 p2 p3 p4 p5 v) hσ
theorem right_L0_rel {σ : Nat → Nat} (hσ : ∀ n, n ≤ σ n) (p0 : Bs) (p1 : Bs) (p2 : Int) (p3 : List Form) (v : (Int)) : Rel (fun n => (tb (σ n)).right_L0 p0 p1 p2 p3 v) (lim.right_L0 p0 p1 p2 p3 v) := (rel_sup fun n => (tb_le n).right_L0 p0 p1 p2 p3 v).along (fun n => (tb_le n).right_L0 p0 p1 p2 p3 v) hσ
theorem f221_L0_rel {σ : Nat → Nat} (hσ : ∀ n, n ≤ σ n) (v : (Bs) × (List Int)) : Rel (fun n => (tb (σ n)).f221_L0 v) (lim.f221_L0 v) := (rel_sup fun n => (tb_le n).f221_L0 v).along (fun n => (tb_le n).f221_L0 v) hσ
theorem decimal_L0_rel {σ : Nat → Nat} (hσ : ∀ n, n ≤ σ n) (p0 : List UInt8) (p1 : Int) (v : (Int)) : Rel (fun n => (tb (σ n)).decimal_L0 p0 p1 v) (lim.decimal_L0 p0 p1 v) := (rel_sup fun n => (tb_le n).decimal_L0 p0 p1 v).along (fun n => (tb_le n).decimal_L0 p0 p1 v) hσ
theorem ratio_L0_rel {σ : Nat → Nat} (hσ : ∀ n, n ≤ σ n) (v : (Int) × (Int)) : Rel (fun n => (tb (σ n)).ratio_L0 v) (lim.ratio_L0 v) := (rel_sup fun n => (tb_le n).ratio_L0 v).along (fun n => (tb_le n).ratio_L0 v) hσ
theorem product_L0_rel {σ : Nat → Nat} (hσ : ∀ n, n ≤ σ n) (p0 : List Int) (p1 : Int) (v : (Int) × (Int)) : Rel (fun n => (tb (σ n)).product_L0 p0 p1 v) (lim.product_L0 p0 p1 v) := (rel_sup fun n => (tb_le n).product_L0 p0 p1 v).along (fun n => (tb_le n).product_L0 p0 p1 v) hσ
theorem IndexInt_L0_rel {σ : Nat → Nat} (hσ : ∀ n, n ≤ σ n) (p0 : List Int) (p1 : Int) (p2 : Int) (v : (Int)) : Rel (fun n => (tb (σ n)).IndexInt_L0 p0 p1 p2 v) (lim.IndexInt_L0 p0 p1 p2 v) := (rel_sup fun n => (tb_le n).IndexInt_L0 p0 p1 p2 v).along (fun n => (tb_le n).IndexInt_L0 p0 p1 p2 v) hσ
theorem labels_L0_rel {σ : Nat → Nat} (hσ : ∀ n, n ≤ σ n) (p0 : Int) (p1 : Bs) (p2 : Bs) (p3 : List Form) (v : (Int) × (List Bs)) : Rel (fun n => (tb (σ n)).labels_L0 p0 p1 p2 p3 v) (lim.labels_L0 p0 p1 p2 p3 v) := (rel_sup fun n => (tb_le n).labels_L0 p0 p1 p2 p3 v).along (fun n => (tb_le n).labels_L0 p0 p1 p2 p3 v) hσ
theorem labels_P1_rel {σ : Nat → Nat} (hσ : ∀ n, n ≤ σ n) (p0 : Int) (p1 : Int) (p2 : Int) (p3 : Bs) (p4 : Bs) (p5 : List Form) (p6 : List Bs) : Rel (fun n => (tb (σ n)).labels_P1 p0 p1 p2 p3 p4 p5 p6) (lim.labels_P1 p0 p1 p2 p3 p4 p5 p6) := (rel_sup fun n => (tb_le n).labels_P1 p0 p1 p2 p3 p4 p5 p6).along (fun n => (tb_le n).labels_P1 p0 p1 p2 p3 p4 p5 p6) hσ
theorem rdimensions_L0_rel {σ : Nat → Nat} (hσ : ∀ n, n ≤ σ n) (p0 : Bs) (v : (Int) × (Int) × (List Int)) : Rel (fun n => (tb (σ n)).rdimensions_L0 p0 v) (lim.rdimensions_L0 p0 v) := (rel_sup fun n => (tb_le n).rdimensions_L0 p0 v).along (fun n => (tb_le n).rdimensions_L0 p0 v) hσ
theorem nodes_L0_rel {σ : Nat → Nat} (hσ : ∀ n, n ≤ σ n) (p0 : Int) (p1 : Bs) (p2 : Bs) (p3 : List Form) (v : (Int)) : Rel (fun n => (tb (σ n)).nodes_L0 p0 p1 p2 p3 v) (lim.nodes_L0 p0 p1 p2 p3 v) := (rel_sup fun n => (tb_le n).nodes_L0 p0 p1 p2 p3 v).along (fun n => (tb_le n).nodes_L0 p0 p1 p2 p3 v) hσ
theorem within_L0_rel {σ : Nat → Nat} (hσ : ∀ n, n ≤ σ n) (p0 : List Bs) (p1 : Bs) (v : (Int)) : Rel (fun n => (tb (σ n)).within_L0 p0 p1 v) (lim.within_L0 p0 p1 v) := (rel_sup fun n => (tb_le n).within_L0 p0 p1 v).along (fun n => (tb_le n).within_L0 p0 p1 v) hσ
theorem digits_L0_rel {σ : Nat → Nat} (hσ : ∀ n, n ≤ σ n) (p0 : Bs) (v : (Int)) : Rel (fun n => (tb (σ n)).digits_L0 p0 v) (lim.digits_L0 p0 v) := (rel_sup fun n => (tb_le n).digits_L0 p0 v).along (fun n => (tb_le n).digits_L0 p0 v) hσ
theorem value_L0_rel {σ : Nat → Nat} (hσ : ∀ n, n ≤ σ n) (p0 : Bs) (v : (Int) × (Int)) : Rel (fun n => (tb (σ n)).value_L0 p0 v) (lim.value_L0 p0 v) := (rel_sup fun n => (tb_le n).value_L0 p0 v).along (fun n => (tb_le n).value_L0 p0 v) hσ
theorem rproduct_L0_rel {σ : Nat → Nat} (hσ : ∀ n, n ≤ σ n) (p0 : List Int) (v : (Int)) : Rel (fun n => (tb (σ n)).rproduct_L0 p0 v) (lim.rproduct_L0 p0 v) := (rel_sup fun n => (tb_le n).rproduct_L0 p0 v).along (fun n => (tb_le n).rproduct_L0 p0 v) hσ
theorem rproduct_L1_rel {σ : Nat → Nat} (hσ : ∀ n, n ≤ σ n) (p0 : List Int) (v : (Int) × (Int)) : Rel (fun n => (tb (σ n)).rproduct_L1 p0 v) (lim.rproduct_L1 p0 v) := (rel_sup fun n => (tb_le n).rproduct_L1 p0 v).along (fun n => (tb_le n).rproduct_L1 p0 v) hσ
theorem atom_L0_rel {σ : Nat → Nat} (hσ : ∀ n, n ≤ σ n) (p0 : Int) (p1 : Bs) (p2 : Bs) (p3 : List Form) (v : (Int)) : Rel (fun n => (tb (σ n)).atom_L0 p0 p1 p2 p3 v) (lim.atom_L0 p0 p1 p2 p3 v) := (rel_sup fun n => (tb_le n).atom_L0 p0 p1 p2 p3 v).along (fun n => (tb_le n).atom_L0 p0 p1 p2 p3 v) hσ
theorem rratio_L0_rel {σ : Nat → Nat} (hσ : ∀ n, n ≤ σ n) (p0 : Bs) (v : (Int) × (Int)) : Rel (fun n => (tb (σ n)).rratio_L0 p0 v) (lim.rratio_L0 p0 v) := (rel_sup fun n => (tb_le n).rratio_L0 p0 v).along (fun n => (tb_le n).rratio_L0 p0 v) hσ
theorem rratio_L1_rel {σ : Nat → Nat} (hσ : ∀ n, n ≤ σ n) (v : (Int) × (Int)) : Rel (fun n => (tb (σ n)).rratio_L1 v) (lim.rratio_L1 v) := (rel_sup fun n => (tb_le n).rratio_L1 v).along (fun n => (tb_le n).rratio_L1 v) hσ
theorem hex_L0_rel {σ : Nat → Nat} (hσ : ∀ n, n ≤ σ n) (p0 : Bs) (p1 : Int) (v : (Int)) : Rel (fun n => (tb (σ n)).hex_L0 p0 p1 v) (lim.hex_L0 p0 p1 v) := (rel_sup fun n => (tb_le n).hex_L0 p0 p1 v).along (fun n => (tb_le n).hex_L0 p0 p1 v) hσ
theorem FormChecks_L0_rel {σ : Nat → Nat} (hσ : ∀ n, n ≤ σ n) (p0 : Bs) (p1 : Bs) (p2 : List Int) (p3 : List Int) (p4 : Int) (p5 : Int) (p6 : Bs) (p7 : Bs) (p8 : List Form) (p9 : Int) (p10 : Bs) (p11 : Bs) (p12 : List Form) (v : (Int)) : Rel (fun n => (tb (σ n)).FormChecks_L0 p0 p1 p2 p3 p4 p5 p6 p7 p8 p9 p10 p11 p12 v) (lim.FormChecks_L0 p0 p1 p2 p3 p4 p5 p6 p7 p8 p9 p10 p11 p12 v) := (rel_sup fun n => (tb_le n).FormChecks_L0 p0 p1 p2 p3 p4 p5 p6 p7 p8 p9 p10 p11 p12 v).along (fun n => (tb_le n).FormChecks_L0 p0 p1 p2 p3 p4 p5 p6 p7 p8 p9 p10 p11 p12 v) hσ
theorem rSize_L0_rel {σ : Nat → Nat} (hσ : ∀ n, n ≤ σ n) (p0 : Int) (p1 : Bs) (p2 : Bs) (p3 : List Form) (v : (Int) × (Int) × (Int)) : Rel (fun n => (tb (σ n)).rSize_L0 p0 p1 p2 p3 v) (lim.rSize_L0 p0 p1 p2 p3 v) := (rel_sup fun n => (tb_le n).rSize_L0 p0 p1 p2 p3 v).along (fun n => (tb_le n).rSize_L0 p0 p1 p2 p3 v) hσ
theorem Size_L0_R_r {σ : Nat → Nat} (hσ : ∀ n, n ≤ σ n) (p0 : List Form) (p1 : Int) (p2 : Int) (p3 : Bs) (p4 : Bs) (v : (Int) × (Int) × (Int)) {R : Type} {K : Nat → ((Int) × (Int) × (Int)) ⊕ ((Int) × (Int) × (Int)) → Option R} {Kw : ((Int) × (Int) × (Int)) ⊕ ((Int) × (Int) × (Int)) → Option R} (hK : ∀ x, Rel (fun n => K n x) (Kw x)) : Rel (fun n => Size_L0_R (tb (σ n)) p0 p1 p2 p3 p4 v (K n)) (Size_L0_R lim p0 p1 p2 p3 p4 v Kw) := by
 unfold Size_L0_R
 repeat' (first | exact hK _ | exact Size_rel hσ _ | exact Rel.const | refine Rel.cnd ?_ ?_ | refine Rel.sumK (fun _ => ?_) (fun _ => ?_) | refine Rel.opK ?_ fun _ => ?_)
theorem rEqual_L0_R_r {σ : Nat → Nat} (hσ : ∀ n, n ≤ σ n) (p0 : Int) (p1 : Bs) (p2 : Bs) (p3 : List Form) (p4 : Int) (p5 : Bs) (p6 : Bs) (p7 : List Form) (v : (Int)) {R : Type} {K : Nat → (((Int)) ⊕ ((Int))) ⊕ ((Int)) → Option R} {Kw : (((Int)) ⊕ ((Int))) ⊕ ((Int)) → Option R} (hK : ∀ x, Rel (fun n => K n x) (Kw x)) : Rel (fun n => rEqual_L0_R (tb (σ n)) p0 p1 p2 p3 p4 p5 p6 p7 v (K n)) (rEqual_L0_R lim p0 p1 p2 p3 p4 p5 p6 p7 v Kw) := by
 unfold rEqual_L0_R
 repeat' (first | exact hK _ | exact rEqual_rel hσ _ _ | exact Rel.const | refine Rel.cnd ?_ ?_ | refine Rel.sumK (fun _ => ?_) (fun _ => ?_) | refine Rel.opK ?_ fun _ => ?_)
theorem left_L0_R_r {σ : Nat → Nat} (hσ : ∀ n, n ≤ σ n) (p0 : Int) (p1 : Bs) (p2 : Bs) (p3 : List Form) (v : (Int) × (Int)) {R : Type} {K : Nat → ((Int) × (Int)) ⊕ ((Int) × (Int)) → Option R} {Kw : ((Int) × (Int)) ⊕ ((Int) × (Int)) → Option R} (hK : ∀ x, Rel (fun n => K n x) (Kw x)) : Rel (fun n => left_L0_R (tb (σ n)) p0 p1 p2 p3 v (K n)) (left_L0_R lim p0 p1 p2 p3 v Kw) := by
 unfold left_L0_R
 repeat' (first | exact hK _ | exact left_rel hσ _ _ | exact Rel.const | refine Rel.cnd ?_ ?_ | refine Rel.sumK (fun _ => ?_) (fun _ => ?_) | refine Rel.opK ?_ fun _ => ?_)
theorem EqualFunc_L0_R_r {σ : Nat → Nat} (hσ : ∀ n, n ≤ σ n) (p0 : List Form) (p1 : List Form) (p2 : Int) (v : (Int)) {R : Type} {K : Nat → (((Int)) ⊕ ((Int))) ⊕ ((Int)) → Option R} {Kw : (((Int)) ⊕ ((Int))) ⊕ ((Int)) → Option R} (hK : ∀ x, Rel (fun n => K n x) (Kw x)) : Rel (fun n => EqualFunc_L0_R (tb (σ n)) p0 p1 p2 v (K n)) (EqualFunc_L0_R lim p0 p1 p2 v Kw) := by
 unfold EqualFunc_L0_R
 repeat' (first | exact hK _ | exact Equal_rel hσ _ _ | exact Rel.const | refine Rel.cnd ?_ ?_ | refine Rel.sumK (fun _ => ?_) (fun _ => ?_) | refine Rel.opK ?_ fun _ => ?_)
theorem through_L0_R_r {σ : Nat → Nat} (hσ : ∀ n, n ≤ σ n) (p0 : List Form) (p1 : Int) (p2 : Int) (p3 : Int) (p4 : Bs) (p5 : Bs) (v : (Int)) {R : Type} {K : Nat → (((Int)) ⊕ ((Int))) ⊕ ((Int)) → Option R} {Kw : (((Int)) ⊕ ((Int))) ⊕ ((Int)) → Option R} (hK : ∀ x, Rel (fun n => K n x) (Kw x)) : Rel (fun n => through_L0_R (tb (σ n)) p0 p1 p2 p3 p4 p5 v (K n)) (through_L0_R lim p0 p1 p2 p3 p4 p5 v Kw) := by
 unfold through_L0_R
 simp only [through_K, chk_eq, chkP_eq, opK_some']
 repeat' (first | exact hK _ | exact through_rel hσ _ _ | exact Rel.const | refine Rel.cnd ?_ ?_ | refine Rel.sumK (fun _ => ?_) (fun _ => ?_) | refine Rel.opK ?_ fun _ => ?_)
theorem through_L1_R_r {σ : Nat → Nat} (hσ : ∀ n, n ≤ σ n) (p0 : List Form) (p1 : Int) (p2 : Int) (p3 : Int) (p4 : Bs) (p5 : Bs) (v : (Int) × (List (Bs × Bool))) {R : Type} {K : Nat → (((Int) × (Int) × (List (Bs × Bool))) ⊕ ((Int) × (List (Bs × Bool)))) ⊕ ((Int) × (List (Bs × Bool))) → Option R} {Kw : (((Int) × (Int) × (List (Bs × Bool))) ⊕ ((Int) × (List (Bs × Bool)))) ⊕ ((Int) × (List (Bs × Bool))) → Option R} (hK : ∀ x, Rel (fun n => K n x) (Kw x)) : Rel (fun n => through_L1_R (tb (σ n)) p0 p1 p2 p3 p4 p5 v (K n)) (through_L1_R lim p0 p1 p2 p3 p4 p5 v Kw) := by
 unfold through_L1_R
 simp only [through_v1_K, chk_eq, chkP_eq, opK_some']
 repeat' (first | exact hK _ | exact through_v1_rel hσ _ _ _ | exact Rel.const | refine Rel.cnd ?_ ?_ | refine Rel.sumK (fun _ => ?_) (fun _ => ?_) | refine Rel.opK ?_ fun _ => ?_)
theorem look_L0_R_r {σ : Nat → Nat} (hσ : ∀ n, n ≤ σ n) (p0 : Int) (p1 : List Form) (p2 : Int) (p3 : Int) (p4 : Bs) (p5 : Bs) (v : (Int) × (Int)) {R : Type} {K : Nat → (((Int) × (Int)) ⊕ ((Int) × (Int))) ⊕ ((Int) × (Int)) → Option R} {Kw : (((Int) × (Int)) ⊕ ((Int) × (Int))) ⊕ ((Int) × (Int)) → Option R} (hK : ∀ x, Rel (fun n => K n x) (Kw x)) : Rel (fun n => look_L0_R (tb (σ n)) p0 p1 p2 p3 p4 p5 v (K n)) (look_L0_R lim p0 p1 p2 p3 p4 p5 v Kw) := by
 unfold look_L0_R
 simp only [look_K, chk_eq, chkP_eq, opK_some']
 repeat' (first | exact hK _ | exact look_rel hσ _ _ _ | exact Rel.const | refine Rel.cnd ?_ ?_ | refine Rel.sumK (fun _ => ?_) (fun _ => ?_) | refine Rel.opK ?_ fun _ => ?_)
theorem right_L0_R_r {σ : Nat → Nat} (hσ : ∀ n, n ≤ σ n) (p0 : Bs) (p1 : Bs) (p2 : Int) (p3 : List Form) (v : (Int)) {R : Type} {K : Nat → (((Int)) ⊕ ((Int))) ⊕ ((Int)) → Option R} {Kw : (((Int)) ⊕ ((Int))) ⊕ ((Int)) → Option R} (hK : ∀ x, Rel (fun n => K n x) (Kw x)) : Rel (fun n => right_L0_R (tb (σ n)) p0 p1 p2 p3 v (K n)) (right_L0_R lim p0 p1 p2 p3 v Kw) := by
 unfold right_L0_R
 repeat' (first | exact hK _ | exact Rel.const | refine Rel.cnd ?_ ?_ | refine Rel.sumK (fun _ => ?_) (fun _ => ?_) | refine Rel.opK ?_ fun _ => ?_)
theorem f221_L0_R_r {σ : Nat → Nat} (hσ : ∀ n, n ≤ σ n) (v : (Bs) × (List Int)) {R : Type} {K : Nat → (((Bs) × (List Int)) ⊕ ((Bs) × (List Int))) ⊕ ((Bs) × (List Int)) → Option R} {Kw : (((Bs) × (List Int)) ⊕ ((Bs) × (List Int))) ⊕ ((Bs) × (List Int)) → Option R} (hK : ∀ x, Rel (fun n => K n x) (Kw x)) : Rel (fun n => f221_L0_R (tb (σ n)) v (K n)) (f221_L0_R lim v Kw) := by
 unfold f221_L0_R
 repeat' (first | exact hK _ | exact small_rel hσ _ _ | exact Rel.const | refine Rel.cnd ?_ ?_ | refine Rel.sumK (fun _ => ?_) (fun _ => ?_) | refine Rel.opK ?_ fun _ => ?_)
theorem decimal_L0_R_r {σ : Nat → Nat} (hσ : ∀ n, n ≤ σ n) (p0 : List UInt8) (p1 : Int) (v : (Int)) {R : Type} {K : Nat → (((Int)) ⊕ ((Int))) ⊕ ((Int)) → Option R} {Kw : (((Int)) ⊕ ((Int))) ⊕ ((Int)) → Option R} (hK : ∀ x, Rel (fun n => K n x) (Kw x)) : Rel (fun n => decimal_L0_R (tb (σ n)) p0 p1 v (K n)) (decimal_L0_R lim p0 p1 v Kw) := by
 unfold decimal_L0_R
 repeat' (first | exact hK _ | exact Rel.const | refine Rel.cnd ?_ ?_ | refine Rel.sumK (fun _ => ?_) (fun _ => ?_) | refine Rel.opK ?_ fun _ => ?_)
theorem ratio_L0_R_r {σ : Nat → Nat} (hσ : ∀ n, n ≤ σ n) (v : (Int) × (Int)) {R : Type} {K : Nat → ((Int) × (Int)) ⊕ ((Int) × (Int)) → Option R} {Kw : ((Int) × (Int)) ⊕ ((Int) × (Int)) → Option R} (hK : ∀ x, Rel (fun n => K n x) (Kw x)) : Rel (fun n => ratio_L0_R (tb (σ n)) v (K n)) (ratio_L0_R lim v Kw) := by
 unfold ratio_L0_R
 repeat' (first | exact hK _ | exact Rel.const | refine Rel.cnd ?_ ?_ | refine Rel.sumK (fun _ => ?_) (fun _ => ?_) | refine Rel.opK ?_ fun _ => ?_)
theorem product_L0_R_r {σ : Nat → Nat} (hσ : ∀ n, n ≤ σ n) (p0 : List Int) (p1 : Int) (v : (Int) × (Int)) {R : Type} {K : Nat → ((Int) × (Int)) ⊕ ((Int) × (Int)) → Option R} {Kw : ((Int) × (Int)) ⊕ ((Int) × (Int)) → Option R} (hK : ∀ x, Rel (fun n => K n x) (Kw x)) : Rel (fun n => product_L0_R (tb (σ n)) p0 p1 v (K n)) (product_L0_R lim p0 p1 v Kw) := by
 unfold product_L0_R
 repeat' (first | exact hK _ | exact Rel.const | refine Rel.cnd ?_ ?_ | refine Rel.sumK (fun _ => ?_) (fun _ => ?_) | refine Rel.opK ?_ fun _ => ?_)
theorem IndexInt_L0_R_r {σ : Nat → Nat} (hσ : ∀ n, n ≤ σ n) (p0 : List Int) (p1 : Int) (p2 : Int) (v : (Int)) {R : Type} {K : Nat → (((Int) × (Int)) ⊕ ((Int))) ⊕ ((Int)) → Option R} {Kw : (((Int) × (Int)) ⊕ ((Int))) ⊕ ((Int)) → Option R} (hK : ∀ x, Rel (fun n => K n x) (Kw x)) : Rel (fun n => IndexInt_L0_R (tb (σ n)) p0 p1 p2 v (K n)) (IndexInt_L0_R lim p0 p1 p2 v Kw) := by
 unfold IndexInt_L0_R
 repeat' (first | exact hK _ | exact Rel.const | refine Rel.cnd ?_ ?_ | refine Rel.sumK (fun _ => ?_) (fun _ => ?_) | refine Rel.opK ?_ fun _ => ?_)
theorem labels_L0_R_r {σ : Nat → Nat} (hσ : ∀ n, n ≤ σ n) (p0 : Int) (p1 : Bs) (p2 : Bs) (p3 : List Form) (v : (Int) × (List Bs)) {R : Type} {K : Nat → (((Int) × (Int) × (List Bs)) ⊕ ((Int) × (List Bs))) ⊕ ((Int) × (List Bs)) → Option R} {Kw : (((Int) × (Int) × (List Bs)) ⊕ ((Int) × (List Bs))) ⊕ ((Int) × (List Bs)) → Option R} (hK : ∀ x, Rel (fun n => K n x) (Kw x)) : Rel (fun n => labels_L0_R (tb (σ n)) p0 p1 p2 p3 v (K n)) (labels_L0_R lim p0 p1 p2 p3 v Kw) := by
 unfold labels_L0_R
 simp only [labels_K, chk_eq, chkP_eq, opK_some']
 repeat' (first | exact hK _ | exact labels_rel hσ _ _ | exact Rel.const | refine Rel.cnd ?_ ?_ | refine Rel.sumK (fun _ => ?_) (fun _ => ?_) | refine Rel.opK ?_ fun _ => ?_)
theorem labels_P1_R_r {σ : Nat → Nat} (hσ : ∀ n, n ≤ σ n) (p0 : Int) (p1 : Int) (p2 : Int) (p3 : Bs) (p4 : Bs) (p5 : List Form) (p6 : List Bs) {R : Type} {K : Nat → (((Int) × (List Bs)) ⊕ (((Int) × (List Bs)) ⊕ (Unit))) → Option R} {Kw : (((Int) × (List Bs)) ⊕ (((Int) × (List Bs)) ⊕ (Unit))) → Option R} (hK : ∀ x, Rel (fun n => K n x) (Kw x)) : Rel (fun n => labels_P1_R (tb (σ n)) p0 p1 p2 p3 p4 p5 p6 (K n)) (labels_P1_R lim p0 p1 p2 p3 p4 p5 p6 Kw) := by
 unfold labels_P1_R
 simp only [labels_K, chk_eq, chkP_eq, opK_some']
 repeat' (first | exact hK _ | exact labels_rel hσ _ _ | exact Rel.const | refine Rel.cnd ?_ ?_ | refine Rel.sumK (fun _ => ?_) (fun _ => ?_) | refine Rel.opK ?_ fun _ => ?_)
theorem rdimensions_L0_R_r {σ : Nat → Nat} (hσ : ∀ n, n ≤ σ n) (p0 : Bs) (v : (Int) × (Int) × (List Int)) {R : Type} {K : Nat → (((Int) × (Int) × (List Int)) ⊕ ((Int) × (Int) × (List Int))) ⊕ ((Int) × (Int) × (List Int)) → Option R} {Kw : (((Int) × (Int) × (List Int)) ⊕ ((Int) × (Int) × (List Int))) ⊕ ((Int) × (Int) × (List Int)) → Option R} (hK : ∀ x, Rel (fun n => K n x) (Kw x)) : Rel (fun n => rdimensions_L0_R (tb (σ n)) p0 v (K n)) (rdimensions_L0_R lim p0 v Kw) := by
 unfold rdimensions_L0_R
 repeat' (first | exact hK _ | exact digits_rel hσ _ | exact value_rel hσ _ | exact Rel.const | refine Rel.cnd ?_ ?_ | refine Rel.sumK (fun _ => ?_) (fun _ => ?_) | refine Rel.opK ?_ fun _ => ?_)
theorem nodes_L0_R_r {σ : Nat → Nat} (hσ : ∀ n, n ≤ σ n) (p0 : Int) (p1 : Bs) (p2 : Bs) (p3 : List Form) (v : (Int)) {R : Type} {K : Nat → (((Int)) ⊕ ((Int))) ⊕ ((Int)) → Option R} {Kw : (((Int)) ⊕ ((Int))) ⊕ ((Int)) → Option R} (hK : ∀ x, Rel (fun n => K n x) (Kw x)) : Rel (fun n => nodes_L0_R (tb (σ n)) p0 p1 p2 p3 v (K n)) (nodes_L0_R lim p0 p1 p2 p3 v Kw) := by
 unfold nodes_L0_R
 repeat' (first | exact hK _ | exact nodes_rel hσ _ | exact Rel.const | refine Rel.cnd ?_ ?_ | refine Rel.sumK (fun _ => ?_) (fun _ => ?_) | refine Rel.opK ?_ fun _ => ?_)
theorem within_L0_R_r {σ : Nat → Nat} (hσ : ∀ n, n ≤ σ n) (p0 : List Bs) (p1 : Bs) (v : (Int)) {R : Type} {K : Nat → (((Int)) ⊕ ((Int))) ⊕ ((Int)) → Option R} {Kw : (((Int)) ⊕ ((Int))) ⊕ ((Int)) → Option R} (hK : ∀ x, Rel (fun n => K n x) (Kw x)) : Rel (fun n => within_L0_R (tb (σ n)) p0 p1 v (K n)) (within_L0_R lim p0 p1 v Kw) := by
 unfold within_L0_R
 repeat' (first | exact hK _ | exact Rel.const | refine Rel.cnd ?_ ?_ | refine Rel.sumK (fun _ => ?_) (fun _ => ?_) | refine Rel.opK ?_ fun _ => ?_)
theorem digits_L0_R_r {σ : Nat → Nat} (hσ : ∀ n, n ≤ σ n) (p0 : Bs) (v : (Int)) {R : Type} {K : Nat → (((Int)) ⊕ ((Int))) ⊕ ((Int)) → Option R} {Kw : (((Int)) ⊕ ((Int))) ⊕ ((Int)) → Option R} (hK : ∀ x, Rel (fun n => K n x) (Kw x)) : Rel (fun n => digits_L0_R (tb (σ n)) p0 v (K n)) (digits_L0_R lim p0 v Kw) := by
 unfold digits_L0_R
 repeat' (first | exact hK _ | exact Rel.const | refine Rel.cnd ?_ ?_ | refine Rel.sumK (fun _ => ?_) (fun _ => ?_) | refine Rel.opK ?_ fun _ => ?_)
theorem value_L0_R_r {σ : Nat → Nat} (hσ : ∀ n, n ≤ σ n) (p0 : Bs) (v : (Int) × (Int)) {R : Type} {K : Nat → ((Int) × (Int)) ⊕ ((Int) × (Int)) → Option R} {Kw : ((Int) × (Int)) ⊕ ((Int) × (Int)) → Option R} (hK : ∀ x, Rel (fun n => K n x) (Kw x)) : Rel (fun n => value_L0_R (tb (σ n)) p0 v (K n)) (value_L0_R lim p0 v Kw) := by
 unfold value_L0_R
 repeat' (first | exact hK _ | exact Rel.const | refine Rel.cnd ?_ ?_ | refine Rel.sumK (fun _ => ?_) (fun _ => ?_) | refine Rel.opK ?_ fun _ => ?_)
theorem rproduct_L0_R_r {σ : Nat → Nat} (hσ : ∀ n, n ≤ σ n) (p0 : List Int) (v : (Int)) {R : Type} {K : Nat → (((Int)) ⊕ ((Int))) ⊕ ((Int)) → Option R} {Kw : (((Int)) ⊕ ((Int))) ⊕ ((Int)) → Option R} (hK : ∀ x, Rel (fun n => K n x) (Kw x)) : Rel (fun n => rproduct_L0_R (tb (σ n)) p0 v (K n)) (rproduct_L0_R lim p0 v Kw) := by
 unfold rproduct_L0_R
 repeat' (first | exact hK _ | exact Rel.const | refine Rel.cnd ?_ ?_ | refine Rel.sumK (fun _ => ?_) (fun _ => ?_) | refine Rel.opK ?_ fun _ => ?_)
theorem rproduct_L1_R_r {σ : Nat → Nat} (hσ : ∀ n, n ≤ σ n) (p0 : List Int) (v : (Int) × (Int)) {R : Type} {K : Nat → ((Int) × (Int)) ⊕ ((Int) × (Int)) → Option R} {Kw : ((Int) × (Int)) ⊕ ((Int) × (Int)) → Option R} (hK : ∀ x, Rel (fun n => K n x) (Kw x)) : Rel (fun n => rproduct_L1_R (tb (σ n)) p0 v (K n)) (rproduct_L1_R lim p0 v Kw) := by
 unfold rproduct_L1_R
 repeat' (first | exact hK _ | exact Rel.const | refine Rel.cnd ?_ ?_ | refine Rel.sumK (fun _ => ?_) (fun _ => ?_) | refine Rel.opK ?_ fun _ => ?_)
theorem atom_L0_R_r {σ : Nat → Nat} (hσ : ∀ n, n ≤ σ n) (p0 : Int) (p1 : Bs) (p2 : Bs) (p3 : List Form) (v : (Int)) {R : Type} {K : Nat → (((Int)) ⊕ ((Int))) ⊕ ((Int)) → Option R} {Kw : (((Int)) ⊕ ((Int))) ⊕ ((Int)) → Option R} (hK : ∀ x, Rel (fun n => K n x) (Kw x)) : Rel (fun n => atom_L0_R (tb (σ n)) p0 p1 p2 p3 v (K n)) (atom_L0_R lim p0 p1 p2 p3 v Kw) := by
 unfold atom_L0_R
 repeat' (first | exact hK _ | exact Rel.const | refine Rel.cnd ?_ ?_ | refine Rel.sumK (fun _ => ?_) (fun _ => ?_) | refine Rel.opK ?_ fun _ => ?_)
theorem rratio_L0_R_r {σ : Nat → Nat} (hσ : ∀ n, n ≤ σ n) (p0 : Bs) (v : (Int) × (Int)) {R : Type} {K : Nat → ((Int) × (Int)) ⊕ ((Int) × (Int)) → Option R} {Kw : ((Int) × (Int)) ⊕ ((Int) × (Int)) → Option R} (hK : ∀ x, Rel (fun n => K n x) (Kw x)) : Rel (fun n => rratio_L0_R (tb (σ n)) p0 v (K n)) (rratio_L0_R lim p0 v Kw) := by
 unfold rratio_L0_R
 repeat' (first | exact hK _ | exact Rel.const | refine Rel.cnd ?_ ?_ | refine Rel.sumK (fun _ => ?_) (fun _ => ?_) | refine Rel.opK ?_ fun _ => ?_)
theorem rratio_L1_R_r {σ : Nat → Nat} (hσ : ∀ n, n ≤ σ n) (v : (Int) × (Int)) {R : Type} {K : Nat → ((Int) × (Int)) ⊕ ((Int) × (Int)) → Option R} {Kw : ((Int) × (Int)) ⊕ ((Int) × (Int)) → Option R} (hK : ∀ x, Rel (fun n => K n x) (Kw x)) : Rel (fun n => rratio_L1_R (tb (σ n)) v (K n)) (rratio_L1_R lim v Kw) := by
 unfold rratio_L1_R
 repeat' (first | exact hK _ | exact Rel.const | refine Rel.cnd ?_ ?_ | refine Rel.sumK (fun _ => ?_) (fun _ => ?_) | refine Rel.opK ?_ fun _ => ?_)
theorem hex_L0_R_r {σ : Nat → Nat} (hσ : ∀ n, n ≤ σ n) (p0 : Bs) (p1 : Int) (v : (Int)) {R : Type} {K : Nat → (((Int)) ⊕ ((Int))) ⊕ ((Int)) → Option R} {Kw : (((Int)) ⊕ ((Int))) ⊕ ((Int)) → Option R} (hK : ∀ x, Rel (fun n => K n x) (Kw x)) : Rel (fun n => hex_L0_R (tb (σ n)) p0 p1 v (K n)) (hex_L0_R lim p0 p1 v Kw) := by
 unfold hex_L0_R
 repeat' (first | exact hK _ | exact Rel.const | refine Rel.cnd ?_ ?_ | refine Rel.sumK (fun _ => ?_) (fun _ => ?_) | refine Rel.opK ?_ fun _ => ?_)
theorem FormChecks_L0_R_r {σ : Nat → Nat} (hσ : ∀ n, n ≤ σ n) (p0 : Bs) (p1 : Bs) (p2 : List Int) (p3 : List Int) (p4 : Int) (p5 : Int) (p6 : Bs) (p7 : Bs) (p8 : List Form) (p9 : Int) (p10 : Bs) (p11 : Bs) (p12 : List Form) (v : (Int)) {R : Type} {K : Nat → (((Int)) ⊕ ((Int))) ⊕ ((Int)) → Option R} {Kw : (((Int)) ⊕ ((Int))) ⊕ ((Int)) → Option R} (hK : ∀ x, Rel (fun n => K n x) (Kw x)) : Rel (fun n => FormChecks_L0_R (tb (σ n)) p0 p1 p2 p3 p4 p5 p6 p7 p8 p9 p10 p11 p12 v (K n)) (FormChecks_L0_R lim p0 p1 p2 p3 p4 p5 p6 p7 p8 p9 p10 p11 p12 v Kw) := by
 unfold FormChecks_L0_R
 repeat' (first | exact hK _ | exact Rel.const | refine Rel.cnd ?_ ?_ | refine Rel.sumK (fun _ => ?_) (fun _ => ?_) | refine Rel.opK ?_ fun _ => ?_)
theorem rSize_L0_R_r {σ : Nat → Nat} (hσ : ∀ n, n ≤ σ n) (p0 : Int) (p1 : Bs) (p2 : Bs) (p3 : List Form) (v : (Int) × (Int) × (Int)) {R : Type} {K : Nat → ((Int) × (Int) × (Int)) ⊕ ((Int) × (Int) × (Int)) → Option R} {Kw : ((Int) × (Int) × (Int)) ⊕ ((Int) × (Int) × (Int)) → Option R} (hK : ∀ x, Rel (fun n => K n x) (Kw x)) : Rel (fun n => rSize_L0_R (tb (σ n)) p0 p1 p2 p3 v (K n)) (rSize_L0_R lim p0 p1 p2 p3 v Kw) := by
 unfold rSize_L0_R
 repeat' (first | exact hK _ | exact rSize_rel hσ _ | exact Rel.const | refine Rel.cnd ?_ ?_ | refine Rel.sumK (fun _ => ?_) (fun _ => ?_) | refine Rel.opK ?_ fun _ => ?_)
theorem through_c_r {σ : Nat → Nat} (hσ : ∀ n, n ≤ σ n) (p0 : Form) (p1 : Int) {R : Type} {K : Nat → ((Unit) ⊕ (Unit)) → Option R} {Kw : ((Unit) ⊕ (Unit)) → Option R} (hK : ∀ x, Rel (fun n => K n x) (Kw x)) : Rel (fun n => through_c (tb (σ n)) p0 p1 (K n)) (through_c lim p0 p1 Kw) := by
 unfold through_c
 simp only [through_L0_K, chk_eq, chkP_eq, opK_some']
 repeat' (first | exact hK _ | exact right_rel hσ _ | exact through_L0_rel hσ _ _ _ _ _ _ _ | exact Rel.const | refine Rel.cnd ?_ ?_ | refine Rel.sumK (fun _ => ?_) (fun _ => ?_) | refine Rel.opK ?_ fun _ => ?_)
theorem through_v1_c_r {σ : Nat → Nat} (hσ : ∀ n, n ≤ σ n) (p0 : Form) (p1 : Int) (p2 : List (Bs × Bool)) {R : Type} {K : Nat → (((Int) × (List (Bs × Bool))) ⊕ ((List (Bs × Bool)))) → Option R} {Kw : (((Int) × (List (Bs × Bool))) ⊕ ((List (Bs × Bool)))) → Option R} (hK : ∀ x, Rel (fun n => K n x) (Kw x)) : Rel (fun n => through_v1_c (tb (σ n)) p0 p1 p2 (K n)) (through_v1_c lim p0 p1 p2 Kw) := by
 unfold through_v1_c
 simp only [through_L1_K, chk_eq, chkP_eq, opK_some']
 repeat' (first | exact hK _ | exact through_L1_rel hσ _ _ _ _ _ _ _ | exact Rel.const | refine Rel.cnd ?_ ?_ | refine Rel.sumK (fun _ => ?_) (fun _ => ?_) | refine Rel.opK ?_ fun _ => ?_)
theorem look_c_r {σ : Nat → Nat} (hσ : ∀ n, n ≤ σ n) (p0 : Form) (p1 : Int) (p2 : Int) {R : Type} {K : Nat → ((Bool) × (Int)) → Option R} {Kw : ((Bool) × (Int)) → Option R} (hK : ∀ x, Rel (fun n => K n x) (Kw x)) : Rel (fun n => look_c (tb (σ n)) p0 p1 p2 (K n)) (look_c lim p0 p1 p2 Kw) := by
 unfold look_c
 simp only [look_L0_K, chk_eq, chkP_eq, opK_some']
 repeat' (first | exact hK _ | exact look_L0_rel hσ _ _ _ _ _ _ _ | exact Rel.const | refine Rel.cnd ?_ ?_ | refine Rel.sumK (fun _ => ?_) (fun _ => ?_) | refine Rel.opK ?_ fun _ => ?_)
theorem labels_c_r {σ : Nat → Nat} (hσ : ∀ n, n ≤ σ n) (p0 : Form) (p1 : List Bs) {R : Type} {K : Nat → ((Int) × (List Bs)) → Option R} {Kw : ((Int) × (List Bs)) → Option R} (hK : ∀ x, Rel (fun n => K n x) (Kw x)) : Rel (fun n => labels_c (tb (σ n)) p0 p1 (K n)) (labels_c lim p0 p1 Kw) := by
 unfold labels_c
 simp only [labels_L0_K, labels_P1_K, chk_eq, chkP_eq, opK_some']
 repeat' (first | exact hK _ | exact within_rel hσ _ _ | exact labels_L0_rel hσ _ _ _ _ _ | exact labels_P1_rel hσ _ _ _ _ _ _ _ | exact Rel.const | refine Rel.cnd ?_ ?_ | refine Rel.sumK (fun _ => ?_) (fun _ => ?_) | refine Rel.opK ?_ fun _ => ?_)
theorem Size_c_r {σ : Nat → Nat} (hσ : ∀ n, n ≤ σ n) (a0 : Form) {R : Type} {K : Nat → ((Int) × (Int)) → Option R} {Kw : ((Int) × (Int)) → Option R} (hK : ∀ x, Rel (fun n => K n x) (Kw x)) : Rel (fun n => Size_c (tb (σ n)) a0 (K n)) (Size_c lim a0 Kw) := by
 unfold Size_c
 simp only [Size_L0_K, chk_eq, chkP_eq, opK_some']
 repeat' (first | exact hK _ | exact Size_L0_rel hσ _ _ _ _ _ _ | exact Rel.const | refine Rel.cnd ?_ ?_ | refine Rel.sumK (fun _ => ?_) (fun _ => ?_) | refine Rel.opK ?_ fun _ => ?_)
theorem rEqual_c_r {σ : Nat → Nat} (hσ : ∀ n, n ≤ σ n) (a0 : Form) (a1 : Form) {R : Type} {K : Nat → ((Bool)) → Option R} {Kw : ((Bool)) → Option R} (hK : ∀ x, Rel (fun n => K n x) (Kw x)) : Rel (fun n => rEqual_c (tb (σ n)) a0 a1 (K n)) (rEqual_c lim a0 a1 Kw) := by
 unfold rEqual_c
 simp only [rEqual_L0_K, chk_eq, chkP_eq, opK_some']
 repeat' (first | exact hK _ | exact rEqual_L0_rel hσ _ _ _ _ _ _ _ _ _ | exact Rel.const | refine Rel.cnd ?_ ?_ | refine Rel.sumK (fun _ => ?_) (fun _ => ?_) | refine Rel.opK ?_ fun _ => ?_)
theorem left_c_r {σ : Nat → Nat} (hσ : ∀ n, n ≤ σ n) (a0 : Form) (a1 : Int) {R : Type} {K : Nat → ((Int)) → Option R} {Kw : ((Int)) → Option R} (hK : ∀ x, Rel (fun n => K n x) (Kw x)) : Rel (fun n => left_c (tb (σ n)) a0 a1 (K n)) (left_c lim a0 a1 Kw) := by
 unfold left_c
 simp only [left_L0_K, chk_eq, chkP_eq, opK_some']
 repeat' (first | exact hK _ | exact left_L0_rel hσ _ _ _ _ _ | exact Rel.const | refine Rel.cnd ?_ ?_ | refine Rel.sumK (fun _ => ?_) (fun _ => ?_) | refine Rel.opK ?_ fun _ => ?_)
theorem Few_c_r {σ : Nat → Nat} (hσ : ∀ n, n ≤ σ n) (a0 : Form) (a1 : Int) {R : Type} {K : Nat → ((Bool)) → Option R} {Kw : ((Bool)) → Option R} (hK : ∀ x, Rel (fun n => K n x) (Kw x)) : Rel (fun n => Few_c (tb (σ n)) a0 a1 (K n)) (Few_c lim a0 a1 Kw) := by
 unfold Few_c
 repeat' (first | exact hK _ | exact left_rel hσ _ _ | exact Rel.const | refine Rel.cnd ?_ ?_ | refine Rel.sumK (fun _ => ?_) (fun _ => ?_) | refine Rel.opK ?_ fun _ => ?_)
theorem IsNil_c_r {σ : Nat → Nat} (hσ : ∀ n, n ≤ σ n) (a0 : Form) {R : Type} {K : Nat → ((Bool)) → Option R} {Kw : ((Bool)) → Option R} (hK : ∀ x, Rel (fun n => K n x) (Kw x)) : Rel (fun n => IsNil_c (tb (σ n)) a0 (K n)) (IsNil_c lim a0 Kw) := by
 unfold IsNil_c
 repeat' (first | exact hK _ | exact Is_rel hσ _ _ _ | exact Rel.const | refine Rel.cnd ?_ ?_ | refine Rel.sumK (fun _ => ?_) (fun _ => ?_) | refine Rel.opK ?_ fun _ => ?_)
theorem Is_c_r {σ : Nat → Nat} (hσ : ∀ n, n ≤ σ n) (a0 : Form) (a1 : Bs) (a2 : Bs) {R : Type} {K : Nat → ((Bool)) → Option R} {Kw : ((Bool)) → Option R} (hK : ∀ x, Rel (fun n => K n x) (Kw x)) : Rel (fun n => Is_c (tb (σ n)) a0 a1 a2 (K n)) (Is_c lim a0 a1 a2 Kw) := by
 unfold Is_c
 repeat' (first | exact hK _ | exact Rel.const | refine Rel.cnd ?_ ?_ | refine Rel.sumK (fun _ => ?_) (fun _ => ?_) | refine Rel.opK ?_ fun _ => ?_)
theorem Equal_c_r {σ : Nat → Nat} (hσ : ∀ n, n ≤ σ n) (a0 : Form) (a1 : Form) {R : Type} {K : Nat → ((Bool)) → Option R} {Kw : ((Bool)) → Option R} (hK : ∀ x, Rel (fun n => K n x) (Kw x)) : Rel (fun n => Equal_c (tb (σ n)) a0 a1 (K n)) (Equal_c lim a0 a1 Kw) := by
 unfold Equal_c
 repeat' (first | exact hK _ | exact EqualFunc_f22_rel hσ _ _ | exact Rel.const | refine Rel.cnd ?_ ?_ | refine Rel.sumK (fun _ => ?_) (fun _ => ?_) | refine Rel.opK ?_ fun _ => ?_)
theorem EqualFunc_f22_c_r {σ : Nat → Nat} (hσ : ∀ n, n ≤ σ n) (a0 : (List Form)) (a1 : (List Form)) {R : Type} {K : Nat → ((Bool)) → Option R} {Kw : ((Bool)) → Option R} (hK : ∀ x, Rel (fun n => K n x) (Kw x)) : Rel (fun n => EqualFunc_f22_c (tb (σ n)) a0 a1 (K n)) (EqualFunc_f22_c lim a0 a1 Kw) := by
 unfold EqualFunc_f22_c
 simp only [EqualFunc_L0_K, chk_eq, chkP_eq, opK_some']
 repeat' (first | exact hK _ | exact EqualFunc_L0_rel hσ _ _ _ _ | exact Rel.const | refine Rel.cnd ?_ ?_ | refine Rel.sumK (fun _ => ?_) (fun _ => ?_) | refine Rel.opK ?_ fun _ => ?_)
theorem rIsNil_c_r {σ : Nat → Nat} (hσ : ∀ n, n ≤ σ n) (a0 : Form) {R : Type} {K : Nat → ((Bool)) → Option R} {Kw : ((Bool)) → Option R} (hK : ∀ x, Rel (fun n => K n x) (Kw x)) : Rel (fun n => rIsNil_c (tb (σ n)) a0 (K n)) (rIsNil_c lim a0 Kw) := by
 unfold rIsNil_c
 repeat' (first | exact hK _ | exact rIs_rel hσ _ _ _ | exact Rel.const | refine Rel.cnd ?_ ?_ | refine Rel.sumK (fun _ => ?_) (fun _ => ?_) | refine Rel.opK ?_ fun _ => ?_)
theorem rIs_c_r {σ : Nat → Nat} (hσ : ∀ n, n ≤ σ n) (a0 : Form) (a1 : Bs) (a2 : Bs) {R : Type} {K : Nat → ((Bool)) → Option R} {Kw : ((Bool)) → Option R} (hK : ∀ x, Rel (fun n => K n x) (Kw x)) : Rel (fun n => rIs_c (tb (σ n)) a0 a1 a2 (K n)) (rIs_c lim a0 a1 a2 Kw) := by
 unfold rIs_c
 repeat' (first | exact hK _ | exact Rel.const | refine Rel.cnd ?_ ?_ | refine Rel.sumK (fun _ => ?_) (fun _ => ?_) | refine Rel.opK ?_ fun _ => ?_)
theorem Check_c_r {σ : Nat → Nat} (hσ : ∀ n, n ≤ σ n) (a0 : Form) {R : Type} {K : Nat → ((Int)) → Option R} {Kw : ((Int)) → Option R} (hK : ∀ x, Rel (fun n => K n x) (Kw x)) : Rel (fun n => Check_c (tb (σ n)) a0 (K n)) (Check_c lim a0 Kw) := by
 unfold Check_c
 simp only [through_K, through_v1_K, chk_eq, chkP_eq, opK_some']
 repeat' (first | exact hK _ | exact limited_rel hσ _ | exact through_rel hσ _ _ | exact through_v1_rel hσ _ _ _ | exact Rel.const | refine Rel.cnd ?_ ?_ | refine Rel.sumK (fun _ => ?_) (fun _ => ?_) | refine Rel.opK ?_ fun _ => ?_)
theorem limited_c_r {σ : Nat → Nat} (hσ : ∀ n, n ≤ σ n) (a0 : Form) {R : Type} {K : Nat → ((Bool)) → Option R} {Kw : ((Bool)) → Option R} (hK : ∀ x, Rel (fun n => K n x) (Kw x)) : Rel (fun n => limited_c (tb (σ n)) a0 (K n)) (limited_c lim a0 Kw) := by
 unfold limited_c
 simp only [look_K, chk_eq, chkP_eq, opK_some']
 repeat' (first | exact hK _ | exact look_rel hσ _ _ _ | exact Rel.const | refine Rel.cnd ?_ ?_ | refine Rel.sumK (fun _ => ?_) (fun _ => ?_) | refine Rel.opK ?_ fun _ => ?_)
theorem right_c_r {σ : Nat → Nat} (hσ : ∀ n, n ≤ σ n) (a0 : Form) {R : Type} {K : Nat → ((Bool)) → Option R} {Kw : ((Bool)) → Option R} (hK : ∀ x, Rel (fun n => K n x) (Kw x)) : Rel (fun n => right_c (tb (σ n)) a0 (K n)) (right_c lim a0 Kw) := by
 unfold right_c
 simp only [right_L0_K, chk_eq, chkP_eq, opK_some']
 repeat' (first | exact hK _ | exact right_L0_rel hσ _ _ _ _ _ | exact integer_rel hσ _ | exact ratio_rel hσ _ | exact hexadecimal_rel hσ _ _ | exact complex_rel hσ _ | exact dimensions_rel hσ _ | exact product_rel hσ _ | exact small_rel hσ _ _ | exact Rel.const | refine Rel.cnd ?_ ?_ | refine Rel.sumK (fun _ => ?_) (fun _ => ?_) | refine Rel.opK ?_ fun _ => ?_)
theorem dimensions_c_r {σ : Nat → Nat} (hσ : ∀ n, n ≤ σ n) (a0 : Bs) {R : Type} {K : Nat → (((List Int)) × (Bool)) → Option R} {Kw : (((List Int)) × (Bool)) → Option R} (hK : ∀ x, Rel (fun n => K n x) (Kw x)) : Rel (fun n => dimensions_c (tb (σ n)) a0 (K n)) (dimensions_c lim a0 Kw) := by
 unfold dimensions_c
 simp only [f221_L0_K, chk_eq, chkP_eq, opK_some']
 repeat' (first | exact hK _ | exact f221_L0_rel hσ _ | exact small_rel hσ _ _ | exact Rel.const | refine Rel.cnd ?_ ?_ | refine Rel.sumK (fun _ => ?_) (fun _ => ?_) | refine Rel.opK ?_ fun _ => ?_)
theorem integer_c_r {σ : Nat → Nat} (hσ : ∀ n, n ≤ σ n) (a0 : Bs) {R : Type} {K : Nat → ((Bool)) → Option R} {Kw : ((Bool)) → Option R} (hK : ∀ x, Rel (fun n => K n x) (Kw x)) : Rel (fun n => integer_c (tb (σ n)) a0 (K n)) (integer_c lim a0 Kw) := by
 unfold integer_c
 repeat' (first | exact hK _ | exact decimal_rel hσ _ | exact Rel.const | refine Rel.cnd ?_ ?_ | refine Rel.sumK (fun _ => ?_) (fun _ => ?_) | refine Rel.opK ?_ fun _ => ?_)
theorem decimal_c_r {σ : Nat → Nat} (hσ : ∀ n, n ≤ σ n) (a0 : Bs) {R : Type} {K : Nat → ((Bool)) → Option R} {Kw : ((Bool)) → Option R} (hK : ∀ x, Rel (fun n => K n x) (Kw x)) : Rel (fun n => decimal_c (tb (σ n)) a0 (K n)) (decimal_c lim a0 Kw) := by
 unfold decimal_c
 simp only [decimal_L0_K, chk_eq, chkP_eq, opK_some']
 repeat' (first | exact hK _ | exact decimal_L0_rel hσ _ _ _ | exact Rel.const | refine Rel.cnd ?_ ?_ | refine Rel.sumK (fun _ => ?_) (fun _ => ?_) | refine Rel.opK ?_ fun _ => ?_)
theorem ratio_c_r {σ : Nat → Nat} (hσ : ∀ n, n ≤ σ n) (a0 : Bs) {R : Type} {K : Nat → ((Bool)) → Option R} {Kw : ((Bool)) → Option R} (hK : ∀ x, Rel (fun n => K n x) (Kw x)) : Rel (fun n => ratio_c (tb (σ n)) a0 (K n)) (ratio_c lim a0 Kw) := by
 unfold ratio_c
 simp only [ratio_L0_K, chk_eq, chkP_eq, opK_some']
 repeat' (first | exact hK _ | exact integer_rel hσ _ | exact decimal_rel hσ _ | exact ratio_L0_rel hσ _ | exact Rel.const | refine Rel.cnd ?_ ?_ | refine Rel.sumK (fun _ => ?_) (fun _ => ?_) | refine Rel.opK ?_ fun _ => ?_)
theorem hexadecimal_c_r {σ : Nat → Nat} (hσ : ∀ n, n ≤ σ n) (a0 : Bs) (a1 : Int) {R : Type} {K : Nat → ((Bool)) → Option R} {Kw : ((Bool)) → Option R} (hK : ∀ x, Rel (fun n => K n x) (Kw x)) : Rel (fun n => hexadecimal_c (tb (σ n)) a0 a1 (K n)) (hexadecimal_c lim a0 a1 Kw) := by
 unfold hexadecimal_c
 repeat' (first | exact hK _ | exact Rel.const | refine Rel.cnd ?_ ?_ | refine Rel.sumK (fun _ => ?_) (fun _ => ?_) | refine Rel.opK ?_ fun _ => ?_)
theorem complex_c_r {σ : Nat → Nat} (hσ : ∀ n, n ≤ σ n) (a0 : (List Form)) {R : Type} {K : Nat → ((Bool)) → Option R} {Kw : ((Bool)) → Option R} (hK : ∀ x, Rel (fun n => K n x) (Kw x)) : Rel (fun n => complex_c (tb (σ n)) a0 (K n)) (complex_c lim a0 Kw) := by
 unfold complex_c
 repeat' (first | exact hK _ | exact exact_rel hσ _ | exact Rel.const | refine Rel.cnd ?_ ?_ | refine Rel.sumK (fun _ => ?_) (fun _ => ?_) | refine Rel.opK ?_ fun _ => ?_)
theorem product_c_r {σ : Nat → Nat} (hσ : ∀ n, n ≤ σ n) (a0 : (List Int)) {R : Type} {K : Nat → ((Int)) → Option R} {Kw : ((Int)) → Option R} (hK : ∀ x, Rel (fun n => K n x) (Kw x)) : Rel (fun n => product_c (tb (σ n)) a0 (K n)) (product_c lim a0 Kw) := by
 unfold product_c
 simp only [product_L0_K, chk_eq, chkP_eq, opK_some']
 repeat' (first | exact hK _ | exact IndexInt_rel hσ _ _ | exact product_L0_rel hσ _ _ _ | exact Rel.const | refine Rel.cnd ?_ ?_ | refine Rel.sumK (fun _ => ?_) (fun _ => ?_) | refine Rel.opK ?_ fun _ => ?_)
theorem small_c_r {σ : Nat → Nat} (hσ : ∀ n, n ≤ σ n) (a0 : Bs) (a1 : Int) {R : Type} {K : Nat → ((Bool)) → Option R} {Kw : ((Bool)) → Option R} (hK : ∀ x, Rel (fun n => K n x) (Kw x)) : Rel (fun n => small_c (tb (σ n)) a0 a1 (K n)) (small_c lim a0 a1 Kw) := by
 unfold small_c
 repeat' (first | exact hK _ | exact decimal_rel hσ _ | exact Rel.const | refine Rel.cnd ?_ ?_ | refine Rel.sumK (fun _ => ?_) (fun _ => ?_) | refine Rel.opK ?_ fun _ => ?_)
theorem exact_c_r {σ : Nat → Nat} (hσ : ∀ n, n ≤ σ n) (a0 : Form) {R : Type} {K : Nat → ((Bool)) → Option R} {Kw : ((Bool)) → Option R} (hK : ∀ x, Rel (fun n => K n x) (Kw x)) : Rel (fun n => exact_c (tb (σ n)) a0 (K n)) (exact_c lim a0 Kw) := by
 unfold exact_c
 repeat' (first | exact hK _ | exact Rel.const | refine Rel.cnd ?_ ?_ | refine Rel.sumK (fun _ => ?_) (fun _ => ?_) | refine Rel.opK ?_ fun _ => ?_)
theorem Dimensions_c_r {σ : Nat → Nat} (hσ : ∀ n, n ≤ σ n) (a0 : Form) {R : Type} {K : Nat → (((List Int)) × (Int)) → Option R} {Kw : (((List Int)) × (Int)) → Option R} (hK : ∀ x, Rel (fun n => K n x) (Kw x)) : Rel (fun n => Dimensions_c (tb (σ n)) a0 (K n)) (Dimensions_c lim a0 Kw) := by
 unfold Dimensions_c
 repeat' (first | exact hK _ | exact IndexInt_rel hσ _ _ | exact Check_rel hσ _ | exact dimensions_rel hσ _ | exact Rel.const | refine Rel.cnd ?_ ?_ | refine Rel.sumK (fun _ => ?_) (fun _ => ?_) | refine Rel.opK ?_ fun _ => ?_)
theorem Number_c_r {σ : Nat → Nat} (hσ : ∀ n, n ≤ σ n) (a0 : Form) {R : Type} {K : Nat → ((Bool)) → Option R} {Kw : ((Bool)) → Option R} (hK : ∀ x, Rel (fun n => K n x) (Kw x)) : Rel (fun n => Number_c (tb (σ n)) a0 (K n)) (Number_c lim a0 Kw) := by
 unfold Number_c
 repeat' (first | exact hK _ | exact Rel.const | refine Rel.cnd ?_ ?_ | refine Rel.sumK (fun _ => ?_) (fun _ => ?_) | refine Rel.opK ?_ fun _ => ?_)
theorem IndexInt_c_r {σ : Nat → Nat} (hσ : ∀ n, n ≤ σ n) (a0 : (List Int)) (a1 : Int) {R : Type} {K : Nat → ((Int)) → Option R} {Kw : ((Int)) → Option R} (hK : ∀ x, Rel (fun n => K n x) (Kw x)) : Rel (fun n => IndexInt_c (tb (σ n)) a0 a1 (K n)) (IndexInt_c lim a0 a1 Kw) := by
 unfold IndexInt_c
 simp only [IndexInt_L0_K, chk_eq, chkP_eq, opK_some']
 repeat' (first | exact hK _ | exact IndexInt_L0_rel hσ _ _ _ _ | exact Rel.const | refine Rel.cnd ?_ ?_ | refine Rel.sumK (fun _ => ?_) (fun _ => ?_) | refine Rel.opK ?_ fun _ => ?_)
theorem rCheck_c_r {σ : Nat → Nat} (hσ : ∀ n, n ≤ σ n) (a0 : Form) {R : Type} {K : Nat → ((Int)) → Option R} {Kw : ((Int)) → Option R} (hK : ∀ x, Rel (fun n => K n x) (Kw x)) : Rel (fun n => rCheck_c (tb (σ n)) a0 (K n)) (rCheck_c lim a0 Kw) := by
 unfold rCheck_c
 simp only [labels_K, chk_eq, chkP_eq, opK_some']
 repeat' (first | exact hK _ | exact rSize_rel hσ _ | exact nodes_rel hσ _ | exact labels_rel hσ _ _ | exact Rel.const | refine Rel.cnd ?_ ?_ | refine Rel.sumK (fun _ => ?_) (fun _ => ?_) | refine Rel.opK ?_ fun _ => ?_)
theorem rDimensions_c_r {σ : Nat → Nat} (hσ : ∀ n, n ≤ σ n) (a0 : Form) {R : Type} {K : Nat → (((List Int)) × (Int)) → Option R} {Kw : (((List Int)) × (Int)) → Option R} (hK : ∀ x, Rel (fun n => K n x) (Kw x)) : Rel (fun n => rDimensions_c (tb (σ n)) a0 (K n)) (rDimensions_c lim a0 Kw) := by
 unfold rDimensions_c
 repeat' (first | exact hK _ | exact rCheck_rel hσ _ | exact rdimensions_rel hσ _ | exact Rel.const | refine Rel.cnd ?_ ?_ | refine Rel.sumK (fun _ => ?_) (fun _ => ?_) | refine Rel.opK ?_ fun _ => ?_)
theorem rdimensions_c_r {σ : Nat → Nat} (hσ : ∀ n, n ≤ σ n) (a0 : Bs) {R : Type} {K : Nat → (((List Int)) × (Bool)) → Option R} {Kw : (((List Int)) × (Bool)) → Option R} (hK : ∀ x, Rel (fun n => K n x) (Kw x)) : Rel (fun n => rdimensions_c (tb (σ n)) a0 (K n)) (rdimensions_c lim a0 Kw) := by
 unfold rdimensions_c
 simp only [rdimensions_L0_K, chk_eq, chkP_eq, opK_some']
 repeat' (first | exact hK _ | exact rdimensions_L0_rel hσ _ _ | exact Rel.const | refine Rel.cnd ?_ ?_ | refine Rel.sumK (fun _ => ?_) (fun _ => ?_) | refine Rel.opK ?_ fun _ => ?_)
theorem nodes_c_r {σ : Nat → Nat} (hσ : ∀ n, n ≤ σ n) (a0 : Form) {R : Type} {K : Nat → ((Bool)) → Option R} {Kw : ((Bool)) → Option R} (hK : ∀ x, Rel (fun n => K n x) (Kw x)) : Rel (fun n => nodes_c (tb (σ n)) a0 (K n)) (nodes_c lim a0 Kw) := by
 unfold nodes_c
 simp only [nodes_L0_K, chk_eq, chkP_eq, opK_some']
 repeat' (first | exact hK _ | exact node_rel hσ _ | exact nodes_L0_rel hσ _ _ _ _ _ | exact Rel.const | refine Rel.cnd ?_ ?_ | refine Rel.sumK (fun _ => ?_) (fun _ => ?_) | refine Rel.opK ?_ fun _ => ?_)
theorem node_c_r {σ : Nat → Nat} (hσ : ∀ n, n ≤ σ n) (a0 : Form) {R : Type} {K : Nat → ((Bool)) → Option R} {Kw : ((Bool)) → Option R} (hK : ∀ x, Rel (fun n => K n x) (Kw x)) : Rel (fun n => node_c (tb (σ n)) a0 (K n)) (node_c lim a0 Kw) := by
 unfold node_c
 repeat' (first | exact hK _ | exact parts_rel hσ _ _ | exact rdimensions_rel hσ _ | exact rproduct_rel hσ _ | exact label_rel hσ _ | exact atom_rel hσ _ | exact Rel.const | refine Rel.cnd ?_ ?_ | refine Rel.sumK (fun _ => ?_) (fun _ => ?_) | refine Rel.opK ?_ fun _ => ?_)
theorem within_c_r {σ : Nat → Nat} (hσ : ∀ n, n ≤ σ n) (a0 : (List Bs)) (a1 : Bs) {R : Type} {K : Nat → ((Bool)) → Option R} {Kw : ((Bool)) → Option R} (hK : ∀ x, Rel (fun n => K n x) (Kw x)) : Rel (fun n => within_c (tb (σ n)) a0 a1 (K n)) (within_c lim a0 a1 Kw) := by
 unfold within_c
 simp only [within_L0_K, chk_eq, chkP_eq, opK_some']
 repeat' (first | exact hK _ | exact within_L0_rel hσ _ _ _ | exact Rel.const | refine Rel.cnd ?_ ?_ | refine Rel.sumK (fun _ => ?_) (fun _ => ?_) | refine Rel.opK ?_ fun _ => ?_)
theorem digits_c_r {σ : Nat → Nat} (hσ : ∀ n, n ≤ σ n) (a0 : Bs) {R : Type} {K : Nat → ((Bool)) → Option R} {Kw : ((Bool)) → Option R} (hK : ∀ x, Rel (fun n => K n x) (Kw x)) : Rel (fun n => digits_c (tb (σ n)) a0 (K n)) (digits_c lim a0 Kw) := by
 unfold digits_c
 simp only [digits_L0_K, chk_eq, chkP_eq, opK_some']
 repeat' (first | exact hK _ | exact digits_L0_rel hσ _ _ | exact Rel.const | refine Rel.cnd ?_ ?_ | refine Rel.sumK (fun _ => ?_) (fun _ => ?_) | refine Rel.opK ?_ fun _ => ?_)
theorem value_c_r {σ : Nat → Nat} (hσ : ∀ n, n ≤ σ n) (a0 : Bs) {R : Type} {K : Nat → ((Int)) → Option R} {Kw : ((Int)) → Option R} (hK : ∀ x, Rel (fun n => K n x) (Kw x)) : Rel (fun n => value_c (tb (σ n)) a0 (K n)) (value_c lim a0 Kw) := by
 unfold value_c
 simp only [value_L0_K, chk_eq, chkP_eq, opK_some']
 repeat' (first | exact hK _ | exact value_L0_rel hσ _ _ | exact Rel.const | refine Rel.cnd ?_ ?_ | refine Rel.sumK (fun _ => ?_) (fun _ => ?_) | refine Rel.opK ?_ fun _ => ?_)
theorem parts_c_r {σ : Nat → Nat} (hσ : ∀ n, n ≤ σ n) (a0 : Form) (a1 : Form) {R : Type} {K : Nat → ((Bool)) → Option R} {Kw : ((Bool)) → Option R} (hK : ∀ x, Rel (fun n => K n x) (Kw x)) : Rel (fun n => parts_c (tb (σ n)) a0 a1 (K n)) (parts_c lim a0 a1 Kw) := by
 unfold parts_c
 repeat' (first | exact hK _ | exact rexact_rel hσ _ | exact Rel.const | refine Rel.cnd ?_ ?_ | refine Rel.sumK (fun _ => ?_) (fun _ => ?_) | refine Rel.opK ?_ fun _ => ?_)
theorem rproduct_c_r {σ : Nat → Nat} (hσ : ∀ n, n ≤ σ n) (a0 : (List Int)) {R : Type} {K : Nat → ((Int)) → Option R} {Kw : ((Int)) → Option R} (hK : ∀ x, Rel (fun n => K n x) (Kw x)) : Rel (fun n => rproduct_c (tb (σ n)) a0 (K n)) (rproduct_c lim a0 Kw) := by
 unfold rproduct_c
 simp only [rproduct_L0_K, rproduct_L1_K, chk_eq, chkP_eq, opK_some']
 repeat' (first | exact hK _ | exact rproduct_L0_rel hσ _ _ | exact rproduct_L1_rel hσ _ _ | exact Rel.const | refine Rel.cnd ?_ ?_ | refine Rel.sumK (fun _ => ?_) (fun _ => ?_) | refine Rel.opK ?_ fun _ => ?_)
theorem label_c_r {σ : Nat → Nat} (hσ : ∀ n, n ≤ σ n) (a0 : Bs) {R : Type} {K : Nat → ((Bool)) → Option R} {Kw : ((Bool)) → Option R} (hK : ∀ x, Rel (fun n => K n x) (Kw x)) : Rel (fun n => label_c (tb (σ n)) a0 (K n)) (label_c lim a0 Kw) := by
 unfold label_c
 repeat' (first | exact hK _ | exact digits_rel hσ _ | exact Rel.const | refine Rel.cnd ?_ ?_ | refine Rel.sumK (fun _ => ?_) (fun _ => ?_) | refine Rel.opK ?_ fun _ => ?_)
theorem atom_c_r {σ : Nat → Nat} (hσ : ∀ n, n ≤ σ n) (a0 : Form) {R : Type} {K : Nat → ((Bool)) → Option R} {Kw : ((Bool)) → Option R} (hK : ∀ x, Rel (fun n => K n x) (Kw x)) : Rel (fun n => atom_c (tb (σ n)) a0 (K n)) (atom_c lim a0 Kw) := by
 unfold atom_c
 simp only [atom_L0_K, chk_eq, chkP_eq, opK_some']
 repeat' (first | exact hK _ | exact whole_rel hσ _ | exact rratio_rel hσ _ | exact hex_rel hσ _ _ | exact atom_L0_rel hσ _ _ _ _ _ | exact label_rel hσ _ | exact Rel.const | refine Rel.cnd ?_ ?_ | refine Rel.sumK (fun _ => ?_) (fun _ => ?_) | refine Rel.opK ?_ fun _ => ?_)
theorem rexact_c_r {σ : Nat → Nat} (hσ : ∀ n, n ≤ σ n) (a0 : Form) {R : Type} {K : Nat → ((Bool)) → Option R} {Kw : ((Bool)) → Option R} (hK : ∀ x, Rel (fun n => K n x) (Kw x)) : Rel (fun n => rexact_c (tb (σ n)) a0 (K n)) (rexact_c lim a0 Kw) := by
 unfold rexact_c
 repeat' (first | exact hK _ | exact Rel.const | refine Rel.cnd ?_ ?_ | refine Rel.sumK (fun _ => ?_) (fun _ => ?_) | refine Rel.opK ?_ fun _ => ?_)
theorem whole_c_r {σ : Nat → Nat} (hσ : ∀ n, n ≤ σ n) (a0 : Bs) {R : Type} {K : Nat → ((Bool)) → Option R} {Kw : ((Bool)) → Option R} (hK : ∀ x, Rel (fun n => K n x) (Kw x)) : Rel (fun n => whole_c (tb (σ n)) a0 (K n)) (whole_c lim a0 Kw) := by
 unfold whole_c
 repeat' (first | exact hK _ | exact digits_rel hσ _ | exact Rel.const | refine Rel.cnd ?_ ?_ | refine Rel.sumK (fun _ => ?_) (fun _ => ?_) | refine Rel.opK ?_ fun _ => ?_)
theorem rratio_c_r {σ : Nat → Nat} (hσ : ∀ n, n ≤ σ n) (a0 : Bs) {R : Type} {K : Nat → ((Bool)) → Option R} {Kw : ((Bool)) → Option R} (hK : ∀ x, Rel (fun n => K n x) (Kw x)) : Rel (fun n => rratio_c (tb (σ n)) a0 (K n)) (rratio_c lim a0 Kw) := by
 unfold rratio_c
 simp only [rratio_L0_K, rratio_L1_K, chk_eq, chkP_eq, opK_some']
 repeat' (first | exact hK _ | exact rratio_L0_rel hσ _ _ | exact whole_rel hσ _ | exact digits_rel hσ _ | exact value_rel hσ _ | exact rratio_L1_rel hσ _ | exact Rel.const | refine Rel.cnd ?_ ?_ | refine Rel.sumK (fun _ => ?_) (fun _ => ?_) | refine Rel.opK ?_ fun _ => ?_)
theorem hex_c_r {σ : Nat → Nat} (hσ : ∀ n, n ≤ σ n) (a0 : Bs) (a1 : Int) {R : Type} {K : Nat → ((Bool)) → Option R} {Kw : ((Bool)) → Option R} (hK : ∀ x, Rel (fun n => K n x) (Kw x)) : Rel (fun n => hex_c (tb (σ n)) a0 a1 (K n)) (hex_c lim a0 a1 Kw) := by
 unfold hex_c
 simp only [hex_L0_K, chk_eq, chkP_eq, opK_some']
 repeat' (first | exact hK _ | exact hex_L0_rel hσ _ _ _ | exact Rel.const | refine Rel.cnd ?_ ?_ | refine Rel.sumK (fun _ => ?_) (fun _ => ?_) | refine Rel.opK ?_ fun _ => ?_)
theorem rNumber_c_r {σ : Nat → Nat} (hσ : ∀ n, n ≤ σ n) (a0 : Form) {R : Type} {K : Nat → ((Bool)) → Option R} {Kw : ((Bool)) → Option R} (hK : ∀ x, Rel (fun n => K n x) (Kw x)) : Rel (fun n => rNumber_c (tb (σ n)) a0 (K n)) (rNumber_c lim a0 Kw) := by
 unfold rNumber_c
 repeat' (first | exact hK _ | exact Rel.const | refine Rel.cnd ?_ ?_ | refine Rel.sumK (fun _ => ?_) (fun _ => ?_) | refine Rel.opK ?_ fun _ => ?_)
theorem FormChecks_c_r {σ : Nat → Nat} (hσ : ∀ n, n ≤ σ n) (a0 : Form) (a1 : Form) (a2 : Bs) (a3 : Bs) {R : Type} {K : Nat → ((Bool)) → Option R} {Kw : ((Bool)) → Option R} (hK : ∀ x, Rel (fun n => K n x) (Kw x)) : Rel (fun n => FormChecks_c (tb (σ n)) a0 a1 a2 a3 (K n)) (FormChecks_c lim a0 a1 a2 a3 Kw) := by
 unfold FormChecks_c
 simp only [FormChecks_L0_K, chk_eq, chkP_eq, opK_some']
 repeat' (first | exact hK _ | exact Few_rel hσ _ _ | exact awakeTrees_rel hσ | exact Size_rel hσ _ | exact rSize_rel hσ _ | exact Dimensions_rel hσ _ | exact rDimensions_rel hσ _ | exact Check_rel hσ _ | exact rCheck_rel hσ _ | exact FormChecks_L0_rel hσ _ _ _ _ _ _ _ _ _ _ _ _ _ _ | exact IsNil_rel hσ _ | exact rIsNil_rel hσ _ | exact Is_rel hσ _ _ _ | exact rIs_rel hσ _ _ _ | exact Number_rel hσ _ | exact rNumber_rel hσ _ | exact Equal_rel hσ _ _ | exact rEqual_rel hσ _ _ | exact Rel.const | refine Rel.cnd ?_ ?_ | refine Rel.sumK (fun _ => ?_) (fun _ => ?_) | refine Rel.opK ?_ fun _ => ?_)
theorem rSize_c_r {σ : Nat → Nat} (hσ : ∀ n, n ≤ σ n) (a0 : Form) {R : Type} {K : Nat → ((Int) × (Int)) → Option R} {Kw : ((Int) × (Int)) → Option R} (hK : ∀ x, Rel (fun n => K n x) (Kw x)) : Rel (fun n => rSize_c (tb (σ n)) a0 (K n)) (rSize_c lim a0 Kw) := by
 unfold rSize_c
 simp only [rSize_L0_K, chk_eq, chkP_eq, opK_some']
 repeat' (first | exact hK _ | exact rSize_L0_rel hσ _ _ _ _ _ | exact Rel.const | refine Rel.cnd ?_ ?_ | refine Rel.sumK (fun _ => ?_) (fun _ => ?_) | refine Rel.opK ?_ fun _ => ?_)
theorem through_eq (p0 : Form) (p1 : Int) : lim.through p0 p1 = through_c lim p0 p1 some := (through_rel (σ := fun n => n) (fun n => Nat.le_refl n) p0 p1).uniq (Rel.shift (through_c_r (σ := fun n => n) (fun n => Nat.le_refl n) p0 p1 fun _ => Rel.const) rfl)
theorem through_v1_eq (p0 : Form) (p1 : Int) (p2 : List (Bs × Bool)) : lim.through_v1 p0 p1 p2 = through_v1_c lim p0 p1 p2 some := (through_v1_rel (σ := fun n => n) (fun n => Nat.le_refl n) p0 p1 p2).uniq (Rel.shift (through_v1_c_r (σ := fun n => n) (fun n => Nat.le_refl n) p0 p1 p2 fun _ => Rel.const) rfl)
theorem look_eq (p0 : Form) (p1 : Int) (p2 : Int) : lim.look p0 p1 p2 = look_c lim p0 p1 p2 some := (look_rel (σ := fun n => n) (fun n => Nat.le_refl n) p0 p1 p2).uniq (Rel.shift (look_c_r (σ := fun n => n) (fun n => Nat.le_refl n) p0 p1 p2 fun _ => Rel.const) rfl)
theorem labels_eq (p0 : Form) (p1 : List Bs) : lim.labels p0 p1 = labels_c lim p0 p1 some := (labels_rel (σ := fun n => n) (fun n => Nat.le_refl n) p0 p1).uniq (Rel.shift (labels_c_r (σ := fun n => n) (fun n => Nat.le_refl n) p0 p1 fun _ => Rel.const) rfl)
theorem Size_eq (a0 : Form) : lim.Size a0 = Size_c lim a0 some := (Size_rel (σ := fun n => n) (fun n => Nat.le_refl n) a0).uniq (Rel.shift (Size_c_r (σ := fun n => n) (fun n => Nat.le_refl n) a0 fun _ => Rel.const) rfl)
theorem rEqual_eq (a0 : Form) (a1 : Form) : lim.rEqual a0 a1 = rEqual_c lim a0 a1 some := (rEqual_rel (σ := fun n => n) (fun n => Nat.le_refl n) a0 a1).uniq (Rel.shift (rEqual_c_r (σ := fun n => n) (fun n => Nat.le_refl n) a0 a1 fun _ => Rel.const) rfl)
theorem left_eq (a0 : Form) (a1 : Int) : lim.left a0 a1 = left_c lim a0 a1 some := (left_rel (σ := fun n => n) (fun n => Nat.le_refl n) a0 a1).uniq (Rel.shift (left_c_r (σ := fun n => n) (fun n => Nat.le_refl n) a0 a1 fun _ => Rel.const) rfl)
theorem Few_eq (a0 : Form) (a1 : Int) : lim.Few a0 a1 = Few_c lim a0 a1 some := (Few_rel (σ := fun n => n) (fun n => Nat.le_refl n) a0 a1).uniq (Rel.shift (Few_c_r (σ := fun n => n) (fun n => Nat.le_refl n) a0 a1 fun _ => Rel.const) rfl)
theorem IsNil_eq (a0 : Form) : lim.IsNil a0 = IsNil_c lim a0 some := (IsNil_rel (σ := fun n => n) (fun n => Nat.le_refl n) a0).uniq (Rel.shift (IsNil_c_r (σ := fun n => n) (fun n => Nat.le_refl n) a0 fun _ => Rel.const) rfl)
theorem Is_eq (a0 : Form) (a1 : Bs) (a2 : Bs) : lim.Is a0 a1 a2 = Is_c lim a0 a1 a2 some := (Is_rel (σ := fun n => n) (fun n => Nat.le_refl n) a0 a1 a2).uniq (Rel.shift (Is_c_r (σ := fun n => n) (fun n => Nat.le_refl n) a0 a1 a2 fun _ => Rel.const) rfl)
theorem Equal_eq (a0 : Form) (a1 : Form) : lim.Equal a0 a1 = Equal_c lim a0 a1 some := (Equal_rel (σ := fun n => n) (fun n => Nat.le_refl n) a0 a1).uniq (Rel.shift (Equal_c_r (σ := fun n => n) (fun n => Nat.le_refl n) a0 a1 fun _ => Rel.const) rfl)
theorem EqualFunc_f22_eq (a0 : (List Form)) (a1 : (List Form)) : lim.EqualFunc_f22 a0 a1 = EqualFunc_f22_c lim a0 a1 some := (EqualFunc_f22_rel (σ := fun n => n) (fun n => Nat.le_refl n) a0 a1).uniq (Rel.shift (EqualFunc_f22_c_r (σ := fun n => n) (fun n => Nat.le_refl n) a0 a1 fun _ => Rel.const) rfl)
theorem rIsNil_eq (a0 : Form) : lim.rIsNil a0 = rIsNil_c lim a0 some := (rIsNil_rel (σ := fun n => n) (fun n => Nat.le_refl n) a0).uniq (Rel.shift (rIsNil_c_r (σ := fun n => n) (fun n => Nat.le_refl n) a0 fun _ => Rel.const) rfl)
theorem rIs_eq (a0 : Form) (a1 : Bs) (a2 : Bs) : lim.rIs a0 a1 a2 = rIs_c lim a0 a1 a2 some := (rIs_rel (σ := fun n => n) (fun n => Nat.le_refl n) a0 a1 a2).uniq (Rel.shift (rIs_c_r (σ := fun n => n) (fun n => Nat.le_refl n) a0 a1 a2 fun _ => Rel.const) rfl)
theorem Check_eq (a0 : Form) : lim.Check a0 = Check_c lim a0 some := (Check_rel (σ := fun n => n) (fun n => Nat.le_refl n) a0).uniq (Rel.shift (Check_c_r (σ := fun n => n) (fun n => Nat.le_refl n) a0 fun _ => Rel.const) rfl)
theorem limited_eq (a0 : Form) : lim.limited a0 = limited_c lim a0 some := (limited_rel (σ := fun n => n) (fun n => Nat.le_refl n) a0).uniq (Rel.shift (limited_c_r (σ := fun n => n) (fun n => Nat.le_refl n) a0 fun _ => Rel.const) rfl)
theorem right_eq (a0 : Form) : lim.right a0 = right_c lim a0 some := (right_rel (σ := fun n => n) (fun n => Nat.le_refl n) a0).uniq (Rel.shift (right_c_r (σ := fun n => n) (fun n => Nat.le_refl n) a0 fun _ => Rel.const) rfl)
theorem dimensions_eq (a0 : Bs) : lim.dimensions a0 = dimensions_c lim a0 some := (dimensions_rel (σ := fun n => n) (fun n => Nat.le_refl n) a0).uniq (Rel.shift (dimensions_c_r (σ := fun n => n) (fun n => Nat.le_refl n) a0 fun _ => Rel.const) rfl)
theorem integer_eq (a0 : Bs) : lim.integer a0 = integer_c lim a0 some := (integer_rel (σ := fun n => n) (fun n => Nat.le_refl n) a0).uniq (Rel.shift (integer_c_r (σ := fun n => n) (fun n => Nat.le_refl n) a0 fun _ => Rel.const) rfl)
theorem decimal_eq (a0 : Bs) : lim.decimal a0 = decimal_c lim a0 some := (decimal_rel (σ := fun n => n) (fun n => Nat.le_refl n) a0).uniq (Rel.shift (decimal_c_r (σ := fun n => n) (fun n => Nat.le_refl n) a0 fun _ => Rel.const) rfl)
theorem ratio_eq (a0 : Bs) : lim.ratio a0 = ratio_c lim a0 some := (ratio_rel (σ := fun n => n) (fun n => Nat.le_refl n) a0).uniq (Rel.shift (ratio_c_r (σ := fun n => n) (fun n => Nat.le_refl n) a0 fun _ => Rel.const) rfl)
theorem hexadecimal_eq (a0 : Bs) (a1 : Int) : lim.hexadecimal a0 a1 = hexadecimal_c lim a0 a1 some := (hexadecimal_rel (σ := fun n => n) (fun n => Nat.le_refl n) a0 a1).uniq (Rel.shift (hexadecimal_c_r (σ := fun n => n) (fun n => Nat.le_refl n) a0 a1 fun _ => Rel.const) rfl)
theorem complex_eq (a0 : (List Form)) : lim.complex a0 = complex_c lim a0 some := (complex_rel (σ := fun n => n) (fun n => Nat.le_refl n) a0).uniq (Rel.shift (complex_c_r (σ := fun n => n) (fun n => Nat.le_refl n) a0 fun _ => Rel.const) rfl)
theorem product_eq (a0 : (List Int)) : lim.product a0 = product_c lim a0 some := (product_rel (σ := fun n => n) (fun n => Nat.le_refl n) a0).uniq (Rel.shift (product_c_r (σ := fun n => n) (fun n => Nat.le_refl n) a0 fun _ => Rel.const) rfl)
theorem small_eq (a0 : Bs) (a1 : Int) : lim.small a0 a1 = small_c lim a0 a1 some := (small_rel (σ := fun n => n) (fun n => Nat.le_refl n) a0 a1).uniq (Rel.shift (small_c_r (σ := fun n => n) (fun n => Nat.le_refl n) a0 a1 fun _ => Rel.const) rfl)
theorem exact_eq (a0 : Form) : lim.exact a0 = exact_c lim a0 some := (exact_rel (σ := fun n => n) (fun n => Nat.le_refl n) a0).uniq (Rel.shift (exact_c_r (σ := fun n => n) (fun n => Nat.le_refl n) a0 fun _ => Rel.const) rfl)
theorem Dimensions_eq (a0 : Form) : lim.Dimensions a0 = Dimensions_c lim a0 some := (Dimensions_rel (σ := fun n => n) (fun n => Nat.le_refl n) a0).uniq (Rel.shift (Dimensions_c_r (σ := fun n => n) (fun n => Nat.le_refl n) a0 fun _ => Rel.const) rfl)
theorem Number_eq (a0 : Form) : lim.Number a0 = Number_c lim a0 some := (Number_rel (σ := fun n => n) (fun n => Nat.le_refl n) a0).uniq (Rel.shift (Number_c_r (σ := fun n => n) (fun n => Nat.le_refl n) a0 fun _ => Rel.const) rfl)
theorem IndexInt_eq (a0 : (List Int)) (a1 : Int) : lim.IndexInt a0 a1 = IndexInt_c lim a0 a1 some := (IndexInt_rel (σ := fun n => n) (fun n => Nat.le_refl n) a0 a1).uniq (Rel.shift (IndexInt_c_r (σ := fun n => n) (fun n => Nat.le_refl n) a0 a1 fun _ => Rel.const) rfl)
theorem rCheck_eq (a0 : Form) : lim.rCheck a0 = rCheck_c lim a0 some := (rCheck_rel (σ := fun n => n) (fun n => Nat.le_refl n) a0).uniq (Rel.shift (rCheck_c_r (σ := fun n => n) (fun n => Nat.le_refl n) a0 fun _ => Rel.const) rfl)
theorem rDimensions_eq (a0 : Form) : lim.rDimensions a0 = rDimensions_c lim a0 some := (rDimensions_rel (σ := fun n => n) (fun n => Nat.le_refl n) a0).uniq (Rel.shift (rDimensions_c_r (σ := fun n => n) (fun n => Nat.le_refl n) a0 fun _ => Rel.const) rfl)
theorem rdimensions_eq (a0 : Bs) : lim.rdimensions a0 = rdimensions_c lim a0 some := (rdimensions_rel (σ := fun n => n) (fun n => Nat.le_refl n) a0).uniq (Rel.shift (rdimensions_c_r (σ := fun n => n) (fun n => Nat.le_refl n) a0 fun _ => Rel.const) rfl)
theorem nodes_eq (a0 : Form) : lim.nodes a0 = nodes_c lim a0 some := (nodes_rel (σ := fun n => n) (fun n => Nat.le_refl n) a0).uniq (Rel.shift (nodes_c_r (σ := fun n => n) (fun n => Nat.le_refl n) a0 fun _ => Rel.const) rfl)
theorem node_eq (a0 : Form) : lim.node a0 = node_c lim a0 some := (node_rel (σ := fun n => n) (fun n => Nat.le_refl n) a0).uniq (Rel.shift (node_c_r (σ := fun n => n) (fun n => Nat.le_refl n) a0 fun _ => Rel.const) rfl)
theorem within_eq (a0 : (List Bs)) (a1 : Bs) : lim.within a0 a1 = within_c lim a0 a1 some := (within_rel (σ := fun n => n) (fun n => Nat.le_refl n) a0 a1).uniq (Rel.shift (within_c_r (σ := fun n => n) (fun n => Nat.le_refl n) a0 a1 fun _ => Rel.const) rfl)
theorem digits_eq (a0 : Bs) : lim.digits a0 = digits_c lim a0 some := (digits_rel (σ := fun n => n) (fun n => Nat.le_refl n) a0).uniq (Rel.shift (digits_c_r (σ := fun n => n) (fun n => Nat.le_refl n) a0 fun _ => Rel.const) rfl)
theorem value_eq (a0 : Bs) : lim.value a0 = value_c lim a0 some := (value_rel (σ := fun n => n) (fun n => Nat.le_refl n) a0).uniq (Rel.shift (value_c_r (σ := fun n => n) (fun n => Nat.le_refl n) a0 fun _ => Rel.const) rfl)
theorem parts_eq (a0 : Form) (a1 : Form) : lim.parts a0 a1 = parts_c lim a0 a1 some := (parts_rel (σ := fun n => n) (fun n => Nat.le_refl n) a0 a1).uniq (Rel.shift (parts_c_r (σ := fun n => n) (fun n => Nat.le_refl n) a0 a1 fun _ => Rel.const) rfl)
theorem rproduct_eq (a0 : (List Int)) : lim.rproduct a0 = rproduct_c lim a0 some := (rproduct_rel (σ := fun n => n) (fun n => Nat.le_refl n) a0).uniq (Rel.shift (rproduct_c_r (σ := fun n => n) (fun n => Nat.le_refl n) a0 fun _ => Rel.const) rfl)
theorem label_eq (a0 : Bs) : lim.label a0 = label_c lim a0 some := (label_rel (σ := fun n => n) (fun n => Nat.le_refl n) a0).uniq (Rel.shift (label_c_r (σ := fun n => n) (fun n => Nat.le_refl n) a0 fun _ => Rel.const) rfl)
theorem atom_eq (a0 : Form) : lim.atom a0 = atom_c lim a0 some := (atom_rel (σ := fun n => n) (fun n => Nat.le_refl n) a0).uniq (Rel.shift (atom_c_r (σ := fun n => n) (fun n => Nat.le_refl n) a0 fun _ => Rel.const) rfl)
theorem rexact_eq (a0 : Form) : lim.rexact a0 = rexact_c lim a0 some := (rexact_rel (σ := fun n => n) (fun n => Nat.le_refl n) a0).uniq (Rel.shift (rexact_c_r (σ := fun n => n) (fun n => Nat.le_refl n) a0 fun _ => Rel.const) rfl)
theorem whole_eq (a0 : Bs) : lim.whole a0 = whole_c lim a0 some := (whole_rel (σ := fun n => n) (fun n => Nat.le_refl n) a0).uniq (Rel.shift (whole_c_r (σ := fun n => n) (fun n => Nat.le_refl n) a0 fun _ => Rel.const) rfl)
theorem rratio_eq (a0 : Bs) : lim.rratio a0 = rratio_c lim a0 some := (rratio_rel (σ := fun n => n) (fun n => Nat.le_refl n) a0).uniq (Rel.shift (rratio_c_r (σ := fun n => n) (fun n => Nat.le_refl n) a0 fun _ => Rel.const) rfl)
theorem hex_eq (a0 : Bs) (a1 : Int) : lim.hex a0 a1 = hex_c lim a0 a1 some := (hex_rel (σ := fun n => n) (fun n => Nat.le_refl n) a0 a1).uniq (Rel.shift (hex_c_r (σ := fun n => n) (fun n => Nat.le_refl n) a0 a1 fun _ => Rel.const) rfl)
theorem rNumber_eq (a0 : Form) : lim.rNumber a0 = rNumber_c lim a0 some := (rNumber_rel (σ := fun n => n) (fun n => Nat.le_refl n) a0).uniq (Rel.shift (rNumber_c_r (σ := fun n => n) (fun n => Nat.le_refl n) a0 fun _ => Rel.const) rfl)
theorem FormChecks_eq (a0 : Form) (a1 : Form) (a2 : Bs) (a3 : Bs) : lim.FormChecks a0 a1 a2 a3 = FormChecks_c lim a0 a1 a2 a3 some := (FormChecks_rel (σ := fun n => n) (fun n => Nat.le_refl n) a0 a1 a2 a3).uniq (Rel.shift (FormChecks_c_r (σ := fun n => n) (fun n => Nat.le_refl n) a0 a1 a2 a3 fun _ => Rel.const) rfl)
theorem rSize_eq (a0 : Form) : lim.rSize a0 = rSize_c lim a0 some := (rSize_rel (σ := fun n => n) (fun n => Nat.le_refl n) a0).uniq (Rel.shift (rSize_c_r (σ := fun n => n) (fun n => Nat.le_refl n) a0 fun _ => Rel.const) rfl)
theorem Size_L0_eq (p0 : List Form) (p1 : Int) (p2 : Int) (p3 : Bs) (p4 : Bs) (v : (Int) × (Int) × (Int)) : lim.Size_L0 p0 p1 p2 p3 p4 v = Size_L0_R lim p0 p1 p2 p3 p4 v fun x => sumK x some fun v => lim.Size_L0 p0 p1 p2 p3 p4 v :=
 iterL_eq (R := fun n v K => Size_L0_R (tb n) p0 p1 p2 p3 p4 v K) (Rw := fun v K => Size_L0_R lim p0 p1 p2 p3 p4 v K) (L := fun v => lim.Size_L0 p0 p1 p2 p3 p4 v) (fun v => rel_unstep (Size_L0_rel (σ := fun n => n) (fun n => Nat.le_refl n) p0 p1 p2 p3 p4 v) (fun n => rfl)) (fun {_ _} hab v {K K'} hK => Size_L0_R_m (tb_mono hab) p0 p1 p2 p3 p4 v hK) (fun v {K Kw} hK => Size_L0_R_r (σ := fun n => n + 1) (fun n => Nat.le_succ n) p0 p1 p2 p3 p4 v hK) v
theorem rEqual_L0_eq (p0 : Int) (p1 : Bs) (p2 : Bs) (p3 : List Form) (p4 : Int) (p5 : Bs) (p6 : Bs) (p7 : List Form) (v : (Int)) : lim.rEqual_L0 p0 p1 p2 p3 p4 p5 p6 p7 v = rEqual_L0_R lim p0 p1 p2 p3 p4 p5 p6 p7 v fun x => sumK x some fun v => lim.rEqual_L0 p0 p1 p2 p3 p4 p5 p6 p7 v :=
 iterL_eq (R := fun n v K => rEqual_L0_R (tb n) p0 p1 p2 p3 p4 p5 p6 p7 v K) (Rw := fun v K => rEqual_L0_R lim p0 p1 p2 p3 p4 p5 p6 p7 v K) (L := fun v => lim.rEqual_L0 p0 p1 p2 p3 p4 p5 p6 p7 v) (fun v => rel_unstep (rEqual_L0_rel (σ := fun n => n) (fun n => Nat.le_refl n) p0 p1 p2 p3 p4 p5 p6 p7 v) (fun n => rfl)) (fun {_ _} hab v {K K'} hK => rEqual_L0_R_m (tb_mono hab) p0 p1 p2 p3 p4 p5 p6 p7 v hK) (fun v {K Kw} hK => rEqual_L0_R_r (σ := fun n => n + 1) (fun n => Nat.le_succ n) p0 p1 p2 p3 p4 p5 p6 p7 v hK) v
theorem left_L0_eq (p0 : Int) (p1 : Bs) (p2 : Bs) (p3 : List Form) (v : (Int) × (Int)) : lim.left_L0 p0 p1 p2 p3 v = left_L0_R lim p0 p1 p2 p3 v fun x => sumK x some fun v => lim.left_L0 p0 p1 p2 p3 v :=
 iterL_eq (R := fun n v K => left_L0_R (tb n) p0 p1 p2 p3 v K) (Rw := fun v K => left_L0_R lim p0 p1 p2 p3 v K) (L := fun v => lim.left_L0 p0 p1 p2 p3 v) (fun v => rel_unstep (left_L0_rel (σ := fun n => n) (fun n => Nat.le_refl n) p0 p1 p2 p3 v) (fun n => rfl)) (fun {_ _} hab v {K K'} hK => left_L0_R_m (tb_mono hab) p0 p1 p2 p3 v hK) (fun v {K Kw} hK => left_L0_R_r (σ := fun n => n + 1) (fun n => Nat.le_succ n) p0 p1 p2 p3 v hK) v
theorem EqualFunc_L0_eq (p0 : List Form) (p1 : List Form) (p2 : Int) (v : (Int)) : lim.EqualFunc_L0 p0 p1 p2 v = EqualFunc_L0_R lim p0 p1 p2 v fun x => sumK x some fun v => lim.EqualFunc_L0 p0 p1 p2 v :=
 iterL_eq (R := fun n v K => EqualFunc_L0_R (tb n) p0 p1 p2 v K) (Rw := fun v K => EqualFunc_L0_R lim p0 p1 p2 v K) (L := fun v => lim.EqualFunc_L0 p0 p1 p2 v) (fun v => rel_unstep (EqualFunc_L0_rel (σ := fun n => n) (fun n => Nat.le_refl n) p0 p1 p2 v) (fun n => rfl)) (fun {_ _} hab v {K K'} hK => EqualFunc_L0_R_m (tb_mono hab) p0 p1 p2 v hK) (fun v {K Kw} hK => EqualFunc_L0_R_r (σ := fun n => n + 1) (fun n => Nat.le_succ n) p0 p1 p2 v hK) v
theorem through_L0_eq (p0 : List Form) (p1 : Int) (p2 : Int) (p3 : Int) (p4 : Bs) (p5 : Bs) (v : (Int)) : lim.through_L0 p0 p1 p2 p3 p4 p5 v = through_L0_R lim p0 p1 p2 p3 p4 p5 v fun x => sumK x some fun v => lim.through_L0 p0 p1 p2 p3 p4 p5 v :=
 iterL_eq (R := fun n v K => through_L0_R (tb n) p0 p1 p2 p3 p4 p5 v K) (Rw := fun v K => through_L0_R lim p0 p1 p2 p3 p4 p5 v K) (L := fun v => lim.through_L0 p0 p1 p2 p3 p4 p5 v) (fun v => rel_unstep (through_L0_rel (σ := fun n => n) (fun n => Nat.le_refl n) p0 p1 p2 p3 p4 p5 v) (fun n => rfl)) (fun {_ _} hab v {K K'} hK => through_L0_R_m (tb_mono hab) p0 p1 p2 p3 p4 p5 v hK) (fun v {K Kw} hK => through_L0_R_r (σ := fun n => n + 1) (fun n => Nat.le_succ n) p0 p1 p2 p3 p4 p5 v hK) v
theorem through_L1_eq (p0 : List Form) (p1 : Int) (p2 : Int) (p3 : Int) (p4 : Bs) (p5 : Bs) (v : (Int) × (List (Bs × Bool))) : lim.through_L1 p0 p1 p2 p3 p4 p5 v = through_L1_R lim p0 p1 p2 p3 p4 p5 v fun x => sumK x some fun v => lim.through_L1 p0 p1 p2 p3 p4 p5 v :=
 iterL_eq (R := fun n v K => through_L1_R (tb n) p0 p1 p2 p3 p4 p5 v K) (Rw := fun v K => through_L1_R lim p0 p1 p2 p3 p4 p5 v K) (L := fun v => lim.through_L1 p0 p1 p2 p3 p4 p5 v) (fun v => rel_unstep (through_L1_rel (σ := fun n => n) (fun n => Nat.le_refl n) p0 p1 p2 p3 p4 p5 v) (fun n => rfl)) (fun {_ _} hab v {K K'} hK => through_L1_R_m (tb_mono hab) p0 p1 p2 p3 p4 p5 v hK) (fun v {K Kw} hK => through_L1_R_r (σ := fun n => n + 1) (fun n => Nat.le_succ n) p0 p1 p2 p3 p4 p5 v hK) v
theorem look_L0_eq (p0 : Int) (p1 : List Form) (p2 : Int) (p3 : Int) (p4 : Bs) (p5 : Bs) (v : (Int) × (Int)) : lim.look_L0 p0 p1 p2 p3 p4 p5 v = look_L0_R lim p0 p1 p2 p3 p4 p5 v fun x => sumK x some fun v => lim.look_L0 p0 p1 p2 p3 p4 p5 v :=
 iterL_eq (R := fun n v K => look_L0_R (tb n) p0 p1 p2 p3 p4 p5 v K) (Rw := fun v K => look_L0_R lim p0 p1 p2 p3 p4 p5 v K) (L := fun v => lim.look_L0 p0 p1 p2 p3 p4 p5 v) (fun v => rel_unstep (look_L0_rel (σ := fun n => n) (fun n => Nat.le_refl n) p0 p1 p2 p3 p4 p5 v) (fun n => rfl)) (fun {_ _} hab v {K K'} hK => look_L0_R_m (tb_mono hab) p0 p1 p2 p3 p4 p5 v hK) (fun v {K Kw} hK => look_L0_R_r (σ := fun n => n + 1) (fun n => Nat.le_succ n) p0 p1 p2 p3 p4 p5 v hK) v
theorem right_L0_eq (p0 : Bs) (p1 : Bs) (p2 : Int) (p3 : List Form) (v : (Int)) : lim.right_L0 p0 p1 p2 p3 v = right_L0_R lim p0 p1 p2 p3 v fun x => sumK x some fun v => lim.right_L0 p0 p1 p2 p3 v :=
 iterL_eq (R := fun n v K => right_L0_R (tb n) p0 p1 p2 p3 v K) (Rw := fun v K => right_L0_R lim p0 p1 p2 p3 v K) (L := fun v => lim.right_L0 p0 p1 p2 p3 v) (fun v => rel_unstep (right_L0_rel (σ := fun n => n) (fun n => Nat.le_refl n) p0 p1 p2 p3 v) (fun n => rfl)) (fun {_ _} hab v {K K'} hK => right_L0_R_m (tb_mono hab) p0 p1 p2 p3 v hK) (fun v {K Kw} hK => right_L0_R_r (σ := fun n => n + 1) (fun n => Nat.le_succ n) p0 p1 p2 p3 v hK) v
theorem f221_L0_eq (v : (Bs) × (List Int)) : lim.f221_L0 v = f221_L0_R lim v fun x => sumK x some fun v => lim.f221_L0 v :=
 iterL_eq (R := fun n v K => f221_L0_R (tb n) v K) (Rw := fun v K => f221_L0_R lim v K) (L := fun v => lim.f221_L0 v) (fun v => rel_unstep (f221_L0_rel (σ := fun n => n) (fun n => Nat.le_refl n) v) (fun n => rfl)) (fun {_ _} hab v {K K'} hK => f221_L0_R_m (tb_mono hab) v hK) (fun v {K Kw} hK => f221_L0_R_r (σ := fun n => n + 1) (fun n => Nat.le_succ n) v hK) v
theorem decimal_L0_eq (p0 : List UInt8) (p1 : Int) (v : (Int)) : lim.decimal_L0 p0 p1 v = decimal_L0_R lim p0 p1 v fun x => sumK x some fun v => lim.decimal_L0 p0 p1 v :=
 iterL_eq (R := fun n v K => decimal_L0_R (tb n) p0 p1 v K) (Rw := fun v K => decimal_L0_R lim p0 p1 v K) (L := fun v => lim.decimal_L0 p0 p1 v) (fun v => rel_unstep (decimal_L0_rel (σ := fun n => n) (fun n => Nat.le_refl n) p0 p1 v) (fun n => rfl)) (fun {_ _} hab v {K K'} hK => decimal_L0_R_m (tb_mono hab) p0 p1 v hK) (fun v {K Kw} hK => decimal_L0_R_r (σ := fun n => n + 1) (fun n => Nat.le_succ n) p0 p1 v hK) v
theorem ratio_L0_eq (v : (Int) × (Int)) : lim.ratio_L0 v = ratio_L0_R lim v fun x => sumK x some fun v => lim.ratio_L0 v :=
 iterL_eq (R := fun n v K => ratio_L0_R (tb n) v K) (Rw := fun v K => ratio_L0_R lim v K) (L := fun v => lim.ratio_L0 v) (fun v => rel_unstep (ratio_L0_rel (σ := fun n => n) (fun n => Nat.le_refl n) v) (fun n => rfl)) (fun {_ _} hab v {K K'} hK => ratio_L0_R_m (tb_mono hab) v hK) (fun v {K Kw} hK => ratio_L0_R_r (σ := fun n => n + 1) (fun n => Nat.le_succ n) v hK) v
theorem product_L0_eq (p0 : List Int) (p1 : Int) (v : (Int) × (Int)) : lim.product_L0 p0 p1 v = product_L0_R lim p0 p1 v fun x => sumK x some fun v => lim.product_L0 p0 p1 v :=
 iterL_eq (R := fun n v K => product_L0_R (tb n) p0 p1 v K) (Rw := fun v K => product_L0_R lim p0 p1 v K) (L := fun v => lim.product_L0 p0 p1 v) (fun v => rel_unstep (product_L0_rel (σ := fun n => n) (fun n => Nat.le_refl n) p0 p1 v) (fun n => rfl)) (fun {_ _} hab v {K K'} hK => product_L0_R_m (tb_mono hab) p0 p1 v hK) (fun v {K Kw} hK => product_L0_R_r (σ := fun n => n + 1) (fun n => Nat.le_succ n) p0 p1 v hK) v
theorem IndexInt_L0_eq (p0 : List Int) (p1 : Int) (p2 : Int) (v : (Int)) : lim.IndexInt_L0 p0 p1 p2 v = IndexInt_L0_R lim p0 p1 p2 v fun x => sumK x some fun v => lim.IndexInt_L0 p0 p1 p2 v :=
 iterL_eq (R := fun n v K => IndexInt_L0_R (tb n) p0 p1 p2 v K) (Rw := fun v K => IndexInt_L0_R lim p0 p1 p2 v K) (L := fun v => lim.IndexInt_L0 p0 p1 p2 v) (fun v => rel_unstep (IndexInt_L0_rel (σ := fun n => n) (fun n => Nat.le_refl n) p0 p1 p2 v) (fun n => rfl)) (fun {_ _} hab v {K K'} hK => IndexInt_L0_R_m (tb_mono hab) p0 p1 p2 v hK) (fun v {K Kw} hK => IndexInt_L0_R_r (σ := fun n => n + 1) (fun n => Nat.le_succ n) p0 p1 p2 v hK) v
theorem labels_L0_eq (p0 : Int) (p1 : Bs) (p2 : Bs) (p3 : List Form) (v : (Int) × (List Bs)) : lim.labels_L0 p0 p1 p2 p3 v = labels_L0_R lim p0 p1 p2 p3 v fun x => sumK x some fun v => lim.labels_L0 p0 p1 p2 p3 v :=
 iterL_eq (R := fun n v K => labels_L0_R (tb n) p0 p1 p2 p3 v K) (Rw := fun v K => labels_L0_R lim p0 p1 p2 p3 v K) (L := fun v => lim.labels_L0 p0 p1 p2 p3 v) (fun v => rel_unstep (labels_L0_rel (σ := fun n => n) (fun n => Nat.le_refl n) p0 p1 p2 p3 v) (fun n => rfl)) (fun {_ _} hab v {K K'} hK => labels_L0_R_m (tb_mono hab) p0 p1 p2 p3 v hK) (fun v {K Kw} hK => labels_L0_R_r (σ := fun n => n + 1) (fun n => Nat.le_succ n) p0 p1 p2 p3 v hK) v
theorem labels_P1_eq (p0 : Int) (p1 : Int) (p2 : Int) (p3 : Bs) (p4 : Bs) (p5 : List Form) (p6 : List Bs) : lim.labels_P1 p0 p1 p2 p3 p4 p5 p6 = labels_P1_R lim p0 p1 p2 p3 p4 p5 p6 some := (labels_P1_rel (σ := fun n => n) (fun n => Nat.le_refl n) p0 p1 p2 p3 p4 p5 p6).uniq (Rel.shift (labels_P1_R_r (σ := fun n => n) (fun n => Nat.le_refl n) p0 p1 p2 p3 p4 p5 p6 fun _ => Rel.const) rfl)
theorem rdimensions_L0_eq (p0 : Bs) (v : (Int) × (Int) × (List Int)) : lim.rdimensions_L0 p0 v = rdimensions_L0_R lim p0 v fun x => sumK x some fun v => lim.rdimensions_L0 p0 v :=
 iterL_eq (R := fun n v K => rdimensions_L0_R (tb n) p0 v K) (Rw := fun v K => rdimensions_L0_R lim p0 v K) (L := fun v => lim.rdimensions_L0 p0 v) (fun v => rel_unstep (rdimensions_L0_rel (σ := fun n => n) (fun n => Nat.le_refl n) p0 v) (fun n => rfl)) (fun {_ _} hab v {K K'} hK => rdimensions_L0_R_m (tb_mono hab) p0 v hK) (fun v {K Kw} hK => rdimensions_L0_R_r (σ := fun n => n + 1) (fun n => Nat.le_succ n) p0 v hK) v
theorem nodes_L0_eq (p0 : Int) (p1 : Bs) (p2 : Bs) (p3 : List Form) (v : (Int)) : lim.nodes_L0 p0 p1 p2 p3 v = nodes_L0_R lim p0 p1 p2 p3 v fun x => sumK x some fun v => lim.nodes_L0 p0 p1 p2 p3 v :=
 iterL_eq (R := fun n v K => nodes_L0_R (tb n) p0 p1 p2 p3 v K) (Rw := fun v K => nodes_L0_R lim p0 p1 p2 p3 v K) (L := fun v => lim.nodes_L0 p0 p1 p2 p3 v) (fun v => rel_unstep (nodes_L0_rel (σ := fun n => n) (fun n => Nat.le_refl n) p0 p1 p2 p3 v) (fun n => rfl)) (fun {_ _} hab v {K K'} hK => nodes_L0_R_m (tb_mono hab) p0 p1 p2 p3 v hK) (fun v {K Kw} hK => nodes_L0_R_r (σ := fun n => n + 1) (fun n => Nat.le_succ n) p0 p1 p2 p3 v hK) v
theorem within_L0_eq (p0 : List Bs) (p1 : Bs) (v : (Int)) : lim.within_L0 p0 p1 v = within_L0_R lim p0 p1 v fun x => sumK x some fun v => lim.within_L0 p0 p1 v :=
 iterL_eq (R := fun n v K => within_L0_R (tb n) p0 p1 v K) (Rw := fun v K => within_L0_R lim p0 p1 v K) (L := fun v => lim.within_L0 p0 p1 v) (fun v => rel_unstep (within_L0_rel (σ := fun n => n) (fun n => Nat.le_refl n) p0 p1 v) (fun n => rfl)) (fun {_ _} hab v {K K'} hK => within_L0_R_m (tb_mono hab) p0 p1 v hK) (fun v {K Kw} hK => within_L0_R_r (σ := fun n => n + 1) (fun n => Nat.le_succ n) p0 p1 v hK) v
theorem digits_L0_eq (p0 : Bs) (v : (Int)) : lim.digits_L0 p0 v = digits_L0_R lim p0 v fun x => sumK x some fun v => lim.digits_L0 p0 v :=
 iterL_eq (R := fun n v K => digits_L0_R (tb n) p0 v K) (Rw := fun v K => digits_L0_R lim p0 v K) (L := fun v => lim.digits_L0 p0 v) (fun v => rel_unstep (digits_L0_rel (σ := fun n => n) (fun n => Nat.le_refl n) p0 v) (fun n => rfl)) (fun {_ _} hab v {K K'} hK => digits_L0_R_m (tb_mono hab) p0 v hK) (fun v {K Kw} hK => digits_L0_R_r (σ := fun n => n + 1) (fun n => Nat.le_succ n) p0 v hK) v
theorem value_L0_eq (p0 : Bs) (v : (Int) × (Int)) : lim.value_L0 p0 v = value_L0_R lim p0 v fun x => sumK x some fun v => lim.value_L0 p0 v :=
 iterL_eq (R := fun n v K => value_L0_R (tb n) p0 v K) (Rw := fun v K => value_L0_R lim p0 v K) (L := fun v => lim.value_L0 p0 v) (fun v => rel_unstep (value_L0_rel (σ := fun n => n) (fun n => Nat.le_refl n) p0 v) (fun n => rfl)) (fun {_ _} hab v {K K'} hK => value_L0_R_m (tb_mono hab) p0 v hK) (fun v {K Kw} hK => value_L0_R_r (σ := fun n => n + 1) (fun n => Nat.le_succ n) p0 v hK) v
theorem rproduct_L0_eq (p0 : List Int) (v : (Int)) : lim.rproduct_L0 p0 v = rproduct_L0_R lim p0 v fun x => sumK x some fun v => lim.rproduct_L0 p0 v :=
 iterL_eq (R := fun n v K => rproduct_L0_R (tb n) p0 v K) (Rw := fun v K => rproduct_L0_R lim p0 v K) (L := fun v => lim.rproduct_L0 p0 v) (fun v => rel_unstep (rproduct_L0_rel (σ := fun n => n) (fun n => Nat.le_refl n) p0 v) (fun n => rfl)) (fun {_ _} hab v {K K'} hK => rproduct_L0_R_m (tb_mono hab) p0 v hK) (fun v {K Kw} hK => rproduct_L0_R_r (σ := fun n => n + 1) (fun n => Nat.le_succ n) p0 v hK) v
theorem rproduct_L1_eq (p0 : List Int) (v : (Int) × (Int)) : lim.rproduct_L1 p0 v = rproduct_L1_R lim p0 v fun x => sumK x some fun v => lim.rproduct_L1 p0 v :=
 iterL_eq (R := fun n v K => rproduct_L1_R (tb n) p0 v K) (Rw := fun v K => rproduct_L1_R lim p0 v K) (L := fun v => lim.rproduct_L1 p0 v) (fun v => rel_unstep (rproduct_L1_rel (σ := fun n => n) (fun n => Nat.le_refl n) p0 v) (fun n => rfl)) (fun {_ _} hab v {K K'} hK => rproduct_L1_R_m (tb_mono hab) p0 v hK) (fun v {K Kw} hK => rproduct_L1_R_r (σ := fun n => n + 1) (fun n => Nat.le_succ n) p0 v hK) v
theorem atom_L0_eq (p0 : Int) (p1 : Bs) (p2 : Bs) (p3 : List Form) (v : (Int)) : lim.atom_L0 p0 p1 p2 p3 v = atom_L0_R lim p0 p1 p2 p3 v fun x => sumK x some fun v => lim.atom_L0 p0 p1 p2 p3 v :=
 iterL_eq (R := fun n v K => atom_L0_R (tb n) p0 p1 p2 p3 v K) (Rw := fun v K => atom_L0_R lim p0 p1 p2 p3 v K) (L := fun v => lim.atom_L0 p0 p1 p2 p3 v) (fun v => rel_unstep (atom_L0_rel (σ := fun n => n) (fun n => Nat.le_refl n) p0 p1 p2 p3 v) (fun n => rfl)) (fun {_ _} hab v {K K'} hK => atom_L0_R_m (tb_mono hab) p0 p1 p2 p3 v hK) (fun v {K Kw} hK => atom_L0_R_r (σ := fun n => n + 1) (fun n => Nat.le_succ n) p0 p1 p2 p3 v hK) v
theorem rratio_L0_eq (p0 : Bs) (v : (Int) × (Int)) : lim.rratio_L0 p0 v = rratio_L0_R lim p0 v fun x => sumK x some fun v => lim.rratio_L0 p0 v :=
 iterL_eq (R := fun n v K => rratio_L0_R (tb n) p0 v K) (Rw := fun v K => rratio_L0_R lim p0 v K) (L := fun v => lim.rratio_L0 p0 v) (fun v => rel_unstep (rratio_L0_rel (σ := fun n => n) (fun n => Nat.le_refl n) p0 v) (fun n => rfl)) (fun {_ _} hab v {K K'} hK => rratio_L0_R_m (tb_mono hab) p0 v hK) (fun v {K Kw} hK => rratio_L0_R_r (σ := fun n => n + 1) (fun n => Nat.le_succ n) p0 v hK) v
theorem rratio_L1_eq (v : (Int) × (Int)) : lim.rratio_L1 v = rratio_L1_R lim v fun x => sumK x some fun v => lim.rratio_L1 v :=
 iterL_eq (R := fun n v K => rratio_L1_R (tb n) v K) (Rw := fun v K => rratio_L1_R lim v K) (L := fun v => lim.rratio_L1 v) (fun v => rel_unstep (rratio_L1_rel (σ := fun n => n) (fun n => Nat.le_refl n) v) (fun n => rfl)) (fun {_ _} hab v {K K'} hK => rratio_L1_R_m (tb_mono hab) v hK) (fun v {K Kw} hK => rratio_L1_R_r (σ := fun n => n + 1) (fun n => Nat.le_succ n) v hK) v
theorem hex_L0_eq (p0 : Bs) (p1 : Int) (v : (Int)) : lim.hex_L0 p0 p1 v = hex_L0_R lim p0 p1 v fun x => sumK x some fun v => lim.hex_L0 p0 p1 v :=
 iterL_eq (R := fun n v K => hex_L0_R (tb n) p0 p1 v K) (Rw := fun v K => hex_L0_R lim p0 p1 v K) (L := fun v => lim.hex_L0 p0 p1 v) (fun v => rel_unstep (hex_L0_rel (σ := fun n => n) (fun n => Nat.le_refl n) p0 p1 v) (fun n => rfl)) (fun {_ _} hab v {K K'} hK => hex_L0_R_m (tb_mono hab) p0 p1 v hK) (fun v {K Kw} hK => hex_L0_R_r (σ := fun n => n + 1) (fun n => Nat.le_succ n) p0 p1 v hK) v
theorem FormChecks_L0_eq (p0 : Bs) (p1 : Bs) (p2 : List Int) (p3 : List Int) (p4 : Int) (p5 : Int) (p6 : Bs) (p7 : Bs) (p8 : List Form) (p9 : Int) (p10 : Bs) (p11 : Bs) (p12 : List Form) (v : (Int)) : lim.FormChecks_L0 p0 p1 p2 p3 p4 p5 p6 p7 p8 p9 p10 p11 p12 v = FormChecks_L0_R lim p0 p1 p2 p3 p4 p5 p6 p7 p8 p9 p10 p11 p12 v fun x => sumK x some fun v => lim.FormChecks_L0 p0 p1 p2 p3 p4 p5 p6 p7 p8 p9 p10 p11 p12 v :=
 iterL_eq (R := fun n v K => FormChecks_L0_R (tb n) p0 p1 p2 p3 p4 p5 p6 p7 p8 p9 p10 p11 p12 v K) (Rw := fun v K => FormChecks_L0_R lim p0 p1 p2 p3 p4 p5 p6 p7 p8 p9 p10 p11 p12 v K) (L := fun v => lim.FormChecks_L0 p0 p1 p2 p3 p4 p5 p6 p7 p8 p9 p10 p11 p12 v) (fun v => rel_unstep (FormChecks_L0_rel (σ := fun n => n) (fun n => Nat.le_refl n) p0 p1 p2 p3 p4 p5 p6 p7 p8 p9 p10 p11 p12 v) (fun n => rfl)) (fun {_ _} hab v {K K'} hK => FormChecks_L0_R_m (tb_mono hab) p0 p1 p2 p3 p4 p5 p6 p7 p8 p9 p10 p11 p12 v hK) (fun v {K Kw} hK => FormChecks_L0_R_r (σ := fun n => n + 1) (fun n => Nat.le_succ n) p0 p1 p2 p3 p4 p5 p6 p7 p8 p9 p10 p11 p12 v hK) v
theorem rSize_L0_eq (p0 : Int) (p1 : Bs) (p2 : Bs) (p3 : List Form) (v : (Int) × (Int) × (Int)) : lim.rSize_L0 p0 p1 p2 p3 v = rSize_L0_R lim p0 p1 p2 p3 v fun x => sumK x some fun v => lim.rSize_L0 p0 p1 p2 p3 v :=
 iterL_eq (R := fun n v K => rSize_L0_R (tb n) p0 p1 p2 p3 v K) (Rw := fun v K => rSize_L0_R lim p0 p1 p2 p3 v K) (L := fun v => lim.rSize_L0 p0 p1 p2 p3 v) (fun v => rel_unstep (rSize_L0_rel (σ := fun n => n) (fun n => Nat.le_refl n) p0 p1 p2 p3 v) (fun n => rfl)) (fun {_ _} hab v {K K'} hK => rSize_L0_R_m (tb_mono hab) p0 p1 p2 p3 v hK) (fun v {K Kw} hK => rSize_L0_R_r (σ := fun n => n + 1) (fun n => Nat.le_succ n) p0 p1 p2 p3 v hK) v
theorem awakeTrees_eq : lim.awakeTrees = some true := (awakeTrees_rel (σ := fun n => n) (fun n => Nat.le_refl n)).uniq (Rel.shift Rel.const rfl)
end Go.Proofs.YtpdgbhjhodhkiaaGreatDoor.AI
