/- The data of the seat, the library as told, the functions that the code computes (printed). -/
import Derived.Test.YtpdgbhjhodhkiaaGreatDoorXD
import Derived.Lib.ItoaNum
import Derived.Lib.AtoiAll
import Derived.Lib.RuneCount
import Derived.Lib.ValidU
import Derived.Lib.SlTrimSet
import Derived.Lib.Strings
import Derived.Lib.IndexMore
import Derived.Test.YtpdgbhjhodhkiaaGreatDoorProg
import Derived.KernelRfl
import Derived.Test.YtpdgbhjhodhkiaaGreatDoorXE
set_option linter.unusedSimpArgs false
set_option linter.unnecessarySimpa false
set_option linter.unusedVariables false
namespace Go.Proofs.YtpdgbhjhodhkiaaGreatDoor.AI
open Go
abbrev Bs := List UInt8
inductive Form where
 | mk (kind : Int) (text : Bs) (home : Bs) (kids : List Form)
 deriving Inhabited
def Form.kind : Form → Int | .mk x _ _ _ => x
def Form.text : Form → Bs | .mk _ x _ _ => x
def Form.home : Form → Bs | .mk _ _ x _ => x
def Form.kids : Form → List Form | .mk _ _ _ x => x
inductive Node where
 | mk (kind : Int) (text : Bs) (home : Bs) (kids : List Int)
 deriving Inhabited
def Node.kind : Node → Int | .mk x _ _ _ => x
def Node.text : Node → Bs | .mk _ x _ _ => x
def Node.home : Node → Bs | .mk _ _ x _ => x
def Node.kids : Node → List Int | .mk _ _ _ x => x
def T : Nat → Type
 | 0 => Int
 | 1 => UInt8
 | 2 => Bs
 | 3 => Form
 | 4 => Bool
 | 5 => Bs × Bs
 | 6 => Node
 | 7 => List Form
 | 8 => List (List Form)
 | 9 => List Int
 | 10 => List Bs
 | 11 => List Node
 | 12 => List Bool
 | 13 => List (List Bool)
 | _ => Unit
def defC : (k : Nat) → T k
 | 0 => (0 : Int)
 | 1 => (0 : UInt8)
 | 2 => ([] : Bs)
 | 3 => Form.mk 0 [] [] []
 | 4 => false
 | 5 => (([], []) : Bs × Bs)
 | 6 => Node.mk 0 [] [] []
 | 7 => ([] : List Form)
 | 8 => ([] : List (List Form))
 | 9 => ([] : List Int)
 | 10 => ([] : List Bs)
 | 11 => ([] : List Node)
 | 12 => ([] : List Bool)
 | 13 => ([] : List (List Bool))
 | _ + 14 => ()
instance instT (k : Nat) : Inhabited (T k) := ⟨defC k⟩
def outC : (k : Nat) → T k → List (W T)
 | 0, (x : Int) => [.int .i64 x]
 | 1, (x : UInt8) => [.int .u8 x.toNat]
 | 2, (x : Bs) => [.str x]
 | 3, (x : Form) => [.int .i64 x.kind, .str x.text, .str x.home, .row 3 x.kids false]
 | 4, (x : Bool) => [.bool x]
 | 5, (x : Bs × Bs) => [.str x.1, .str x.2]
 | 6, (x : Node) => [.int .i64 x.kind, .str x.text, .str x.home, .row 0 x.kids false]
 | 7, (x : List Form) => [.row 3 x false]
 | 8, (x : List (List Form)) => [.row 7 x false]
 | 9, (x : List Int) => [.row 0 x false]
 | 10, (x : List Bs) => [.row 2 x false]
 | 11, (x : List Node) => [.row 6 x false]
 | 12, (x : List Bool) => [.row 4 x false]
 | 13, (x : List (List Bool)) => [.row 12 x false]
 | _ + 14, _ => [.tup []]
def in0 : List (W T) → Option Int
 | [w0] => rdI .i64 w0
 | _ => none
def in1 : List (W T) → Option UInt8
 | [w0] => rdU8 w0
 | _ => none
def in2 : List (W T) → Option Bs
 | [w0] => rdS w0
 | _ => none
def in3 : List (W T) → Option Form
 | [w0, w1, w2, w3] => (rdI .i64 w0).bind fun x0 => (rdS w1).bind fun x1 => (rdS w2).bind fun x2 => (rowOf 3 w3).bind fun x3 => some (Form.mk x0 x1 x2 x3)
 | _ => none
def in4 : List (W T) → Option Bool
 | [w0] => rdB w0
 | _ => none
def in5 : List (W T) → Option (Bs × Bs)
 | [w0, w1] => (rdS w0).bind fun x0 => (rdS w1).bind fun x1 => some (x0, x1)
 | _ => none
def in6 : List (W T) → Option Node
 | [w0, w1, w2, w3] => (rdI .i64 w0).bind fun x0 => (rdS w1).bind fun x1 => (rdS w2).bind fun x2 => (rowOf 0 w3).bind fun x3 => some (Node.mk x0 x1 x2 x3)
 | _ => none
def in7 : List (W T) → Option (List Form)
 | [w0] => rowOf 3 w0
 | _ => none
def in8 : List (W T) → Option (List (List Form))
 | [w0] => rowOf 7 w0
 | _ => none
def in9 : List (W T) → Option (List Int)
 | [w0] => rowOf 0 w0
 | _ => none
def in10 : List (W T) → Option (List Bs)
 | [w0] => rowOf 2 w0
 | _ => none
def in11 : List (W T) → Option (List Node)
 | [w0] => rowOf 6 w0
 | _ => none
def in12 : List (W T) → Option (List Bool)
 | [w0] => rowOf 4 w0
 | _ => none
def in13 : List (W T) → Option (List (List Bool))
 | [w0] => rowOf 12 w0
 | _ => none
def innC : (k : Nat) → List (W T) → Option (T k)
 | 0, ws => in0 ws
 | 1, ws => in1 ws
 | 2, ws => in2 ws
 | 3, ws => in3 ws
 | 4, ws => in4 ws
 | 5, ws => in5 ws
 | 6, ws => in6 ws
 | 7, ws => in7 ws
 | 8, ws => in8 ws
 | 9, ws => in9 ws
 | 10, ws => in10 ws
 | 11, ws => in11 ws
 | 12, ws => in12 ws
 | 13, ws => in13 ws
 | _ + 14, _ => none
def sizeC : Nat → Nat
 | 3 => 4
 | 5 => 2
 | 6 => 4
 | _ => 1
def aggC : Nat → Bool
 | 3 => true
 | 5 => true
 | 6 => true
 | _ => false
def keqC : (k : Nat) → T k → T k → Bool
 | 0, (a : Int), (b : Int) => a == b
 | 2, (a : Bs), (b : Bs) => a == b
 | 5, (a : Bs × Bs), (b : Bs × Bs) => a.1 == b.1 && a.2 == b.2
 | _, _, _ => false
def kokC (P : Program) (d : TypeDesc) (k : Nat) : Bool :=
 match k, d with
 | 0, .int .i64 => true
 | 2, .string => true
 | 5, .array 2 e =>
  match P.underlying e, sizeV P e with
  | some .string, some 1 => true
  | _, _ => false
 | _, _ => false
def bytesC : (k : Nat) → Bs → Option (List (T k))
 | 1, s => some s
 | _, _ => none
def unbytesC : (k : Nat) → List (T k) → Option Bs
 | 1, (l : List UInt8) => some l
 | _, _ => none
end Go.Proofs.YtpdgbhjhodhkiaaGreatDoor.AI
namespace Go.Proofs.YtpdgbhjhodhkiaaGreatDoor.AI
open Go
def cod : Cod T := { size := sizeC, isAgg := aggC, out := outC, inn := innC, CR := fun k x cs => CRg outC (outC k x) cs, keq := keqC, kok := kokC, bytes := bytesC, unbytes := unbytesC }
theorem Form.eta (x : Form) : Form.mk x.kind x.text x.home x.kids = x := by cases x; rfl
theorem Node.eta (x : Node) : Node.mk x.kind x.text x.home x.kids = x := by cases x; rfl
theorem in0_w {ws : List (W T)} {x : Int} (h : in0 ws = some x) : WeqL ws (outC 0 x) := by
 unfold in0 at h
 split at h
 ·exact weqC (rdI_w h) weqN
 ·cases h
theorem in1_w {ws : List (W T)} {x : UInt8} (h : in1 ws = some x) : WeqL ws (outC 1 x) := by
 unfold in1 at h
 split at h
 ·exact weqC (rdU8_w h) weqN
 ·cases h
theorem in2_w {ws : List (W T)} {x : Bs} (h : in2 ws = some x) : WeqL ws (outC 2 x) := by
 unfold in2 at h
 split at h
 ·exact weqC (rdS_w h) weqN
 ·cases h
theorem in3_w {ws : List (W T)} {x : Form} (h : in3 ws = some x) : WeqL ws (outC 3 x) := by
 unfold in3 at h
 split at h
 ·simp only [Option.bind_eq_some_iff] at h
  obtain ⟨x0, h0, x1, h1, x2, h2, x3, h3, e⟩ := h
  injection e with e
  subst e
  exact weqC (rdI_w h0) ( weqC (rdS_w h1) ( weqC (rdS_w h2) ( weqC (rowOf_w h3) (weqN))))
 ·cases h
theorem in4_w {ws : List (W T)} {x : Bool} (h : in4 ws = some x) : WeqL ws (outC 4 x) := by
 unfold in4 at h
 split at h
 ·exact weqC (rdB_w h) weqN
 ·cases h
theorem in5_w {ws : List (W T)} {x : Bs × Bs} (h : in5 ws = some x) : WeqL ws (outC 5 x) := by
 unfold in5 at h
 split at h
 ·simp only [Option.bind_eq_some_iff] at h
  obtain ⟨x0, h0, x1, h1, e⟩ := h
  injection e with e
  subst e
  exact weqC (rdS_w h0) ( weqC (rdS_w h1) (weqN))
 ·cases h
theorem in6_w {ws : List (W T)} {x : Node} (h : in6 ws = some x) : WeqL ws (outC 6 x) := by
 unfold in6 at h
 split at h
 ·simp only [Option.bind_eq_some_iff] at h
  obtain ⟨x0, h0, x1, h1, x2, h2, x3, h3, e⟩ := h
  injection e with e
  subst e
  exact weqC (rdI_w h0) ( weqC (rdS_w h1) ( weqC (rdS_w h2) ( weqC (rowOf_w h3) (weqN))))
 ·cases h
theorem in7_w {ws : List (W T)} {x : List Form} (h : in7 ws = some x) : WeqL ws (outC 7 x) := by
 match ws, h with
 | [w], h => exact weqC (rowOf_w h) weqN
theorem in8_w {ws : List (W T)} {x : List (List Form)} (h : in8 ws = some x) : WeqL ws (outC 8 x) := by
 match ws, h with
 | [w], h => exact weqC (rowOf_w h) weqN
theorem in9_w {ws : List (W T)} {x : List Int} (h : in9 ws = some x) : WeqL ws (outC 9 x) := by
 match ws, h with
 | [w], h => exact weqC (rowOf_w h) weqN
theorem in10_w {ws : List (W T)} {x : List Bs} (h : in10 ws = some x) : WeqL ws (outC 10 x) := by
 match ws, h with
 | [w], h => exact weqC (rowOf_w h) weqN
theorem in11_w {ws : List (W T)} {x : List Node} (h : in11 ws = some x) : WeqL ws (outC 11 x) := by
 match ws, h with
 | [w], h => exact weqC (rowOf_w h) weqN
theorem in12_w {ws : List (W T)} {x : List Bool} (h : in12 ws = some x) : WeqL ws (outC 12 x) := by
 match ws, h with
 | [w], h => exact weqC (rowOf_w h) weqN
theorem in13_w {ws : List (W T)} {x : List (List Bool)} (h : in13 ws = some x) : WeqL ws (outC 13 x) := by
 match ws, h with
 | [w], h => exact weqC (rowOf_w h) weqN
theorem inn_w : ∀ k (ws : List (W T)) (x : T k), innC k ws = some x → WeqL ws (outC k x)
 | 0, _, _, h => in0_w h
 | 1, _, _, h => in1_w h
 | 2, _, _, h => in2_w h
 | 3, _, _, h => in3_w h
 | 4, _, _, h => in4_w h
 | 5, _, _, h => in5_w h
 | 6, _, _, h => in6_w h
 | 7, _, _, h => in7_w h
 | 8, _, _, h => in8_w h
 | 9, _, _, h => in9_w h
 | 10, _, _, h => in10_w h
 | 11, _, _, h => in11_w h
 | 12, _, _, h => in12_w h
 | 13, _, _, h => in13_w h
 | _ + 14, _, _, h => by cases h
theorem len_ok : ∀ k (x : T k), (outC k x).length = sizeC k
 | 0, _ => rfl
 | 1, _ => rfl
 | 2, _ => rfl
 | 3, _ => rfl
 | 4, _ => rfl
 | 5, _ => rfl
 | 6, _ => rfl
 | 7, _ => rfl
 | 8, _ => rfl
 | 9, _ => rfl
 | 10, _ => rfl
 | 11, _ => rfl
 | 12, _ => rfl
 | 13, _ => rfl
 | _ + 14, _ => rfl
theorem gen_ok : Gen cod := fun _ _ _ => Iff.rfl
theorem key_ok : ∀ (P : Program) (d : TypeDesc) k (x y : T k) (cx cy : List V), kokC P d k = true → CRg outC (outC k x) cx → CRg outC (outC k y) cy →
  keyEq P d (if aggC k then .agg cx else cx.headD .undef) (if aggC k then .agg cy else cy.headD .undef) = some (keqC k x y) ∧ keyOk P d (if aggC k then .agg cx else cx.headD .undef) = true := by
 intro P d k x y cx cy hk hx hy
 match k, x, y, hx, hy with
 | 0, (a : Int), (b : Int), hx, hy =>
  obtain ⟨v, vs, rfl, h1, h2⟩ := CRg.inv hx
  obtain ⟨u, us, rfl, h3, h4⟩ := CRg.inv hy
  obtain rfl := RepG.int_inv h1
  obtain rfl := RepG.int_inv h3
  unfold kokC at hk
  split at hk <;> first | (cases hk; done) | skip
  all_goals first | exact ⟨rfl, rfl⟩ | simp_all
 | 2, (a : Bs), (b : Bs), hx, hy =>
  obtain ⟨v, vs, rfl, h1, h2⟩ := CRg.inv hx
  obtain ⟨u, us, rfl, h3, h4⟩ := CRg.inv hy
  obtain rfl := RepG.str_inv h1
  obtain rfl := RepG.str_inv h3
  unfold kokC at hk
  split at hk <;> first | (cases hk; done) | skip
  all_goals first
   | (refine ⟨?_, rfl⟩
      show some (_ == _) = _
      rw [beq_mk]
      rfl)
   | simp_all
 | 5, (a : Bs × Bs), (b : Bs × Bs), hx, hy =>
  obtain ⟨v, vs, rfl, h1, h2⟩ := CRg.inv hx
  obtain ⟨v', vs', rfl, h1', h2'⟩ := CRg.inv h2
  obtain rfl := CRg.inv0 h2'
  obtain ⟨u, us, rfl, h3, h4⟩ := CRg.inv hy
  obtain ⟨u', us', rfl, h3', h4'⟩ := CRg.inv h4
  obtain rfl := CRg.inv0 h4'
  obtain rfl := RepG.str_inv h1
  obtain rfl := RepG.str_inv h3
  obtain rfl := RepG.str_inv h1'
  obtain rfl := RepG.str_inv h3'
  unfold kokC at hk
  split at hk <;> first | (cases hk; done) | skip
  all_goals first
   | (split at hk
      ·rename_i g1 g2
       simp only [aggC, if_true, keyEq, keyOk, g1, g2, keqC, beq_mk]
       exact ⟨by first | rfl | trivial, by first | rfl | trivial⟩
      ·cases hk)
   | simp_all
 | 1, x, y, hx, hy | 3, x, y, hx, hy | 4, x, y, hx, hy | 6, x, y, hx, hy | 7, x, y, hx, hy | 8, x, y, hx, hy | 9, x, y, hx, hy | 10, x, y, hx, hy | 11, x, y, hx, hy | 12, x, y, hx, hy | 13, x, y, hx, hy | _ + 14, x, y, hx, hy => simp [kokC] at hk
theorem bytes_row : ∀ (s : Bs), RowG outC 1 s (s.map fun b => .int .u8 b.toNat)
 | [] => .nil _
 | b :: s => RowG.cons (c1 := [.int .u8 b.toNat]) (.cons (.int _ _) .nil) (bytes_row s)
theorem unbytes_row : ∀ (s : Bs) (cs : List V), RowG outC 1 s cs → u8sOf cs = some (s.map fun b => (b.toNat : Int))
 | [], cs, h => by rw [h.inv0]; rfl
 | b :: s, cs, h => by
  obtain ⟨c1, c2, rfl, h1, h2⟩ := h.inv
  obtain ⟨v, vs, rfl, h3, h4⟩ := CRg.inv h1
  obtain rfl := CRg.inv0 h4
  obtain rfl := RepG.int_inv h3
  simp only [List.singleton_append, u8sOf, unbytes_row s c2 h2, Option.map_some, List.map_cons]
theorem codG : CodG cod where
 gen := gen_ok
 pos := fun k => by
  show 0 < sizeC k
  unfold sizeC
  split <;> omega
 len := len_ok
 one := fun k h => by
  have h : aggC k = false := h
  show sizeC k = 1
  unfold aggC at h
  unfold sizeC
  split at h <;> first | (cases h; done) | skip
  all_goals first | rfl | (split <;> simp_all)
 inn := inn_w
 key := key_ok
 bytes := fun k s l h => by
  have h : bytesC k s = some l := h
  unfold bytesC at h
  split at h
  ·injection h with h
   subst h
   exact ⟨rfl, (crl_iff gen_ok).2 (bytes_row _), rfl⟩
  ·cases h
 unbytes := fun k l s cs h hc => by
  have h : unbytesC k l = some s := h
  unfold unbytesC at h
  split at h
  ·injection h with h
   subst h
   exact ⟨unbytes_row _ cs ((crl_iff gen_ok).1 hc), rfl⟩
  ·cases h
theorem codOk : CodOk cod := codG.ok
end Go.Proofs.YtpdgbhjhodhkiaaGreatDoor.AI
namespace Go.Proofs.YtpdgbhjhodhkiaaGreatDoor.AI
open Go
def atoiOk (s : Bs) : Bool := match Lib.atoiAll s with | .ok _ => true | _ => false
def atoiVal (s : Bs) : Int := match Lib.atoiAll s with | .ok v => v | .range => Lib.atoiSat s | _ => 0
def runesN (s : Bs) : Int := Lib.runeCountL s
def ascii (s : Bs) : Bool := s.all fun b => b.toNat < 128
def extD {R : Type} (f : FuncId) (ws : List (W T)) (k : W T → Option R) : Option R :=
 bif Nat.beq f 82 then (match ws with | [.int .i64 n] => cnd (ok64 n) (k (.str (Lib.itoa n))) none | _ => none) else
 bif Nat.beq f 97 then (match ws with | [.str s] => cnd (decide (s.length ≤ 281474976710656)) (cnd (atoiOk s) (k (.tup [.int .i64 (atoiVal s), .nili])) (k (.tup [.int .i64 (atoiVal s), .ifc 216 .undef]))) none | _ => none) else
 bif Nat.beq f 101 then (match ws with | [.str s] => cnd (decide (s.length < 9223372036854775807)) (k (.int .i64 (runesN s))) none | _ => none) else
 bif Nat.beq f 153 then (match ws with | [.str s] => cnd (decide (s.length ≤ 9223372036854775807)) (k (.bool (Lib.validD s))) none | _ => none) else
 bif Nat.beq f 158 then (match ws with | [.str s, .str t] => cnd (decide (s.length ≤ 9223372036854775807) && (decide (t.length < 4294967281) && ascii t)) (k (.str (Lib.trimS s t))) none | _ => none) else
 bif Nat.beq f 184 then (match ws with | [.str s, .str t] => k (.tup [.str (Lib.trimPrefix s t), .bool (Lib.hasPrefix s t)]) | _ => none) else
 bif Nat.beq f 186 then (match ws with | [.str s, .str t] => cnd (decide (s.length < 4294967281)) (k (.tup [.str (Lib.cut s t).1, .str (Lib.cut s t).2.1, .bool (Lib.cut s t).2.2])) none | _ => none) else
 bif Nat.beq f 187 then (match ws with | [.str s, .str t] => k (.str (Lib.trimPrefix s t)) | _ => none) else
 bif Nat.beq f 106 then (match ws with | [.row 3 l _] => cnd (decide (l.length * 64 ≤ 140737488355328)) (k (.row 3 l false)) none | [.nilsl] => k (.row 3 ([] : List Form) false) | _ => none) else
 bif Nat.beq f 176 then (match ws with | [.row 0 l _] => cnd (decide (l.length * 8 ≤ 140737488355328)) (k (.row 0 l false)) none | [.nilsl] => k (.row 0 ([] : List Int) false) | _ => none) else
 bif Nat.beq f 222 then (match ws with | [.str s, .str t] => cnd (decide (s.length < 4294967281)) (k (.int .i64 (Lib.index s t))) none | _ => none) else
 none
end Go.Proofs.YtpdgbhjhodhkiaaGreatDoor.AI
namespace Go.Proofs.YtpdgbhjhodhkiaaGreatDoor.AI
open Go Go.Proofs
def extV (f : FuncId) (vs : List V) : Option V :=
 if f = 82 then (match vs with | [.int .i64 n] => if ok64 n = true then some (.str ⟨(Lib.itoa n).toArray⟩) else none | _ => none) else
 if f = 97 then (match vs with | [.str s] => if s.size ≤ 281474976710656 then some (.tup [.int .i64 (atoiVal s.data.toList), if atoiOk s.data.toList = true then .nili else .ifc 216 .undef]) else none | _ => none) else
 if f = 101 then (match vs with | [.str s] => if s.size < 9223372036854775807 then some (.int .i64 (runesN s.data.toList)) else none | _ => none) else
 if f = 153 then (match vs with | [.str s] => if s.size ≤ 9223372036854775807 then some (.bool (Lib.validD s.data.toList)) else none | _ => none) else
 if f = 158 then (match vs with | [.str s, .str t] => if s.size ≤ 9223372036854775807 ∧ t.size < 4294967281 ∧ ascii t.data.toList = true then some (.str ⟨(Lib.trimS s.data.toList t.data.toList).toArray⟩) else none | _ => none) else
 if f = 184 then (match vs with | [.str s, .str t] => some (.tup [.str ⟨(Lib.trimPrefix s.data.toList t.data.toList).toArray⟩, .bool (Lib.hasPrefix s.data.toList t.data.toList)]) | _ => none) else
 if f = 186 then (match vs with | [.str s, .str t] => if s.size < 4294967281 then some (.tup [.str ⟨(Lib.cut s.data.toList t.data.toList).1.toArray⟩, .str ⟨(Lib.cut s.data.toList t.data.toList).2.1.toArray⟩, .bool (Lib.cut s.data.toList t.data.toList).2.2]) else none | _ => none) else
 if f = 187 then (match vs with | [.str s, .str t] => some (.str ⟨(Lib.trimPrefix s.data.toList t.data.toList).toArray⟩) | _ => none) else
 if f = 106 then (match vs with | [.ro cells n _] => if n * 4 = cells.length ∧ n * 64 ≤ 140737488355328 ∧ cells.all V.cellLike = true then some (.ro cells n false) else none | _ => none) else
 if f = 176 then (match vs with | [.ro cells n _] => if n = cells.length ∧ n * 8 ≤ 140737488355328 ∧ cells.all V.cellLike = true then some (.ro cells n false) else none | _ => none) else
 if f = 222 then (match vs with | [.str s, .str t] => if s.size < 4294967281 then some (.int .i64 (Lib.index s.data.toList t.data.toList)) else none | _ => none) else
 none
def mdV (f : FuncId) : Md :=
 if [82, 97, 101, 153, 158, 184, 186, 187, 106, 176, 222].contains f then .ext
 else if [77].contains f then .frozen
 else if [11, 73, 36, 20, 22, 23, 28, 30, 32, 34, 35, 38, 43, 74, 75, 79, 98, 15, 24, 29, 31, 33, 39, 40, 41, 42, 44, 107, 108, 12, 37, 105, 84, 96, 100, 154, 185, 155, 156, 157, 159, 160, 188, 25, 163, 27, 26, 102, 103, 115, 147, 165, 166, 171, 172, 173, 174, 203, 204, 205, 206, 5].contains f then .pure
 else .keep
def okV (f : FuncId) : Bool := Nat.blt 1 f && Nat.blt f 238
def shF (f : FuncId) : Bool := [35, 37, 38, 39, 42, 43, 44, 105, 106].contains f
def shT (t : TypeId) : Bool := [24, 186].contains t
noncomputable def cfgL : Cfg := { P := Tryz.prog, ok := okV, md := mdV, ext := extV, share := shF, shareT := shT }
def kdV (t : TypeId) : Option Nat := if t = 3 then some 0 else if t = 5 then some 1 else if t = 9 then some 2 else if t = 24 then some 3 else if t = 4 then some 4 else if t = 126 then some 5 else if t = 57 then some 6 else if t = 124 then some 6 else if t = 22 then some 7 else if t = 38 then some 9 else none
noncomputable def wcL : WCfg T := ⟨cod, kdV⟩
noncomputable def fnOf (f : FuncId) : Func := match Tryz.prog.funcs[f]? with | some fn => fn | none => default
noncomputable def bodyOf (f : FuncId) : Code := match (fnOf f).body with | some c => c | none => .skip
noncomputable def codeOf (f : FuncId) (p : List Nat) : Code := match codeAt (bodyOf f) p with | some c => c | _ => .skip
noncomputable def loopAt (f : FuncId) (p : List Nat) : Code := match codeAt (bodyOf f) p with | some (.loop c) => c | _ => .skip
def extT {R : Type} (f : FuncId) (ws : List (W T)) (k : W T → Option R) : Option R := extD f ws k
theorem mkData (s : Bs) : (ByteArray.mk s.toArray).data.toList = s := by simp
theorem mkSize (s : Bs) : (ByteArray.mk s.toArray).size = s.length := by simp [ByteArray.size]
section
variable {vs : List V}
theorem rep1 {w0 : W T} (h : RepL cod [] [] [w0] vs) : ∃ v0, vs = [v0] ∧ Rep cod [] [] w0 v0 := by
 simp only [RepL] at h
 obtain ⟨v0, _, rfl, h0, rfl⟩ := h
 exact ⟨v0, rfl, h0⟩
theorem rep2 {w0 w1 : W T} (h : RepL cod [] [] [w0, w1] vs) : ∃ v0 v1, vs = [v0, v1] ∧ Rep cod [] [] w0 v0 ∧ Rep cod [] [] w1 v1 := by
 simp only [RepL] at h
 obtain ⟨v0, _, rfl, h0, v1, _, rfl, h1, rfl⟩ := h
 exact ⟨v0, v1, rfl, h0, h1⟩
end
theorem rowClone (kk sz : Nat) (hs : cod.size kk = sz) (l : List (T kk)) {cs : List V} (hc : CRL cod kk l cs) : l.length * sz = cs.length ∧ cs.all V.cellLike = true ∧ pureL cs = true :=
 ⟨by rw [← hs]; exact (hc.length codOk).symm, hc.cell codOk, hc.pure codOk⟩
theorem extT_ok {R : Type} {f : FuncId} {ws : List (W T)} {k : W T → Option R} {r : R} (h : extT f ws k = some r) : ∃ w, k w = some r ∧ ∀ {vs}, RepL cod [] [] ws vs → ∃ v, cfgL.ext f vs = some v ∧ Rep cod [] [] w v ∧ V.pure v = true := by
 have ext0 : ∀ vs, cfgL.ext f vs = extV f vs := fun _ => rfl
 unfold extT extD at h
 have hh := bif_or h; clear h; rcases hh with ⟨e, h⟩ | h
 ·obtain rfl := Nat.eq_of_beq_eq_true e
  split at h
  ·obtain ⟨h1, h⟩ := cond_some h
   refine ⟨_, h, fun hr => ?_⟩
   obtain ⟨v, rfl, hv⟩ := rep1 hr
   simp only [Rep] at hv
   subst hv
   exact ⟨_, by rw [ext0]; simp only [extV, if_true, h1]; rfl, by simp only [Rep], rfl⟩
  ·cases h
 have hh := bif_or h; clear h; rcases hh with ⟨e, h⟩ | h
 ·obtain rfl := Nat.eq_of_beq_eq_true e
  split at h
  ·obtain ⟨h1, h⟩ := cond_some h
   have h1 := of_decide_eq_true h1
   rcases cond_cases h with ⟨h2, h⟩ | ⟨h2, h⟩
   ·refine ⟨_, h, fun hr => ?_⟩
    obtain ⟨v, rfl, hv⟩ := rep1 hr
    simp only [Rep] at hv
    subst hv
    refine ⟨_, by rw [ext0]; simp only [extV, reduceIte, Nat.reduceEqDiff, mkData, mkSize, h1, h2]; rfl, ?_, rfl⟩
    simp only [Rep, RepL]
    exact ⟨_, rfl, _, _, rfl, rfl, _, _, rfl, rfl, rfl⟩
   ·refine ⟨_, h, fun hr => ?_⟩
    obtain ⟨v, rfl, hv⟩ := rep1 hr
    simp only [Rep] at hv
    subst hv
    refine ⟨_, by rw [ext0]; simp only [extV, reduceIte, Nat.reduceEqDiff, mkData, mkSize, h1, h2, Bool.false_eq_true]; rfl, ?_, rfl⟩
    simp only [Rep, RepL]
    exact ⟨_, rfl, _, _, rfl, rfl, _, _, rfl, ⟨_, rfl, trivial⟩, rfl⟩
  ·cases h
 have hh := bif_or h; clear h; rcases hh with ⟨e, h⟩ | h
 ·obtain rfl := Nat.eq_of_beq_eq_true e
  split at h
  ·obtain ⟨h1, h⟩ := cond_some h
   have h1 := of_decide_eq_true h1
   refine ⟨_, h, fun hr => ?_⟩
   obtain ⟨v, rfl, hv⟩ := rep1 hr
   simp only [Rep] at hv
   subst hv
   exact ⟨_, by rw [ext0]; simp only [extV, reduceIte, Nat.reduceEqDiff, mkData, mkSize, h1]; rfl, by simp only [Rep], rfl⟩
  ·cases h
 have hh := bif_or h; clear h; rcases hh with ⟨e, h⟩ | h
 ·obtain rfl := Nat.eq_of_beq_eq_true e
  split at h
  ·obtain ⟨h1, h⟩ := cond_some h
   have h1 := of_decide_eq_true h1
   refine ⟨_, h, fun hr => ?_⟩
   obtain ⟨v, rfl, hv⟩ := rep1 hr
   simp only [Rep] at hv
   subst hv
   exact ⟨_, by rw [ext0]; simp only [extV, reduceIte, Nat.reduceEqDiff, mkData, mkSize, h1]; rfl, by simp only [Rep], rfl⟩
  ·cases h
 have hh := bif_or h; clear h; rcases hh with ⟨e, h⟩ | h
 ·obtain rfl := Nat.eq_of_beq_eq_true e
  split at h
  ·obtain ⟨h1, h⟩ := cond_some h
   simp only [Bool.and_eq_true, decide_eq_true_eq] at h1
   refine ⟨_, h, fun hr => ?_⟩
   obtain ⟨v, u, rfl, hv, hu⟩ := rep2 hr
   simp only [Rep] at hv hu
   subst hv hu
   exact ⟨_, by rw [ext0]; simp only [extV, reduceIte, Nat.reduceEqDiff, mkData, mkSize]; rw [if_pos ⟨h1.1, h1.2.1, h1.2.2⟩], by simp only [Rep], rfl⟩
  ·cases h
 have hh := bif_or h; clear h; rcases hh with ⟨e, h⟩ | h
 ·obtain rfl := Nat.eq_of_beq_eq_true e
  split at h
  ·refine ⟨_, h, fun hr => ?_⟩
   obtain ⟨v, u, rfl, hv, hu⟩ := rep2 hr
   simp only [Rep] at hv hu
   subst hv hu
   refine ⟨_, by rw [ext0]; simp only [extV, reduceIte, Nat.reduceEqDiff, mkData]; rfl, ?_, rfl⟩
   simp only [Rep, RepL]
   exact ⟨_, rfl, _, _, rfl, rfl, _, _, rfl, rfl, rfl⟩
  ·cases h
 have hh := bif_or h; clear h; rcases hh with ⟨e, h⟩ | h
 ·obtain rfl := Nat.eq_of_beq_eq_true e
  split at h
  ·obtain ⟨h1, h⟩ := cond_some h
   have h1 := of_decide_eq_true h1
   refine ⟨_, h, fun hr => ?_⟩
   obtain ⟨v, u, rfl, hv, hu⟩ := rep2 hr
   simp only [Rep] at hv hu
   subst hv hu
   refine ⟨_, by rw [ext0]; simp only [extV, reduceIte, Nat.reduceEqDiff, mkData, mkSize, h1]; rfl, ?_, rfl⟩
   simp only [Rep, RepL]
   exact ⟨_, rfl, _, _, rfl, rfl, _, _, rfl, rfl, _, _, rfl, rfl, rfl⟩
  ·cases h
 have hh := bif_or h; clear h; rcases hh with ⟨e, h⟩ | h
 ·obtain rfl := Nat.eq_of_beq_eq_true e
  split at h
  ·refine ⟨_, h, fun hr => ?_⟩
   obtain ⟨v, u, rfl, hv, hu⟩ := rep2 hr
   simp only [Rep] at hv hu
   subst hv hu
   exact ⟨_, by rw [ext0]; simp only [extV, reduceIte, Nat.reduceEqDiff, mkData]; rfl, by simp only [Rep], rfl⟩
  ·cases h
 have hh := bif_or h; clear h; rcases hh with ⟨e, h⟩ | h
 ·obtain rfl := Nat.eq_of_beq_eq_true e
  split at h
  ·rename_i l fl
   obtain ⟨h1, h⟩ := cond_some h
   have h1 := of_decide_eq_true h1
   refine ⟨_, h, fun hr => ?_⟩
   obtain ⟨v, rfl, hv⟩ := rep1 hr
   simp only [Rep] at hv
   obtain ⟨cs, fl', rfl, _, hc⟩ := hv
   obtain ⟨c1, c2, c3⟩ := rowClone 3 4 rfl l hc
   refine ⟨_, by rw [ext0]; simp only [extV, reduceIte, Nat.reduceEqDiff]; rw [if_pos ⟨c1, h1, c2⟩], ?_, rfl⟩
   simp only [Rep]
   exact ⟨cs, false, rfl, (fun h => by cases h), hc⟩
  ·refine ⟨_, h, fun hr => ?_⟩
   obtain ⟨v, rfl, hv⟩ := rep1 hr
   simp only [Rep] at hv
   subst hv
   refine ⟨_, by rw [ext0]; simp only [extV, reduceIte, Nat.reduceEqDiff]; rw [if_pos ⟨rfl, by decide, rfl⟩], ?_, rfl⟩
   simp only [Rep]
   exact ⟨[], false, rfl, (fun h => by cases h), rfl⟩
  ·cases h
 have hh := bif_or h; clear h; rcases hh with ⟨e, h⟩ | h
 ·obtain rfl := Nat.eq_of_beq_eq_true e
  split at h
  ·rename_i l fl
   obtain ⟨h1, h⟩ := cond_some h
   have h1 := of_decide_eq_true h1
   refine ⟨_, h, fun hr => ?_⟩
   obtain ⟨v, rfl, hv⟩ := rep1 hr
   simp only [Rep] at hv
   obtain ⟨cs, fl', rfl, _, hc⟩ := hv
   obtain ⟨c1, c2, c3⟩ := rowClone 0 1 rfl l hc
   refine ⟨_, by rw [ext0]; simp only [extV, reduceIte, Nat.reduceEqDiff]; rw [if_pos ⟨by omega, h1, c2⟩], ?_, rfl⟩
   simp only [Rep]
   exact ⟨cs, false, rfl, (fun h => by cases h), hc⟩
  ·refine ⟨_, h, fun hr => ?_⟩
   obtain ⟨v, rfl, hv⟩ := rep1 hr
   simp only [Rep] at hv
   subst hv
   refine ⟨_, by rw [ext0]; simp only [extV, reduceIte, Nat.reduceEqDiff]; rw [if_pos ⟨rfl, by decide, rfl⟩], ?_, rfl⟩
   simp only [Rep]
   exact ⟨[], false, rfl, (fun h => by cases h), rfl⟩
  ·cases h
 have hh := bif_or h; clear h; rcases hh with ⟨e, h⟩ | h
 ·obtain rfl := Nat.eq_of_beq_eq_true e
  split at h
  ·obtain ⟨h1, h⟩ := cond_some h
   have h1 := of_decide_eq_true h1
   refine ⟨_, h, fun hr => ?_⟩
   obtain ⟨v, u, rfl, hv, hu⟩ := rep2 hr
   simp only [Rep] at hv hu
   subst hv hu
   exact ⟨_, by rw [ext0]; simp only [extV, reduceIte, Nat.reduceEqDiff, mkData, mkSize, h1]; rfl, by simp only [Rep], rfl⟩
  ·cases h
 cases h
set_option maxRecDepth 100000
def isTrue (r : Option (V × Mem)) : Bool := match r with | some (.bool true, _) => true | _ => false
theorem awakeN : isTrue (callN cfgL 60 (.fn 12) [] Mem.empty) = true := by kernel_rfl
theorem awakeTrees_told (y : Bool) (h : some true = some y) : PurSaid cfgL cod 12 [] (outV cod 4 y) := by
 injection h with h
 subst h
 intro vs hr
 simp only [RepL] at hr
 subst hr
 have h := awakeN
 unfold isTrue at h
 split at h
 ·rename_i m hm
  refine ⟨.bool true, ?_, by show Rep cod [] [] (.bool true) (.bool true); simp only [Rep]⟩
  unfold pres
  rw [callW_of hm]
  rfl
 ·cases h
end Go.Proofs.YtpdgbhjhodhkiaaGreatDoor.AI
namespace Go.Proofs.YtpdgbhjhodhkiaaGreatDoor.AI
open Go Go.Proofs
noncomputable def un (n : Nat) : List (W T) := List.replicate n .undef
noncomputable def through_S (p0 : Form) (p1 : Int) : List (W T) × WM T := ([outV cod 3 p0, .yld 0], { A := [[.int .i64 p1]], H := [.loop .ready none ([.undef, .undef, .ptr 0 0, .tup []] ++ (un 8 ++ ([.tup [], .tup [], .tup [], .tup []] ++ (un 33)))) (rfPs (codeOf 20 [0, 1, 0, 1, 1])) (rfAs (codeOf 20 [0, 1, 0, 1, 1])) (rfBo (codeOf 20 [0, 1, 0, 1, 1])) [0, 1, 0, 1, 1, 20]], la := 0, lh := 0, pa := 1, ph := 1 })
noncomputable def through_A {X : Type} (ws : List (W T)) (wm : WM T) (k : (Form) → (Int) → X) : X := k (W.toD cod 3 (ws.getD 0 .undef)) (W.toI ((wm.A.getD 0 []).getD 0 .undef))
noncomputable def through_O0 (p0 : Form) (p1 : Int) (o : Unit) : List (W T) × WM T := ([outV cod 4 false], { A := [[.int .i64 2]], H := [.loop .done (some .ret) ([.undef, .undef, .ptr 0 0, .tup []] ++ (un 8 ++ ([.tup [], .tup [], .tup [], .tup []] ++ (un 33)))) (rfPs (codeOf 20 [0, 1, 0, 1, 1])) (rfAs (codeOf 20 [0, 1, 0, 1, 1])) (rfBo (codeOf 20 [0, 1, 0, 1, 1])) [0, 1, 0, 1, 1, 20]], la := 0, lh := 0, pa := 1, ph := 1 })
noncomputable def through_O1 (p0 : Form) (p1 : Int) (o : Unit) : List (W T) × WM T := ([outV cod 4 true], { A := [[.int .i64 p1]], H := [.loop .ready none ([.undef, .undef, .ptr 0 0, .tup []] ++ (un 8 ++ ([.tup [], .tup [], .tup [], .tup []] ++ (un 33)))) (rfPs (codeOf 20 [0, 1, 0, 1, 1])) (rfAs (codeOf 20 [0, 1, 0, 1, 1])) (rfBo (codeOf 20 [0, 1, 0, 1, 1])) [0, 1, 0, 1, 1, 20]], la := 0, lh := 0, pa := 1, ph := 1 })
noncomputable def through_E (p0 : Form) (p1 : Int) (o : (Unit) ⊕ (Unit)) : List (W T) × WM T := (match o with | .inl o => through_O0 p0 p1 o | .inr o => through_O1 p0 p1 o)
noncomputable def through_v1_S (p0 : Form) (p1 : Int) (p2 : List (Bs × Bool)) : List (W T) × WM T := ([outV cod 3 p0, .yld 0], { A := [[.int .i64 p1], [.map 1]], H := [.loop .ready none ([.undef, .undef, .ptr 0 0, .undef, .ptr 1 0, .tup [], .tup []] ++ (un 12 ++ ([.tup [], .tup [], .tup [], .tup [], .tup [], .tup [], .tup [], .tup [], .tup [], .tup [], .tup [], .tup [], .tup [], .tup [], .tup [], .tup [], .tup [], .tup [], .tup [], .tup [], .tup [], .tup [], .tup [], .tup [], .tup [], .tup [], .tup [], .tup [], .tup [], .tup []]))) (rfPs (codeOf 20 [0, 1, 0, 1, 1, 1, 1])) (rfAs (codeOf 20 [0, 1, 0, 1, 1, 1, 1])) (rfBo (codeOf 20 [0, 1, 0, 1, 1, 1, 1])) [0, 1, 0, 1, 1, 1, 1, 20], .map 2 4 p2], la := 0, lh := 0, pa := 2, ph := 2 })
noncomputable def through_v1_A {X : Type} (ws : List (W T)) (wm : WM T) (k : (Form) → (Int) → (List (Bs × Bool)) → X) : X := k (W.toD cod 3 (ws.getD 0 .undef)) (W.toI ((wm.A.getD 0 []).getD 0 .undef)) (En.toM 2 4 (wm.H.getD 1 .dead))
noncomputable def through_v1_O0 (p0 : Form) (p1 : Int) (p2 : List (Bs × Bool)) (o : (Int) × (List (Bs × Bool))) : List (W T) × WM T := ([outV cod 4 false], { A := [[.int .i64 o.fst], [.map 1]], H := [.loop .done (some .ret) ([.undef, .undef, .ptr 0 0, .undef, .ptr 1 0, .tup [], .tup []] ++ (un 12 ++ ([.tup [], .tup [], .tup [], .tup [], .tup [], .tup [], .tup [], .tup [], .tup [], .tup [], .tup [], .tup [], .tup [], .tup [], .tup [], .tup [], .tup [], .tup [], .tup [], .tup [], .tup [], .tup [], .tup [], .tup [], .tup [], .tup [], .tup [], .tup [], .tup [], .tup []]))) (rfPs (codeOf 20 [0, 1, 0, 1, 1, 1, 1])) (rfAs (codeOf 20 [0, 1, 0, 1, 1, 1, 1])) (rfBo (codeOf 20 [0, 1, 0, 1, 1, 1, 1])) [0, 1, 0, 1, 1, 1, 1, 20], .map 2 4 o.snd], la := 0, lh := 0, pa := 2, ph := 2 })
noncomputable def through_v1_O1 (p0 : Form) (p1 : Int) (p2 : List (Bs × Bool)) (o : (List (Bs × Bool))) : List (W T) × WM T := ([outV cod 4 true], { A := [[.int .i64 p1], [.map 1]], H := [.loop .ready none ([.undef, .undef, .ptr 0 0, .undef, .ptr 1 0, .tup [], .tup []] ++ (un 12 ++ ([.tup [], .tup [], .tup [], .tup [], .tup [], .tup [], .tup [], .tup [], .tup [], .tup [], .tup [], .tup [], .tup [], .tup [], .tup [], .tup [], .tup [], .tup [], .tup [], .tup [], .tup [], .tup [], .tup [], .tup [], .tup [], .tup [], .tup [], .tup [], .tup [], .tup []]))) (rfPs (codeOf 20 [0, 1, 0, 1, 1, 1, 1])) (rfAs (codeOf 20 [0, 1, 0, 1, 1, 1, 1])) (rfBo (codeOf 20 [0, 1, 0, 1, 1, 1, 1])) [0, 1, 0, 1, 1, 1, 1, 20], .map 2 4 o], la := 0, lh := 0, pa := 2, ph := 2 })
noncomputable def through_v1_E (p0 : Form) (p1 : Int) (p2 : List (Bs × Bool)) (o : ((Int) × (List (Bs × Bool))) ⊕ ((List (Bs × Bool)))) : List (W T) × WM T := (match o with | .inl o => through_v1_O0 p0 p1 p2 o | .inr o => through_v1_O1 p0 p1 p2 o)
noncomputable def look_S (p0 : Form) (p1 : Int) (p2 : Int) : List (W T) × WM T := ([outV cod 3 p0, outV cod 0 p1, .ptr 0 0, .ptr 1 0], { A := [[.int .i64 p2], [.fn 144 [.ptr 0 0, .ptr 1 0]]], H := [], la := 0, lh := 0, pa := 2, ph := 0 })
noncomputable def look_A {X : Type} (ws : List (W T)) (wm : WM T) (k : (Form) → (Int) → (Int) → X) : X := k (W.toD cod 3 (ws.getD 0 .undef)) (W.toD cod 0 (ws.getD 1 .undef)) (W.toI ((wm.A.getD 0 []).getD 0 .undef))
noncomputable def look_O0 (p0 : Form) (p1 : Int) (p2 : Int) (o : (Bool) × (Int)) : List (W T) × WM T := ([outV cod 4 o.fst], { A := [[.int .i64 o.snd], [.fn 144 [.ptr 0 0, .ptr 1 0]]], H := [], la := 0, lh := 0, pa := 2, ph := 0 })
noncomputable def look_E (p0 : Form) (p1 : Int) (p2 : Int) (o : (Bool) × (Int)) : List (W T) × WM T := look_O0 p0 p1 p2 o
noncomputable def labels_S (p0 : Form) (p1 : List Bs) : List (W T) × WM T := ([outV cod 3 p0, .own 2 0], { A := [], H := [.rows 2 p1], la := 0, lh := 0, pa := 0, ph := 1 })
noncomputable def labels_A {X : Type} (ws : List (W T)) (wm : WM T) (k : (Form) → (List Bs) → X) : X := k (W.toD cod 3 (ws.getD 0 .undef)) (En.toR 2 (wm.H.getD 0 .dead))
noncomputable def labels_O0 (p0 : Form) (p1 : List Bs) (o : (Int) × (List Bs)) : List (W T) × WM T := ([.tup [.own 2 1, outV cod 0 o.fst]], { A := [], H := [.dead, .rows 2 o.snd], la := 0, lh := 0, pa := 0, ph := 1 })
noncomputable def labels_E (p0 : Form) (p1 : List Bs) (o : (Int) × (List Bs)) : List (W T) × WM T := labels_O0 p0 p1 o
noncomputable def Size_L0_S (p0 : List Form) (p1 : Int) (p2 : Int) (p3 : Bs) (p4 : Bs) (v : (Int) × (Int) × (Int)) : WSt T := { tm := [.undef, .undef, .int .i64 v.fst, .int .i64 v.snd.fst, .undef, .undef, .undef, .undef, .undef, .row 3 p0 false, .int .i64 p1, .int .i64 v.snd.snd] ++ (un 18), mem := { A := [[.int .i64 p2, .str p3, .str p4, .row 3 p0 false]], H := [], la := 0, lh := 0, pa := 0, ph := 0 }, df := [], rd := false }
noncomputable def Size_L0_A {X : Type} (st : WSt T) (k : (List Form) → (Int) → (Int) → (Bs) → (Bs) → ((Int) × (Int) × (Int)) → X) : X := k (W.toR 3 (st.tm.getD 9 .undef)) (W.toI (st.tm.getD 10 .undef)) (W.toI ((st.mem.A.getD 0 []).getD 0 .undef)) (W.toS ((st.mem.A.getD 0 []).getD 1 .undef)) (W.toS ((st.mem.A.getD 0 []).getD 2 .undef)) ((W.toI (st.tm.getD 2 .undef)), (W.toI (st.tm.getD 3 .undef)), (W.toI (st.tm.getD 11 .undef)))
noncomputable def Size_L0_O0 (p0 : List Form) (p1 : Int) (p2 : Int) (p3 : Bs) (p4 : Bs) (o : (Int) × (Int) × (Int)) : WSt T := { tm := [.undef, .undef, .int .i64 o.fst, .int .i64 o.snd.fst, .undef, .undef, .undef, .undef, .undef, .row 3 p0 false, .int .i64 p1, .int .i64 o.snd.snd] ++ (un 18), mem := { A := [[.int .i64 p2, .str p3, .str p4, .row 3 p0 false]], H := [], la := 0, lh := 0, pa := 0, ph := 0 }, df := [], rd := false }
noncomputable def Size_L0_E (p0 : List Form) (p1 : Int) (p2 : Int) (p3 : Bs) (p4 : Bs) (o : (Int) × (Int) × (Int)) : Ex × WSt T := ((.exit 0), Size_L0_O0 p0 p1 p2 p3 p4 o)
noncomputable def Size_L0_q : Prep := ⟨[0, 1, 4, 5, 6, 7, 8, 12, 13, 14, 15, 16, 17, 18, 19, 20, 21, 22, 23, 24, 25, 26, 27, 28, 29], [], []⟩
noncomputable def rEqual_L0_S (p0 : Int) (p1 : Bs) (p2 : Bs) (p3 : List Form) (p4 : Int) (p5 : Bs) (p6 : Bs) (p7 : List Form) (v : (Int)) : WSt T := { tm := [.undef, .undef, .ptr 0 0, .ptr 1 0, .bool false, .int .i64 v] ++ (un 47), mem := { A := [[.int .i64 p0, .str p1, .str p2, .row 3 p3 false], [.int .i64 p4, .str p5, .str p6, .row 3 p7 false]], H := [], la := 0, lh := 0, pa := 0, ph := 0 }, df := [], rd := false }
noncomputable def rEqual_L0_A {X : Type} (st : WSt T) (k : (Int) → (Bs) → (Bs) → (List Form) → (Int) → (Bs) → (Bs) → (List Form) → ((Int)) → X) : X := k (W.toI ((st.mem.A.getD 0 []).getD 0 .undef)) (W.toS ((st.mem.A.getD 0 []).getD 1 .undef)) (W.toS ((st.mem.A.getD 0 []).getD 2 .undef)) (W.toR 3 ((st.mem.A.getD 0 []).getD 3 .undef)) (W.toI ((st.mem.A.getD 1 []).getD 0 .undef)) (W.toS ((st.mem.A.getD 1 []).getD 1 .undef)) (W.toS ((st.mem.A.getD 1 []).getD 2 .undef)) (W.toR 3 ((st.mem.A.getD 1 []).getD 3 .undef)) (W.toI (st.tm.getD 5 .undef))
noncomputable def rEqual_L0_O0 (p0 : Int) (p1 : Bs) (p2 : Bs) (p3 : List Form) (p4 : Int) (p5 : Bs) (p6 : Bs) (p7 : List Form) (o : (Int)) : WSt T := { tm := [.undef, .undef, .ptr 0 0, .ptr 1 0, .bool false, .int .i64 o] ++ (un 47), mem := { A := [[.int .i64 p0, .str p1, .str p2, .row 3 p3 false], [.int .i64 p4, .str p5, .str p6, .row 3 p7 false]], H := [], la := 0, lh := 0, pa := 0, ph := 0 }, df := [], rd := false }
noncomputable def rEqual_L0_O1 (p0 : Int) (p1 : Bs) (p2 : Bs) (p3 : List Form) (p4 : Int) (p5 : Bs) (p6 : Bs) (p7 : List Form) (o : (Int)) : WSt T := { tm := [.undef, .undef, .ptr 0 0, .ptr 1 0, .bool false, .int .i64 o] ++ (un 47), mem := { A := [[.int .i64 p0, .str p1, .str p2, .row 3 p3 false], [.int .i64 p4, .str p5, .str p6, .row 3 p7 false]], H := [], la := 0, lh := 0, pa := 0, ph := 0 }, df := [], rd := false }
noncomputable def rEqual_L0_E (p0 : Int) (p1 : Bs) (p2 : Bs) (p3 : List Form) (p4 : Int) (p5 : Bs) (p6 : Bs) (p7 : List Form) (o : ((Int)) ⊕ ((Int))) : Ex × WSt T := (match o with | .inl o => (.ret, rEqual_L0_O0 p0 p1 p2 p3 p4 p5 p6 p7 o) | .inr o => ((.exit 0), rEqual_L0_O1 p0 p1 p2 p3 p4 p5 p6 p7 o))
noncomputable def rEqual_L0_q : Prep := ⟨[0, 1, 6, 7, 8, 9, 10, 11, 12, 13, 14, 15, 16, 17, 18, 19, 20, 21, 22, 23, 24, 25, 26, 27, 28, 29, 30, 31, 32, 33, 34, 35, 36, 37, 38, 39, 40, 41, 42, 43, 44, 45, 46, 47, 48, 49, 50, 51, 52], [], []⟩
noncomputable def left_L0_S (p0 : Int) (p1 : Bs) (p2 : Bs) (p3 : List Form) (v : (Int) × (Int)) : WSt T := { tm := [.undef, .int .i64 v.fst, .ptr 0 0, .undef, .int .i64 0, .int .i64 v.snd] ++ (un 21), mem := { A := [[.int .i64 p0, .str p1, .str p2, .row 3 p3 false]], H := [], la := 0, lh := 0, pa := 0, ph := 0 }, df := [], rd := false }
noncomputable def left_L0_A {X : Type} (st : WSt T) (k : (Int) → (Bs) → (Bs) → (List Form) → ((Int) × (Int)) → X) : X := k (W.toI ((st.mem.A.getD 0 []).getD 0 .undef)) (W.toS ((st.mem.A.getD 0 []).getD 1 .undef)) (W.toS ((st.mem.A.getD 0 []).getD 2 .undef)) (W.toR 3 ((st.mem.A.getD 0 []).getD 3 .undef)) ((W.toI (st.tm.getD 1 .undef)), (W.toI (st.tm.getD 5 .undef)))
noncomputable def left_L0_O0 (p0 : Int) (p1 : Bs) (p2 : Bs) (p3 : List Form) (o : (Int) × (Int)) : WSt T := { tm := [.undef, .int .i64 o.fst, .ptr 0 0, .undef, .int .i64 0, .int .i64 o.snd] ++ (un 21), mem := { A := [[.int .i64 p0, .str p1, .str p2, .row 3 p3 false]], H := [], la := 0, lh := 0, pa := 0, ph := 0 }, df := [], rd := false }
noncomputable def left_L0_E (p0 : Int) (p1 : Bs) (p2 : Bs) (p3 : List Form) (o : (Int) × (Int)) : Ex × WSt T := ((.exit 0), left_L0_O0 p0 p1 p2 p3 o)
noncomputable def left_L0_q : Prep := ⟨[0, 3, 6, 7, 8, 9, 10, 11, 12, 13, 14, 15, 16, 17, 18, 19, 20, 21, 22, 23, 24, 25, 26], [], []⟩
noncomputable def EqualFunc_L0_S (p0 : List Form) (p1 : List Form) (p2 : Int) (v : (Int)) : WSt T := { tm := [.undef, .row 3 p0 false, .fn 22 [], .undef, .undef, .undef, .bool false] ++ (un 8 ++ ([.row 3 p1 false, .int .i64 p2, .int .i64 v] ++ (un 14))), mem := { A := [], H := [], la := 0, lh := 0, pa := 0, ph := 0 }, df := [], rd := false }
noncomputable def EqualFunc_L0_A {X : Type} (st : WSt T) (k : (List Form) → (List Form) → (Int) → ((Int)) → X) : X := k (W.toR 3 (st.tm.getD 1 .undef)) (W.toR 3 (st.tm.getD 15 .undef)) (W.toI (st.tm.getD 16 .undef)) (W.toI (st.tm.getD 17 .undef))
noncomputable def EqualFunc_L0_O0 (p0 : List Form) (p1 : List Form) (p2 : Int) (o : (Int)) : WSt T := { tm := [.undef, .row 3 p0 false, .fn 22 [], .undef, .undef, .undef, .bool false] ++ (un 8 ++ ([.row 3 p1 false, .int .i64 p2, .int .i64 o] ++ (un 14))), mem := { A := [], H := [], la := 0, lh := 0, pa := 0, ph := 0 }, df := [], rd := false }
noncomputable def EqualFunc_L0_O1 (p0 : List Form) (p1 : List Form) (p2 : Int) (o : (Int)) : WSt T := { tm := [.undef, .row 3 p0 false, .fn 22 [], .undef, .undef, .undef, .bool false] ++ (un 8 ++ ([.row 3 p1 false, .int .i64 p2, .int .i64 o] ++ (un 14))), mem := { A := [], H := [], la := 0, lh := 0, pa := 0, ph := 0 }, df := [], rd := false }
noncomputable def EqualFunc_L0_E (p0 : List Form) (p1 : List Form) (p2 : Int) (o : ((Int)) ⊕ ((Int))) : Ex × WSt T := (match o with | .inl o => (.ret, EqualFunc_L0_O0 p0 p1 p2 o) | .inr o => ((.exit 0), EqualFunc_L0_O1 p0 p1 p2 o))
noncomputable def EqualFunc_L0_q : Prep := ⟨[0, 3, 4, 5, 7, 8, 9, 10, 11, 12, 13, 14, 18, 19, 20, 21, 22, 23, 24, 25, 26, 27, 28, 29, 30, 31], [], []⟩
noncomputable def through_L0_S (p0 : List Form) (p1 : Int) (p2 : Int) (p3 : Int) (p4 : Bs) (p5 : Bs) (v : (Int)) : WSt T := { tm := [.undef, .yld 0, .undef, .undef, .bool false] ++ (un 7 ++ ([.row 3 p0 false, .int .i64 p1, .int .i64 v] ++ (un 8))), mem := { A := [[.int .i64 p2], [.int .i64 p3, .str p4, .str p5, .row 3 p0 false]], H := [.loop .ready none ([.undef, .undef, .ptr 0 0, .tup []] ++ (un 8 ++ ([.tup [], .tup [], .tup [], .tup []] ++ (un 33)))) (rfPs (codeOf 20 [0, 1, 0, 1, 1])) (rfAs (codeOf 20 [0, 1, 0, 1, 1])) (rfBo (codeOf 20 [0, 1, 0, 1, 1])) [0, 1, 0, 1, 1, 20]], la := 0, lh := 0, pa := 1, ph := 1 }, df := [], rd := false }
noncomputable def through_L0_A {X : Type} (st : WSt T) (k : (List Form) → (Int) → (Int) → (Int) → (Bs) → (Bs) → ((Int)) → X) : X := k (W.toR 3 (st.tm.getD 12 .undef)) (W.toI (st.tm.getD 13 .undef)) (W.toI ((st.mem.A.getD 0 []).getD 0 .undef)) (W.toI ((st.mem.A.getD 1 []).getD 0 .undef)) (W.toS ((st.mem.A.getD 1 []).getD 1 .undef)) (W.toS ((st.mem.A.getD 1 []).getD 2 .undef)) (W.toI (st.tm.getD 14 .undef))
noncomputable def through_L0_O0 (p0 : List Form) (p1 : Int) (p2 : Int) (p3 : Int) (p4 : Bs) (p5 : Bs) (o : (Int)) : WSt T := { tm := [.undef, .yld 0, .undef, .undef, .bool false] ++ (un 7 ++ ([.row 3 p0 false, .int .i64 p1, .int .i64 o] ++ (un 8))), mem := { A := [[.int .i64 2], [.int .i64 p3, .str p4, .str p5, .row 3 p0 false]], H := [.loop .done (some .ret) ([.undef, .undef, .ptr 0 0, .tup []] ++ (un 8 ++ ([.tup [], .tup [], .tup [], .tup []] ++ (un 33)))) (rfPs (codeOf 20 [0, 1, 0, 1, 1])) (rfAs (codeOf 20 [0, 1, 0, 1, 1])) (rfBo (codeOf 20 [0, 1, 0, 1, 1])) [0, 1, 0, 1, 1, 20]], la := 0, lh := 0, pa := 1, ph := 1 }, df := [], rd := false }
noncomputable def through_L0_O1 (p0 : List Form) (p1 : Int) (p2 : Int) (p3 : Int) (p4 : Bs) (p5 : Bs) (o : (Int)) : WSt T := { tm := [.undef, .yld 0, .undef, .undef, .bool false] ++ (un 7 ++ ([.row 3 p0 false, .int .i64 p1, .int .i64 o] ++ (un 8))), mem := { A := [[.int .i64 p2], [.int .i64 p3, .str p4, .str p5, .row 3 p0 false]], H := [.loop .ready none ([.undef, .undef, .ptr 0 0, .tup []] ++ (un 8 ++ ([.tup [], .tup [], .tup [], .tup []] ++ (un 33)))) (rfPs (codeOf 20 [0, 1, 0, 1, 1])) (rfAs (codeOf 20 [0, 1, 0, 1, 1])) (rfBo (codeOf 20 [0, 1, 0, 1, 1])) [0, 1, 0, 1, 1, 20]], la := 0, lh := 0, pa := 1, ph := 1 }, df := [], rd := false }
noncomputable def through_L0_E (p0 : List Form) (p1 : Int) (p2 : Int) (p3 : Int) (p4 : Bs) (p5 : Bs) (o : ((Int)) ⊕ ((Int))) : Ex × WSt T := (match o with | .inl o => (.ret, through_L0_O0 p0 p1 p2 p3 p4 p5 o) | .inr o => ((.exit 0), through_L0_O1 p0 p1 p2 p3 p4 p5 o))
noncomputable def through_L0_q : Prep := ⟨[0, 2, 3, 5, 6, 7, 8, 9, 10, 11, 15, 16, 17, 18, 19, 20, 21, 22], [], []⟩
noncomputable def through_L1_S (p0 : List Form) (p1 : Int) (p2 : Int) (p3 : Int) (p4 : Bs) (p5 : Bs) (v : (Int) × (List (Bs × Bool))) : WSt T := { tm := [.undef, .yld 0, .undef, .undef, .bool false] ++ (un 7 ++ ([.row 3 p0 false, .int .i64 p1, .int .i64 v.fst] ++ (un 8))), mem := { A := [[.int .i64 p2], [.map 1], [.int .i64 p3, .str p4, .str p5, .row 3 p0 false]], H := [.loop .ready none ([.undef, .undef, .ptr 0 0, .undef, .ptr 1 0, .tup [], .tup []] ++ (un 12 ++ ([.tup [], .tup [], .tup [], .tup [], .tup [], .tup [], .tup [], .tup [], .tup [], .tup [], .tup [], .tup [], .tup [], .tup [], .tup [], .tup [], .tup [], .tup [], .tup [], .tup [], .tup [], .tup [], .tup [], .tup [], .tup [], .tup [], .tup [], .tup [], .tup [], .tup []]))) (rfPs (codeOf 20 [0, 1, 0, 1, 1, 1, 1])) (rfAs (codeOf 20 [0, 1, 0, 1, 1, 1, 1])) (rfBo (codeOf 20 [0, 1, 0, 1, 1, 1, 1])) [0, 1, 0, 1, 1, 1, 1, 20], .map 2 4 v.snd], la := 0, lh := 0, pa := 2, ph := 2 }, df := [], rd := false }
noncomputable def through_L1_A {X : Type} (st : WSt T) (k : (List Form) → (Int) → (Int) → (Int) → (Bs) → (Bs) → ((Int) × (List (Bs × Bool))) → X) : X := k (W.toR 3 (st.tm.getD 12 .undef)) (W.toI (st.tm.getD 13 .undef)) (W.toI ((st.mem.A.getD 0 []).getD 0 .undef)) (W.toI ((st.mem.A.getD 2 []).getD 0 .undef)) (W.toS ((st.mem.A.getD 2 []).getD 1 .undef)) (W.toS ((st.mem.A.getD 2 []).getD 2 .undef)) ((W.toI (st.tm.getD 14 .undef)), (En.toM 2 4 (st.mem.H.getD 1 .dead)))
noncomputable def through_L1_O0 (p0 : List Form) (p1 : Int) (p2 : Int) (p3 : Int) (p4 : Bs) (p5 : Bs) (o : (Int) × (Int) × (List (Bs × Bool))) : WSt T := { tm := [.undef, .yld 0, .undef, .undef, .bool false] ++ (un 7 ++ ([.row 3 p0 false, .int .i64 p1, .int .i64 o.fst] ++ (un 8))), mem := { A := [[.int .i64 o.snd.fst], [.map 1], [.int .i64 p3, .str p4, .str p5, .row 3 p0 false]], H := [.loop .done (some .ret) ([.undef, .undef, .ptr 0 0, .undef, .ptr 1 0, .tup [], .tup []] ++ (un 12 ++ ([.tup [], .tup [], .tup [], .tup [], .tup [], .tup [], .tup [], .tup [], .tup [], .tup [], .tup [], .tup [], .tup [], .tup [], .tup [], .tup [], .tup [], .tup [], .tup [], .tup [], .tup [], .tup [], .tup [], .tup [], .tup [], .tup [], .tup [], .tup [], .tup [], .tup []]))) (rfPs (codeOf 20 [0, 1, 0, 1, 1, 1, 1])) (rfAs (codeOf 20 [0, 1, 0, 1, 1, 1, 1])) (rfBo (codeOf 20 [0, 1, 0, 1, 1, 1, 1])) [0, 1, 0, 1, 1, 1, 1, 20], .map 2 4 o.snd.snd], la := 0, lh := 0, pa := 2, ph := 2 }, df := [], rd := false }
noncomputable def through_L1_O1 (p0 : List Form) (p1 : Int) (p2 : Int) (p3 : Int) (p4 : Bs) (p5 : Bs) (o : (Int) × (List (Bs × Bool))) : WSt T := { tm := [.undef, .yld 0, .undef, .undef, .bool false] ++ (un 7 ++ ([.row 3 p0 false, .int .i64 p1, .int .i64 o.fst] ++ (un 8))), mem := { A := [[.int .i64 p2], [.map 1], [.int .i64 p3, .str p4, .str p5, .row 3 p0 false]], H := [.loop .ready none ([.undef, .undef, .ptr 0 0, .undef, .ptr 1 0, .tup [], .tup []] ++ (un 12 ++ ([.tup [], .tup [], .tup [], .tup [], .tup [], .tup [], .tup [], .tup [], .tup [], .tup [], .tup [], .tup [], .tup [], .tup [], .tup [], .tup [], .tup [], .tup [], .tup [], .tup [], .tup [], .tup [], .tup [], .tup [], .tup [], .tup [], .tup [], .tup [], .tup [], .tup []]))) (rfPs (codeOf 20 [0, 1, 0, 1, 1, 1, 1])) (rfAs (codeOf 20 [0, 1, 0, 1, 1, 1, 1])) (rfBo (codeOf 20 [0, 1, 0, 1, 1, 1, 1])) [0, 1, 0, 1, 1, 1, 1, 20], .map 2 4 o.snd], la := 0, lh := 0, pa := 2, ph := 2 }, df := [], rd := false }
noncomputable def through_L1_E (p0 : List Form) (p1 : Int) (p2 : Int) (p3 : Int) (p4 : Bs) (p5 : Bs) (o : ((Int) × (Int) × (List (Bs × Bool))) ⊕ ((Int) × (List (Bs × Bool)))) : Ex × WSt T := (match o with | .inl o => (.ret, through_L1_O0 p0 p1 p2 p3 p4 p5 o) | .inr o => ((.exit 0), through_L1_O1 p0 p1 p2 p3 p4 p5 o))
noncomputable def through_L1_q : Prep := ⟨[0, 2, 3, 5, 6, 7, 8, 9, 10, 11, 15, 16, 17, 18, 19, 20, 21, 22], [], []⟩
noncomputable def look_L0_S (p0 : Int) (p1 : List Form) (p2 : Int) (p3 : Int) (p4 : Bs) (p5 : Bs) (v : (Int) × (Int)) : WSt T := { tm := [.undef, .int .i64 p0, .undef, .ptr 1 0, .undef, .undef, .bool false] ++ (un 11 ++ ([.row 3 p1 false, .int .i64 p2, .int .i64 v.fst] ++ (un 10))), mem := { A := [[.int .i64 v.snd], [.fn 144 [.ptr 0 0, .ptr 1 0]], [.int .i64 p3, .str p4, .str p5, .row 3 p1 false]], H := [], la := 0, lh := 0, pa := 2, ph := 0 }, df := [], rd := false }
noncomputable def look_L0_A {X : Type} (st : WSt T) (k : (Int) → (List Form) → (Int) → (Int) → (Bs) → (Bs) → ((Int) × (Int)) → X) : X := k (W.toI (st.tm.getD 1 .undef)) (W.toR 3 (st.tm.getD 18 .undef)) (W.toI (st.tm.getD 19 .undef)) (W.toI ((st.mem.A.getD 2 []).getD 0 .undef)) (W.toS ((st.mem.A.getD 2 []).getD 1 .undef)) (W.toS ((st.mem.A.getD 2 []).getD 2 .undef)) ((W.toI (st.tm.getD 20 .undef)), (W.toI ((st.mem.A.getD 0 []).getD 0 .undef)))
noncomputable def look_L0_O0 (p0 : Int) (p1 : List Form) (p2 : Int) (p3 : Int) (p4 : Bs) (p5 : Bs) (o : (Int) × (Int)) : WSt T := { tm := [.undef, .int .i64 p0, .undef, .ptr 1 0, .undef, .undef, .bool false] ++ (un 11 ++ ([.row 3 p1 false, .int .i64 p2, .int .i64 o.fst] ++ (un 10))), mem := { A := [[.int .i64 o.snd], [.fn 144 [.ptr 0 0, .ptr 1 0]], [.int .i64 p3, .str p4, .str p5, .row 3 p1 false]], H := [], la := 0, lh := 0, pa := 2, ph := 0 }, df := [], rd := false }
noncomputable def look_L0_O1 (p0 : Int) (p1 : List Form) (p2 : Int) (p3 : Int) (p4 : Bs) (p5 : Bs) (o : (Int) × (Int)) : WSt T := { tm := [.undef, .int .i64 p0, .undef, .ptr 1 0, .undef, .undef, .bool false] ++ (un 11 ++ ([.row 3 p1 false, .int .i64 p2, .int .i64 o.fst] ++ (un 10))), mem := { A := [[.int .i64 o.snd], [.fn 144 [.ptr 0 0, .ptr 1 0]], [.int .i64 p3, .str p4, .str p5, .row 3 p1 false]], H := [], la := 0, lh := 0, pa := 2, ph := 0 }, df := [], rd := false }
noncomputable def look_L0_E (p0 : Int) (p1 : List Form) (p2 : Int) (p3 : Int) (p4 : Bs) (p5 : Bs) (o : ((Int) × (Int)) ⊕ ((Int) × (Int))) : Ex × WSt T := (match o with | .inl o => (.ret, look_L0_O0 p0 p1 p2 p3 p4 p5 o) | .inr o => ((.exit 0), look_L0_O1 p0 p1 p2 p3 p4 p5 o))
noncomputable def look_L0_q : Prep := ⟨[0, 2, 4, 5, 7, 8, 9, 10, 11, 12, 13, 14, 15, 16, 17, 21, 22, 23, 24, 25, 26, 27, 28, 29, 30], [], []⟩
noncomputable def right_L0_S (p0 : Bs) (p1 : Bs) (p2 : Int) (p3 : List Form) (v : (Int)) : WSt T := { tm := [.undef, .ptr 0 0, .bool false] ++ (un 9 ++ ([.agg [.str p0, .str p1], .int .i64 v] ++ (un 147))), mem := { A := [[.int .i64 p2, .str p0, .str p1, .row 3 p3 false]], H := [], la := 0, lh := 0, pa := 0, ph := 0 }, df := [], rd := false }
noncomputable def right_L0_A {X : Type} (st : WSt T) (k : (Bs) → (Bs) → (Int) → (List Form) → ((Int)) → X) : X := k (W.toS (W.nth (st.tm.getD 12 .undef) 0)) (W.toS (W.nth (st.tm.getD 12 .undef) 1)) (W.toI ((st.mem.A.getD 0 []).getD 0 .undef)) (W.toR 3 ((st.mem.A.getD 0 []).getD 3 .undef)) (W.toI (st.tm.getD 13 .undef))
noncomputable def right_L0_O0 (p0 : Bs) (p1 : Bs) (p2 : Int) (p3 : List Form) (o : (Int)) : WSt T := { tm := [.undef, .ptr 0 0, .bool false] ++ (un 9 ++ ([.agg [.str p0, .str p1], .int .i64 o] ++ (un 147))), mem := { A := [[.int .i64 p2, .str p0, .str p1, .row 3 p3 false]], H := [], la := 0, lh := 0, pa := 0, ph := 0 }, df := [], rd := false }
noncomputable def right_L0_O1 (p0 : Bs) (p1 : Bs) (p2 : Int) (p3 : List Form) (o : (Int)) : WSt T := { tm := [.undef, .ptr 0 0, .bool false] ++ (un 9 ++ ([.agg [.str p0, .str p1], .int .i64 o] ++ (un 147))), mem := { A := [[.int .i64 p2, .str p0, .str p1, .row 3 p3 false]], H := [], la := 0, lh := 0, pa := 0, ph := 0 }, df := [], rd := false }
noncomputable def right_L0_E (p0 : Bs) (p1 : Bs) (p2 : Int) (p3 : List Form) (o : ((Int)) ⊕ ((Int))) : Ex × WSt T := (match o with | .inl o => (.ret, right_L0_O0 p0 p1 p2 p3 o) | .inr o => ((.exit 0), right_L0_O1 p0 p1 p2 p3 o))
noncomputable def right_L0_q : Prep := ⟨[0, 3, 4, 5, 6, 7, 8, 9, 10, 11, 14, 15, 16, 17, 18, 19, 20, 21, 22, 23, 24, 25, 26, 27, 28, 29, 30, 31, 32, 33, 34, 35, 36, 37, 38, 39, 40, 41, 42, 43, 44, 45, 46, 47, 48, 49, 50, 51, 52, 53, 54, 55, 56, 57, 58, 59, 60, 61, 62, 63, 64, 65, 66, 67, 68, 69, 70, 71, 72, 73, 74, 75, 76, 77, 78, 79, 80, 81, 82, 83, 84, 85, 86, 87, 88, 89, 90, 91, 92, 93, 94, 95, 96, 97, 98, 99, 100, 101, 102, 103, 104, 105, 106, 107, 108, 109, 110, 111, 112, 113, 114, 115, 116, 117, 118, 119, 120, 121, 122, 123, 124, 125, 126, 127, 128, 129, 130, 131, 132, 133, 134, 135, 136, 137, 138, 139, 140, 141, 142, 143, 144, 145, 146, 147, 148, 149, 150, 151, 152, 153, 154, 155, 156, 157, 158, 159, 160], [], []⟩
noncomputable def f221_L0_S (v : (Bs) × (List Int)) : WSt T := { tm := [.yld 0, .ptr 4 0, .ptr 3 0, .ptr 5 0] ++ (un 48), mem := { A := [[.nilsl], [.bool false], [.own 0 1], [.str v.fst], [.str [32]], [.int .i64 0]], H := [.loop .ready none ([.undef, .undef, .ptr 0 0, .ptr 1 0, .ptr 2 0, .tup [], .tup []] ++ (un 6 ++ ([.tup [], .tup [], .tup [], .tup [], .tup [], .tup [], .tup [], .tup [], .tup [], .tup [], .tup [], .tup [], .tup []] ++ (un 9)))) (rfPs (codeOf 100 [0, 1, 0, 1, 1, 1])) (rfAs (codeOf 100 [0, 1, 0, 1, 1, 1])) (rfBo (codeOf 100 [0, 1, 0, 1, 1, 1])) [0, 1, 0, 1, 1, 1, 100], .rows 0 v.snd], la := 0, lh := 0, pa := 6, ph := 1 }, df := [], rd := false }
noncomputable def f221_L0_A {X : Type} (st : WSt T) (k : ((Bs) × (List Int)) → X) : X := k ((W.toS ((st.mem.A.getD 3 []).getD 0 .undef)), (En.toR 0 (st.mem.H.getD 1 .dead)))
noncomputable def f221_L0_O0 (o : (Bs) × (List Int)) : WSt T := { tm := [.yld 0, .ptr 4 0, .ptr 3 0, .ptr 5 0] ++ (un 48), mem := { A := [[.nilsl], [.bool false], [.own 0 1], [.str o.fst], [.str [32]], [.int .i64 0]], H := [.loop .ready none ([.undef, .undef, .ptr 0 0, .ptr 1 0, .ptr 2 0, .tup [], .tup []] ++ (un 6 ++ ([.tup [], .tup [], .tup [], .tup [], .tup [], .tup [], .tup [], .tup [], .tup [], .tup [], .tup [], .tup [], .tup []] ++ (un 9)))) (rfPs (codeOf 100 [0, 1, 0, 1, 1, 1])) (rfAs (codeOf 100 [0, 1, 0, 1, 1, 1])) (rfBo (codeOf 100 [0, 1, 0, 1, 1, 1])) [0, 1, 0, 1, 1, 1, 100], .rows 0 o.snd], la := 0, lh := 0, pa := 6, ph := 1 }, df := [], rd := false }
noncomputable def f221_L0_O1 (o : (Bs) × (List Int)) : WSt T := { tm := [.yld 0, .ptr 4 0, .ptr 3 0, .ptr 5 0] ++ (un 48), mem := { A := [[.nilsl], [.bool false], [.own 0 1], [.str o.fst], [.str [32]], [.int .i64 0]], H := [.loop .done (some .ret) ([.undef, .undef, .ptr 0 0, .ptr 1 0, .ptr 2 0, .tup [], .tup []] ++ (un 6 ++ ([.tup [], .tup [], .tup [], .tup [], .tup [], .tup [], .tup [], .tup [], .tup [], .tup [], .tup [], .tup [], .tup []] ++ (un 9)))) (rfPs (codeOf 100 [0, 1, 0, 1, 1, 1])) (rfAs (codeOf 100 [0, 1, 0, 1, 1, 1])) (rfBo (codeOf 100 [0, 1, 0, 1, 1, 1])) [0, 1, 0, 1, 1, 1, 100], .rows 0 o.snd], la := 0, lh := 0, pa := 6, ph := 1 }, df := [], rd := false }
noncomputable def f221_L0_E (o : ((Bs) × (List Int)) ⊕ ((Bs) × (List Int))) : Ex × WSt T := (match o with | .inl o => ((.exit 2), f221_L0_O0 o) | .inr o => (.ret, f221_L0_O1 o))
noncomputable def f221_L0_q : Prep := ⟨[4, 5, 6, 7, 8, 9, 10, 11, 12, 13, 14, 15, 16, 17, 18, 19, 20, 21, 22, 23, 24, 25, 26, 27, 28, 29, 30, 31, 32, 33, 34, 35, 36, 37, 38, 39, 40, 41, 42, 43, 44, 45, 46, 47, 48, 49, 50, 51], [], [(2, 0, 0)]⟩
noncomputable def decimal_L0_S (p0 : List UInt8) (p1 : Int) (v : (Int)) : WSt T := { tm := [.undef, .undef, .bool false] ++ (un 15 ++ ([.row 1 p0 false, .int .i64 p1, .int .i64 v] ++ (un 10))), mem := { A := [], H := [], la := 0, lh := 0, pa := 0, ph := 0 }, df := [], rd := false }
noncomputable def decimal_L0_A {X : Type} (st : WSt T) (k : (List UInt8) → (Int) → ((Int)) → X) : X := k (W.toR 1 (st.tm.getD 18 .undef)) (W.toI (st.tm.getD 19 .undef)) (W.toI (st.tm.getD 20 .undef))
noncomputable def decimal_L0_O0 (p0 : List UInt8) (p1 : Int) (o : (Int)) : WSt T := { tm := [.undef, .undef, .bool false] ++ (un 15 ++ ([.row 1 p0 false, .int .i64 p1, .int .i64 o] ++ (un 10))), mem := { A := [], H := [], la := 0, lh := 0, pa := 0, ph := 0 }, df := [], rd := false }
noncomputable def decimal_L0_O1 (p0 : List UInt8) (p1 : Int) (o : (Int)) : WSt T := { tm := [.undef, .undef, .bool false] ++ (un 15 ++ ([.row 1 p0 false, .int .i64 p1, .int .i64 o] ++ (un 10))), mem := { A := [], H := [], la := 0, lh := 0, pa := 0, ph := 0 }, df := [], rd := false }
noncomputable def decimal_L0_E (p0 : List UInt8) (p1 : Int) (o : ((Int)) ⊕ ((Int))) : Ex × WSt T := (match o with | .inl o => (.ret, decimal_L0_O0 p0 p1 o) | .inr o => ((.exit 0), decimal_L0_O1 p0 p1 o))
noncomputable def decimal_L0_q : Prep := ⟨[0, 1, 3, 4, 5, 6, 7, 8, 9, 10, 11, 12, 13, 14, 15, 16, 17, 21, 22, 23, 24, 25, 26, 27, 28, 29, 30], [], []⟩
noncomputable def ratio_L0_S (v : (Int) × (Int)) : WSt T := { tm := [.undef, .undef, .bool false, .undef, .undef, .undef, .int .i64 v.fst, .undef, .int .i64 v.snd] ++ (un 59), mem := { A := [], H := [], la := 0, lh := 0, pa := 0, ph := 0 }, df := [], rd := false }
noncomputable def ratio_L0_A {X : Type} (st : WSt T) (k : ((Int) × (Int)) → X) : X := k ((W.toI (st.tm.getD 6 .undef)), (W.toI (st.tm.getD 8 .undef)))
noncomputable def ratio_L0_O0 (o : (Int) × (Int)) : WSt T := { tm := [.undef, .undef, .bool false, .undef, .undef, .undef, .int .i64 o.fst, .undef, .int .i64 o.snd] ++ (un 59), mem := { A := [], H := [], la := 0, lh := 0, pa := 0, ph := 0 }, df := [], rd := false }
noncomputable def ratio_L0_E (o : (Int) × (Int)) : Ex × WSt T := ((.exit 0), ratio_L0_O0 o)
noncomputable def ratio_L0_q : Prep := ⟨[0, 1, 3, 4, 5, 7, 9, 10, 11, 12, 13, 14, 15, 16, 17, 18, 19, 20, 21, 22, 23, 24, 25, 26, 27, 28, 29, 30, 31, 32, 33, 34, 35, 36, 37, 38, 39, 40, 41, 42, 43, 44, 45, 46, 47, 48, 49, 50, 51, 52, 53, 54, 55, 56, 57, 58, 59, 60, 61, 62, 63, 64, 65, 66, 67], [], []⟩
noncomputable def product_L0_S (p0 : List Int) (p1 : Int) (v : (Int) × (Int)) : WSt T := { tm := [.undef, .undef, .int .i64 0, .int .i64 v.fst, .undef, .undef, .undef, .undef, .row 0 p0 false, .int .i64 p1, .int .i64 v.snd] ++ (un 9), mem := { A := [], H := [], la := 0, lh := 0, pa := 0, ph := 0 }, df := [], rd := false }
noncomputable def product_L0_A {X : Type} (st : WSt T) (k : (List Int) → (Int) → ((Int) × (Int)) → X) : X := k (W.toR 0 (st.tm.getD 8 .undef)) (W.toI (st.tm.getD 9 .undef)) ((W.toI (st.tm.getD 3 .undef)), (W.toI (st.tm.getD 10 .undef)))
noncomputable def product_L0_O0 (p0 : List Int) (p1 : Int) (o : (Int) × (Int)) : WSt T := { tm := [.undef, .undef, .int .i64 0, .int .i64 o.fst, .undef, .undef, .undef, .undef, .row 0 p0 false, .int .i64 p1, .int .i64 o.snd] ++ (un 9), mem := { A := [], H := [], la := 0, lh := 0, pa := 0, ph := 0 }, df := [], rd := false }
noncomputable def product_L0_E (p0 : List Int) (p1 : Int) (o : (Int) × (Int)) : Ex × WSt T := ((.exit 0), product_L0_O0 p0 p1 o)
noncomputable def product_L0_q : Prep := ⟨[0, 1, 4, 5, 6, 7, 11, 12, 13, 14, 15, 16, 17, 18, 19], [], []⟩
noncomputable def IndexInt_L0_S (p0 : List Int) (p1 : Int) (p2 : Int) (v : (Int)) : WSt T := { tm := [.row 0 p0 false, .int .i64 p1, .undef, .undef, .int .i64 0, .undef, .undef, .int .i64 p2, .int .i64 v] ++ (un 10), mem := { A := [], H := [], la := 0, lh := 0, pa := 0, ph := 0 }, df := [], rd := false }
noncomputable def IndexInt_L0_A {X : Type} (st : WSt T) (k : (List Int) → (Int) → (Int) → ((Int)) → X) : X := k (W.toR 0 (st.tm.getD 0 .undef)) (W.toI (st.tm.getD 1 .undef)) (W.toI (st.tm.getD 7 .undef)) (W.toI (st.tm.getD 8 .undef))
noncomputable def IndexInt_L0_O0 (p0 : List Int) (p1 : Int) (p2 : Int) (o : (Int) × (Int)) : WSt T := { tm := [.row 0 p0 false, .int .i64 p1, .undef, .undef, .int .i64 o.fst, .undef, .undef, .int .i64 p2, .int .i64 o.snd] ++ (un 10), mem := { A := [], H := [], la := 0, lh := 0, pa := 0, ph := 0 }, df := [], rd := false }
noncomputable def IndexInt_L0_O1 (p0 : List Int) (p1 : Int) (p2 : Int) (o : (Int)) : WSt T := { tm := [.row 0 p0 false, .int .i64 p1, .undef, .undef, .int .i64 0, .undef, .undef, .int .i64 p2, .int .i64 o] ++ (un 10), mem := { A := [], H := [], la := 0, lh := 0, pa := 0, ph := 0 }, df := [], rd := false }
noncomputable def IndexInt_L0_E (p0 : List Int) (p1 : Int) (p2 : Int) (o : ((Int) × (Int)) ⊕ ((Int))) : Ex × WSt T := (match o with | .inl o => (.ret, IndexInt_L0_O0 p0 p1 p2 o) | .inr o => ((.exit 0), IndexInt_L0_O1 p0 p1 p2 o))
noncomputable def IndexInt_L0_q : Prep := ⟨[2, 3, 5, 6, 9, 10, 11, 12, 13, 14, 15, 16, 17, 18], [], []⟩
noncomputable def labels_L0_S (p0 : Int) (p1 : Bs) (p2 : Bs) (p3 : List Form) (v : (Int) × (List Bs)) : WSt T := { tm := [.undef, .own 2 1, .ptr 0 0, .undef, .nilsl, .int .i64 0, .int .i64 v.fst] ++ (un 64), mem := { A := [[.int .i64 p0, .str p1, .str p2, .row 3 p3 false]], H := [.dead, .rows 2 v.snd], la := 0, lh := 0, pa := 0, ph := 1 }, df := [], rd := false }
noncomputable def labels_L0_A {X : Type} (st : WSt T) (k : (Int) → (Bs) → (Bs) → (List Form) → ((Int) × (List Bs)) → X) : X := k (W.toI ((st.mem.A.getD 0 []).getD 0 .undef)) (W.toS ((st.mem.A.getD 0 []).getD 1 .undef)) (W.toS ((st.mem.A.getD 0 []).getD 2 .undef)) (W.toR 3 ((st.mem.A.getD 0 []).getD 3 .undef)) ((W.toI (st.tm.getD 6 .undef)), (En.toR 2 (st.mem.H.getD 1 .dead)))
noncomputable def labels_L0_O0 (p0 : Int) (p1 : Bs) (p2 : Bs) (p3 : List Form) (o : (Int) × (Int) × (List Bs)) : WSt T := { tm := [.undef, .undef, .ptr 0 0, .undef, .own 2 1, .int .i64 o.fst, .int .i64 o.snd.fst] ++ (un 64), mem := { A := [[.int .i64 p0, .str p1, .str p2, .row 3 p3 false]], H := [.dead, .rows 2 o.snd.snd], la := 0, lh := 0, pa := 0, ph := 1 }, df := [], rd := false }
noncomputable def labels_L0_O1 (p0 : Int) (p1 : Bs) (p2 : Bs) (p3 : List Form) (o : (Int) × (List Bs)) : WSt T := { tm := [.undef, .own 2 1, .ptr 0 0, .undef, .nilsl, .int .i64 0, .int .i64 o.fst] ++ (un 64), mem := { A := [[.int .i64 p0, .str p1, .str p2, .row 3 p3 false]], H := [.dead, .rows 2 o.snd], la := 0, lh := 0, pa := 0, ph := 1 }, df := [], rd := false }
noncomputable def labels_L0_E (p0 : Int) (p1 : Bs) (p2 : Bs) (p3 : List Form) (o : ((Int) × (Int) × (List Bs)) ⊕ ((Int) × (List Bs))) : Ex × WSt T := (match o with | .inl o => (.ret, labels_L0_O0 p0 p1 p2 p3 o) | .inr o => ((.exit 0), labels_L0_O1 p0 p1 p2 p3 o))
noncomputable def labels_L0_q : Prep := ⟨[0, 3, 7, 8, 9, 10, 11, 12, 13, 14, 15, 16, 17, 18, 19, 20, 21, 22, 23, 24, 25, 26, 27, 28, 29, 30, 31, 32, 33, 34, 35, 36, 37, 38, 39, 40, 41, 42, 43, 44, 45, 46, 47, 48, 49, 50, 51, 52, 53, 54, 55, 56, 57, 58, 59, 60, 61, 62, 63, 64, 65, 66, 67, 68, 69, 70], [], []⟩
noncomputable def labels_P1_S (p0 : Int) (p1 : Int) (p2 : Int) (p3 : Bs) (p4 : Bs) (p5 : List Form) (p6 : List Bs) : WSt T := { tm := [.undef, .own 2 0, .ptr 0 0, .undef, .nilsl, .int .i64 p0, .int .i64 p1] ++ (un 64), mem := { A := [[.int .i64 p2, .str p3, .str p4, .row 3 p5 false]], H := [.rows 2 p6], la := 0, lh := 0, pa := 0, ph := 1 }, df := [], rd := false }
noncomputable def labels_P1_A {X : Type} (st : WSt T) (k : (Int) → (Int) → (Int) → (Bs) → (Bs) → (List Form) → (List Bs) → X) : X := k (W.toI (st.tm.getD 5 .undef)) (W.toI (st.tm.getD 6 .undef)) (W.toI ((st.mem.A.getD 0 []).getD 0 .undef)) (W.toS ((st.mem.A.getD 0 []).getD 1 .undef)) (W.toS ((st.mem.A.getD 0 []).getD 2 .undef)) (W.toR 3 ((st.mem.A.getD 0 []).getD 3 .undef)) (En.toR 2 (st.mem.H.getD 0 .dead))
noncomputable def labels_P1_O0 (p0 : Int) (p1 : Int) (p2 : Int) (p3 : Bs) (p4 : Bs) (p5 : List Form) (p6 : List Bs) (o : (Int) × (List Bs)) : WSt T := { tm := [.undef, .own 2 0, .ptr 0 0, .undef, .own 2 1, .int .i64 o.fst, .int .i64 p1] ++ (un 64), mem := { A := [[.int .i64 p2, .str p3, .str p4, .row 3 p5 false]], H := [.dead, .rows 2 o.snd], la := 0, lh := 0, pa := 0, ph := 1 }, df := [], rd := false }
noncomputable def labels_P1_O1 (p0 : Int) (p1 : Int) (p2 : Int) (p3 : Bs) (p4 : Bs) (p5 : List Form) (p6 : List Bs) (o : (Int) × (List Bs)) : WSt T := { tm := [.undef, .own 2 1, .ptr 0 0, .undef, .nilsl, .int .i64 p0, .int .i64 o.fst] ++ (un 64), mem := { A := [[.int .i64 p2, .str p3, .str p4, .row 3 p5 false]], H := [.dead, .rows 2 o.snd], la := 0, lh := 0, pa := 0, ph := 1 }, df := [], rd := false }
noncomputable def labels_P1_O2 (p0 : Int) (p1 : Int) (p2 : Int) (p3 : Bs) (p4 : Bs) (p5 : List Form) (p6 : List Bs) (o : Unit) : WSt T := { tm := [.undef, .own 2 0, .ptr 0 0, .undef, .nilsl, .int .i64 p0, .int .i64 p1] ++ (un 64), mem := { A := [[.int .i64 p2, .str p3, .str p4, .row 3 p5 false]], H := [.rows 2 p6], la := 0, lh := 0, pa := 0, ph := 1 }, df := [], rd := false }
noncomputable def labels_P1_E (p0 : Int) (p1 : Int) (p2 : Int) (p3 : Bs) (p4 : Bs) (p5 : List Form) (p6 : List Bs) (o : ((Int) × (List Bs)) ⊕ (((Int) × (List Bs)) ⊕ (Unit))) : Ex × WSt T := (match o with | .inl o => (.ret, labels_P1_O0 p0 p1 p2 p3 p4 p5 p6 o) | .inr o => (match o with | .inl o => (.normal, labels_P1_O1 p0 p1 p2 p3 p4 p5 p6 o) | .inr o => ((.exit 0), labels_P1_O2 p0 p1 p2 p3 p4 p5 p6 o)))
noncomputable def labels_P1_q : Prep := ⟨[0, 3, 7, 8, 9, 10, 11, 12, 13, 14, 15, 16, 17, 18, 19, 20, 21, 22, 23, 24, 25, 26, 27, 28, 29, 30, 31, 32, 33, 34, 35, 36, 37, 38, 39, 40, 41, 42, 43, 44, 45, 46, 47, 48, 49, 50, 51, 52, 53, 54, 55, 56, 57, 58, 59, 60, 61, 62, 63, 64, 65, 66, 67, 68, 69, 70], [], []⟩
noncomputable def rdimensions_L0_S (p0 : Bs) (v : (Int) × (Int) × (List Int)) : WSt T := { tm := [.str p0, .undef, .nilsl, .bool false, .own 0 0, .int .i64 v.fst, .int .i64 v.snd.fst] ++ (un 52), mem := { A := [], H := [.rows 0 v.snd.snd], la := 0, lh := 0, pa := 0, ph := 0 }, df := [], rd := false }
noncomputable def rdimensions_L0_A {X : Type} (st : WSt T) (k : (Bs) → ((Int) × (Int) × (List Int)) → X) : X := k (W.toS (st.tm.getD 0 .undef)) ((W.toI (st.tm.getD 5 .undef)), (W.toI (st.tm.getD 6 .undef)), (En.toR 0 (st.mem.H.getD 0 .dead)))
noncomputable def rdimensions_L0_O0 (p0 : Bs) (o : (Int) × (Int) × (List Int)) : WSt T := { tm := [.str p0, .undef, .nilsl, .bool false, .own 0 0, .int .i64 o.fst, .int .i64 o.snd.fst] ++ (un 52), mem := { A := [], H := [.rows 0 o.snd.snd], la := 0, lh := 0, pa := 0, ph := 0 }, df := [], rd := false }
noncomputable def rdimensions_L0_O1 (p0 : Bs) (o : (Int) × (Int) × (List Int)) : WSt T := { tm := [.str p0, .undef, .nilsl, .bool false, .own 0 0, .int .i64 o.fst, .int .i64 o.snd.fst] ++ (un 52), mem := { A := [], H := [.rows 0 o.snd.snd], la := 0, lh := 0, pa := 0, ph := 0 }, df := [], rd := false }
noncomputable def rdimensions_L0_E (p0 : Bs) (o : ((Int) × (Int) × (List Int)) ⊕ ((Int) × (Int) × (List Int))) : Ex × WSt T := (match o with | .inl o => (.ret, rdimensions_L0_O0 p0 o) | .inr o => ((.exit 0), rdimensions_L0_O1 p0 o))
noncomputable def rdimensions_L0_q : Prep := ⟨[1, 7, 8, 9, 10, 11, 12, 13, 14, 15, 16, 17, 18, 19, 20, 21, 22, 23, 24, 25, 26, 27, 28, 29, 30, 31, 32, 33, 34, 35, 36, 37, 38, 39, 40, 41, 42, 43, 44, 45, 46, 47, 48, 49, 50, 51, 52, 53, 54, 55, 56, 57, 58], [(4, 0)], []⟩
noncomputable def nodes_L0_S (p0 : Int) (p1 : Bs) (p2 : Bs) (p3 : List Form) (v : (Int)) : WSt T := { tm := [.undef, .ptr 0 0, .bool false, .int .i64 v] ++ (un 17), mem := { A := [[.int .i64 p0, .str p1, .str p2, .row 3 p3 false]], H := [], la := 0, lh := 0, pa := 0, ph := 0 }, df := [], rd := false }
noncomputable def nodes_L0_A {X : Type} (st : WSt T) (k : (Int) → (Bs) → (Bs) → (List Form) → ((Int)) → X) : X := k (W.toI ((st.mem.A.getD 0 []).getD 0 .undef)) (W.toS ((st.mem.A.getD 0 []).getD 1 .undef)) (W.toS ((st.mem.A.getD 0 []).getD 2 .undef)) (W.toR 3 ((st.mem.A.getD 0 []).getD 3 .undef)) (W.toI (st.tm.getD 3 .undef))
noncomputable def nodes_L0_O0 (p0 : Int) (p1 : Bs) (p2 : Bs) (p3 : List Form) (o : (Int)) : WSt T := { tm := [.undef, .ptr 0 0, .bool false, .int .i64 o] ++ (un 17), mem := { A := [[.int .i64 p0, .str p1, .str p2, .row 3 p3 false]], H := [], la := 0, lh := 0, pa := 0, ph := 0 }, df := [], rd := false }
noncomputable def nodes_L0_O1 (p0 : Int) (p1 : Bs) (p2 : Bs) (p3 : List Form) (o : (Int)) : WSt T := { tm := [.undef, .ptr 0 0, .bool false, .int .i64 o] ++ (un 17), mem := { A := [[.int .i64 p0, .str p1, .str p2, .row 3 p3 false]], H := [], la := 0, lh := 0, pa := 0, ph := 0 }, df := [], rd := false }
noncomputable def nodes_L0_E (p0 : Int) (p1 : Bs) (p2 : Bs) (p3 : List Form) (o : ((Int)) ⊕ ((Int))) : Ex × WSt T := (match o with | .inl o => (.ret, nodes_L0_O0 p0 p1 p2 p3 o) | .inr o => ((.exit 0), nodes_L0_O1 p0 p1 p2 p3 o))
noncomputable def nodes_L0_q : Prep := ⟨[0, 4, 5, 6, 7, 8, 9, 10, 11, 12, 13, 14, 15, 16, 17, 18, 19, 20], [], []⟩
noncomputable def within_L0_S (p0 : List Bs) (p1 : Bs) (v : (Int)) : WSt T := { tm := [.row 2 p0 false, .str p1, .undef, .undef, .bool false, .int .i64 v] ++ (un 12), mem := { A := [], H := [], la := 0, lh := 0, pa := 0, ph := 0 }, df := [], rd := false }
noncomputable def within_L0_A {X : Type} (st : WSt T) (k : (List Bs) → (Bs) → ((Int)) → X) : X := k (W.toR 2 (st.tm.getD 0 .undef)) (W.toS (st.tm.getD 1 .undef)) (W.toI (st.tm.getD 5 .undef))
noncomputable def within_L0_O0 (p0 : List Bs) (p1 : Bs) (o : (Int)) : WSt T := { tm := [.row 2 p0 false, .str p1, .undef, .undef, .bool true, .int .i64 o] ++ (un 12), mem := { A := [], H := [], la := 0, lh := 0, pa := 0, ph := 0 }, df := [], rd := false }
noncomputable def within_L0_O1 (p0 : List Bs) (p1 : Bs) (o : (Int)) : WSt T := { tm := [.row 2 p0 false, .str p1, .undef, .undef, .bool false, .int .i64 o] ++ (un 12), mem := { A := [], H := [], la := 0, lh := 0, pa := 0, ph := 0 }, df := [], rd := false }
noncomputable def within_L0_E (p0 : List Bs) (p1 : Bs) (o : ((Int)) ⊕ ((Int))) : Ex × WSt T := (match o with | .inl o => (.ret, within_L0_O0 p0 p1 o) | .inr o => ((.exit 0), within_L0_O1 p0 p1 o))
noncomputable def within_L0_q : Prep := ⟨[2, 3, 6, 7, 8, 9, 10, 11, 12, 13, 14, 15, 16, 17], [], []⟩
noncomputable def digits_L0_S (p0 : Bs) (v : (Int)) : WSt T := { tm := [.str p0, .undef, .bool false, .int .i64 v] ++ (un 27), mem := { A := [], H := [], la := 0, lh := 0, pa := 0, ph := 0 }, df := [], rd := false }
noncomputable def digits_L0_A {X : Type} (st : WSt T) (k : (Bs) → ((Int)) → X) : X := k (W.toS (st.tm.getD 0 .undef)) (W.toI (st.tm.getD 3 .undef))
noncomputable def digits_L0_O0 (p0 : Bs) (o : (Int)) : WSt T := { tm := [.str p0, .undef, .bool false, .int .i64 o] ++ (un 27), mem := { A := [], H := [], la := 0, lh := 0, pa := 0, ph := 0 }, df := [], rd := false }
noncomputable def digits_L0_O1 (p0 : Bs) (o : (Int)) : WSt T := { tm := [.str p0, .undef, .bool false, .int .i64 o] ++ (un 27), mem := { A := [], H := [], la := 0, lh := 0, pa := 0, ph := 0 }, df := [], rd := false }
noncomputable def digits_L0_E (p0 : Bs) (o : ((Int)) ⊕ ((Int))) : Ex × WSt T := (match o with | .inl o => (.ret, digits_L0_O0 p0 o) | .inr o => ((.exit 0), digits_L0_O1 p0 o))
noncomputable def digits_L0_q : Prep := ⟨[1, 4, 5, 6, 7, 8, 9, 10, 11, 12, 13, 14, 15, 16, 17, 18, 19, 20, 21, 22, 23, 24, 25, 26, 27, 28, 29, 30], [], []⟩
noncomputable def value_L0_S (p0 : Bs) (v : (Int) × (Int)) : WSt T := { tm := [.str p0, .undef, .int .i64 0, .int .i64 v.fst, .int .i64 v.snd] ++ (un 15), mem := { A := [], H := [], la := 0, lh := 0, pa := 0, ph := 0 }, df := [], rd := false }
noncomputable def value_L0_A {X : Type} (st : WSt T) (k : (Bs) → ((Int) × (Int)) → X) : X := k (W.toS (st.tm.getD 0 .undef)) ((W.toI (st.tm.getD 3 .undef)), (W.toI (st.tm.getD 4 .undef)))
noncomputable def value_L0_O0 (p0 : Bs) (o : (Int) × (Int)) : WSt T := { tm := [.str p0, .undef, .int .i64 0, .int .i64 o.fst, .int .i64 o.snd] ++ (un 15), mem := { A := [], H := [], la := 0, lh := 0, pa := 0, ph := 0 }, df := [], rd := false }
noncomputable def value_L0_E (p0 : Bs) (o : (Int) × (Int)) : Ex × WSt T := ((.exit 0), value_L0_O0 p0 o)
noncomputable def value_L0_q : Prep := ⟨[1, 5, 6, 7, 8, 9, 10, 11, 12, 13, 14, 15, 16, 17, 18, 19], [], []⟩
noncomputable def rproduct_L0_S (p0 : List Int) (v : (Int)) : WSt T := { tm := [.row 0 p0 false, .undef, .int .i64 0, .int .i64 v] ++ (un 27), mem := { A := [], H := [], la := 0, lh := 0, pa := 0, ph := 0 }, df := [], rd := false }
noncomputable def rproduct_L0_A {X : Type} (st : WSt T) (k : (List Int) → ((Int)) → X) : X := k (W.toR 0 (st.tm.getD 0 .undef)) (W.toI (st.tm.getD 3 .undef))
noncomputable def rproduct_L0_O0 (p0 : List Int) (o : (Int)) : WSt T := { tm := [.row 0 p0 false, .undef, .int .i64 0, .int .i64 o] ++ (un 27), mem := { A := [], H := [], la := 0, lh := 0, pa := 0, ph := 0 }, df := [], rd := false }
noncomputable def rproduct_L0_O1 (p0 : List Int) (o : (Int)) : WSt T := { tm := [.row 0 p0 false, .undef, .int .i64 0, .int .i64 o] ++ (un 27), mem := { A := [], H := [], la := 0, lh := 0, pa := 0, ph := 0 }, df := [], rd := false }
noncomputable def rproduct_L0_E (p0 : List Int) (o : ((Int)) ⊕ ((Int))) : Ex × WSt T := (match o with | .inl o => (.ret, rproduct_L0_O0 p0 o) | .inr o => ((.exit 0), rproduct_L0_O1 p0 o))
noncomputable def rproduct_L0_q : Prep := ⟨[1, 4, 5, 6, 7, 8, 9, 10, 11, 12, 13, 14, 15, 16, 17, 18, 19, 20, 21, 22, 23, 24, 25, 26, 27, 28, 29, 30], [], []⟩
noncomputable def rproduct_L1_S (p0 : List Int) (v : (Int) × (Int)) : WSt T := { tm := [.row 0 p0 false, .undef, .int .i64 0, .undef, .int .i64 v.fst, .int .i64 v.snd] ++ (un 25), mem := { A := [], H := [], la := 0, lh := 0, pa := 0, ph := 0 }, df := [], rd := false }
noncomputable def rproduct_L1_A {X : Type} (st : WSt T) (k : (List Int) → ((Int) × (Int)) → X) : X := k (W.toR 0 (st.tm.getD 0 .undef)) ((W.toI (st.tm.getD 4 .undef)), (W.toI (st.tm.getD 5 .undef)))
noncomputable def rproduct_L1_O0 (p0 : List Int) (o : (Int) × (Int)) : WSt T := { tm := [.row 0 p0 false, .undef, .int .i64 0, .undef, .int .i64 o.fst, .int .i64 o.snd] ++ (un 25), mem := { A := [], H := [], la := 0, lh := 0, pa := 0, ph := 0 }, df := [], rd := false }
noncomputable def rproduct_L1_E (p0 : List Int) (o : (Int) × (Int)) : Ex × WSt T := ((.exit 2), rproduct_L1_O0 p0 o)
noncomputable def rproduct_L1_q : Prep := ⟨[1, 3, 6, 7, 8, 9, 10, 11, 12, 13, 14, 15, 16, 17, 18, 19, 20, 21, 22, 23, 24, 25, 26, 27, 28, 29, 30], [], []⟩
noncomputable def atom_L0_S (p0 : Int) (p1 : Bs) (p2 : Bs) (p3 : List Form) (v : (Int)) : WSt T := { tm := [.undef, .ptr 0 0, .bool false, .int .i64 v] ++ (un 66), mem := { A := [[.int .i64 p0, .str p1, .str p2, .row 3 p3 false]], H := [], la := 0, lh := 0, pa := 0, ph := 0 }, df := [], rd := false }
noncomputable def atom_L0_A {X : Type} (st : WSt T) (k : (Int) → (Bs) → (Bs) → (List Form) → ((Int)) → X) : X := k (W.toI ((st.mem.A.getD 0 []).getD 0 .undef)) (W.toS ((st.mem.A.getD 0 []).getD 1 .undef)) (W.toS ((st.mem.A.getD 0 []).getD 2 .undef)) (W.toR 3 ((st.mem.A.getD 0 []).getD 3 .undef)) (W.toI (st.tm.getD 3 .undef))
noncomputable def atom_L0_O0 (p0 : Int) (p1 : Bs) (p2 : Bs) (p3 : List Form) (o : (Int)) : WSt T := { tm := [.undef, .ptr 0 0, .bool false, .int .i64 o] ++ (un 66), mem := { A := [[.int .i64 p0, .str p1, .str p2, .row 3 p3 false]], H := [], la := 0, lh := 0, pa := 0, ph := 0 }, df := [], rd := false }
noncomputable def atom_L0_O1 (p0 : Int) (p1 : Bs) (p2 : Bs) (p3 : List Form) (o : (Int)) : WSt T := { tm := [.undef, .ptr 0 0, .bool false, .int .i64 o] ++ (un 66), mem := { A := [[.int .i64 p0, .str p1, .str p2, .row 3 p3 false]], H := [], la := 0, lh := 0, pa := 0, ph := 0 }, df := [], rd := false }
noncomputable def atom_L0_E (p0 : Int) (p1 : Bs) (p2 : Bs) (p3 : List Form) (o : ((Int)) ⊕ ((Int))) : Ex × WSt T := (match o with | .inl o => (.ret, atom_L0_O0 p0 p1 p2 p3 o) | .inr o => ((.exit 1), atom_L0_O1 p0 p1 p2 p3 o))
noncomputable def atom_L0_q : Prep := ⟨[0, 4, 5, 6, 7, 8, 9, 10, 11, 12, 13, 14, 15, 16, 17, 18, 19, 20, 21, 22, 23, 24, 25, 26, 27, 28, 29, 30, 31, 32, 33, 34, 35, 36, 37, 38, 39, 40, 41, 42, 43, 44, 45, 46, 47, 48, 49, 50, 51, 52, 53, 54, 55, 56, 57, 58, 59, 60, 61, 62, 63, 64, 65, 66, 67, 68, 69], [], []⟩
noncomputable def rratio_L0_S (p0 : Bs) (v : (Int) × (Int)) : WSt T := { tm := [.str p0, .undef, .bool false, .int .i64 v.fst, .int .i64 v.snd] ++ (un 73), mem := { A := [], H := [], la := 0, lh := 0, pa := 0, ph := 0 }, df := [], rd := false }
noncomputable def rratio_L0_A {X : Type} (st : WSt T) (k : (Bs) → ((Int) × (Int)) → X) : X := k (W.toS (st.tm.getD 0 .undef)) ((W.toI (st.tm.getD 3 .undef)), (W.toI (st.tm.getD 4 .undef)))
noncomputable def rratio_L0_O0 (p0 : Bs) (o : (Int) × (Int)) : WSt T := { tm := [.str p0, .undef, .bool false, .int .i64 o.fst, .int .i64 o.snd] ++ (un 73), mem := { A := [], H := [], la := 0, lh := 0, pa := 0, ph := 0 }, df := [], rd := false }
noncomputable def rratio_L0_E (p0 : Bs) (o : (Int) × (Int)) : Ex × WSt T := ((.exit 0), rratio_L0_O0 p0 o)
noncomputable def rratio_L0_q : Prep := ⟨[1, 5, 6, 7, 8, 9, 10, 11, 12, 13, 14, 15, 16, 17, 18, 19, 20, 21, 22, 23, 24, 25, 26, 27, 28, 29, 30, 31, 32, 33, 34, 35, 36, 37, 38, 39, 40, 41, 42, 43, 44, 45, 46, 47, 48, 49, 50, 51, 52, 53, 54, 55, 56, 57, 58, 59, 60, 61, 62, 63, 64, 65, 66, 67, 68, 69, 70, 71, 72, 73, 74, 75, 76, 77], [], []⟩
noncomputable def rratio_L1_S (v : (Int) × (Int)) : WSt T := { tm := [.undef, .undef, .bool false, .undef, .undef, .undef, .undef, .int .i64 v.fst, .int .i64 v.snd] ++ (un 69), mem := { A := [], H := [], la := 0, lh := 0, pa := 0, ph := 0 }, df := [], rd := false }
noncomputable def rratio_L1_A {X : Type} (st : WSt T) (k : ((Int) × (Int)) → X) : X := k ((W.toI (st.tm.getD 7 .undef)), (W.toI (st.tm.getD 8 .undef)))
noncomputable def rratio_L1_O0 (o : (Int) × (Int)) : WSt T := { tm := [.undef, .undef, .bool false, .undef, .undef, .undef, .undef, .int .i64 o.fst, .int .i64 o.snd] ++ (un 69), mem := { A := [], H := [], la := 0, lh := 0, pa := 0, ph := 0 }, df := [], rd := false }
noncomputable def rratio_L1_E (o : (Int) × (Int)) : Ex × WSt T := ((.exit 2), rratio_L1_O0 o)
noncomputable def rratio_L1_q : Prep := ⟨[0, 1, 3, 4, 5, 6, 9, 10, 11, 12, 13, 14, 15, 16, 17, 18, 19, 20, 21, 22, 23, 24, 25, 26, 27, 28, 29, 30, 31, 32, 33, 34, 35, 36, 37, 38, 39, 40, 41, 42, 43, 44, 45, 46, 47, 48, 49, 50, 51, 52, 53, 54, 55, 56, 57, 58, 59, 60, 61, 62, 63, 64, 65, 66, 67, 68, 69, 70, 71, 72, 73, 74, 75, 76, 77], [], []⟩
noncomputable def hex_L0_S (p0 : Bs) (p1 : Int) (v : (Int)) : WSt T := { tm := [.str p0, .int .i64 p1, .undef, .undef, .bool false, .int .i64 v] ++ (un 32), mem := { A := [], H := [], la := 0, lh := 0, pa := 0, ph := 0 }, df := [], rd := false }
noncomputable def hex_L0_A {X : Type} (st : WSt T) (k : (Bs) → (Int) → ((Int)) → X) : X := k (W.toS (st.tm.getD 0 .undef)) (W.toI (st.tm.getD 1 .undef)) (W.toI (st.tm.getD 5 .undef))
noncomputable def hex_L0_O0 (p0 : Bs) (p1 : Int) (o : (Int)) : WSt T := { tm := [.str p0, .int .i64 p1, .undef, .undef, .bool false, .int .i64 o] ++ (un 32), mem := { A := [], H := [], la := 0, lh := 0, pa := 0, ph := 0 }, df := [], rd := false }
noncomputable def hex_L0_O1 (p0 : Bs) (p1 : Int) (o : (Int)) : WSt T := { tm := [.str p0, .int .i64 p1, .undef, .undef, .bool false, .int .i64 o] ++ (un 32), mem := { A := [], H := [], la := 0, lh := 0, pa := 0, ph := 0 }, df := [], rd := false }
noncomputable def hex_L0_E (p0 : Bs) (p1 : Int) (o : ((Int)) ⊕ ((Int))) : Ex × WSt T := (match o with | .inl o => (.ret, hex_L0_O0 p0 p1 o) | .inr o => ((.exit 0), hex_L0_O1 p0 p1 o))
noncomputable def hex_L0_q : Prep := ⟨[2, 3, 6, 7, 8, 9, 10, 11, 12, 13, 14, 15, 16, 17, 18, 19, 20, 21, 22, 23, 24, 25, 26, 27, 28, 29, 30, 31, 32, 33, 34, 35, 36, 37], [], []⟩
noncomputable def FormChecks_L0_S (p0 : Bs) (p1 : Bs) (p2 : List Int) (p3 : List Int) (p4 : Int) (p5 : Int) (p6 : Bs) (p7 : Bs) (p8 : List Form) (p9 : Int) (p10 : Bs) (p11 : Bs) (p12 : List Form) (v : (Int)) : WSt T := { tm := [.undef, .undef, .str p0, .str p1, .ptr 0 0, .ptr 1 0, .undef, .undef, .bool false, .undef, .undef, .undef, .undef, .row 0 p2 false, .undef, .row 0 p3 false] ++ (un 59 ++ ([.int .i64 p4, .int .i64 v] ++ (un 47))), mem := { A := [[.int .i64 p5, .str p6, .str p7, .row 3 p8 false], [.int .i64 p9, .str p10, .str p11, .row 3 p12 false]], H := [], la := 0, lh := 0, pa := 0, ph := 0 }, df := [], rd := false }
noncomputable def FormChecks_L0_A {X : Type} (st : WSt T) (k : (Bs) → (Bs) → (List Int) → (List Int) → (Int) → (Int) → (Bs) → (Bs) → (List Form) → (Int) → (Bs) → (Bs) → (List Form) → ((Int)) → X) : X := k (W.toS (st.tm.getD 2 .undef)) (W.toS (st.tm.getD 3 .undef)) (W.toR 0 (st.tm.getD 13 .undef)) (W.toR 0 (st.tm.getD 15 .undef)) (W.toI (st.tm.getD 75 .undef)) (W.toI ((st.mem.A.getD 0 []).getD 0 .undef)) (W.toS ((st.mem.A.getD 0 []).getD 1 .undef)) (W.toS ((st.mem.A.getD 0 []).getD 2 .undef)) (W.toR 3 ((st.mem.A.getD 0 []).getD 3 .undef)) (W.toI ((st.mem.A.getD 1 []).getD 0 .undef)) (W.toS ((st.mem.A.getD 1 []).getD 1 .undef)) (W.toS ((st.mem.A.getD 1 []).getD 2 .undef)) (W.toR 3 ((st.mem.A.getD 1 []).getD 3 .undef)) (W.toI (st.tm.getD 76 .undef))
noncomputable def FormChecks_L0_O0 (p0 : Bs) (p1 : Bs) (p2 : List Int) (p3 : List Int) (p4 : Int) (p5 : Int) (p6 : Bs) (p7 : Bs) (p8 : List Form) (p9 : Int) (p10 : Bs) (p11 : Bs) (p12 : List Form) (o : (Int)) : WSt T := { tm := [.undef, .undef, .str p0, .str p1, .ptr 0 0, .ptr 1 0, .undef, .undef, .bool false, .undef, .undef, .undef, .undef, .row 0 p2 false, .undef, .row 0 p3 false] ++ (un 59 ++ ([.int .i64 p4, .int .i64 o] ++ (un 47))), mem := { A := [[.int .i64 p5, .str p6, .str p7, .row 3 p8 false], [.int .i64 p9, .str p10, .str p11, .row 3 p12 false]], H := [], la := 0, lh := 0, pa := 0, ph := 0 }, df := [], rd := false }
noncomputable def FormChecks_L0_O1 (p0 : Bs) (p1 : Bs) (p2 : List Int) (p3 : List Int) (p4 : Int) (p5 : Int) (p6 : Bs) (p7 : Bs) (p8 : List Form) (p9 : Int) (p10 : Bs) (p11 : Bs) (p12 : List Form) (o : (Int)) : WSt T := { tm := [.undef, .undef, .str p0, .str p1, .ptr 0 0, .ptr 1 0, .undef, .undef, .bool false, .undef, .undef, .undef, .undef, .row 0 p2 false, .undef, .row 0 p3 false] ++ (un 59 ++ ([.int .i64 p4, .int .i64 o] ++ (un 47))), mem := { A := [[.int .i64 p5, .str p6, .str p7, .row 3 p8 false], [.int .i64 p9, .str p10, .str p11, .row 3 p12 false]], H := [], la := 0, lh := 0, pa := 0, ph := 0 }, df := [], rd := false }
noncomputable def FormChecks_L0_E (p0 : Bs) (p1 : Bs) (p2 : List Int) (p3 : List Int) (p4 : Int) (p5 : Int) (p6 : Bs) (p7 : Bs) (p8 : List Form) (p9 : Int) (p10 : Bs) (p11 : Bs) (p12 : List Form) (o : ((Int)) ⊕ ((Int))) : Ex × WSt T := (match o with | .inl o => (.ret, FormChecks_L0_O0 p0 p1 p2 p3 p4 p5 p6 p7 p8 p9 p10 p11 p12 o) | .inr o => ((.exit 0), FormChecks_L0_O1 p0 p1 p2 p3 p4 p5 p6 p7 p8 p9 p10 p11 p12 o))
noncomputable def FormChecks_L0_q : Prep := ⟨[0, 1, 6, 7, 9, 10, 11, 12, 14, 16, 17, 18, 19, 20, 21, 22, 23, 24, 25, 26, 27, 28, 29, 30, 31, 32, 33, 34, 35, 36, 37, 38, 39, 40, 41, 42, 43, 44, 45, 46, 47, 48, 49, 50, 51, 52, 53, 54, 55, 56, 57, 58, 59, 60, 61, 62, 63, 64, 65, 66, 67, 68, 69, 70, 71, 72, 73, 74, 77, 78, 79, 80, 81, 82, 83, 84, 85, 86, 87, 88, 89, 90, 91, 92, 93, 94, 95, 96, 97, 98, 99, 100, 101, 102, 103, 104, 105, 106, 107, 108, 109, 110, 111, 112, 113, 114, 115, 116, 117, 118, 119, 120, 121, 122, 123], [], []⟩
noncomputable def rSize_L0_S (p0 : Int) (p1 : Bs) (p2 : Bs) (p3 : List Form) (v : (Int) × (Int) × (Int)) : WSt T := { tm := [.undef, .ptr 0 0, .int .i64 0, .int .i64 0, .int .i64 v.fst, .int .i64 v.snd.fst, .int .i64 v.snd.snd] ++ (un 27), mem := { A := [[.int .i64 p0, .str p1, .str p2, .row 3 p3 false]], H := [], la := 0, lh := 0, pa := 0, ph := 0 }, df := [], rd := false }
noncomputable def rSize_L0_A {X : Type} (st : WSt T) (k : (Int) → (Bs) → (Bs) → (List Form) → ((Int) × (Int) × (Int)) → X) : X := k (W.toI ((st.mem.A.getD 0 []).getD 0 .undef)) (W.toS ((st.mem.A.getD 0 []).getD 1 .undef)) (W.toS ((st.mem.A.getD 0 []).getD 2 .undef)) (W.toR 3 ((st.mem.A.getD 0 []).getD 3 .undef)) ((W.toI (st.tm.getD 4 .undef)), (W.toI (st.tm.getD 5 .undef)), (W.toI (st.tm.getD 6 .undef)))
noncomputable def rSize_L0_O0 (p0 : Int) (p1 : Bs) (p2 : Bs) (p3 : List Form) (o : (Int) × (Int) × (Int)) : WSt T := { tm := [.undef, .ptr 0 0, .int .i64 0, .int .i64 0, .int .i64 o.fst, .int .i64 o.snd.fst, .int .i64 o.snd.snd] ++ (un 27), mem := { A := [[.int .i64 p0, .str p1, .str p2, .row 3 p3 false]], H := [], la := 0, lh := 0, pa := 0, ph := 0 }, df := [], rd := false }
noncomputable def rSize_L0_E (p0 : Int) (p1 : Bs) (p2 : Bs) (p3 : List Form) (o : (Int) × (Int) × (Int)) : Ex × WSt T := ((.exit 0), rSize_L0_O0 p0 p1 p2 p3 o)
noncomputable def rSize_L0_q : Prep := ⟨[0, 7, 8, 9, 10, 11, 12, 13, 14, 15, 16, 17, 18, 19, 20, 21, 22, 23, 24, 25, 26, 27, 28, 29, 30, 31, 32, 33], [], []⟩
structure Tb where
 through : (Form) → (Int) → Option ((Unit) ⊕ (Unit))
 through_v1 : (Form) → (Int) → (List (Bs × Bool)) → Option (((Int) × (List (Bs × Bool))) ⊕ ((List (Bs × Bool))))
 look : (Form) → (Int) → (Int) → Option ((Bool) × (Int))
 labels : (Form) → (List Bs) → Option ((Int) × (List Bs))
 Size : (Form) → Option ((Int) × (Int))
 rEqual : (Form) → (Form) → Option ((Bool))
 left : (Form) → (Int) → Option ((Int))
 Few : (Form) → (Int) → Option ((Bool))
 IsNil : (Form) → Option ((Bool))
 Is : (Form) → (Bs) → (Bs) → Option ((Bool))
 Equal : (Form) → (Form) → Option ((Bool))
 EqualFunc_f22 : ((List Form)) → ((List Form)) → Option ((Bool))
 rIsNil : (Form) → Option ((Bool))
 rIs : (Form) → (Bs) → (Bs) → Option ((Bool))
 awakeTrees : Option ((Bool))
 Check : (Form) → Option ((Int))
 limited : (Form) → Option ((Bool))
 right : (Form) → Option ((Bool))
 dimensions : (Bs) → Option (((List Int)) × (Bool))
 integer : (Bs) → Option ((Bool))
 decimal : (Bs) → Option ((Bool))
 ratio : (Bs) → Option ((Bool))
 hexadecimal : (Bs) → (Int) → Option ((Bool))
 complex : ((List Form)) → Option ((Bool))
 product : ((List Int)) → Option ((Int))
 small : (Bs) → (Int) → Option ((Bool))
 exact : (Form) → Option ((Bool))
 Dimensions : (Form) → Option (((List Int)) × (Int))
 Number : (Form) → Option ((Bool))
 IndexInt : ((List Int)) → (Int) → Option ((Int))
 rCheck : (Form) → Option ((Int))
 rDimensions : (Form) → Option (((List Int)) × (Int))
 rdimensions : (Bs) → Option (((List Int)) × (Bool))
 nodes : (Form) → Option ((Bool))
 node : (Form) → Option ((Bool))
 within : ((List Bs)) → (Bs) → Option ((Bool))
 digits : (Bs) → Option ((Bool))
 value : (Bs) → Option ((Int))
 parts : (Form) → (Form) → Option ((Bool))
 rproduct : ((List Int)) → Option ((Int))
 label : (Bs) → Option ((Bool))
 atom : (Form) → Option ((Bool))
 rexact : (Form) → Option ((Bool))
 whole : (Bs) → Option ((Bool))
 rratio : (Bs) → Option ((Bool))
 hex : (Bs) → (Int) → Option ((Bool))
 rNumber : (Form) → Option ((Bool))
 FormChecks : (Form) → (Form) → (Bs) → (Bs) → Option ((Bool))
 rSize : (Form) → Option ((Int) × (Int))
 Size_L0 : (List Form) → (Int) → (Int) → (Bs) → (Bs) → ((Int) × (Int) × (Int)) → Option ((Int) × (Int) × (Int))
 rEqual_L0 : (Int) → (Bs) → (Bs) → (List Form) → (Int) → (Bs) → (Bs) → (List Form) → ((Int)) → Option (((Int)) ⊕ ((Int)))
 left_L0 : (Int) → (Bs) → (Bs) → (List Form) → ((Int) × (Int)) → Option ((Int) × (Int))
 EqualFunc_L0 : (List Form) → (List Form) → (Int) → ((Int)) → Option (((Int)) ⊕ ((Int)))
 through_L0 : (List Form) → (Int) → (Int) → (Int) → (Bs) → (Bs) → ((Int)) → Option (((Int)) ⊕ ((Int)))
 through_L1 : (List Form) → (Int) → (Int) → (Int) → (Bs) → (Bs) → ((Int) × (List (Bs × Bool))) → Option (((Int) × (Int) × (List (Bs × Bool))) ⊕ ((Int) × (List (Bs × Bool))))
 look_L0 : (Int) → (List Form) → (Int) → (Int) → (Bs) → (Bs) → ((Int) × (Int)) → Option (((Int) × (Int)) ⊕ ((Int) × (Int)))
 right_L0 : (Bs) → (Bs) → (Int) → (List Form) → ((Int)) → Option (((Int)) ⊕ ((Int)))
 f221_L0 : ((Bs) × (List Int)) → Option (((Bs) × (List Int)) ⊕ ((Bs) × (List Int)))
 decimal_L0 : (List UInt8) → (Int) → ((Int)) → Option (((Int)) ⊕ ((Int)))
 ratio_L0 : ((Int) × (Int)) → Option ((Int) × (Int))
 product_L0 : (List Int) → (Int) → ((Int) × (Int)) → Option ((Int) × (Int))
 IndexInt_L0 : (List Int) → (Int) → (Int) → ((Int)) → Option (((Int) × (Int)) ⊕ ((Int)))
 labels_L0 : (Int) → (Bs) → (Bs) → (List Form) → ((Int) × (List Bs)) → Option (((Int) × (Int) × (List Bs)) ⊕ ((Int) × (List Bs)))
 labels_P1 : (Int) → (Int) → (Int) → (Bs) → (Bs) → (List Form) → (List Bs) → Option (((Int) × (List Bs)) ⊕ (((Int) × (List Bs)) ⊕ (Unit)))
 rdimensions_L0 : (Bs) → ((Int) × (Int) × (List Int)) → Option (((Int) × (Int) × (List Int)) ⊕ ((Int) × (Int) × (List Int)))
 nodes_L0 : (Int) → (Bs) → (Bs) → (List Form) → ((Int)) → Option (((Int)) ⊕ ((Int)))
 within_L0 : (List Bs) → (Bs) → ((Int)) → Option (((Int)) ⊕ ((Int)))
 digits_L0 : (Bs) → ((Int)) → Option (((Int)) ⊕ ((Int)))
 value_L0 : (Bs) → ((Int) × (Int)) → Option ((Int) × (Int))
 rproduct_L0 : (List Int) → ((Int)) → Option (((Int)) ⊕ ((Int)))
 rproduct_L1 : (List Int) → ((Int) × (Int)) → Option ((Int) × (Int))
 atom_L0 : (Int) → (Bs) → (Bs) → (List Form) → ((Int)) → Option (((Int)) ⊕ ((Int)))
 rratio_L0 : (Bs) → ((Int) × (Int)) → Option ((Int) × (Int))
 rratio_L1 : ((Int) × (Int)) → Option ((Int) × (Int))
 hex_L0 : (Bs) → (Int) → ((Int)) → Option (((Int)) ⊕ ((Int)))
 FormChecks_L0 : (Bs) → (Bs) → (List Int) → (List Int) → (Int) → (Int) → (Bs) → (Bs) → (List Form) → (Int) → (Bs) → (Bs) → (List Form) → ((Int)) → Option (((Int)) ⊕ ((Int)))
 rSize_L0 : (Int) → (Bs) → (Bs) → (List Form) → ((Int) × (Int) × (Int)) → Option ((Int) × (Int) × (Int))
noncomputable def through_K {R : Type} (F : Tb) (p0 : Form) (p1 : Int) (k : ((Unit) ⊕ (Unit)) → Option R) : Option R := opK (chkP (through_S p0 p1).1 (through_S p0 p1).1 (through_S p0 p1).2 (through_S p0 p1).2) fun _ => opK (F.through p0 p1) k
noncomputable def through_v1_K {R : Type} (F : Tb) (p0 : Form) (p1 : Int) (p2 : List (Bs × Bool)) (k : (((Int) × (List (Bs × Bool))) ⊕ ((List (Bs × Bool)))) → Option R) : Option R := opK (chkP (through_v1_S p0 p1 p2).1 (through_v1_S p0 p1 p2).1 (through_v1_S p0 p1 p2).2 (through_v1_S p0 p1 p2).2) fun _ => opK (F.through_v1 p0 p1 p2) k
noncomputable def look_K {R : Type} (F : Tb) (p0 : Form) (p1 : Int) (p2 : Int) (k : ((Bool) × (Int)) → Option R) : Option R := opK (chkP (look_S p0 p1 p2).1 (look_S p0 p1 p2).1 (look_S p0 p1 p2).2 (look_S p0 p1 p2).2) fun _ => opK (F.look p0 p1 p2) k
noncomputable def labels_K {R : Type} (F : Tb) (p0 : Form) (p1 : List Bs) (k : ((Int) × (List Bs)) → Option R) : Option R := opK (chkP (labels_S p0 p1).1 (labels_S p0 p1).1 (labels_S p0 p1).2 (labels_S p0 p1).2) fun _ => opK (F.labels p0 p1) k
noncomputable def Size_L0_K {R : Type} (F : Tb) (p0 : List Form) (p1 : Int) (p2 : Int) (p3 : Bs) (p4 : Bs) (v : (Int) × (Int) × (Int)) (k : ((Int) × (Int) × (Int)) → Option R) : Option R := opK (chk (loopAt 23 [0, 1, 0, 1, 1]) (Size_L0_S p0 p1 p2 p3 p4 v)) fun _ => opK (F.Size_L0 p0 p1 p2 p3 p4 v) k
noncomputable def rEqual_L0_K {R : Type} (F : Tb) (p0 : Int) (p1 : Bs) (p2 : Bs) (p3 : List Form) (p4 : Int) (p5 : Bs) (p6 : Bs) (p7 : List Form) (v : (Int)) (k : (((Int)) ⊕ ((Int))) → Option R) : Option R := opK (chk (loopAt 15 [0, 1, 0, 1, 1]) (rEqual_L0_S p0 p1 p2 p3 p4 p5 p6 p7 v)) fun _ => opK (F.rEqual_L0 p0 p1 p2 p3 p4 p5 p6 p7 v) k
noncomputable def left_L0_K {R : Type} (F : Tb) (p0 : Int) (p1 : Bs) (p2 : Bs) (p3 : List Form) (v : (Int) × (Int)) (k : ((Int) × (Int)) → Option R) : Option R := opK (chk (loopAt 73 [0, 1, 0, 1, 1]) (left_L0_S p0 p1 p2 p3 v)) fun _ => opK (F.left_L0 p0 p1 p2 p3 v) k
noncomputable def EqualFunc_L0_K {R : Type} (F : Tb) (p0 : List Form) (p1 : List Form) (p2 : Int) (v : (Int)) (k : (((Int)) ⊕ ((Int))) → Option R) : Option R := opK (chk (loopAt 98 [0, 1, 0, 1, 1]) (EqualFunc_L0_S p0 p1 p2 v)) fun _ => opK (F.EqualFunc_L0 p0 p1 p2 v) k
noncomputable def through_L0_K {R : Type} (F : Tb) (p0 : List Form) (p1 : Int) (p2 : Int) (p3 : Int) (p4 : Bs) (p5 : Bs) (v : (Int)) (k : (((Int)) ⊕ ((Int))) → Option R) : Option R := opK (chk (loopAt 142 [0, 1, 0, 1, 1]) (through_L0_S p0 p1 p2 p3 p4 p5 v)) fun _ => opK (F.through_L0 p0 p1 p2 p3 p4 p5 v) k
noncomputable def through_L1_K {R : Type} (F : Tb) (p0 : List Form) (p1 : Int) (p2 : Int) (p3 : Int) (p4 : Bs) (p5 : Bs) (v : (Int) × (List (Bs × Bool))) (k : (((Int) × (Int) × (List (Bs × Bool))) ⊕ ((Int) × (List (Bs × Bool)))) → Option R) : Option R := opK (chk (loopAt 142 [0, 1, 0, 1, 1]) (through_L1_S p0 p1 p2 p3 p4 p5 v)) fun _ => opK (F.through_L1 p0 p1 p2 p3 p4 p5 v) k
noncomputable def look_L0_K {R : Type} (F : Tb) (p0 : Int) (p1 : List Form) (p2 : Int) (p3 : Int) (p4 : Bs) (p5 : Bs) (v : (Int) × (Int)) (k : (((Int) × (Int)) ⊕ ((Int) × (Int))) → Option R) : Option R := opK (chk (loopAt 144 [0, 1, 0, 1, 1, 1]) (look_L0_S p0 p1 p2 p3 p4 p5 v)) fun _ => opK (F.look_L0 p0 p1 p2 p3 p4 p5 v) k
noncomputable def right_L0_K {R : Type} (F : Tb) (p0 : Bs) (p1 : Bs) (p2 : Int) (p3 : List Form) (v : (Int)) (k : (((Int)) ⊕ ((Int))) → Option R) : Option R := opK (chk (loopAt 96 [0, 1, 0, 1]) (right_L0_S p0 p1 p2 p3 v)) fun _ => opK (F.right_L0 p0 p1 p2 p3 v) k
noncomputable def f221_L0_K {R : Type} (F : Tb) (v : (Bs) × (List Int)) (k : (((Bs) × (List Int)) ⊕ ((Bs) × (List Int))) → Option R) : Option R := opK (chk (loopAt 221 [0, 0, 1]) (f221_L0_S v)) fun _ => opK (F.f221_L0 v) k
noncomputable def decimal_L0_K {R : Type} (F : Tb) (p0 : List UInt8) (p1 : Int) (v : (Int)) (k : (((Int)) ⊕ ((Int))) → Option R) : Option R := opK (chk (loopAt 185 [0, 1, 0, 1, 1]) (decimal_L0_S p0 p1 v)) fun _ => opK (F.decimal_L0 p0 p1 v) k
noncomputable def ratio_L0_K {R : Type} (F : Tb) (v : (Int) × (Int)) (k : ((Int) × (Int)) → Option R) : Option R := opK (chk (loopAt 155 [0, 0, 1, 1, 1, 1, 1, 1, 1]) (ratio_L0_S v)) fun _ => opK (F.ratio_L0 v) k
noncomputable def product_L0_K {R : Type} (F : Tb) (p0 : List Int) (p1 : Int) (v : (Int) × (Int)) (k : ((Int) × (Int)) → Option R) : Option R := opK (chk (loopAt 159 [0, 1, 0, 1, 1, 1]) (product_L0_S p0 p1 v)) fun _ => opK (F.product_L0 p0 p1 v) k
noncomputable def IndexInt_L0_K {R : Type} (F : Tb) (p0 : List Int) (p1 : Int) (p2 : Int) (v : (Int)) (k : (((Int) × (Int)) ⊕ ((Int))) → Option R) : Option R := opK (chk (loopAt 163 [0, 1, 0, 1]) (IndexInt_L0_S p0 p1 p2 v)) fun _ => opK (F.IndexInt_L0 p0 p1 p2 v) k
noncomputable def labels_L0_K {R : Type} (F : Tb) (p0 : Int) (p1 : Bs) (p2 : Bs) (p3 : List Form) (v : (Int) × (List Bs)) (k : (((Int) × (Int) × (List Bs)) ⊕ ((Int) × (List Bs))) → Option R) : Option R := opK (chk (loopAt 104 [0, 1, 0, 1, 1, 1]) (labels_L0_S p0 p1 p2 p3 v)) fun _ => opK (F.labels_L0 p0 p1 p2 p3 v) k
noncomputable def labels_P1_K {R : Type} (F : Tb) (p0 : Int) (p1 : Int) (p2 : Int) (p3 : Bs) (p4 : Bs) (p5 : List Form) (p6 : List Bs) (k : (((Int) × (List Bs)) ⊕ (((Int) × (List Bs)) ⊕ (Unit))) → Option R) : Option R := opK (chk (loopAt 104 [0, 1, 0, 1, 1, 1]) (labels_P1_S p0 p1 p2 p3 p4 p5 p6)) fun _ => opK (F.labels_P1 p0 p1 p2 p3 p4 p5 p6) k
noncomputable def rdimensions_L0_K {R : Type} (F : Tb) (p0 : Bs) (v : (Int) × (Int) × (List Int)) (k : (((Int) × (Int) × (List Int)) ⊕ ((Int) × (Int) × (List Int))) → Option R) : Option R := opK (chk (loopAt 102 [0, 1, 0, 1, 1, 1, 1]) (rdimensions_L0_S p0 v)) fun _ => opK (F.rdimensions_L0 p0 v) k
noncomputable def nodes_L0_K {R : Type} (F : Tb) (p0 : Int) (p1 : Bs) (p2 : Bs) (p3 : List Form) (v : (Int)) (k : (((Int)) ⊕ ((Int))) → Option R) : Option R := opK (chk (loopAt 103 [0, 1, 0, 1, 1]) (nodes_L0_S p0 p1 p2 p3 v)) fun _ => opK (F.nodes_L0 p0 p1 p2 p3 v) k
noncomputable def within_L0_K {R : Type} (F : Tb) (p0 : List Bs) (p1 : Bs) (v : (Int)) (k : (((Int)) ⊕ ((Int))) → Option R) : Option R := opK (chk (loopAt 147 [0, 1, 0, 1]) (within_L0_S p0 p1 v)) fun _ => opK (F.within_L0 p0 p1 v) k
noncomputable def digits_L0_K {R : Type} (F : Tb) (p0 : Bs) (v : (Int)) (k : (((Int)) ⊕ ((Int))) → Option R) : Option R := opK (chk (loopAt 165 [0, 1, 0, 1]) (digits_L0_S p0 v)) fun _ => opK (F.digits_L0 p0 v) k
noncomputable def value_L0_K {R : Type} (F : Tb) (p0 : Bs) (v : (Int) × (Int)) (k : ((Int) × (Int)) → Option R) : Option R := opK (chk (loopAt 166 [0, 1, 0, 1, 1]) (value_L0_S p0 v)) fun _ => opK (F.value_L0 p0 v) k
noncomputable def rproduct_L0_K {R : Type} (F : Tb) (p0 : List Int) (v : (Int)) (k : (((Int)) ⊕ ((Int))) → Option R) : Option R := opK (chk (loopAt 172 [0, 1, 0, 1]) (rproduct_L0_S p0 v)) fun _ => opK (F.rproduct_L0 p0 v) k
noncomputable def rproduct_L1_K {R : Type} (F : Tb) (p0 : List Int) (v : (Int) × (Int)) (k : ((Int) × (Int)) → Option R) : Option R := opK (chk (loopAt 172 [0, 1, 0, 1, 1, 1]) (rproduct_L1_S p0 v)) fun _ => opK (F.rproduct_L1 p0 v) k
noncomputable def atom_L0_K {R : Type} (F : Tb) (p0 : Int) (p1 : Bs) (p2 : Bs) (p3 : List Form) (v : (Int)) (k : (((Int)) ⊕ ((Int))) → Option R) : Option R := opK (chk (loopAt 174 [0, 1, 0, 0, 1, 1, 1, 1, 1, 1, 1, 1, 1, 1, 1, 0, 1, 0, 1, 1]) (atom_L0_S p0 p1 p2 p3 v)) fun _ => opK (F.atom_L0 p0 p1 p2 p3 v) k
noncomputable def rratio_L0_K {R : Type} (F : Tb) (p0 : Bs) (v : (Int) × (Int)) (k : ((Int) × (Int)) → Option R) : Option R := opK (chk (loopAt 205 [0, 1, 0, 1, 1]) (rratio_L0_S p0 v)) fun _ => opK (F.rratio_L0 p0 v) k
noncomputable def rratio_L1_K {R : Type} (F : Tb) (v : (Int) × (Int)) (k : ((Int) × (Int)) → Option R) : Option R := opK (chk (loopAt 205 [0, 0, 1, 1, 1, 1, 1, 1, 1, 1, 1]) (rratio_L1_S v)) fun _ => opK (F.rratio_L1 v) k
noncomputable def hex_L0_K {R : Type} (F : Tb) (p0 : Bs) (p1 : Int) (v : (Int)) (k : (((Int)) ⊕ ((Int))) → Option R) : Option R := opK (chk (loopAt 206 [0, 1, 0, 1]) (hex_L0_S p0 p1 v)) fun _ => opK (F.hex_L0 p0 p1 v) k
noncomputable def FormChecks_L0_K {R : Type} (F : Tb) (p0 : Bs) (p1 : Bs) (p2 : List Int) (p3 : List Int) (p4 : Int) (p5 : Int) (p6 : Bs) (p7 : Bs) (p8 : List Form) (p9 : Int) (p10 : Bs) (p11 : Bs) (p12 : List Form) (v : (Int)) (k : (((Int)) ⊕ ((Int))) → Option R) : Option R := opK (chk (loopAt 5 [0, 1, 0, 1, 1, 1, 1, 1, 1, 1]) (FormChecks_L0_S p0 p1 p2 p3 p4 p5 p6 p7 p8 p9 p10 p11 p12 v)) fun _ => opK (F.FormChecks_L0 p0 p1 p2 p3 p4 p5 p6 p7 p8 p9 p10 p11 p12 v) k
noncomputable def rSize_L0_K {R : Type} (F : Tb) (p0 : Int) (p1 : Bs) (p2 : Bs) (p3 : List Form) (v : (Int) × (Int) × (Int)) (k : ((Int) × (Int) × (Int)) → Option R) : Option R := opK (chk (loopAt 24 [0, 1, 0, 1, 1]) (rSize_L0_S p0 p1 p2 p3 v)) fun _ => opK (F.rSize_L0 p0 p1 p2 p3 v) k
noncomputable def Size_L0_R (F : Tb) (p0 : List Form) (p1 : Int) (p2 : Int) (p3 : Bs) (p4 : Bs) (v : (Int) × (Int) × (Int)) {R : Type} (K : ((Int) × (Int) × (Int)) ⊕ ((Int) × (Int) × (Int)) → Option R) : Option R := cnd (decide (v.snd.snd < p1)) (opK (idx p0 v.snd.snd) fun x3 => opK (F.Size (Form.mk x3.kind x3.text x3.home x3.kids)) fun y4 => cnd (ok64 (v.fst + y4.fst)) (cnd (ok64 (v.snd.snd + 1)) (K (.inr ((v.fst + y4.fst), (max v.snd.fst y4.snd), (v.snd.snd + 1)))) (none)) (none)) (K (.inl ((v.fst, v.snd.fst, v.snd.snd))))
noncomputable def rEqual_L0_R (F : Tb) (p0 : Int) (p1 : Bs) (p2 : Bs) (p3 : List Form) (p4 : Int) (p5 : Bs) (p6 : Bs) (p7 : List Form) (v : (Int)) {R : Type} (K : (((Int)) ⊕ ((Int))) ⊕ ((Int)) → Option R) : Option R := cnd (decide (v < (↑(List.length p3) : Int))) (opK (idx p3 v) fun x9 => opK (idx p7 v) fun x10 => opK (F.rEqual (Form.mk x9.kind x9.text x9.home x9.kids) (Form.mk x10.kind x10.text x10.home x10.kids)) fun y11 => cnd (!y11) (K (.inl (.inl (v)))) (cnd (ok64 (v + 1)) (K (.inr (v + 1))) (none))) (K (.inl (.inr (v))))
noncomputable def left_L0_R (F : Tb) (p0 : Int) (p1 : Bs) (p2 : Bs) (p3 : List Form) (v : (Int) × (Int)) {R : Type} (K : ((Int) × (Int)) ⊕ ((Int) × (Int)) → Option R) : Option R := cnd (decide (v.snd < (↑(List.length p3) : Int))) (cnd (decide (v.fst ≥ 0)) (opK (idx p3 v.snd) fun x17 => opK (F.left (Form.mk x17.kind x17.text x17.home x17.kids) v.fst) fun y18 => cnd (ok64 (v.snd + 1)) (K (.inr (y18, (v.snd + 1)))) (none)) (K (.inl ((v.fst, v.snd))))) (K (.inl ((v.fst, v.snd))))
noncomputable def EqualFunc_L0_R (F : Tb) (p0 : List Form) (p1 : List Form) (p2 : Int) (v : (Int)) {R : Type} (K : (((Int)) ⊕ ((Int))) ⊕ ((Int)) → Option R) : Option R := cnd (decide (v < p2)) (opK (idx p1 v) fun x26 => opK (idx p0 v) fun x27 => opK (F.Equal (Form.mk x26.kind x26.text x26.home x26.kids) (Form.mk x27.kind x27.text x27.home x27.kids)) fun y28 => cnd (!y28) (K (.inl (.inl (v)))) (cnd (ok64 (v + 1)) (K (.inr (v + 1))) (none))) (K (.inl (.inr (v))))
noncomputable def through_L0_R (F : Tb) (p0 : List Form) (p1 : Int) (p2 : Int) (p3 : Int) (p4 : Bs) (p5 : Bs) (v : (Int)) {R : Type} (K : (((Int)) ⊕ ((Int))) ⊕ ((Int)) → Option R) : Option R := cnd (decide (v < p1)) (opK (idx p0 v) fun x39 => through_K F (Form.mk x39.kind x39.text x39.home x39.kids) p2 fun o40 => sumK o40 (fun o41 => K (.inl (.inl (v)))) (fun o42 => cnd (ok64 (v + 1)) (K (.inr (v + 1))) (none))) (K (.inl (.inr (v))))
noncomputable def through_L1_R (F : Tb) (p0 : List Form) (p1 : Int) (p2 : Int) (p3 : Int) (p4 : Bs) (p5 : Bs) (v : (Int) × (List (Bs × Bool))) {R : Type} (K : (((Int) × (Int) × (List (Bs × Bool))) ⊕ ((Int) × (List (Bs × Bool)))) ⊕ ((Int) × (List (Bs × Bool))) → Option R) : Option R := cnd (decide (v.fst < p1)) (opK (idx p0 v.fst) fun x54 => through_v1_K F (Form.mk x54.kind x54.text x54.home x54.kids) p2 v.snd fun o55 => sumK o55 (fun o56 => K (.inl (.inl ((v.fst, o56.fst, o56.snd))))) (fun o57 => cnd (ok64 (v.fst + 1)) (K (.inr ((v.fst + 1), o57))) (none))) (K (.inl (.inr ((v.fst, v.snd)))))
noncomputable def look_L0_R (F : Tb) (p0 : Int) (p1 : List Form) (p2 : Int) (p3 : Int) (p4 : Bs) (p5 : Bs) (v : (Int) × (Int)) {R : Type} (K : (((Int) × (Int)) ⊕ ((Int) × (Int))) ⊕ ((Int) × (Int)) → Option R) : Option R := cnd (decide (v.fst < p2)) (opK (idx p1 v.fst) fun x72 => cnd (ok64 (p0 + 1)) (look_K F (Form.mk x72.kind x72.text x72.home x72.kids) (p0 + 1) v.snd fun o73 => cnd (!o73.fst) (K (.inl (.inl ((v.fst, o73.snd))))) (cnd (ok64 (v.fst + 1)) (K (.inr ((v.fst + 1), o73.snd))) (none))) (none)) (K (.inl (.inr ((v.fst, v.snd)))))
noncomputable def right_L0_R (F : Tb) (p0 : Bs) (p1 : Bs) (p2 : Int) (p3 : List Form) (v : (Int)) {R : Type} (K : (((Int)) ⊕ ((Int))) ⊕ ((Int)) → Option R) : Option R := cnd (decide (v < 2)) (opK (idx [p0, p1] v) fun x78 => cnd (decide ((List.length x78) ≤ 9223372036854775807)) (cnd (!(Lib.validD x78)) (K (.inl (.inl (v)))) (cnd (ok64 (v + 1)) (K (.inr (v + 1))) (none))) (none)) (K (.inl (.inr (v))))
noncomputable def f221_L0_R (F : Tb) (v : (Bs) × (List Int)) {R : Type} (K : (((Bs) × (List Int)) ⊕ ((Bs) × (List Int))) ⊕ ((Bs) × (List Int)) → Option R) : Option R := cnd (decide ((List.length v.fst) < 4294967281)) (cnd (decide ((Lib.index v.fst [32]) < 0)) (K (.inl (.inl ((v.fst, v.snd))))) (cnd (ok64 ((Lib.index v.fst [32]) + 0)) (cnd (decide (0 ≤ ((Lib.index v.fst [32]) + 0))) (cnd (decide ((0 ≤ (Int.toNat ((Lib.index v.fst [32]) + 0))) ∧ ((Int.toNat ((Lib.index v.fst [32]) + 0)) ≤ (List.length v.fst)))) (opK (F.small (List.take ((Int.toNat ((Lib.index v.fst [32]) + 0)) - 0) v.fst) 2000) fun y104 => cnd (!y104) (K (.inl (.inr ((v.fst, v.snd))))) (cnd (decide ((List.length (List.take ((Int.toNat ((Lib.index v.fst [32]) + 0)) - 0) v.fst)) ≤ 281474976710656)) (cnd (atoiOk (List.take ((Int.toNat ((Lib.index v.fst [32]) + 0)) - 0) v.fst)) (cnd (decide ((((List.length v.snd) + 1) * 8) ≤ 140737488355328)) (cnd (ok64 ((Lib.index v.fst [32]) + 1)) (cnd (decide (0 ≤ ((Lib.index v.fst [32]) + 1))) (cnd (decide (((Int.toNat ((Lib.index v.fst [32]) + 1)) ≤ (List.length v.fst)) ∧ ((List.length v.fst) ≤ (List.length v.fst)))) (K (.inr ((List.take ((List.length v.fst) - (Int.toNat ((Lib.index v.fst [32]) + 1))) (List.drop (Int.toNat ((Lib.index v.fst [32]) + 1)) v.fst)), (v.snd ++ [(atoiVal (List.take ((Int.toNat ((Lib.index v.fst [32]) + 0)) - 0) v.fst))])))) (none)) (none)) (none)) (none)) (cnd (decide ((((List.length v.snd) + 1) * 8) ≤ 140737488355328)) (cnd (ok64 ((Lib.index v.fst [32]) + 1)) (cnd (decide (0 ≤ ((Lib.index v.fst [32]) + 1))) (cnd (decide (((Int.toNat ((Lib.index v.fst [32]) + 1)) ≤ (List.length v.fst)) ∧ ((List.length v.fst) ≤ (List.length v.fst)))) (K (.inr ((List.take ((List.length v.fst) - (Int.toNat ((Lib.index v.fst [32]) + 1))) (List.drop (Int.toNat ((Lib.index v.fst [32]) + 1)) v.fst)), (v.snd ++ [(atoiVal (List.take ((Int.toNat ((Lib.index v.fst [32]) + 0)) - 0) v.fst))])))) (none)) (none)) (none)) (none))) (none))) (none)) (none)) (none))) (none)
noncomputable def decimal_L0_R (F : Tb) (p0 : List UInt8) (p1 : Int) (v : (Int)) {R : Type} (K : (((Int)) ⊕ ((Int))) ⊕ ((Int)) → Option R) : Option R := cnd (decide (v < p1)) (opK (idx p0 v) fun x112 => cnd (decide ((↑(UInt8.toNat x112) : Int) < 48)) (K (.inl (.inl (v)))) (cnd (decide ((↑(UInt8.toNat x112) : Int) > 57)) (K (.inl (.inl (v)))) (cnd (ok64 (v + 1)) (K (.inr (v + 1))) (none)))) (K (.inl (.inr (v))))
noncomputable def ratio_L0_R (F : Tb) (v : (Int) × (Int)) {R : Type} (K : ((Int) × (Int)) ⊕ ((Int) × (Int)) → Option R) : Option R := cnd (v.snd != 0) (cnd (decide (v.snd = 0)) (none) (K (.inr (v.snd, (Int.tmod v.fst v.snd))))) (K (.inl ((v.fst, v.snd))))
noncomputable def product_L0_R (F : Tb) (p0 : List Int) (p1 : Int) (v : (Int) × (Int)) {R : Type} (K : ((Int) × (Int)) ⊕ ((Int) × (Int)) → Option R) : Option R := cnd (decide (v.snd < p1)) (opK (idx p0 v.snd) fun x131 => cnd (ok64 (v.fst * x131)) (cnd (ok64 (v.snd + 1)) (K (.inr ((min (v.fst * x131) 1099511627776), (v.snd + 1)))) (none)) (none)) (K (.inl ((v.fst, v.snd))))
noncomputable def IndexInt_L0_R (F : Tb) (p0 : List Int) (p1 : Int) (p2 : Int) (v : (Int)) {R : Type} (K : (((Int) × (Int)) ⊕ ((Int))) ⊕ ((Int)) → Option R) : Option R := cnd (decide (v < p2)) (opK (idx p0 v) fun x139 => cnd (p1 == x139) (K (.inl (.inl ((v, v))))) (cnd (ok64 (v + 1)) (K (.inr (v + 1))) (none))) (K (.inl (.inr (v))))
noncomputable def labels_L0_R (F : Tb) (p0 : Int) (p1 : Bs) (p2 : Bs) (p3 : List Form) (v : (Int) × (List Bs)) {R : Type} (K : (((Int) × (Int) × (List Bs)) ⊕ ((Int) × (List Bs))) ⊕ ((Int) × (List Bs)) → Option R) : Option R := cnd (decide (v.fst < (↑(List.length p3) : Int))) (opK (idx p3 v.fst) fun x151 => labels_K F (Form.mk x151.kind x151.text x151.home x151.kids) v.snd fun o152 => cnd (o152.fst != 0) (K (.inl (.inl ((o152.fst, v.fst, o152.snd))))) (cnd (ok64 (v.fst + 1)) (K (.inr ((v.fst + 1), o152.snd))) (none))) (K (.inl (.inr ((v.fst, v.snd)))))
noncomputable def labels_P1_R (F : Tb) (p0 : Int) (p1 : Int) (p2 : Int) (p3 : Bs) (p4 : Bs) (p5 : List Form) (p6 : List Bs) {R : Type} (K : (((Int) × (List Bs)) ⊕ (((Int) × (List Bs)) ⊕ (Unit))) → Option R) : Option R := cnd (decide (p1 < (↑(List.length p5) : Int))) (opK (idx p5 p1) fun x162 => labels_K F (Form.mk x162.kind x162.text x162.home x162.kids) p6 fun o163 => cnd (o163.fst != 0) (K (.inl ((o163.fst, o163.snd)))) (cnd (ok64 (p1 + 1)) (K (.inr (.inl (((p1 + 1), o163.snd))))) (none))) (K (.inr (.inr (()))))
noncomputable def rdimensions_L0_R (F : Tb) (p0 : Bs) (v : (Int) × (Int) × (List Int)) {R : Type} (K : (((Int) × (Int) × (List Int)) ⊕ ((Int) × (Int) × (List Int))) ⊕ ((Int) × (Int) × (List Int)) → Option R) : Option R := cnd (decide (v.snd.fst ≤ (↑(List.length p0) : Int))) (cnd (decide (v.snd.fst < (↑(List.length p0) : Int))) (opK (idx p0 v.snd.fst) fun x202 => cnd ((↑(UInt8.toNat x202) : Int) != 32) (cnd (ok64 (v.snd.fst + 1)) (K (.inr (v.fst, (v.snd.fst + 1), v.snd.snd))) (none)) (cnd (decide (0 ≤ v.fst)) (cnd (decide (0 ≤ v.snd.fst)) (cnd (decide (((Int.toNat v.fst) ≤ (Int.toNat v.snd.fst)) ∧ ((Int.toNat v.snd.fst) ≤ (List.length p0)))) (cnd (decide ((↑(List.length (List.take ((Int.toNat v.snd.fst) - (Int.toNat v.fst)) (List.drop (Int.toNat v.fst) p0))) : Int) > 4)) (K (.inl (.inl ((v.fst, v.snd.fst, v.snd.snd))))) (opK (F.digits (List.take ((Int.toNat v.snd.fst) - (Int.toNat v.fst)) (List.drop (Int.toNat v.fst) p0))) fun y203 => cnd (!y203) (K (.inl (.inl ((v.fst, v.snd.fst, v.snd.snd))))) (opK (F.value (List.take ((Int.toNat v.snd.fst) - (Int.toNat v.fst)) (List.drop (Int.toNat v.fst) p0))) fun y204 => cnd (decide (y204 > 2000)) (K (.inl (.inl ((v.fst, v.snd.fst, v.snd.snd))))) (opK (F.value (List.take ((Int.toNat v.snd.fst) - (Int.toNat v.fst)) (List.drop (Int.toNat v.fst) p0))) fun y205 => cnd (decide ((((List.length v.snd.snd) + 1) * 8) ≤ 140737488355328)) (cnd (ok64 (v.snd.fst + 1)) (cnd (ok64 (v.snd.fst + 1)) (K (.inr ((v.snd.fst + 1), (v.snd.fst + 1), (v.snd.snd ++ [y205])))) (none)) (none)) (none))))) (none)) (none)) (none))) (cnd (decide (0 ≤ v.fst)) (cnd (decide (0 ≤ v.snd.fst)) (cnd (decide (((Int.toNat v.fst) ≤ (Int.toNat v.snd.fst)) ∧ ((Int.toNat v.snd.fst) ≤ (List.length p0)))) (cnd (decide ((↑(List.length (List.take ((Int.toNat v.snd.fst) - (Int.toNat v.fst)) (List.drop (Int.toNat v.fst) p0))) : Int) > 4)) (K (.inl (.inl ((v.fst, v.snd.fst, v.snd.snd))))) (opK (F.digits (List.take ((Int.toNat v.snd.fst) - (Int.toNat v.fst)) (List.drop (Int.toNat v.fst) p0))) fun y206 => cnd (!y206) (K (.inl (.inl ((v.fst, v.snd.fst, v.snd.snd))))) (opK (F.value (List.take ((Int.toNat v.snd.fst) - (Int.toNat v.fst)) (List.drop (Int.toNat v.fst) p0))) fun y207 => cnd (decide (y207 > 2000)) (K (.inl (.inl ((v.fst, v.snd.fst, v.snd.snd))))) (opK (F.value (List.take ((Int.toNat v.snd.fst) - (Int.toNat v.fst)) (List.drop (Int.toNat v.fst) p0))) fun y208 => cnd (decide ((((List.length v.snd.snd) + 1) * 8) ≤ 140737488355328)) (cnd (ok64 (v.snd.fst + 1)) (cnd (ok64 (v.snd.fst + 1)) (K (.inr ((v.snd.fst + 1), (v.snd.fst + 1), (v.snd.snd ++ [y208])))) (none)) (none)) (none))))) (none)) (none)) (none))) (K (.inl (.inr ((v.fst, v.snd.fst, v.snd.snd)))))
noncomputable def nodes_L0_R (F : Tb) (p0 : Int) (p1 : Bs) (p2 : Bs) (p3 : List Form) (v : (Int)) {R : Type} (K : (((Int)) ⊕ ((Int))) ⊕ ((Int)) → Option R) : Option R := cnd (decide (v < (↑(List.length p3) : Int))) (opK (idx p3 v) fun x215 => opK (F.nodes (Form.mk x215.kind x215.text x215.home x215.kids)) fun y216 => cnd (!y216) (K (.inl (.inl (v)))) (cnd (ok64 (v + 1)) (K (.inr (v + 1))) (none))) (K (.inl (.inr (v))))
noncomputable def within_L0_R (F : Tb) (p0 : List Bs) (p1 : Bs) (v : (Int)) {R : Type} (K : (((Int)) ⊕ ((Int))) ⊕ ((Int)) → Option R) : Option R := cnd (decide (v < (↑(List.length p0) : Int))) (opK (idx p0 v) fun x229 => cnd (x229 == p1) (K (.inl (.inl (v)))) (cnd (ok64 (v + 1)) (K (.inr (v + 1))) (none))) (K (.inl (.inr (v))))
noncomputable def digits_L0_R (F : Tb) (p0 : Bs) (v : (Int)) {R : Type} (K : (((Int)) ⊕ ((Int))) ⊕ ((Int)) → Option R) : Option R := cnd (decide (v < (↑(List.length p0) : Int))) (opK (idx p0 v) fun x235 => cnd (decide ((↑(UInt8.toNat x235) : Int) < 48)) (K (.inl (.inl (v)))) (opK (idx p0 v) fun x236 => cnd (decide ((↑(UInt8.toNat x236) : Int) > 57)) (K (.inl (.inl (v)))) (cnd (ok64 (v + 1)) (K (.inr (v + 1))) (none)))) (K (.inl (.inr (v))))
noncomputable def value_L0_R (F : Tb) (p0 : Bs) (v : (Int) × (Int)) {R : Type} (K : ((Int) × (Int)) ⊕ ((Int) × (Int)) → Option R) : Option R := cnd (decide (v.snd < (↑(List.length p0) : Int))) (cnd (ok64 (10 * v.fst)) (opK (idx p0 v.snd) fun x242 => cnd (ok64 (IntKind.wrap .u8 ((↑(UInt8.toNat x242) : Int) - 48))) (cnd (ok64 ((10 * v.fst) + (IntKind.wrap .u8 ((↑(UInt8.toNat x242) : Int) - 48)))) (cnd (ok64 (v.snd + 1)) (K (.inr (((10 * v.fst) + (IntKind.wrap .u8 ((↑(UInt8.toNat x242) : Int) - 48))), (v.snd + 1)))) (none)) (none)) (none)) (none)) (K (.inl ((v.fst, v.snd))))
noncomputable def rproduct_L0_R (F : Tb) (p0 : List Int) (v : (Int)) {R : Type} (K : (((Int)) ⊕ ((Int))) ⊕ ((Int)) → Option R) : Option R := cnd (decide (v < (↑(List.length p0) : Int))) (opK (idx p0 v) fun x247 => cnd (x247 == 0) (K (.inl (.inl (v)))) (cnd (ok64 (v + 1)) (K (.inr (v + 1))) (none))) (K (.inl (.inr (v))))
noncomputable def rproduct_L1_R (F : Tb) (p0 : List Int) (v : (Int) × (Int)) {R : Type} (K : ((Int) × (Int)) ⊕ ((Int) × (Int)) → Option R) : Option R := cnd (decide (v.snd < (↑(List.length p0) : Int))) (opK (idx p0 v.snd) fun x252 => cnd (ok64 (v.fst * x252)) (cnd (ok64 (v.snd + 1)) (K (.inr ((min (v.fst * x252) 2001), (v.snd + 1)))) (none)) (none)) (K (.inl ((v.fst, v.snd))))
noncomputable def atom_L0_R (F : Tb) (p0 : Int) (p1 : Bs) (p2 : Bs) (p3 : List Form) (v : (Int)) {R : Type} (K : (((Int)) ⊕ ((Int))) ⊕ ((Int)) → Option R) : Option R := cnd (decide (v < (↑(List.length p1) : Int))) (opK (idx p1 v) fun x261 => cnd ((↑(UInt8.toNat x261) : Int) != 48) (opK (idx p1 v) fun x262 => cnd ((↑(UInt8.toNat x262) : Int) != 49) (K (.inl (.inl (v)))) (cnd (ok64 (v + 1)) (K (.inr (v + 1))) (none))) (cnd (ok64 (v + 1)) (K (.inr (v + 1))) (none))) (K (.inl (.inr (v))))
noncomputable def rratio_L0_R (F : Tb) (p0 : Bs) (v : (Int) × (Int)) {R : Type} (K : ((Int) × (Int)) ⊕ ((Int) × (Int)) → Option R) : Option R := cnd (decide (v.snd < (↑(List.length p0) : Int))) (opK (idx p0 v.snd) fun x272 => cnd ((↑(UInt8.toNat x272) : Int) == 47) (cnd (decide (v.fst < 0)) (cnd (ok64 (v.snd + 1)) (K (.inr (v.snd, (v.snd + 1)))) (none)) (cnd (ok64 (v.snd + 1)) (K (.inr (v.fst, (v.snd + 1)))) (none))) (cnd (ok64 (v.snd + 1)) (K (.inr (v.fst, (v.snd + 1)))) (none))) (K (.inl ((v.fst, v.snd))))
noncomputable def rratio_L1_R (F : Tb) (v : (Int) × (Int)) {R : Type} (K : ((Int) × (Int)) ⊕ ((Int) × (Int)) → Option R) : Option R := cnd (decide (v.snd > 0)) (cnd (decide (v.snd = 0)) (none) (K (.inr (v.snd, (Int.tmod v.fst v.snd))))) (K (.inl ((v.fst, v.snd))))
noncomputable def hex_L0_R (F : Tb) (p0 : Bs) (p1 : Int) (v : (Int)) {R : Type} (K : (((Int)) ⊕ ((Int))) ⊕ ((Int)) → Option R) : Option R := cnd (decide (v < (↑(List.length p0) : Int))) (opK (idx p0 v) fun x289 => cnd (decide ((↑(UInt8.toNat x289) : Int) < 48)) (opK (idx p0 v) fun x290 => cnd (decide ((↑(UInt8.toNat x290) : Int) < 97)) (K (.inl (.inl (v)))) (opK (idx p0 v) fun x291 => cnd (decide ((↑(UInt8.toNat x291) : Int) > 102)) (K (.inl (.inl (v)))) (cnd (ok64 (v + 1)) (K (.inr (v + 1))) (none)))) (opK (idx p0 v) fun x292 => cnd (decide ((↑(UInt8.toNat x292) : Int) > 57)) (opK (idx p0 v) fun x293 => cnd (decide ((↑(UInt8.toNat x293) : Int) < 97)) (K (.inl (.inl (v)))) (opK (idx p0 v) fun x294 => cnd (decide ((↑(UInt8.toNat x294) : Int) > 102)) (K (.inl (.inl (v)))) (cnd (ok64 (v + 1)) (K (.inr (v + 1))) (none)))) (cnd (ok64 (v + 1)) (K (.inr (v + 1))) (none)))) (K (.inl (.inr (v))))
noncomputable def FormChecks_L0_R (F : Tb) (p0 : Bs) (p1 : Bs) (p2 : List Int) (p3 : List Int) (p4 : Int) (p5 : Int) (p6 : Bs) (p7 : Bs) (p8 : List Form) (p9 : Int) (p10 : Bs) (p11 : Bs) (p12 : List Form) (v : (Int)) {R : Type} (K : (((Int)) ⊕ ((Int))) ⊕ ((Int)) → Option R) : Option R := cnd (decide (v < p4)) (opK (idx p2 v) fun x310 => opK (idx p3 v) fun x311 => cnd (x310 != x311) (K (.inl (.inl (v)))) (cnd (ok64 (v + 1)) (K (.inr (v + 1))) (none))) (K (.inl (.inr (v))))
noncomputable def rSize_L0_R (F : Tb) (p0 : Int) (p1 : Bs) (p2 : Bs) (p3 : List Form) (v : (Int) × (Int) × (Int)) {R : Type} (K : ((Int) × (Int) × (Int)) ⊕ ((Int) × (Int) × (Int)) → Option R) : Option R := cnd (decide (v.snd.snd < (↑(List.length p3) : Int))) (opK (idx p3 v.snd.snd) fun x326 => opK (F.rSize (Form.mk x326.kind x326.text x326.home x326.kids)) fun y327 => cnd (ok64 (v.fst + y327.fst)) (cnd (ok64 (v.snd.snd + 1)) (K (.inr ((v.fst + y327.fst), (max v.snd.fst y327.snd), (v.snd.snd + 1)))) (none)) (none)) (K (.inl ((v.fst, v.snd.fst, v.snd.snd))))
noncomputable def through_c (F : Tb) (p0 : Form) (p1 : Int) {R : Type} (K : ((Unit) ⊕ (Unit)) → Option R) : Option R := opK (F.right (Form.mk p0.kind p0.text p0.home p0.kids)) fun y329 => cnd (!y329) (K (.inl (()))) (through_L0_K F p0.kids (↑(List.length p0.kids) : Int) p1 p0.kind p0.text p0.home 0 fun o330 => sumK o330 (fun o331 => K (.inl (()))) (fun o332 => K (.inr (()))))
noncomputable def through_v1_c (F : Tb) (p0 : Form) (p1 : Int) (p2 : List (Bs × Bool)) {R : Type} (K : (((Int) × (List (Bs × Bool))) ⊕ ((List (Bs × Bool)))) → Option R) : Option R := cnd (p0.kind == 13) (cnd (Option.getD (mget (keqC 2) p2 p0.text) false) (K (.inl ((8, p2)))) (opK (idx p0.kids 0) fun x333 => cnd (x333.kind == 14) (K (.inl ((30, (mset (keqC 2) p2 p0.text true))))) (cnd (x333.kind == 13) (K (.inl ((30, (mset (keqC 2) p2 p0.text true))))) (through_L1_K F p0.kids (↑(List.length p0.kids) : Int) p1 p0.kind p0.text p0.home (0, (mset (keqC 2) p2 p0.text true)) fun o334 => sumK o334 (fun o335 => K (.inl ((o335.snd.fst, o335.snd.snd)))) (fun o336 => K (.inr (o336.snd))))))) (cnd (p0.kind == 14) (cnd (!(Option.getD (mget (keqC 2) p2 p0.text) false)) (K (.inl ((30, p2)))) (through_L1_K F p0.kids (↑(List.length p0.kids) : Int) p1 p0.kind p0.text p0.home (0, p2) fun o337 => sumK o337 (fun o338 => K (.inl ((o338.snd.fst, o338.snd.snd)))) (fun o339 => K (.inr (o339.snd))))) (through_L1_K F p0.kids (↑(List.length p0.kids) : Int) p1 p0.kind p0.text p0.home (0, p2) fun o340 => sumK o340 (fun o341 => K (.inl ((o341.snd.fst, o341.snd.snd)))) (fun o342 => K (.inr (o342.snd)))))
noncomputable def look_c (F : Tb) (p0 : Form) (p1 : Int) (p2 : Int) {R : Type} (K : ((Bool) × (Int)) → Option R) : Option R := cnd (ok64 (p2 - 1)) (cnd (decide ((p2 - 1) < 0)) (K ((false, (p2 - 1)))) (cnd (decide (p1 > 100)) (K ((false, (p2 - 1)))) (look_L0_K F p1 p0.kids (↑(List.length p0.kids) : Int) p0.kind p0.text p0.home (0, (p2 - 1)) fun o343 => sumK o343 (fun o344 => K ((false, o344.snd))) (fun o345 => K ((true, o345.snd)))))) (none)
noncomputable def labels_c (F : Tb) (p0 : Form) (p1 : List Bs) {R : Type} (K : ((Int) × (List Bs)) → Option R) : Option R := cnd (p0.kind == 13) (opK (F.within p1 p0.text) fun y346 => cnd y346 (K ((8, p1))) (opK (idx p0.kids 0) fun x347 => cnd (x347.kind == 14) (K ((30, p1))) (opK (idx p0.kids 0) fun x348 => cnd (x348.kind == 13) (K ((30, p1))) (cnd (decide ((((List.length p1) + 1) * 16) ≤ 140737488355328)) (cnd (p0.kind == 14) (opK (F.within (p1 ++ [p0.text]) p0.text) fun y349 => cnd (!y349) (K ((30, (p1 ++ [p0.text])))) (labels_L0_K F p0.kind p0.text p0.home p0.kids (0, (p1 ++ [p0.text])) fun o350 => sumK o350 (fun o351 => K ((o351.fst, o351.snd.snd))) (fun o352 => K ((0, o352.snd))))) (labels_L0_K F p0.kind p0.text p0.home p0.kids (0, (p1 ++ [p0.text])) fun o353 => sumK o353 (fun o354 => K ((o354.fst, o354.snd.snd))) (fun o355 => K ((0, o355.snd))))) (none))))) (cnd (p0.kind == 14) (opK (F.within p1 p0.text) fun y356 => cnd (!y356) (K ((30, p1))) (labels_P1_K F 0 0 p0.kind p0.text p0.home p0.kids p1 fun o357 => sumK o357 (fun o358 => K ((o358.fst, o358.snd))) (fun wo357 => sumK wo357 (fun o359 => labels_L0_K F p0.kind p0.text p0.home p0.kids (o359.fst, o359.snd) fun o360 => sumK o360 (fun o361 => K ((o361.fst, o361.snd.snd))) (fun o362 => K ((0, o362.snd)))) (fun o363 => K ((0, p1)))))) (labels_P1_K F 0 0 p0.kind p0.text p0.home p0.kids p1 fun o364 => sumK o364 (fun o365 => K ((o365.fst, o365.snd))) (fun wo364 => sumK wo364 (fun o366 => labels_L0_K F p0.kind p0.text p0.home p0.kids (o366.fst, o366.snd) fun o367 => sumK o367 (fun o368 => K ((o368.fst, o368.snd.snd))) (fun o369 => K ((0, o369.snd)))) (fun o370 => K ((0, p1))))))
noncomputable def Size_c (F : Tb) (a0 : Form) {R : Type} (K : ((Int) × (Int)) → Option R) : Option R := Size_L0_K F a0.kids (↑(List.length a0.kids) : Int) a0.kind a0.text a0.home (1, 0, 0) fun o5 => cnd (ok64 (o5.snd.fst + 1)) (K (o5.fst, (o5.snd.fst + 1))) (none)
noncomputable def rEqual_c (F : Tb) (a0 : Form) (a1 : Form) {R : Type} (K : ((Bool)) → Option R) : Option R := cnd (a0.kind != a1.kind) (K false) (cnd (!(a0.text == a1.text)) (K false) (cnd (!(a0.home == a1.home)) (K false) (cnd ((↑(List.length a0.kids) : Int) != (↑(List.length a1.kids) : Int)) (K false) (rEqual_L0_K F a0.kind a0.text a0.home a0.kids a1.kind a1.text a1.home a1.kids 0 fun o12 => sumK o12 (fun o13 => K false) (fun o14 => K true)))))
noncomputable def left_c (F : Tb) (a0 : Form) (a1 : Int) {R : Type} (K : ((Int)) → Option R) : Option R := cnd (ok64 (a1 - 1)) (left_L0_K F a0.kind a0.text a0.home a0.kids ((a1 - 1), 0) fun o19 => K o19.fst) (none)
noncomputable def Few_c (F : Tb) (a0 : Form) (a1 : Int) {R : Type} (K : ((Bool)) → Option R) : Option R := opK (F.left (Form.mk a0.kind a0.text a0.home a0.kids) a1) fun y20 => K (decide (y20 ≥ 0))
noncomputable def IsNil_c (F : Tb) (a0 : Form) {R : Type} (K : ((Bool)) → Option R) : Option R := opK (F.Is (Form.mk a0.kind a0.text a0.home a0.kids) [67, 79, 77, 77, 79, 78, 45, 76, 73, 83, 80] [78, 73, 76]) fun y21 => K y21
noncomputable def Is_c (F : Tb) (a0 : Form) (a1 : Bs) (a2 : Bs) {R : Type} (K : ((Bool)) → Option R) : Option R := cnd (a0.kind == 1) (cnd (a0.text == a2) (K (a0.home == a1)) (K false)) (K false)
noncomputable def Equal_c (F : Tb) (a0 : Form) (a1 : Form) {R : Type} (K : ((Bool)) → Option R) : Option R := cnd (a0.kind == a1.kind) (cnd (a0.text == a1.text) (cnd (a0.home == a1.home) (opK (F.EqualFunc_f22 a0.kids a1.kids) fun y22 => K y22) (K false)) (K false)) (K false)
noncomputable def EqualFunc_f22_c (F : Tb) (a0 : (List Form)) (a1 : (List Form)) {R : Type} (K : ((Bool)) → Option R) : Option R := cnd ((↑(List.length a0) : Int) != (↑(List.length a1) : Int)) (K false) (EqualFunc_L0_K F a1 a0 (↑(List.length a0) : Int) 0 fun o29 => sumK o29 (fun o30 => K false) (fun o31 => K true))
noncomputable def rIsNil_c (F : Tb) (a0 : Form) {R : Type} (K : ((Bool)) → Option R) : Option R := opK (F.rIs (Form.mk a0.kind a0.text a0.home a0.kids) [67, 79, 77, 77, 79, 78, 45, 76, 73, 83, 80] [78, 73, 76]) fun y32 => K y32
noncomputable def rIs_c (F : Tb) (a0 : Form) (a1 : Bs) (a2 : Bs) {R : Type} (K : ((Bool)) → Option R) : Option R := cnd (a0.kind == 1) (cnd (a0.home == a1) (K (a0.text == a2)) (K false)) (K false)
noncomputable def Check_c (F : Tb) (a0 : Form) {R : Type} (K : ((Int)) → Option R) : Option R := opK (F.limited (Form.mk a0.kind a0.text a0.home a0.kids)) fun y33 => cnd (!y33) (K 4) (through_K F (Form.mk a0.kind a0.text a0.home a0.kids) 0 fun o46 => sumK o46 (fun o47 => K 2) (fun o48 => through_v1_K F (Form.mk a0.kind a0.text a0.home a0.kids) 0 ([] : List (Bs × Bool)) fun o67 => sumK o67 (fun o68 => K o68.fst) (fun o69 => K 0)))
noncomputable def limited_c (F : Tb) (a0 : Form) {R : Type} (K : ((Bool)) → Option R) : Option R := look_K F (Form.mk a0.kind a0.text a0.home a0.kids) 1 2000 fun o77 => K o77.fst
noncomputable def right_c (F : Tb) (a0 : Form) {R : Type} (K : ((Bool)) → Option R) : Option R := right_L0_K F a0.text a0.home a0.kind a0.kids 0 fun o79 => sumK o79 (fun o80 => K false) (fun o81 => cnd (!(a0.home == ([] : List UInt8))) (cnd (a0.kind != 1) (K false) (cnd (a0.kind == 1) (K ((↑(List.length a0.kids) : Int) == 0)) (cnd (a0.kind == 8) (K ((↑(List.length a0.kids) : Int) == 0)) (cnd (a0.kind == 2) (cnd ((↑(List.length a0.kids) : Int) == 0) (opK (F.integer a0.text) fun y82 => K y82) (K false)) (cnd (a0.kind == 3) (cnd ((↑(List.length a0.kids) : Int) == 0) (opK (F.ratio a0.text) fun y83 => K y83) (K false)) (cnd (a0.kind == 4) (cnd ((↑(List.length a0.kids) : Int) == 0) (opK (F.hexadecimal a0.text 8) fun y84 => K y84) (K false)) (cnd (a0.kind == 5) (cnd ((↑(List.length a0.kids) : Int) == 0) (opK (F.hexadecimal a0.text 16) fun y85 => K y85) (K false)) (cnd (a0.kind == 6) (cnd (a0.text == ([] : List UInt8)) (opK (F.complex a0.kids) fun y86 => K y86) (K false)) (cnd (a0.kind == 7) (cnd ((↑(List.length a0.kids) : Int) == 0) (cnd (decide ((List.length a0.text) < 9223372036854775807)) (K ((runesN a0.text) == 1)) (none)) (K false)) (cnd (a0.kind == 9) (cnd ((↑(List.length a0.kids) : Int) == 0) (cnd ((decide ((List.length a0.text) ≤ 9223372036854775807)) && true) (K ((Lib.trimS a0.text [48, 49]) == ([] : List UInt8))) (none)) (K false)) (cnd (a0.kind == 10) (cnd (a0.text == ([] : List UInt8)) (cnd (decide ((↑(List.length a0.kids) : Int) ≥ 2)) (cnd (ok64 ((↑(List.length a0.kids) : Int) - 1)) (opK (idx a0.kids ((↑(List.length a0.kids) : Int) - 1)) fun x87 => K (x87.kind != 10)) (none)) (K false)) (K false)) (cnd (a0.kind == 11) (K (a0.text == ([] : List UInt8))) (cnd (a0.kind == 12) (opK (F.dimensions a0.text) fun y88 => cnd y88.snd (opK (F.product y88.fst) fun y89 => K (y89 == (↑(List.length a0.kids) : Int))) (K false)) (cnd (a0.kind == 13) (cnd ((↑(List.length a0.kids) : Int) == 1) (opK (F.small a0.text 999) fun y90 => K y90) (K false)) (cnd (a0.kind == 14) (cnd ((↑(List.length a0.kids) : Int) == 0) (opK (F.small a0.text 999) fun y91 => K y91) (K false)) (K false)))))))))))))))) (cnd (a0.kind == 1) (K ((↑(List.length a0.kids) : Int) == 0)) (cnd (a0.kind == 8) (K ((↑(List.length a0.kids) : Int) == 0)) (cnd (a0.kind == 2) (cnd ((↑(List.length a0.kids) : Int) == 0) (opK (F.integer a0.text) fun y92 => K y92) (K false)) (cnd (a0.kind == 3) (cnd ((↑(List.length a0.kids) : Int) == 0) (opK (F.ratio a0.text) fun y93 => K y93) (K false)) (cnd (a0.kind == 4) (cnd ((↑(List.length a0.kids) : Int) == 0) (opK (F.hexadecimal a0.text 8) fun y94 => K y94) (K false)) (cnd (a0.kind == 5) (cnd ((↑(List.length a0.kids) : Int) == 0) (opK (F.hexadecimal a0.text 16) fun y95 => K y95) (K false)) (cnd (a0.kind == 6) (cnd (a0.text == ([] : List UInt8)) (opK (F.complex a0.kids) fun y96 => K y96) (K false)) (cnd (a0.kind == 7) (cnd ((↑(List.length a0.kids) : Int) == 0) (cnd (decide ((List.length a0.text) < 9223372036854775807)) (K ((runesN a0.text) == 1)) (none)) (K false)) (cnd (a0.kind == 9) (cnd ((↑(List.length a0.kids) : Int) == 0) (cnd ((decide ((List.length a0.text) ≤ 9223372036854775807)) && true) (K ((Lib.trimS a0.text [48, 49]) == ([] : List UInt8))) (none)) (K false)) (cnd (a0.kind == 10) (cnd (a0.text == ([] : List UInt8)) (cnd (decide ((↑(List.length a0.kids) : Int) ≥ 2)) (cnd (ok64 ((↑(List.length a0.kids) : Int) - 1)) (opK (idx a0.kids ((↑(List.length a0.kids) : Int) - 1)) fun x97 => K (x97.kind != 10)) (none)) (K false)) (K false)) (cnd (a0.kind == 11) (K (a0.text == ([] : List UInt8))) (cnd (a0.kind == 12) (opK (F.dimensions a0.text) fun y98 => cnd y98.snd (opK (F.product y98.fst) fun y99 => K (y99 == (↑(List.length a0.kids) : Int))) (K false)) (cnd (a0.kind == 13) (cnd ((↑(List.length a0.kids) : Int) == 1) (opK (F.small a0.text 999) fun y100 => K y100) (K false)) (cnd (a0.kind == 14) (cnd ((↑(List.length a0.kids) : Int) == 0) (opK (F.small a0.text 999) fun y101 => K y101) (K false)) (K false))))))))))))))))
noncomputable def dimensions_c (F : Tb) (a0 : Bs) {R : Type} (K : (((List Int)) × (Bool)) → Option R) : Option R := cnd (a0 == ([] : List UInt8)) (K (([] : List Int), true)) (f221_L0_K F (a0, ([] : List Int)) fun o105 => sumK o105 (fun o106 => opK (F.small o106.fst 2000) fun y107 => cnd (!y107) (K (([] : List Int), false)) (cnd (decide ((List.length o106.fst) ≤ 281474976710656)) (cnd (atoiOk o106.fst) (cnd (decide ((((List.length o106.snd) + 1) * 8) ≤ 140737488355328)) (cnd ((↑(List.length (o106.snd ++ [(atoiVal o106.fst)])) : Int) != 1) (K ((o106.snd ++ [(atoiVal o106.fst)]), (decide ((↑(List.length (o106.snd ++ [(atoiVal o106.fst)])) : Int) ≤ 7)))) (K ((o106.snd ++ [(atoiVal o106.fst)]), false))) (none)) (cnd (decide ((((List.length o106.snd) + 1) * 8) ≤ 140737488355328)) (cnd ((↑(List.length (o106.snd ++ [(atoiVal o106.fst)])) : Int) != 1) (K ((o106.snd ++ [(atoiVal o106.fst)]), (decide ((↑(List.length (o106.snd ++ [(atoiVal o106.fst)])) : Int) ≤ 7)))) (K ((o106.snd ++ [(atoiVal o106.fst)]), false))) (none))) (none))) (fun o108 => K (([] : List Int), false)))
noncomputable def integer_c (F : Tb) (a0 : Bs) {R : Type} (K : ((Bool)) → Option R) : Option R := opK (F.decimal (Lib.trimPrefix a0 [45])) fun y109 => cnd y109 (cnd (Lib.hasPrefix a0 [45]) (K (!((Lib.trimPrefix a0 [45]) == [48]))) (K true)) (K false)
noncomputable def decimal_c (F : Tb) (a0 : Bs) {R : Type} (K : ((Bool)) → Option R) : Option R := cnd (a0 == ([] : List UInt8)) (K false) (cnd (decide ((↑(List.length a0) : Int) > 1)) (opK (idx a0 0) fun x110 => cnd ((↑(UInt8.toNat x110) : Int) == 48) (K false) (cnd (decide ((List.length a0) ≤ 140737488355328)) (decimal_L0_K F a0 (↑(List.length a0) : Int) 0 fun o113 => sumK o113 (fun o114 => K false) (fun o115 => K true)) (none))) (cnd (decide ((List.length a0) ≤ 140737488355328)) (decimal_L0_K F a0 (↑(List.length a0) : Int) 0 fun o116 => sumK o116 (fun o117 => K false) (fun o118 => K true)) (none)))
noncomputable def ratio_c (F : Tb) (a0 : Bs) {R : Type} (K : ((Bool)) → Option R) : Option R := cnd (decide ((List.length a0) < 4294967281)) (cnd (!(Lib.cut a0 [47]).snd.snd) (K false) (opK (F.integer (Lib.cut a0 [47]).fst) fun y119 => cnd (!y119) (K false) (cnd ((Lib.cut a0 [47]).fst == [48]) (K false) (opK (F.decimal (Lib.cut a0 [47]).snd.fst) fun y120 => cnd (!y120) (K false) (cnd ((Lib.cut a0 [47]).snd.fst == [48]) (K false) (cnd ((Lib.cut a0 [47]).snd.fst == [49]) (K false) (cnd (decide ((↑(List.length (Lib.trimPrefix (Lib.cut a0 [47]).fst [45])) : Int) > 18)) (K true) (cnd (decide ((↑(List.length (Lib.cut a0 [47]).snd.fst) : Int) > 18)) (K true) (cnd (decide ((List.length (Lib.trimPrefix (Lib.cut a0 [47]).fst [45])) ≤ 281474976710656)) (cnd (atoiOk (Lib.trimPrefix (Lib.cut a0 [47]).fst [45])) (cnd (decide ((List.length (Lib.cut a0 [47]).snd.fst) ≤ 281474976710656)) (cnd (atoiOk (Lib.cut a0 [47]).snd.fst) (ratio_L0_K F ((atoiVal (Lib.trimPrefix (Lib.cut a0 [47]).fst [45])), (atoiVal (Lib.cut a0 [47]).snd.fst)) fun o121 => K (o121.fst == 1)) (ratio_L0_K F ((atoiVal (Lib.trimPrefix (Lib.cut a0 [47]).fst [45])), (atoiVal (Lib.cut a0 [47]).snd.fst)) fun o122 => K (o122.fst == 1))) (none)) (cnd (decide ((List.length (Lib.cut a0 [47]).snd.fst) ≤ 281474976710656)) (cnd (atoiOk (Lib.cut a0 [47]).snd.fst) (ratio_L0_K F ((atoiVal (Lib.trimPrefix (Lib.cut a0 [47]).fst [45])), (atoiVal (Lib.cut a0 [47]).snd.fst)) fun o123 => K (o123.fst == 1)) (ratio_L0_K F ((atoiVal (Lib.trimPrefix (Lib.cut a0 [47]).fst [45])), (atoiVal (Lib.cut a0 [47]).snd.fst)) fun o124 => K (o124.fst == 1))) (none))) (none)))))))))) (none)
noncomputable def hexadecimal_c (F : Tb) (a0 : Bs) (a1 : Int) {R : Type} (K : ((Bool)) → Option R) : Option R := cnd ((↑(List.length a0) : Int) == a1) (cnd ((decide ((List.length a0) ≤ 9223372036854775807)) && true) (K ((Lib.trimS a0 [48, 49, 50, 51, 52, 53, 54, 55, 56, 57, 97, 98, 99, 100, 101, 102]) == ([] : List UInt8))) (none)) (K false)
noncomputable def complex_c (F : Tb) (a0 : (List Form)) {R : Type} (K : ((Bool)) → Option R) : Option R := cnd ((↑(List.length a0) : Int) != 2) (K false) (opK (idx a0 0) fun x125 => opK (idx a0 1) fun x126 => opK (F.exact (Form.mk x125.kind x125.text x125.home x125.kids)) fun y127 => cnd y127 (opK (F.exact (Form.mk x126.kind x126.text x126.home x126.kids)) fun y128 => cnd y128 (cnd (x126.kind == 2) (K (!(x126.text == [48]))) (K true)) (cnd (x125.kind == x126.kind) (cnd (x125.kind == 4) (K true) (K (x125.kind == 5))) (K false))) (cnd (x125.kind == x126.kind) (cnd (x125.kind == 4) (K true) (K (x125.kind == 5))) (K false)))
noncomputable def product_c (F : Tb) (a0 : (List Int)) {R : Type} (K : ((Int)) → Option R) : Option R := opK (F.IndexInt a0 0) fun y129 => cnd (decide (y129 ≥ 0)) (K 0) (product_L0_K F a0 (↑(List.length a0) : Int) (1, 0) fun o132 => K o132.fst)
noncomputable def small_c (F : Tb) (a0 : Bs) (a1 : Int) {R : Type} (K : ((Bool)) → Option R) : Option R := cnd (decide ((List.length a0) ≤ 281474976710656)) (cnd (atoiOk a0) (opK (F.decimal a0) fun y133 => cnd y133 (K (decide ((atoiVal a0) ≤ a1))) (K false)) (opK (F.decimal a0) fun y134 => cnd y134 (K false) (K false))) (none)
noncomputable def exact_c (F : Tb) (a0 : Form) {R : Type} (K : ((Bool)) → Option R) : Option R := cnd (a0.kind == 2) (K true) (K (a0.kind == 3))
noncomputable def Dimensions_c (F : Tb) (a0 : Form) {R : Type} (K : (((List Int)) × (Int)) → Option R) : Option R := opK (F.IndexInt [12, 11, 8, 9] a0.kind) fun y135 => cnd (!(decide (y135 ≥ 0))) (K (([] : List Int), 1)) (opK (F.Check (Form.mk a0.kind a0.text a0.home a0.kids)) fun y136 => cnd (y136 != 0) (K (([] : List Int), y136)) (cnd (a0.kind == 12) (opK (F.dimensions a0.text) fun y137 => K (y137.fst, 0)) (cnd (a0.kind == 11) (K ([(↑(List.length a0.kids) : Int)], 0)) (cnd (a0.kind == 8) (cnd (decide ((List.length a0.text) < 9223372036854775807)) (K ([(runesN a0.text)], 0)) (none)) (K ([(↑(List.length a0.text) : Int)], 0))))))
noncomputable def Number_c (F : Tb) (a0 : Form) {R : Type} (K : ((Bool)) → Option R) : Option R := cnd (decide (a0.kind ≥ 2)) (K (decide (a0.kind ≤ 6))) (K false)
noncomputable def IndexInt_c (F : Tb) (a0 : (List Int)) (a1 : Int) {R : Type} (K : ((Int)) → Option R) : Option R := IndexInt_L0_K F a0 a1 (↑(List.length a0) : Int) 0 fun o140 => sumK o140 (fun o141 => K o141.fst) (fun o142 => K (-1))
noncomputable def rCheck_c (F : Tb) (a0 : Form) {R : Type} (K : ((Int)) → Option R) : Option R := opK (F.rSize (Form.mk a0.kind a0.text a0.home a0.kids)) fun y143 => cnd (decide (y143.fst > 2000)) (K 4) (cnd (decide (y143.snd > 100)) (K 4) (opK (F.nodes (Form.mk a0.kind a0.text a0.home a0.kids)) fun y144 => cnd (!y144) (K 2) (labels_K F (Form.mk a0.kind a0.text a0.home a0.kids) ([] : List Bs) fun o179 => K o179.fst)))
noncomputable def rDimensions_c (F : Tb) (a0 : Form) {R : Type} (K : (((List Int)) × (Int)) → Option R) : Option R := cnd (a0.kind != 12) (cnd (a0.kind != 11) (cnd (a0.kind != 8) (cnd (a0.kind != 9) (K (([] : List Int), 1)) (opK (F.rCheck (Form.mk a0.kind a0.text a0.home a0.kids)) fun y180 => cnd (y180 != 0) (K (([] : List Int), y180)) (cnd (a0.kind == 12) (opK (F.rdimensions a0.text) fun y181 => K (y181.fst, 0)) (cnd (a0.kind == 11) (K ([(↑(List.length a0.kids) : Int)], 0)) (cnd (a0.kind == 8) (cnd (decide ((List.length a0.text) < 9223372036854775807)) (K ([(runesN a0.text)], 0)) (none)) (cnd (a0.kind == 9) (K ([(↑(List.length a0.text) : Int)], 0)) (K (([] : List Int), 1)))))))) (opK (F.rCheck (Form.mk a0.kind a0.text a0.home a0.kids)) fun y182 => cnd (y182 != 0) (K (([] : List Int), y182)) (cnd (a0.kind == 12) (opK (F.rdimensions a0.text) fun y183 => K (y183.fst, 0)) (cnd (a0.kind == 11) (K ([(↑(List.length a0.kids) : Int)], 0)) (cnd (a0.kind == 8) (cnd (decide ((List.length a0.text) < 9223372036854775807)) (K ([(runesN a0.text)], 0)) (none)) (cnd (a0.kind == 9) (K ([(↑(List.length a0.text) : Int)], 0)) (K (([] : List Int), 1)))))))) (opK (F.rCheck (Form.mk a0.kind a0.text a0.home a0.kids)) fun y184 => cnd (y184 != 0) (K (([] : List Int), y184)) (cnd (a0.kind == 12) (opK (F.rdimensions a0.text) fun y185 => K (y185.fst, 0)) (cnd (a0.kind == 11) (K ([(↑(List.length a0.kids) : Int)], 0)) (cnd (a0.kind == 8) (cnd (decide ((List.length a0.text) < 9223372036854775807)) (K ([(runesN a0.text)], 0)) (none)) (cnd (a0.kind == 9) (K ([(↑(List.length a0.text) : Int)], 0)) (K (([] : List Int), 1)))))))) (opK (F.rCheck (Form.mk a0.kind a0.text a0.home a0.kids)) fun y186 => cnd (y186 != 0) (K (([] : List Int), y186)) (cnd (a0.kind == 12) (opK (F.rdimensions a0.text) fun y187 => K (y187.fst, 0)) (cnd (a0.kind == 11) (K ([(↑(List.length a0.kids) : Int)], 0)) (cnd (a0.kind == 8) (cnd (decide ((List.length a0.text) < 9223372036854775807)) (K ([(runesN a0.text)], 0)) (none)) (cnd (a0.kind == 9) (K ([(↑(List.length a0.text) : Int)], 0)) (K (([] : List Int), 1)))))))
noncomputable def rdimensions_c (F : Tb) (a0 : Bs) {R : Type} (K : (((List Int)) × (Bool)) → Option R) : Option R := cnd (a0 == ([] : List UInt8)) (K (([] : List Int), true)) (rdimensions_L0_K F a0 (0, 0, ([] : List Int)) fun o209 => sumK o209 (fun o210 => K (([] : List Int), false)) (fun o211 => cnd (decide ((↑(List.length o211.snd.snd) : Int) > 1)) (K (o211.snd.snd, (decide ((↑(List.length o211.snd.snd) : Int) ≤ 7)))) (K (o211.snd.snd, false))))
noncomputable def nodes_c (F : Tb) (a0 : Form) {R : Type} (K : ((Bool)) → Option R) : Option R := opK (F.node (Form.mk a0.kind a0.text a0.home a0.kids)) fun y212 => cnd (!y212) (K false) (nodes_L0_K F a0.kind a0.text a0.home a0.kids 0 fun o217 => sumK o217 (fun o218 => K false) (fun o219 => K true))
noncomputable def node_c (F : Tb) (a0 : Form) {R : Type} (K : ((Bool)) → Option R) : Option R := cnd (decide ((List.length a0.text) ≤ 9223372036854775807)) (cnd (!(Lib.validD a0.text)) (K false) (cnd (decide ((List.length a0.home) ≤ 9223372036854775807)) (cnd (!(Lib.validD a0.home)) (K false) (cnd (a0.kind == 1) (K ((↑(List.length a0.kids) : Int) == 0)) (cnd (a0.kind == 6) (cnd (a0.text == ([] : List UInt8)) (cnd (a0.home == ([] : List UInt8)) (cnd ((↑(List.length a0.kids) : Int) == 2) (opK (idx a0.kids 0) fun x220 => opK (idx a0.kids 1) fun x221 => opK (F.parts (Form.mk x220.kind x220.text x220.home x220.kids) (Form.mk x221.kind x221.text x221.home x221.kids)) fun y222 => K y222) (K false)) (K false)) (K false)) (cnd (a0.kind == 10) (cnd (a0.text == ([] : List UInt8)) (cnd (a0.home == ([] : List UInt8)) (cnd (decide ((↑(List.length a0.kids) : Int) ≥ 2)) (cnd (ok64 ((↑(List.length a0.kids) : Int) - 1)) (opK (idx a0.kids ((↑(List.length a0.kids) : Int) - 1)) fun x223 => K (x223.kind != 10)) (none)) (K false)) (K false)) (K false)) (cnd (a0.kind == 11) (cnd (a0.text == ([] : List UInt8)) (K (a0.home == ([] : List UInt8))) (K false)) (cnd (a0.kind == 12) (opK (F.rdimensions a0.text) fun y224 => cnd y224.snd (cnd (a0.home == ([] : List UInt8)) (opK (F.rproduct y224.fst) fun y225 => K ((↑(List.length a0.kids) : Int) == y225)) (K false)) (K false)) (cnd (a0.kind == 13) (cnd (a0.home == ([] : List UInt8)) (opK (F.label a0.text) fun y226 => cnd y226 (K ((↑(List.length a0.kids) : Int) == 1)) (K false)) (K false)) (opK (F.atom (Form.mk a0.kind a0.text a0.home a0.kids)) fun y227 => K y227)))))))) (none))) (none)
noncomputable def within_c (F : Tb) (a0 : (List Bs)) (a1 : Bs) {R : Type} (K : ((Bool)) → Option R) : Option R := within_L0_K F a0 a1 0 fun o230 => sumK o230 (fun o231 => K true) (fun o232 => K false)
noncomputable def digits_c (F : Tb) (a0 : Bs) {R : Type} (K : ((Bool)) → Option R) : Option R := digits_L0_K F a0 0 fun o237 => sumK o237 (fun o238 => K false) (fun o239 => cnd (a0 == [48]) (K true) (cnd (!(a0 == ([] : List UInt8))) (opK (idx a0 0) fun x240 => K ((↑(UInt8.toNat x240) : Int) != 48)) (K false)))
noncomputable def value_c (F : Tb) (a0 : Bs) {R : Type} (K : ((Int)) → Option R) : Option R := value_L0_K F a0 (0, 0) fun o243 => K o243.fst
noncomputable def parts_c (F : Tb) (a0 : Form) (a1 : Form) {R : Type} (K : ((Bool)) → Option R) : Option R := opK (F.rexact (Form.mk a0.kind a0.text a0.home a0.kids)) fun y244 => cnd y244 (opK (F.rexact (Form.mk a1.kind a1.text a1.home a1.kids)) fun y245 => cnd y245 (K (!(a1.text == [48]))) (cnd (a0.kind == a1.kind) (cnd (a0.kind == 4) (K true) (K (a0.kind == 5))) (K false))) (cnd (a0.kind == a1.kind) (cnd (a0.kind == 4) (K true) (K (a0.kind == 5))) (K false))
noncomputable def rproduct_c (F : Tb) (a0 : (List Int)) {R : Type} (K : ((Int)) → Option R) : Option R := rproduct_L0_K F a0 0 fun o248 => sumK o248 (fun o249 => K 0) (fun o250 => rproduct_L1_K F a0 (1, 0) fun o253 => K o253.fst)
noncomputable def label_c (F : Tb) (a0 : Bs) {R : Type} (K : ((Bool)) → Option R) : Option R := cnd (decide ((↑(List.length a0) : Int) ≤ 3)) (opK (F.digits a0) fun y254 => K y254) (K false)
noncomputable def atom_c (F : Tb) (a0 : Form) {R : Type} (K : ((Bool)) → Option R) : Option R := cnd (decide ((↑(List.length a0.kids) : Int) > 0)) (K false) (cnd (!(a0.home == ([] : List UInt8))) (K false) (cnd (a0.kind == 2) (opK (F.whole a0.text) fun y255 => K y255) (cnd (a0.kind == 3) (opK (F.rratio a0.text) fun y256 => K y256) (cnd (a0.kind == 4) (opK (F.hex a0.text 8) fun y257 => K y257) (cnd (a0.kind == 5) (opK (F.hex a0.text 16) fun y258 => K y258) (cnd (a0.kind == 7) (cnd (decide ((List.length a0.text) < 9223372036854775807)) (K ((runesN a0.text) == 1)) (none)) (cnd (a0.kind == 9) (atom_L0_K F a0.kind a0.text a0.home a0.kids 0 fun o263 => sumK o263 (fun o264 => K false) (fun o265 => K true)) (cnd (a0.kind == 14) (opK (F.label a0.text) fun y266 => K y266) (K (a0.kind == 8))))))))))
noncomputable def rexact_c (F : Tb) (a0 : Form) {R : Type} (K : ((Bool)) → Option R) : Option R := cnd (a0.kind == 2) (K true) (K (a0.kind == 3))
noncomputable def whole_c (F : Tb) (a0 : Bs) {R : Type} (K : ((Bool)) → Option R) : Option R := cnd (!(a0 == ([] : List UInt8))) (opK (idx a0 0) fun x267 => cnd ((↑(UInt8.toNat x267) : Int) == 45) (cnd (!(a0 == [45, 48])) (cnd (decide ((1 ≤ (List.length a0)) ∧ ((List.length a0) ≤ (List.length a0)))) (opK (F.digits (List.take ((List.length a0) - 1) (List.drop 1 a0))) fun y268 => K y268) (none)) (K false)) (opK (F.digits a0) fun y269 => K y269)) (opK (F.digits a0) fun y270 => K y270)
noncomputable def rratio_c (F : Tb) (a0 : Bs) {R : Type} (K : ((Bool)) → Option R) : Option R := rratio_L0_K F a0 ((-1), 0) fun o273 => cnd (decide (o273.fst < 0)) (K false) (cnd (decide (0 ≤ o273.fst)) (cnd (decide ((0 ≤ (Int.toNat o273.fst)) ∧ ((Int.toNat o273.fst) ≤ (List.length a0)))) (cnd (ok64 (o273.fst + 1)) (cnd (decide (0 ≤ (o273.fst + 1))) (cnd (decide (((Int.toNat (o273.fst + 1)) ≤ (List.length a0)) ∧ ((List.length a0) ≤ (List.length a0)))) (opK (F.whole (List.take ((Int.toNat o273.fst) - 0) a0)) fun y274 => cnd (!y274) (K false) (cnd ((List.take ((Int.toNat o273.fst) - 0) a0) == [48]) (K false) (opK (F.digits (List.take ((List.length a0) - (Int.toNat (o273.fst + 1))) (List.drop (Int.toNat (o273.fst + 1)) a0))) fun y275 => cnd (!y275) (K false) (cnd ((List.take ((List.length a0) - (Int.toNat (o273.fst + 1))) (List.drop (Int.toNat (o273.fst + 1)) a0)) == [48]) (K false) (cnd ((List.take ((List.length a0) - (Int.toNat (o273.fst + 1))) (List.drop (Int.toNat (o273.fst + 1)) a0)) == [49]) (K false) (opK (idx (List.take ((Int.toNat o273.fst) - 0) a0) 0) fun x276 => cnd ((↑(UInt8.toNat x276) : Int) == 45) (cnd (decide ((1 ≤ (List.length (List.take ((Int.toNat o273.fst) - 0) a0))) ∧ ((List.length (List.take ((Int.toNat o273.fst) - 0) a0)) ≤ (List.length (List.take ((Int.toNat o273.fst) - 0) a0))))) (cnd (decide ((↑(List.length (List.take ((List.length (List.take ((Int.toNat o273.fst) - 0) a0)) - 1) (List.drop 1 (List.take ((Int.toNat o273.fst) - 0) a0)))) : Int) > 18)) (K true) (cnd (decide ((↑(List.length (List.take ((List.length a0) - (Int.toNat (o273.fst + 1))) (List.drop (Int.toNat (o273.fst + 1)) a0))) : Int) > 18)) (K true) (opK (F.value (List.take ((List.length (List.take ((Int.toNat o273.fst) - 0) a0)) - 1) (List.drop 1 (List.take ((Int.toNat o273.fst) - 0) a0)))) fun y277 => opK (F.value (List.take ((List.length a0) - (Int.toNat (o273.fst + 1))) (List.drop (Int.toNat (o273.fst + 1)) a0))) fun y278 => rratio_L1_K F (y277, y278) fun o279 => K (o279.fst == 1)))) (none)) (cnd (decide ((↑(List.length (List.take ((Int.toNat o273.fst) - 0) a0)) : Int) > 18)) (K true) (cnd (decide ((↑(List.length (List.take ((List.length a0) - (Int.toNat (o273.fst + 1))) (List.drop (Int.toNat (o273.fst + 1)) a0))) : Int) > 18)) (K true) (opK (F.value (List.take ((Int.toNat o273.fst) - 0) a0)) fun y280 => opK (F.value (List.take ((List.length a0) - (Int.toNat (o273.fst + 1))) (List.drop (Int.toNat (o273.fst + 1)) a0))) fun y281 => rratio_L1_K F (y280, y281) fun o282 => K (o282.fst == 1)))))))))) (none)) (none)) (none)) (none)) (none))
noncomputable def hex_c (F : Tb) (a0 : Bs) (a1 : Int) {R : Type} (K : ((Bool)) → Option R) : Option R := hex_L0_K F a0 a1 0 fun o295 => sumK o295 (fun o296 => K false) (fun o297 => K ((↑(List.length a0) : Int) == a1))
noncomputable def rNumber_c (F : Tb) (a0 : Form) {R : Type} (K : ((Bool)) → Option R) : Option R := cnd (decide (a0.kind ≥ 2)) (K (decide (a0.kind ≤ 6))) (K false)
noncomputable def FormChecks_c (F : Tb) (a0 : Form) (a1 : Form) (a2 : Bs) (a3 : Bs) {R : Type} (K : ((Bool)) → Option R) : Option R := opK (F.Few (Form.mk a0.kind a0.text a0.home a0.kids) 2400) fun y298 => cnd (!y298) (opK (F.awakeTrees) fun y299 => K y299) (opK (F.Few (Form.mk a1.kind a1.text a1.home a1.kids) 2400) fun y300 => cnd (!y300) (opK (F.awakeTrees) fun y301 => K y301) (opK (F.Size (Form.mk a0.kind a0.text a0.home a0.kids)) fun y302 => opK (F.rSize (Form.mk a0.kind a0.text a0.home a0.kids)) fun y303 => opK (F.Dimensions (Form.mk a0.kind a0.text a0.home a0.kids)) fun y304 => opK (F.rDimensions (Form.mk a0.kind a0.text a0.home a0.kids)) fun y305 => opK (F.Check (Form.mk a0.kind a0.text a0.home a0.kids)) fun y306 => opK (F.rCheck (Form.mk a0.kind a0.text a0.home a0.kids)) fun y307 => cnd (y306 != y307) (K false) (cnd (y302.fst != y303.fst) (K false) (cnd (y302.snd != y303.snd) (K false) (cnd (y304.snd != y305.snd) (K false) (cnd ((↑(List.length y304.fst) : Int) != (↑(List.length y305.fst) : Int)) (K false) (FormChecks_L0_K F a2 a3 y304.fst y305.fst (↑(List.length y304.fst) : Int) a0.kind a0.text a0.home a0.kids a1.kind a1.text a1.home a1.kids 0 fun o312 => sumK o312 (fun o313 => K false) (fun o314 => opK (F.IsNil (Form.mk a0.kind a0.text a0.home a0.kids)) fun y315 => opK (F.rIsNil (Form.mk a0.kind a0.text a0.home a0.kids)) fun y316 => cnd (y315 == y316) (opK (F.Is (Form.mk a0.kind a0.text a0.home a0.kids) a2 a3) fun y317 => opK (F.rIs (Form.mk a0.kind a0.text a0.home a0.kids) a2 a3) fun y318 => cnd (y317 == y318) (opK (F.Number (Form.mk a0.kind a0.text a0.home a0.kids)) fun y319 => opK (F.rNumber (Form.mk a0.kind a0.text a0.home a0.kids)) fun y320 => cnd (y319 == y320) (opK (F.Equal (Form.mk a0.kind a0.text a0.home a0.kids) (Form.mk a1.kind a1.text a1.home a1.kids)) fun y321 => opK (F.rEqual (Form.mk a0.kind a0.text a0.home a0.kids) (Form.mk a1.kind a1.text a1.home a1.kids)) fun y322 => cnd (y321 == y322) (opK (F.awakeTrees) fun y323 => K y323) (K false)) (K false)) (K false)) (K false)))))))))
noncomputable def rSize_c (F : Tb) (a0 : Form) {R : Type} (K : ((Int) × (Int)) → Option R) : Option R := rSize_L0_K F a0.kind a0.text a0.home a0.kids (1, 0, 0) fun o328 => cnd (ok64 (o328.snd.fst + 1)) (K (o328.fst, (o328.snd.fst + 1))) (none)
noncomputable def stepT (F : Tb) (n : Nat) : Tb where
 through := fun p0 p1 => through_c F p0 p1 some
 through_v1 := fun p0 p1 p2 => through_v1_c F p0 p1 p2 some
 look := fun p0 p1 p2 => look_c F p0 p1 p2 some
 labels := fun p0 p1 => labels_c F p0 p1 some
 Size := fun a0 => Size_c F a0 some
 rEqual := fun a0 a1 => rEqual_c F a0 a1 some
 left := fun a0 a1 => left_c F a0 a1 some
 Few := fun a0 a1 => Few_c F a0 a1 some
 IsNil := fun a0 => IsNil_c F a0 some
 Is := fun a0 a1 a2 => Is_c F a0 a1 a2 some
 Equal := fun a0 a1 => Equal_c F a0 a1 some
 EqualFunc_f22 := fun a0 a1 => EqualFunc_f22_c F a0 a1 some
 rIsNil := fun a0 => rIsNil_c F a0 some
 rIs := fun a0 a1 a2 => rIs_c F a0 a1 a2 some
 awakeTrees := some true
 Check := fun a0 => Check_c F a0 some
 limited := fun a0 => limited_c F a0 some
 right := fun a0 => right_c F a0 some
 dimensions := fun a0 => dimensions_c F a0 some
 integer := fun a0 => integer_c F a0 some
 decimal := fun a0 => decimal_c F a0 some
 ratio := fun a0 => ratio_c F a0 some
 hexadecimal := fun a0 a1 => hexadecimal_c F a0 a1 some
 complex := fun a0 => complex_c F a0 some
 product := fun a0 => product_c F a0 some
 small := fun a0 a1 => small_c F a0 a1 some
 exact := fun a0 => exact_c F a0 some
 Dimensions := fun a0 => Dimensions_c F a0 some
 Number := fun a0 => Number_c F a0 some
 IndexInt := fun a0 a1 => IndexInt_c F a0 a1 some
 rCheck := fun a0 => rCheck_c F a0 some
 rDimensions := fun a0 => rDimensions_c F a0 some
 rdimensions := fun a0 => rdimensions_c F a0 some
 nodes := fun a0 => nodes_c F a0 some
 node := fun a0 => node_c F a0 some
 within := fun a0 a1 => within_c F a0 a1 some
 digits := fun a0 => digits_c F a0 some
 value := fun a0 => value_c F a0 some
 parts := fun a0 a1 => parts_c F a0 a1 some
 rproduct := fun a0 => rproduct_c F a0 some
 label := fun a0 => label_c F a0 some
 atom := fun a0 => atom_c F a0 some
 rexact := fun a0 => rexact_c F a0 some
 whole := fun a0 => whole_c F a0 some
 rratio := fun a0 => rratio_c F a0 some
 hex := fun a0 a1 => hex_c F a0 a1 some
 rNumber := fun a0 => rNumber_c F a0 some
 FormChecks := fun a0 a1 a2 a3 => FormChecks_c F a0 a1 a2 a3 some
 rSize := fun a0 => rSize_c F a0 some
 Size_L0 := fun p0 p1 p2 p3 p4 v => iterL (fun v K => Size_L0_R F p0 p1 p2 p3 p4 v K) n v
 rEqual_L0 := fun p0 p1 p2 p3 p4 p5 p6 p7 v => iterL (fun v K => rEqual_L0_R F p0 p1 p2 p3 p4 p5 p6 p7 v K) n v
 left_L0 := fun p0 p1 p2 p3 v => iterL (fun v K => left_L0_R F p0 p1 p2 p3 v K) n v
 EqualFunc_L0 := fun p0 p1 p2 v => iterL (fun v K => EqualFunc_L0_R F p0 p1 p2 v K) n v
 through_L0 := fun p0 p1 p2 p3 p4 p5 v => iterL (fun v K => through_L0_R F p0 p1 p2 p3 p4 p5 v K) n v
 through_L1 := fun p0 p1 p2 p3 p4 p5 v => iterL (fun v K => through_L1_R F p0 p1 p2 p3 p4 p5 v K) n v
 look_L0 := fun p0 p1 p2 p3 p4 p5 v => iterL (fun v K => look_L0_R F p0 p1 p2 p3 p4 p5 v K) n v
 right_L0 := fun p0 p1 p2 p3 v => iterL (fun v K => right_L0_R F p0 p1 p2 p3 v K) n v
 f221_L0 := fun v => iterL (fun v K => f221_L0_R F v K) n v
 decimal_L0 := fun p0 p1 v => iterL (fun v K => decimal_L0_R F p0 p1 v K) n v
 ratio_L0 := fun v => iterL (fun v K => ratio_L0_R F v K) n v
 product_L0 := fun p0 p1 v => iterL (fun v K => product_L0_R F p0 p1 v K) n v
 IndexInt_L0 := fun p0 p1 p2 v => iterL (fun v K => IndexInt_L0_R F p0 p1 p2 v K) n v
 labels_L0 := fun p0 p1 p2 p3 v => iterL (fun v K => labels_L0_R F p0 p1 p2 p3 v K) n v
 labels_P1 := fun p0 p1 p2 p3 p4 p5 p6 => labels_P1_R F p0 p1 p2 p3 p4 p5 p6 some
 rdimensions_L0 := fun p0 v => iterL (fun v K => rdimensions_L0_R F p0 v K) n v
 nodes_L0 := fun p0 p1 p2 p3 v => iterL (fun v K => nodes_L0_R F p0 p1 p2 p3 v K) n v
 within_L0 := fun p0 p1 v => iterL (fun v K => within_L0_R F p0 p1 v K) n v
 digits_L0 := fun p0 v => iterL (fun v K => digits_L0_R F p0 v K) n v
 value_L0 := fun p0 v => iterL (fun v K => value_L0_R F p0 v K) n v
 rproduct_L0 := fun p0 v => iterL (fun v K => rproduct_L0_R F p0 v K) n v
 rproduct_L1 := fun p0 v => iterL (fun v K => rproduct_L1_R F p0 v K) n v
 atom_L0 := fun p0 p1 p2 p3 v => iterL (fun v K => atom_L0_R F p0 p1 p2 p3 v K) n v
 rratio_L0 := fun p0 v => iterL (fun v K => rratio_L0_R F p0 v K) n v
 rratio_L1 := fun v => iterL (fun v K => rratio_L1_R F v K) n v
 hex_L0 := fun p0 p1 v => iterL (fun v K => hex_L0_R F p0 p1 v K) n v
 FormChecks_L0 := fun p0 p1 p2 p3 p4 p5 p6 p7 p8 p9 p10 p11 p12 v => iterL (fun v K => FormChecks_L0_R F p0 p1 p2 p3 p4 p5 p6 p7 p8 p9 p10 p11 p12 v K) n v
 rSize_L0 := fun p0 p1 p2 p3 v => iterL (fun v K => rSize_L0_R F p0 p1 p2 p3 v K) n v
noncomputable def noneT : Tb where
 through := fun _ _ => none
 through_v1 := fun _ _ _ => none
 look := fun _ _ _ => none
 labels := fun _ _ => none
 Size := fun _ => none
 rEqual := fun _ _ => none
 left := fun _ _ => none
 Few := fun _ _ => none
 IsNil := fun _ => none
 Is := fun _ _ _ => none
 Equal := fun _ _ => none
 EqualFunc_f22 := fun _ _ => none
 rIsNil := fun _ => none
 rIs := fun _ _ _ => none
 awakeTrees := none
 Check := fun _ => none
 limited := fun _ => none
 right := fun _ => none
 dimensions := fun _ => none
 integer := fun _ => none
 decimal := fun _ => none
 ratio := fun _ => none
 hexadecimal := fun _ _ => none
 complex := fun _ => none
 product := fun _ => none
 small := fun _ _ => none
 exact := fun _ => none
 Dimensions := fun _ => none
 Number := fun _ => none
 IndexInt := fun _ _ => none
 rCheck := fun _ => none
 rDimensions := fun _ => none
 rdimensions := fun _ => none
 nodes := fun _ => none
 node := fun _ => none
 within := fun _ _ => none
 digits := fun _ => none
 value := fun _ => none
 parts := fun _ _ => none
 rproduct := fun _ => none
 label := fun _ => none
 atom := fun _ => none
 rexact := fun _ => none
 whole := fun _ => none
 rratio := fun _ => none
 hex := fun _ _ => none
 rNumber := fun _ => none
 FormChecks := fun _ _ _ _ => none
 rSize := fun _ => none
 Size_L0 := fun _ _ _ _ _ _ => none
 rEqual_L0 := fun _ _ _ _ _ _ _ _ _ => none
 left_L0 := fun _ _ _ _ _ => none
 EqualFunc_L0 := fun _ _ _ _ => none
 through_L0 := fun _ _ _ _ _ _ _ => none
 through_L1 := fun _ _ _ _ _ _ _ => none
 look_L0 := fun _ _ _ _ _ _ _ => none
 right_L0 := fun _ _ _ _ _ => none
 f221_L0 := fun _ => none
 decimal_L0 := fun _ _ _ => none
 ratio_L0 := fun _ => none
 product_L0 := fun _ _ _ => none
 IndexInt_L0 := fun _ _ _ _ => none
 labels_L0 := fun _ _ _ _ _ => none
 labels_P1 := fun _ _ _ _ _ _ _ => none
 rdimensions_L0 := fun _ _ => none
 nodes_L0 := fun _ _ _ _ _ => none
 within_L0 := fun _ _ _ => none
 digits_L0 := fun _ _ => none
 value_L0 := fun _ _ => none
 rproduct_L0 := fun _ _ => none
 rproduct_L1 := fun _ _ => none
 atom_L0 := fun _ _ _ _ _ => none
 rratio_L0 := fun _ _ => none
 rratio_L1 := fun _ => none
 hex_L0 := fun _ _ _ => none
 FormChecks_L0 := fun _ _ _ _ _ _ _ _ _ _ _ _ _ _ => none
 rSize_L0 := fun _ _ _ _ _ => none
noncomputable def tb : Nat → Tb
 | 0 => noneT
 | n + 1 => stepT (tb n) n
end Go.Proofs.YtpdgbhjhodhkiaaGreatDoor.AI
