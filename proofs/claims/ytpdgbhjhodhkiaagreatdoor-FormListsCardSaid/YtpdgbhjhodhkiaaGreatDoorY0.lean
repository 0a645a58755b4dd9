/- The data of the forms, and how they lie in cells. -/
import Derived.Test.YtpdgbhjhodhkiaaGreatDoorW11
set_option linter.unusedSimpArgs false
set_option linter.unnecessarySimpa false
set_option linter.unusedVariables false
namespace Go.Proofs.YtpdgbhjhodhkiaaGreatDoor.AI
open Go

abbrev Bs := List UInt8
inductive Form where
  | mk (kind : Int) (text home : Bs) (kids : List Form)
  deriving Inhabited
def Form.kind : Form → Int | .mk k _ _ _ => k
def Form.text : Form → Bs | .mk _ t _ _ => t
def Form.home : Form → Bs | .mk _ _ h _ => h
def Form.kids : Form → List Form | .mk _ _ _ ks => ks
inductive Node where
  | mk (kind : Int) (text home : Bs) (kids : List Int)
  deriving Inhabited
def Node.kind : Node → Int | .mk k _ _ _ => k
def Node.text : Node → Bs | .mk _ t _ _ => t
def Node.home : Node → Bs | .mk _ _ h _ => h
def Node.kids : Node → List Int | .mk _ _ _ ks => ks
/-- 0: int, 1: byte, 2: string, 3: Form, 4: bool, 5: [2]string, 6: Node, 7: []Form, 8: [][]Form. -/
def T : Nat → Type
  | 0 => Int
  | 1 => UInt8
  | 2 => Bs
  | 3 => Form
  | 4 => Bool
  | 5 => Bs × Bs
  | 6 => Node
  | 7 => List Form
  | 8 => List (List Form)
  | _ => Unit
def defC : (k : Nat) → T k
  | 0 => (0 : Int)
  | 1 => (0 : UInt8)
  | 2 => ([] : Bs)
  | 3 => Form.mk 0 [] [] []
  | 4 => false
  | 5 => (([], []) : Bs × Bs)
  | 6 => Node.mk 0 [] [] []
  | 7 => ([] : List Form)
  | 8 => ([] : List (List Form))
  | _ + 9 => ()
instance instT (k : Nat) : Inhabited (T k) := ⟨defC k⟩
def outC : (k : Nat) → T k → List (W T)
  | 0, (n : Int) => [.int .i64 n]
  | 1, (b : UInt8) => [.int .u8 b.toNat]
  | 2, (s : Bs) => [.str s]
  | 3, (f : Form) => [.int .i64 f.kind, .str f.text, .str f.home, .row 3 f.kids false]
  | 4, (b : Bool) => [.bool b]
  | 5, (p : Bs × Bs) => [.str p.1, .str p.2]
  | 6, (f : Node) => [.int .i64 f.kind, .str f.text, .str f.home, .row 0 f.kids false]
  | 7, (l : List Form) => [.row 3 l false]
  | 8, (l : List (List Form)) => [.row 7 l false]
  | _ + 9, _ => [.tup []]
/-- A slice that nobody writes, as data. -/
def rowOf (k : Nat) : W T → Option (List (T k))
  | .row k' l _ => if h : k' = k then some (h ▸ l) else none
  | .nilsl => some []
  | _ => none
def in0 : List (W T) → Option Int
  | [.int .i64 n] => some n
  | _ => none
def in1 : List (W T) → Option UInt8
  | [.int .u8 n] => if n = (UInt8.ofNat n.toNat).toNat then some (UInt8.ofNat n.toNat) else none
  | _ => none
def in2 : List (W T) → Option Bs
  | [.str s] => some s
  | _ => none
def in3 : List (W T) → Option Form
  | [.int .i64 a, .str b, .str c, w] => (rowOf 3 w).map fun l => Form.mk a b c l
  | _ => none
def in4 : List (W T) → Option Bool
  | [.bool b] => some b
  | _ => none
def in5 : List (W T) → Option (Bs × Bs)
  | [.str a, .str b] => some (a, b)
  | _ => none
def in6 : List (W T) → Option Node
  | [.int .i64 a, .str b, .str c, w] => (rowOf 0 w).map fun l => Node.mk a b c l
  | _ => none
def in7 : List (W T) → Option (List Form)
  | [w] => rowOf 3 w
  | _ => none
def in8 : List (W T) → Option (List (List Form))
  | [w] => rowOf 7 w
  | _ => none
def innC : (k : Nat) → List (W T) → Option (T k)
  | 0, ws => in0 ws
  | 1, ws => in1 ws
  | 2, ws => in2 ws
  | 3, ws => in3 ws
  | 4, ws => in4 ws
  | 5, ws => in5 ws
  | 6, ws => in6 ws
  | 7, ws => in7 ws
  | 8, ws => in8 ws
  | _ + 9, _ => none
def sizeC : Nat → Nat
  | 3 => 4
  | 5 => 2
  | 6 => 4
  | _ => 1
def aggC : Nat → Bool
  | 3 => true
  | 5 => true
  | 6 => true
  | _ => false
def keqC : (k : Nat) → T k → T k → Bool
  | 0, (a : Int), (b : Int) => a == b
  | 2, (a : Bs), (b : Bs) => a == b
  | 5, (a : Bs × Bs), (b : Bs × Bs) => a.1 == b.1 && a.2 == b.2
  | _, _, _ => false
def kokC (P : Program) (d : TypeDesc) (k : Nat) : Bool :=
  match k, d with
  | 0, .int .i64 => true
  | 2, .string => true
  | 5, .array 2 e =>
    match P.underlying e, sizeV P e with
    | some .string, some 1 => true
    | _, _ => false
  | _, _ => false
def bytesC : (k : Nat) → Bs → Option (List (T k))
  | 1, s => some s
  | _, _ => none
def unbytesC : (k : Nat) → List (T k) → Option Bs
  | 1, (l : List UInt8) => some l
  | _, _ => none
end Go.Proofs.YtpdgbhjhodhkiaaGreatDoor.AI
