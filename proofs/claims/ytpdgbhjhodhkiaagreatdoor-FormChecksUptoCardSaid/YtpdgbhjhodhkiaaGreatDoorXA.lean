/- An abstract interpreter of loaded code, and that the machine does what it says, first part. -/
import Derived.RangeFuncLeaves
import Derived.Below
import Derived.Laws.Sem
import Derived.Laws.BytesArg
import Derived.KernelRfl
import Derived.Laws.Rows
import Derived.Laws.Cells
import Derived.Laws.Tables
import Derived.Laws.AppendOwn
import Derived.MapKept
set_option linter.unusedVariables false
namespace Go.Proofs.YtpdgbhjhodhkiaaGreatDoor.AI
open Go
inductive V where
 | undef
 | bool (b : Bool)
 | int (k : IntKind) (n : Int)
 | str (s : ByteArray)
 | nilp
 | ptr (i off : Nat)
 | bptr (b ver off : Nat)
 | rp (cells : List V) (off : Nat)
 | nils
 | sl (b ver off len : Nat)
 | ro (cells : List V) (n : Nat) (full : Bool)
 | nilm
 | map (b : Nat)
 | nilf
 | fn (f : FuncId) (caps : List V)
 | yld (l : Nat)
 | nili
 | ifc (t : TypeId) (v : V)
 | agg (cells : List V)
 | tup (vs : List V)
 deriving Inhabited
mutual
def V.pure : V → Bool
 | .ptr _ _ => false
 | .bptr _ _ _ => false
 | .sl _ _ _ _ => false
 | .map _ => false
 | .yld _ => false
 | .fn _ cs => pureL cs
 | .ifc _ v => V.pure v
 | .agg cs => pureL cs
 | .tup vs => pureL vs
 | .undef | .bool _ | .int _ _ | .str _ | .nilp | .rp _ _ | .nils | .ro _ _ _ | .nilm | .nilf | .nili => true
def pureL : List V → Bool
 | [] => true
 | v :: vs => V.pure v && pureL vs
end
mutual
def V.maxA : V → Nat
 | .ptr i _ => i + 1
 | .fn _ cs => maxAL cs
 | .ifc _ v => V.maxA v
 | .agg cs => maxAL cs
 | .tup vs => maxAL vs
 | .undef | .bool _ | .int _ _ | .str _ | .nilp | .bptr _ _ _ | .sl _ _ _ _ | .map _ | .yld _ | .rp _ _ | .nils | .ro _ _ _ | .nilm | .nilf | .nili => 0
def maxAL : List V → Nat
 | [] => 0
 | v :: vs => max (V.maxA v) (maxAL vs)
end
inductive BB where
 | cells (sz ver : Nat) (pu fz : Bool) (cs : List V)
 | map (es : List (V × V))
 | loop (st : LoopState) (pend : Option Code) (tm : List V) (ps : List Tmp) (assign body : Code)
structure Mem where
 A : List (List V)
 B : List BB
 hi : Nat
 la : Nat
 lb : Nat
def Mem.empty : Mem := ⟨[], [], 0, 0, 0⟩
structure St where
 tm : List V
 mem : Mem
 df : List (TypeId × V × V)
 rd : Bool
inductive Ex where
 | normal
 | exit (id : Nat)
 | ret
inductive Md where
 | keep | pure | frozen | ext
 deriving DecidableEq
inductive Tgt where
 | fn (f : FuncId)
 | yld (l : Nat)
structure Cfg where
 P : Program
 ok : FuncId → Bool
 md : FuncId → Md
 ext : FuncId → List V → Option V
 share : FuncId → Bool := fun _ => false
 shareT : TypeId → Bool := fun _ => false
def V.cellLike : V → Bool
 | .agg _ => false
 | .tup _ => false
 | .undef => false
 | .bool _ | .int _ _ | .str _ | .nilp | .ptr _ _ | .bptr _ _ _ | .rp _ _ | .nils | .sl _ _ _ _ | .ro _ _ _ | .nilm | .map _ | .nilf | .fn _ _ | .yld _ | .nili | .ifc _ _ => true
def cellsOf : V → List V
 | .agg cs => cs
 | v => [v]
def ofConst0 : Value → V
 | .bool b => .bool b
 | .int k n => .int k n
 | .string s => .str s
 | .pointer none => .nilp
 | .slice none 0 0 => .ro [] 0 true
 | .map none => .nilm
 | .nilFunc => .nilf
 | .nilIface => .nili
 | _ => .undef
def ofConst : Value → V
 | .agg cs => .agg (cs.toList.map ofConst0)
 | v => ofConst0 v
def evalO (tm : List V) : Operand → V
 | .tmp t => tm.getD t .undef
 | .const v => ofConst v
 | .func f => .fn f []
 | .global _ => .undef
def sub (cs : List V) (off n : Nat) : Option (List V) := if off + n ≤ cs.length then some ((cs.drop off).take n) else none
def splice (old : List V) (off : Nat) (cs : List V) : List V := old.take off ++ cs ++ old.drop (off + cs.length)
def isAggD : TypeDesc → Bool
 | .struct _ => true
 | .array _ _ => true
 | _ => false
def rdCells (m : Mem) (p : V) (n : Nat) : Option (List V) :=
 match p with
 | .ptr i off => (m.A[i]?).bind fun cs => sub cs off n
 | .bptr b ver off =>
  match m.B[b]? with
  | some (.cells _ ver' _ _ cs) => if ver = ver' then sub cs off n else none
  | _ => none
 | .rp cells off => sub cells off n
 | _ => none
def wrCells (m : Mem) (p : V) (cs : List V) : Option Mem :=
 match p with
 | .ptr i off =>
  match m.A[i]? with
  | some old => if m.la ≤ i ∧ off + cs.length ≤ old.length then some { m with A := m.A.set i (splice old off cs), hi := max m.hi (maxAL cs) } else none
  | none => none
 | .bptr b ver off =>
  match m.B[b]? with
  | some (.cells sz ver' pu false old) =>
   if ver = ver' ∧ m.lb ≤ b ∧ off + cs.length ≤ old.length then some { m with B := m.B.set b (.cells sz ver' (pu && pureL cs) false (splice old off cs)), hi := max m.hi (maxAL cs) } else none
  | _ => none
 | _ => none
def loadV (P : Program) (m : Mem) (t : TypeId) (p : V) : Option V :=
 match P.info? t, P.underlying t with
 | some i, some d =>
  if isAggD d then (rdCells m p i.size).map .agg
  else (rdCells m p 1).bind fun
   | [x] => some x
   | _ => none
 | _, _ => none
def storeV (P : Program) (m : Mem) (t : TypeId) (p v : V) : Option Mem :=
 match P.info? t with
 | some i => if (cellsOf v).length = i.size ∧ (cellsOf v).all V.cellLike = true then wrCells m p (cellsOf v) else none
 | none => none
def padd (p : V) (n : Nat) : Option V :=
 match p with
 | .ptr i off => some (.ptr i (off + n))
 | .bptr b ver off => some (.bptr b ver (off + n))
 | .rp cells off => some (.rp cells (off + n))
 | _ => none
def zeroCellsV (P : Program) (t : TypeId) : Option (List V) :=
 match P.info? t with
 | some i =>
  match i.zero with
  | some z => if ((z.cells.toList.map ofConst0).all V.cellLike) = true then some (z.cells.toList.map ofConst0) else none
  | none => none
 | none => none
def zeroV (P : Program) (t : TypeId) : Option V :=
 match P.info? t with
 | some i => i.zero.map ofConst
 | none => none
def sizeV (P : Program) (t : TypeId) : Option Nat := (P.info? t).map (·.size)
def partV (P : Program) (t : TypeId) (cs : List V) (off : Nat) : Option V :=
 match P.info? t, P.underlying t with
 | some i, some d => if isAggD d then (sub cs off i.size).map .agg else cs[off]?
 | _, _ => none
def shiftV (op : BinOp) (k : IntKind) (x y : Int) : Option V :=
 if y < 0 then none else
 match op with
 | .shl => some (.int k (k.wrap (x * 2 ^ (min y.toNat k.bits))))
 | .shr => some (.int k (x.fdiv (2 ^ (min y.toNat k.bits))))
 | _ => none
def intV (op : BinOp) (k : IntKind) (x y : Int) : Option V :=
 match op with
 | .add => some (.int k (k.wrap (x + y)))
 | .sub => some (.int k (k.wrap (x - y)))
 | .mul => some (.int k (k.wrap (x * y)))
 | .quo => if y = 0 then none else some (.int k (k.wrap (x.tdiv y)))
 | .rem => if y = 0 then none else some (.int k (x.tmod y))
 | .and => some (.int k (k.wrap (BitVec.ofInt k.bits x &&& BitVec.ofInt k.bits y).toNat))
 | .or => some (.int k (k.wrap (BitVec.ofInt k.bits x ||| BitVec.ofInt k.bits y).toNat))
 | .xor => some (.int k (k.wrap (BitVec.ofInt k.bits x ^^^ BitVec.ofInt k.bits y).toNat))
 | .andNot => some (.int k (k.wrap (BitVec.ofInt k.bits x &&& ~~~ BitVec.ofInt k.bits y).toNat))
 | .eql => some (.bool (x == y))
 | .neq => some (.bool (x != y))
 | .lss => some (.bool (x < y))
 | .leq => some (.bool (x ≤ y))
 | .gtr => some (.bool (x > y))
 | .geq => some (.bool (x ≥ y))
 | _ => none
def strV (op : BinOp) (x y : ByteArray) : Option V :=
 match op with
 | .add => if ((x.size + y.size : Nat) : Int) > 9223372036854775807 then none else some (.str (x ++ y))
 | .eql => some (.bool (x.toList == y.toList))
 | .neq => some (.bool !(x.toList == y.toList))
 | .lss => some (.bool (Op.bytesLess x.toList y.toList))
 | .leq => some (.bool (Op.bytesLess x.toList y.toList || x.toList == y.toList))
 | .gtr => some (.bool !(Op.bytesLess x.toList y.toList || x.toList == y.toList))
 | .geq => some (.bool !(Op.bytesLess x.toList y.toList))
 | _ => none
def isConstO : Operand → Bool
 | .const _ => true
 | _ => false
def eqlV (d : TypeDesc) (lit : Bool) (x y : V) : Option Bool :=
 match d, x, y with
 | .bool, .bool a, .bool b => some (a == b)
 | .pointer _, .nilp, .nilp => some true
 | .pointer _, .nilp, .ptr _ _ | .pointer _, .ptr _ _, .nilp | .pointer _, .nilp, .bptr _ _ _ | .pointer _, .bptr _ _ _, .nilp | .pointer _, .nilp, .rp _ _ | .pointer _, .rp _ _, .nilp => some false
 | .interface _, .nili, .nili => if lit then some true else none
 | .interface _, .nili, .ifc _ _ | .interface _, .ifc _ _, .nili => some false
 | .slice _, .nils, .nils => some true
 | .map _ _, .nilm, .nilm => some true
 | .map _ _, .nilm, .map _ | .map _ _, .map _, .nilm => some false
 | .func _ _ _, .nilf, .nilf => some true
 | .func _ _ _, .nilf, .fn _ _ | .func _ _ _, .fn _ _, .nilf => some false
 | _, _, _ => none
def binV (P : Program) (op : BinOp) (t : TypeId) (lit : Bool) (x y : V) : Option V :=
 match x, y with
 | .int k a, .int k' b =>
  match op with
  | .shl => shiftV .shl k a b
  | .shr => shiftV .shr k a b
  | _ => if k = k' then intV op k a b else none
 | .str a, .str b => strV op a b
 | x, y =>
  match op, P.underlying t with
  | .eql, some d => (eqlV d lit x y).map .bool
  | .neq, some d => (eqlV d lit x y).map fun b => .bool (!b)
  | _, _ => none
def unV (op : UnOp) (x : V) : Option V :=
 match op, x with
 | .neg, .int k n => some (.int k (k.wrap (0 - n)))
 | .not, .bool b => some (.bool !b)
 | _, _ => none
def contents (m : Mem) (sz : Nat) : V → Option (Nat × List V)
 | .nils => some (0, [])
 | .ro cells n _ => if n * sz = cells.length then some (n, cells) else none
 | .sl b ver off len =>
  match m.B[b]? with
  | some (.cells sz' ver' _ _ cs) => if ver = ver' ∧ sz = sz' then (sub cs off (len * sz)).map fun l => (len, l) else none
  | _ => none
 | .str s => if sz = 1 then some (s.size, s.data.toList.map fun b => .int .u8 b.toNat) else none
 | _ => none
def u8sOf : List V → Option (List Int)
 | [] => some []
 | .int .u8 n :: r => (u8sOf r).map (n :: ·)
 | _ :: _ => none
def convV (P : Program) (m : Mem) (src dst : TypeId) (x : V) : Option V :=
 match P.underlying src, P.underlying dst, x with
 | some (.slice e), some .string, x =>
  match P.underlying e, x with
  | some (.int .u8), .nils => some (.str ByteArray.empty)
  | some (.int .u8), .ro cells n full => (contents m 1 (.ro cells n full)).bind fun (_, cs) => (u8sOf cs).map fun xs => .str (strOfNums xs)
  | some (.int .u8), .sl b ver off len => (contents m 1 (.sl b ver off len)).bind fun (_, cs) => (u8sOf cs).map fun xs => .str (strOfNums xs)
  | _, _ => none
 | some (.int _), some (.int k), .int _ n => some (.int k (k.wrap n))
 | some .string, some .string, .str s => some (.str s)
 | some .string, some (.slice e), .str s =>
  match P.underlying e with
  | some (.int .u8) => if s.size ≤ 140737488355328 then some (.ro (s.data.toList.map fun b => .int .u8 b.toNat) s.size false) else none
  | _ => none
 | _, _, _ => none
def boundV (x : Option V) (dflt : Nat) : Option Nat :=
 match x with
 | none => some dflt
 | some (.int _ i) => if 0 ≤ i then some i.toNat else none
 | some _ => none
def sliceV (P : Program) (mem : Mem) (t : TypeId) (x : V) (lo hi mx : Option V) : Option V :=
 match P.underlying t, x with
 | some .string, .str s =>
  match boundV lo 0, boundV hi s.size, mx with
  | some l, some h, none => if l ≤ h ∧ h ≤ s.size then some (.str (s.extract l h)) else none
  | _, _, _ => none
 | some (.slice e), .ro cells n full =>
  match sizeV P e, boundV lo 0, boundV hi n, mx with
  | some sz, some l, some h, none => if l ≤ h ∧ h ≤ n then (sub cells (l * sz) ((h - l) * sz)).map fun cs => .ro cs (h - l) (full && h == n) else none
  | some sz, some l, some h, some m =>
   match boundV (some m) 0 with
   | some m => if l ≤ h ∧ h ≤ m ∧ m ≤ n ∧ hi.isSome = true then (sub cells (l * sz) ((h - l) * sz)).map fun cs => .ro cs (h - l) (h == m) else none
   | none => none
  | _, _, _, _ => none
 | some (.slice e), .sl b ver off len =>
  match sizeV P e, boundV lo 0, boundV hi len, mx with
  | some sz, some l, some h, none =>
   match mem.B[b]? with
   | some (.cells sz' ver' _ _ _) => if l ≤ h ∧ h ≤ len ∧ sz = sz' ∧ ver = ver' then some (.sl b ver (off + l * sz) (h - l)) else none
   | _ => none
  | _, _, _, _ => none
 | some (.slice e), .nils =>
  match sizeV P e, boundV lo 0, boundV hi 0, boundV mx 0 with
  | some _, some 0, some 0, some 0 => if mx.isSome → hi.isSome then some .nils else none
  | _, _, _, _ => none
 | _, _ => none
def fieldAddrV (P : Program) (s : TypeId) (p : V) (f : Nat) : Option V :=
 match P.underlying s with
 | some (.struct fields) =>
  match fields[f]? with
  | some fd =>
   match sizeV P fd.type with
   | some n => if n = 0 then none else padd p fd.offset
   | none => none
  | none => none
 | _ => none
def fieldV (P : Program) (t : TypeId) (x : V) (f : Nat) : Option V :=
 match P.underlying t, x with
 | some (.struct fields), .agg cs =>
  match fields[f]? with
  | some fd => partV P fd.type cs fd.offset
  | none => none
 | _, _ => none
def indexAddrV (P : Program) (t : TypeId) (x ix : V) : Option V :=
 match P.underlying t, ix with
 | some (.slice e), .int _ i =>
  match sizeV P e, x with
  | some sz, .sl b ver off len => if 0 ≤ i ∧ i < len then some (.bptr b ver (off + i.toNat * sz)) else none
  | some sz, .ro cells n _ => if 0 ≤ i ∧ i < n ∧ i.toNat * sz < cells.length then some (.rp cells (i.toNat * sz)) else none
  | _, _ => none
 | some (.array len e), .int _ i =>
  match sizeV P e with
  | some sz => if 0 ≤ i ∧ i < len then padd x (i.toNat * sz) else none
  | none => none
 | _, _ => none
def byteAt (s : ByteArray) (i : Nat) : Option UInt8 := s.data.toList[i]?
def indexV (P : Program) (t : TypeId) (x ix : V) : Option V :=
 match P.underlying t, x, ix with
 | some .string, .str s, .int _ i => if 0 ≤ i then (byteAt s i.toNat).map fun b => .int .u8 b.toNat else none
 | some (.array len e), .agg cs, .int _ i =>
  match sizeV P e with
  | some sz => if 0 ≤ i ∧ i < len then partV P e cs (i.toNat * sz) else none
  | none => none
 | _, _, _ => none
def fillV (place : Nat → Option (Nat × Nat)) (cells : List V) : List (Nat × V) → Option (List V)
 | [] => some cells
 | (i, v) :: rest =>
  match place i with
  | none => none
  | some (off, size) => if (cellsOf v).length = size ∧ off + size ≤ cells.length ∧ (cellsOf v).all V.cellLike = true then fillV place (splice cells off (cellsOf v)) rest else none
def fieldPlaceV (P : Program) (fields : Array Field) (i : Nat) : Option (Nat × Nat) :=
 match fields[i]? with
 | some f => (sizeV P f.type).map fun n => (f.offset, n)
 | none => none
def buildV (P : Program) (t : TypeId) (parts : List (Nat × V)) : Option V :=
 match zeroV P t, P.underlying t with
 | some (.agg z), some (.struct fields) => if fields.toList.all (fun f => (sizeV P f.type).isSome) = true then (fillV (fieldPlaceV P fields) z parts).map .agg else none
 | some (.agg z), some (.array _ e) =>
  match sizeV P e with
  | some sz => (fillV (fun i => some (i * sz, sz)) z parts).map .agg
  | none => none
 | _, _ => none
def repl (n : Nat) (z : List V) : List V :=
 match n with
 | 0 => []
 | n + 1 => z ++ repl n z
def buildSliceCells (P : Program) (t : TypeId) (len : Nat) (parts : List (Nat × V)) : Option (Nat × List V) :=
 match P.underlying t with
 | some (.slice e) =>
  match sizeV P e, zeroCellsV P e with
  | some sz, some z =>
   if z.length = sz ∧ 0 < sz ∧ len * sz ≤ 16777216 then
    match fillV (fun i => some (i * sz, sz)) (repl len z) parts with
    | some cs => if cs.all V.cellLike = true then some (sz, cs) else none
    | none => none
   else none
  | _, _ => none
 | _ => none
mutual
def shut (B : List BB) (lo : Nat) : V → Option V
 | .sl b ver off len =>
  match B[b]? with
  | some (.cells sz ver' true _ cs) => if ver = ver' ∧ lo ≤ b then (sub cs off (len * sz)).map fun l => .ro l len false else none
  | _ => none
 | .agg cs => (shutL B lo cs).map .agg
 | .tup vs => (shutL B lo vs).map .tup
 | v => if V.pure v then some v else none
def shutL (B : List BB) (lo : Nat) : List V → Option (List V)
 | [] => some []
 | v :: vs =>
  match shut B lo v, shutL B lo vs with
  | some x, some xs => some (x :: xs)
  | _, _ => none
end
mutual
def V.used : V → List Nat
 | .sl b _ _ _ => [b]
 | .agg cs => usedL cs
 | .tup vs => usedL vs
 | _ => []
def usedL : List V → List Nat
 | [] => []
 | v :: vs => V.used v ++ usedL vs
end
def BB.frz : BB → BB
 | .cells sz ver true _ cs => .cells sz ver true true cs
 | x => x
def frzB (bs : List Nat) : Nat → List BB → List BB
 | _, [] => []
 | i, x :: B => (if bs.contains i then x.frz else x) :: frzB bs (i + 1) B
def scalar0 : V → Bool
 | .bool _ | .int _ _ | .str _ | .nilp | .nils | .nilm | .nilf | .nili | .ro [] _ _ => true
 | _ => false
def scalarV : V → Bool
 | .tup vs => vs.all scalar0
 | v => scalar0 v
def appendV (P : Program) (m : Mem) (sT : TypeId) (s x : V) : Option (V × Mem) :=
 match P.underlying sT with
 | some (.slice e) =>
  match P.info? e with
  | none => none
  | some i =>
   match contents m i.size x, zeroCellsV P e with
   | some (n, new), some z =>
    if new.all V.cellLike = false ∨ i.size = 0 ∨ z.length ≠ i.size then none
    else if n = 0 then
     (match s with
      | .nils | .ro _ _ _ | .sl _ _ _ _ => some (s, m)
      | _ => none)
    else
     match s with
     | .nils =>
      if n * i.bytes ≤ 140737488355328 ∧ 0 < i.bytes then
       some (.sl m.B.length 0 0 n, { m with B := m.B ++ [.cells i.size 0 (pureL new) false new], hi := max m.hi (maxAL new) })
      else none
     | .ro cells k true =>
      if k * i.size = cells.length ∧ (k + n) * i.bytes ≤ 140737488355328 ∧ 0 < i.bytes ∧ cells.all V.cellLike = true then
       some (.sl m.B.length 0 0 (k + n), { m with B := m.B ++ [.cells i.size 0 (pureL new) false (cells ++ new)], hi := max m.hi (max (maxAL cells) (maxAL new)) })
      else none
     | .sl b ver off len =>
      match m.B[b]? with
      | some (.cells sz ver' pu false cs) =>
       if ver = ver' ∧ sz = i.size ∧ m.lb ≤ b ∧ (len + n) * i.bytes ≤ 140737488355328 ∧ 0 < i.bytes then
        if off + (len + n) * sz ≤ cs.length then
         some (.sl b ver off (len + n), { m with B := m.B.set b (.cells sz ver (pu && pureL new) false (splice cs (off + len * sz) new)), hi := max m.hi (maxAL new) })
        else if off = 0 ∧ len * sz = cs.length then
         some (.sl b (ver + 1) 0 (len + n), { m with B := m.B.set b (.cells sz (ver + 1) (pu && pureL new) false (cs ++ new)), hi := max m.hi (maxAL new) })
        else none
       else none
      | _ => none
     | _ => none
   | _, _ => none
 | _ => none
def keyEq (P : Program) (d : TypeDesc) (a b : V) : Option Bool :=
 match d, a, b with
 | .int _, .int k x, .int k' y => if k = k' then some (x == y) else none
 | .string, .str x, .str y => some (x == y)
 | .bool, .bool x, .bool y => some (x == y)
 | .array 2 e, .agg [.str a1, .str a2], .agg [.str b1, .str b2] =>
  match P.underlying e, sizeV P e with
  | some .string, some 1 => some (a1 == b1 && a2 == b2)
  | _, _ => none
 | _, _, _ => none
def keyOk (P : Program) : TypeDesc → V → Bool
 | .int k, .int k' _ => k == k'
 | .string, .str _ => true
 | .bool, .bool _ => true
 | .array 2 e, .agg [.str _, .str _] =>
  match P.underlying e, sizeV P e with
  | some .string, some 1 => true
  | _, _ => false
 | _, _ => false
def findV (P : Program) (d : TypeDesc) (k : V) : List (V × V) → Nat → Option (Option (Nat × V))
 | [], _ => some none
 | (k', v) :: es, i =>
  match keyEq P d k k' with
  | some true => some (some (i, v))
  | some false => findV P d k es (i + 1)
  | none => none
def lookupV (P : Program) (m : Mem) (t : TypeId) (x k : V) (ok : Bool) : Option V :=
 match P.underlying t with
 | some (.map kt et) =>
  match P.underlying kt, (match x with
   | .nilm => some []
   | .map b => (match m.B[b]? with | some (.map es) => some es | _ => none)
   | _ => none : Option (List (V × V))), zeroV P et with
  | some d, some es, some z =>
   if keyOk P d k = false then none else
   match findV P d k es 0 with
   | some (some (_, v)) => some (if ok then .tup [v, .bool true] else v)
   | some none => some (if ok then .tup [z, .bool false] else z)
   | none => none
  | _, _, _ => none
 | _ => none
def updateV (P : Program) (m : Mem) (t : TypeId) (x k v : V) : Option Mem :=
 match P.underlying t, x with
 | some (.map kt _), .map b =>
  match P.underlying kt, m.B[b]? with
  | some d, some (.map es) =>
   if m.lb ≤ b ∧ keyOk P d k = true then
    match findV P d k es 0 with
    | some (some (i, _)) => some { m with B := m.B.set b (.map (es.modify i fun _ => (k, v))), hi := max m.hi (V.maxA v) }
    | some none => some { m with B := m.B.set b (.map (es ++ [(k, v)])), hi := max m.hi (V.maxA v) }
    | none => none
   else none
  | _, _ => none
 | _, _ => none
def deleteV (P : Program) (m : Mem) (t : TypeId) (x k : V) : Option Mem :=
 match P.underlying t, x with
 | some (.map kt _), .map b =>
  match P.underlying kt, m.B[b]? with
  | some d, some (.map es) =>
   if m.lb ≤ b ∧ keyOk P d k = true then
    match findV P d k es 0 with
    | some (some (i, _)) => some { m with B := m.B.set b (.map (es.eraseIdx i)) }
    | some none => some m
    | none => none
   else none
  | _, _ => none
 | _, _ => none
def lenV (P : Program) (m : Mem) (t : TypeId) (x : V) : Option V :=
 match P.underlying t, x with
 | some .string, .str s => some (.int .i64 s.size)
 | some (.array n _), _ => some (.int .i64 n)
 | some (.slice _), .nils => some (.int .i64 0)
 | some (.slice _), .ro _ n _ => some (.int .i64 n)
 | some (.slice _), .sl _ _ _ n => some (.int .i64 n)
 | some (.map _ _), .nilm => some (.int .i64 0)
 | some (.map _ _), .map b =>
  match m.B[b]? with
  | some (.map es) => some (.int .i64 es.length)
  | _ => none
 | _, _ => none
def capV (P : Program) (t : TypeId) (x : V) : Option V :=
 match P.underlying t, x with
 | some (.slice _), .nils => some (.int .i64 0)
 | some (.slice _), .ro _ n true => some (.int .i64 n)
 | _, _ => none
def maxV : V → V → Option V
 | .int k x, .int _ y => some (.int k (if y > x then y else x))
 | _, _ => none
def minV : V → V → Option V
 | .int k x, .int _ y => some (.int k (if y < x then y else x))
 | _, _ => none
def foldV (f : V → V → Option V) : V → List V → Option V
 | x, [] => some x
 | x, y :: r => (f x y).bind fun z => foldV f z r
def makeSliceV (P : Program) (m : Mem) (t : TypeId) (l c : V) : Option (V × Mem) :=
 match P.underlying t, l, c with
 | some (.slice e), .int .i64 l, .int .i64 c =>
  match P.info? e, zeroCellsV P e with
  | some i, some z =>
   if 0 ≤ l ∧ l = c ∧ l * i.bytes ≤ 140737488355328 ∧ l ≤ 140737488355328 ∧ z.length = i.size ∧ 0 < i.size ∧ i.bytes ≤ 140737488355328 then
    some (.sl m.B.length 0 0 l.toNat, { m with B := m.B ++ [.cells i.size 0 (pureL z) false (repl l.toNat z)] })
   else none
  | _, _ => none
 | _, _, _ => none
def appendMakeV (P : Program) (m : Mem) (sT : TypeId) (s x : V) : Option (V × Mem) :=
 match P.underlying sT, s, x with
 | some (.slice e), .ro [] 0 true, .int .i64 n =>
  match P.info? e, zeroCellsV P e with
  | some i, some z =>
   if 0 ≤ n ∧ n * i.bytes ≤ 140737488355328 ∧ 0 < i.bytes ∧ i.size ≠ 0 ∧ z.length = i.size then
    if n = 0 then some (.ro [] 0 true, m)
    else some (.sl m.B.length 0 0 n.toNat, { m with B := m.B ++ [.cells i.size 0 (pureL z) false (repl n.toNat z)] })
   else none
  | _, _ => none
 | _, _, _ => none
def builtinV (P : Program) (m : Mem) (b : Builtin) (ts : List TypeId) (args : List V) : Option (V × Mem) :=
 match b, ts, args with
 | .append, [t, u], [s, x] =>
  match P.underlying u with
  | some (.slice _) => appendV P m t s x
  | some .string => appendV P m t s x
  | some (.int _) => appendMakeV P m t s x
  | _ => none
 | .len, t :: _, x :: _ => (lenV P m t x).map (·, m)
 | .cap, t :: _, x :: _ => (capV P t x).map (·, m)
 | .max, _, x :: r => (foldV maxV x r).map (·, m)
 | .min, _, x :: r => (foldV minV x r).map (·, m)
 | .delete, t :: _, [x, k] => (deleteV P m t x k).map (V.tup [], ·)
 | _, _, _ => none
def guardV (ops : Array Oper) (tm : List V) (o : Oper) : Option Bool :=
 match o.guard with
 | none => some true
 | some (j, want) =>
  match (ops[j]?).bind (·.dst) with
  | none => some false
  | some d =>
   match tm[d]? with
   | some (.bool b) => some (b == want)
   | some (.tup []) => some false
   | _ => none
def isAlloc (o : Oper) : Bool := match o.op with | .alloc _ => true | _ => false
def slotOf (ops : Array Oper) (i : Nat) : Nat := (ops.toList.take i).countP isAlloc
def preAlloc (P : Program) : List Oper → Option (List (List V))
 | [] => some []
 | o :: os =>
  match o.op with
  | .alloc t =>
   match zeroCellsV P t, preAlloc P os with
   | some z, some r => some (z :: r)
   | _, _ => none
  | _ => preAlloc P os
def opV (P : Program) (m : Mem) (slot : Nat) (ρ : Operand → V) : Op → Option (V × Mem)
 | .move x => some (ρ x, m)
 | .assign x => some (ρ x, m)
 | .pick c a b =>
  match ρ c with
  | .bool t => some (if t then ρ a else ρ b, m)
  | _ => none
 | .alloc _ => some (.ptr slot 0, m)
 | .box t x =>
  match P.info? t with
  | some _ => if (cellsOf (ρ x)).all V.cellLike = true then some (.ptr m.A.length 0, { m with A := m.A ++ [cellsOf (ρ x)], hi := max m.hi (maxAL (cellsOf (ρ x))) }) else none
  | none => none
 | .build t parts => (buildV P t (parts.toList.map fun (i, x) => (i, ρ x))).map (·, m)
 | .buildSlice t len parts =>
  match buildSliceCells P t len (parts.toList.map fun (i, x) => (i, ρ x)) with
  | some (sz, cs) =>
   if pureL cs then some (.ro cs len true, m)
   else some (.sl m.B.length 0 0 len, { m with B := m.B ++ [.cells sz 0 false false cs], hi := max m.hi (maxAL cs) })
  | none => none
 | .load t p => (loadV P m t (ρ p)).map (·, m)
 | .store t p x => (storeV P m t (ρ p) (ρ x)).map (V.tup [], ·)
 | .nilCheck x =>
  match ρ x with
  | .ptr i o => some (.ptr i o, m)
  | .bptr b v o => some (.bptr b v o, m)
  | .rp c o => some (.rp c o, m)
  | .fn f c => some (.fn f c, m)
  | .yld l => some (.yld l, m)
  | _ => none
 | .binOp op t x y _ => (binV P op t (isConstO x || isConstO y) (ρ x) (ρ y)).map (·, m)
 | .unOp op _ x => (unV op (ρ x)).map (·, m)
 | .convert s d x => (convV P m s d (ρ x)).map (·, m)
 | .makeInterface t x =>
  match P.underlying t with
  | some (.interface _) => none
  | some _ => some (.ifc t (ρ x), m)
  | none => none
 | .makeFunc (.func f) first cap => if first.size = 0 then some (.fn f (cap.toList.map ρ), m) else none
 | .makeMap t none => match P.underlying t with
  | some (.map _ _) => some (.map m.B.length, { m with B := m.B ++ [.map []] })
  | _ => none
 | .makeSlice t l c => makeSliceV P m t (ρ l) (ρ c)
 | .slice t x lo hi mx => (sliceV P m t (ρ x) (lo.map ρ) (hi.map ρ) (mx.map ρ)).map (·, m)
 | .fieldAddr s x f => (fieldAddrV P s (ρ x) f).map (·, m)
 | .field t x f => (fieldV P t (ρ x) f).map (·, m)
 | .indexAddr t x ix => (indexAddrV P t (ρ x) (ρ ix)).map (·, m)
 | .index t x ix => (indexV P t (ρ x) (ρ ix)).map (·, m)
 | .lookup t x k ok => (lookupV P m t (ρ x) (ρ k) ok).map (·, m)
 | .mapUpdate t x k v => (updateV P m t (ρ x) (ρ k) (ρ v)).map (V.tup [], ·)
 | .insert t x k v => (updateV P m t (ρ x) (ρ k) (ρ v)).map (V.tup [], ·)
 | .extract x i =>
  match ρ x with
  | .tup vs => (vs[i]?).map (·, m)
  | _ => none
 | _ => none
def opQ (P : Program) (draw : Bool) (m : Mem) (slot : Nat) (ρ : Operand → V) (op : Op) : Option (V × Mem) :=
 match draw, op with
 | true, .buildSlice t len parts =>
  match buildSliceCells P t len (parts.toList.map fun (i, x) => (i, ρ x)) with
  | some (_, cs) => if pureL cs then some (.ro cs len true, m) else none
  | none => none
 | _, op => opV P m slot ρ op
abbrev Call := Tgt → List V → Mem → Option (V × Mem)
def doCall (cfg : Cfg) (call : Call) (draw : Bool) (f : FuncId) (args : List V) (m : Mem) : Option (V × Mem) :=
 match cfg.md f with
 | .keep => if draw then none else call (.fn f) args m
 | .ext => (cfg.ext f args).bind fun v => if args.all V.pure = true ∧ V.pure v = true then some (v, m) else none
 | .pure =>
  (shutL m.B m.lb args).bind fun args' =>
   (call (.fn f) args' Mem.empty).bind fun (v, m') =>
    (shut m'.B 0 v).bind fun v' => if pureL args || scalarV v' then some (v', m) else if draw then none else some (v', { m with B := frzB (usedL args) 0 m.B })
 | .frozen =>
  (call (.fn f) args { m with la := m.A.length, lb := m.B.length }).bind fun (v, m') =>
   (shut m'.B m.B.length v).map fun v' => (v', m)
def callV (cfg : Cfg) (call : Call) (draw : Bool) (ρ : Operand → V) (m : Mem) (c : Go.Call) : Option (V × Mem) :=
 match c.callee with
 | .builtin b => builtinV cfg.P m b c.argTypes.toList (c.args.toList.map ρ)
 | .value f =>
  match ρ f with
  | .fn f caps => doCall cfg call draw f (c.args.toList.map ρ ++ caps) m
  | .yld l => if draw then none else call (.yld l) (c.args.toList.map ρ) m
  | _ => none
 | .invoke _ _ => none
def putV (tm : List V) (d : Option Tmp) (v : V) : List V :=
 match d with
 | some d => tm.set d v
 | none => tm
def stepAt (cfg : Cfg) (call : Call) (draw : Bool) (ops : Array Oper) (base i : Nat) (st : St) : Option St :=
 match ops[i]? with
 | none => some st
 | some o =>
  match guardV ops st.tm o with
  | none => none
  | some false => some { st with tm := putV st.tm o.dst (.tup []) }
  | some true =>
   match o.op with
   | .call c => (callV cfg call draw (evalO st.tm) st.mem c).map fun (v, m) => { st with tm := putV st.tm o.dst v, mem := m }
   | .defer { callee := .builtin .delete, args, argTypes } =>
    match argTypes.toList, args.toList.map (evalO st.tm) with
    | t :: _, [x, k] => if st.rd || draw then none else some { st with tm := putV st.tm o.dst (.tup []), df := (t, x, k) :: st.df }
    | _, _ => none
   | op => (opQ cfg.P draw st.mem (base + slotOf ops i) (evalO st.tm) op).map fun (v, m) => { st with tm := putV st.tm o.dst v, mem := m }
def sliceT (P : Program) (t : TypeId) : Bool :=
 match P.underlying t with
 | some (.slice _) => true
 | _ => false
def rowOp (P : Program) : Op → Bool
 | .indexAddr t _ _ => sliceT P t
 | _ => false
def rowAddr (P : Program) (ops : Array Oper) : Operand → Bool
 | .tmp u => ops.toList.any fun q => q.dst == some u && (rowOp P q.op || match q.op with
  | .fieldAddr _ (.tmp w) _ => ops.toList.any fun q' => q'.dst == some w && rowOp P q'.op
  | _ => false)
 | _ => false
def ownAddr (ops : Array Oper) : Operand → Bool
 | .tmp u => (ops.toList.any fun q => q.dst == some u && isAlloc q) || !(ops.toList.any fun q => q.dst == some u)
 | _ => false
def ptrV : V → Bool
 | .ptr _ _ => true
 | _ => false
def rowPV : V → Bool
 | .bptr _ _ _ => true
 | .rp _ _ => true
 | _ => false
def apartV (ops : Array Oper) (a b : Op) : Bool :=
 match a, b with
 | .store _ (.tmp u) _, .load _ (.tmp w) => !(u == w) && !(ops.toList.any fun q => q.dst == some w)
 | _, _ => false
def disj : V → V → Bool
 | .ptr i _, .ptr j _ => !(i == j)
 | .ptr _ _, .bptr _ _ _ => true
 | .ptr _ _, .rp _ _ => true
 | _, _ => false
def disjO (ρ : Operand → V) (p : Operand) : Op → Bool
 | .load _ r => disj (ρ p) (ρ r)
 | _ => true
def chkQ (P : Program) (ops : Array Oper) (ρ : Operand → V) : Op → Bool
 | .load _ p => !(rowAddr P ops p) || rowPV (ρ p)
 | .store t p x => (!(ownAddr ops p) || ptrV (ρ p)) && ops.toList.all fun q => !(apartV ops (.store t p x) q.op) || disjO ρ p q.op
 | _ => true
def chkAt (P : Program) (ops : Array Oper) (i : Nat) (st : St) : Bool :=
 match ops[i]? with
 | none => true
 | some o =>
  match guardV ops st.tm o with
  | some true => chkQ P ops (evalO st.tm) o.op
  | _ => true
def runOps (cfg : Cfg) (call : Call) (draw : Bool) (ops : Array Oper) (base : Nat) : List Nat → St → Option St
 | [], st => some st
 | i :: l, st => if (draw && !chkAt cfg.P ops i st) = true then none else (stepAt cfg call draw ops base i st).bind (runOps cfg call draw ops base l)
inductive Cls where
 | pure | reads | writes
 deriving DecidableEq
def clsOf : Op → Cls
 | .move _ | .assign _ | .pick _ _ _ | .alloc _ | .build _ _ | .buildSlice _ _ _ | .nilCheck _ | .binOp _ _ _ _ _ | .unOp _ _ _ | .makeInterface _ _ | .makeFunc _ _ _ | .fieldAddr _ _ _ | .field _ _ _ | .indexAddr _ _ _ | .index _ _ _ | .extract _ _ => .pure
 | .load _ _ | .lookup _ _ _ _ | .convert _ _ _ | .slice _ _ _ _ _ => .reads
 | .call { callee := .builtin .len, .. } | .call { callee := .builtin .cap, .. } | .call { callee := .builtin .max, .. } | .call { callee := .builtin .min, .. } | .call { callee := .value _, .. } => .reads
 | _ => .writes
def namesOf (ops : Array Oper) (o : Oper) : List Tmp :=
 o.dst.toList ++ (o.op.operands.toList.filterMap fun
  | .tmp t => some t
  | _ => none) ++ (match o.guard with
  | some (j, _) => ((ops[j]?).bind (·.dst)).toList
  | none => [])
def storesA (ops : Array Oper) : Op → Bool
 | .store _ p _ => ownAddr ops p
 | _ => false
def readsB (cfg : Cfg) (ops : Array Oper) : Op → Bool
 | .load _ p => rowAddr cfg.P ops p
 | .lookup _ _ _ _ => true
 | .slice _ _ _ _ _ => true
 | .convert _ _ _ => true
 | .call { callee := .builtin .len, .. } => true
 | .call { callee := .value (.func f), .. } => cfg.md f == .pure || cfg.md f == .ext
 | _ => false
def apart (cfg : Cfg) (ops : Array Oper) (a b : Op) : Bool := (storesA ops a && readsB cfg ops b || storesA ops b && readsB cfg ops a) || (apartV ops a b || apartV ops b a)
def clash (cfg : Cfg) (ops : Array Oper) (a b : Oper) : Bool :=
 (match a.dst with | some d => (namesOf ops b).contains d | none => false) || (match b.dst with | some d => (namesOf ops a).contains d | none => false) ||
  !apart cfg ops a.op b.op && ((clsOf a.op == .writes && !(clsOf b.op == .pure)) || (clsOf b.op == .writes && !(clsOf a.op == .pure)))
def forceN {α : Type} (n : Nat) (k : Nat → α) : α :=
 match n with
 | 0 => k 0
 | m + 1 => k (m + 1)
def oneBef (look : Nat → Nat) (o : Oper) : Nat := o.after.toList.foldl (fun s e => if Region.binds .any e then s ||| 2 ^ e.on ||| look e.on else s) 0
def befs : List Oper → List Nat → List Nat
 | [], acc => acc
 | o :: r, acc => forceN (oneBef (fun i => acc.getD i 0) o) fun v => befs r (acc ++ [v])
def drawOk (cfg : Cfg) (ops : Array Oper) : Bool :=
 ops.toList.zipIdx.all fun (b, j) => (b.after.toList.all fun e => !(Region.binds .any e) || Nat.blt e.on j) &&
  ops.toList.zipIdx.all fun (a, i) => !(Nat.blt i j) || !(clash cfg ops a b) || ((befs ops.toList []).getD j 0).testBit i
def resetTm : List V → List V → List V
 | e :: es, c :: cs => (match e with | .undef => .undef | .tup [] => .undef | _ => c) :: resetTm es cs
 | _, cs => cs
def maxAD : List (TypeId × V × V) → Nat
 | [] => 0
 | (_, x, k) :: r => max (max (V.maxA x) (V.maxA k)) (maxAD r)
def gcSt (st st1 : St) : St :=
 let tm := resetTm st.tm st1.tm
 { st1 with tm := tm, mem := if st1.mem.hi ≤ st.mem.A.length ∧ maxAL tm ≤ st.mem.A.length ∧ maxAD st1.df ≤ st.mem.A.length then { st1.mem with A := st1.mem.A.take st.mem.A.length } else st1.mem }
def loopN (g : St → Option (Ex × St)) : Nat → St → Option (Ex × St)
 | 0, _ => none
 | n + 1, st =>
  match g st with
  | some (.normal, st1) => loopN g n (gcSt st st1)
  | some (e, st1) => some (e, gcSt st st1)
  | none => none
open Classical in
noncomputable def loopW (g : St → Option (Ex × St)) (st : St) : Option (Ex × St) :=
 if h : ∃ r n, loopN g n st = some r then some h.choose else none
def tmpsOf : List Operand → List Tmp
 | [] => []
 | .tmp t :: os => t :: tmpsOf os
 | _ :: os => tmpsOf os
def shareO (cfg : Cfg) : Op → List Tmp
 | .call c =>
  match c.callee with
  | .value (.func f) => if cfg.share f then tmpsOf c.args.toList else []
  | _ => []
 | .build t ps => if cfg.shareT t then tmpsOf (ps.toList.map (·.2)) else []
 | .buildSlice t _ ps => if cfg.shareT t then tmpsOf (ps.toList.map (·.2)) else []
 | _ => []
def shareStep (cfg : Cfg) (o : Oper) (T : List Tmp) : List Tmp :=
 match o.op with
 | .move (.tmp s) =>
  match o.dst with
  | some d => if T.contains d then s :: T else T
  | none => T
 | .slice _ (.tmp s) _ _ _ =>
  match o.dst with
  | some d => if T.contains d then s :: T else T
  | none => T
 | op => shareO cfg op ++ T
def shareTs (cfg : Cfg) : List Oper → List Tmp
 | [] => []
 | o :: os => shareStep cfg o (shareTs cfg os)
def dstTs : List Oper → List Tmp
 | [] => []
 | o :: os => match o.dst with
  | some d => d :: dstTs os
  | none => dstTs os
def sealTs (cfg : Cfg) (ops : List Oper) : List Tmp := (shareTs cfg ops).filter fun t => !(dstTs ops).contains t
def sealAt (m : Mem) (ts : List Tmp) : Nat → List V → List V × List Nat
 | _, [] => ([], [])
 | i, v :: vs =>
  if ts.contains i then
   match v with
   | .sl b ver off len =>
    match shut m.B m.lb (.sl b ver off len) with
    | some v' => (v' :: (sealAt m ts (i + 1) vs).1, b :: (sealAt m ts (i + 1) vs).2)
    | none => (v :: (sealAt m ts (i + 1) vs).1, (sealAt m ts (i + 1) vs).2)
   | _ => (v :: (sealAt m ts (i + 1) vs).1, (sealAt m ts (i + 1) vs).2)
  else (v :: (sealAt m ts (i + 1) vs).1, (sealAt m ts (i + 1) vs).2)
def sealSt (ts : List Tmp) (st : St) : St :=
 if ts.isEmpty then st else { st with tm := (sealAt st.mem ts 0 st.tm).1, mem := { st.mem with B := frzB (sealAt st.mem ts 0 st.tm).2 0 st.mem.B } }
def regV (cfg : Cfg) (call : Call) (draw : Bool) (ops : Array Oper) (st : St) : Option (Ex × St) :=
  if draw && !drawOk cfg ops then none else
  match preAlloc cfg.P ops.toList with
  | none => none
  | some zs => (runOps cfg call draw ops st.mem.A.length (List.range ops.size) { st with mem := { st.mem with A := st.mem.A ++ zs } }).map (Ex.normal, ·)
def exec (cfg : Cfg) (call : Call) (loop : (St → Option (Ex × St)) → St → Option (Ex × St)) : Code → St → Option (Ex × St)
 | .skip, st => some (.normal, st)
 | .label _, st => some (.normal, st)
 | .region _ ops draw, st => regV cfg call draw ops (sealSt (sealTs cfg ops.toList) st)
 | .seq a b, st =>
  match exec cfg call loop a st with
  | some (.normal, st1) => exec cfg call loop b st1
  | r => r
 | .cond c a b, st =>
  match evalO st.tm c with
  | .bool true => exec cfg call loop a st
  | .bool false => exec cfg call loop b st
  | _ => none
 | .block id c, st =>
  match exec cfg call loop c st with
  | some (.exit id', st1) => if id' = id then some (.normal, st1) else some (.exit id', st1)
  | r => r
 | .loop c, st => loop (exec cfg call loop c) st
 | .exit id, st => some (.exit id, st)
 | .ret, st => some (.ret, st)
 | .rangeFunc f ps assign body, st =>
  if st.rd then none else
  match evalO st.tm f with
  | .fn g caps =>
   match call (.fn g) (.yld st.mem.B.length :: caps) { st.mem with B := st.mem.B ++ [.loop .ready none st.tm ps.toList assign body], hi := max st.mem.hi (maxAL st.tm) } with
   | some (_, m) =>
    match m.B[st.mem.B.length]? with
    | some (.loop s pend tm ps' as' bo') =>
     if s = .busy then none else
     let st' : St := { st with mem := { m with B := m.B.set st.mem.B.length (.loop .exhausted pend tm ps' as' bo') } }
     match pend with
     | none => some (.normal, st')
     | some .ret => some (.ret, st')
     | some (.exit id) => some (.exit id, st')
     | _ => none
    | _ => none
   | none => none
  | _ => none
 | .scope _, _ => none
 | .goto _, _ => none
 | .refuse _, _ => none
def resultsV (P : Program) (m : Mem) (tm : List V) : List ResultVar → Option (List V)
 | [] => some []
 | r :: rs =>
  match (match r with
   | .tmp t => some (tm.getD t .undef)
   | .cell a t => loadV P m t (tm.getD a .undef)), resultsV P m tm rs with
  | some v, some vs => some (v :: vs)
  | _, _ => none
def tupV : List V → V
 | [v] => v
 | vs => .tup vs
def runDf (P : Program) : List (TypeId × V × V) → Mem → Option Mem
 | [], m => some m
 | (t, x, k) :: ds, m => (deleteV P m t x k).bind (runDf P ds)
def truncA (n : Nat) (v : V) (m : Mem) : Mem := if m.hi ≤ n ∧ V.maxA v ≤ n ∧ n ≤ m.A.length then { m with A := m.A.take n } else m
def enterSt (fn : Func) (args : List V) (m : Mem) : St := { tm := args ++ List.replicate (fn.ntmps - args.length) (.tup []), mem := m, df := [], rd := false }
def leaveV (P : Program) (fn : Func) (n : Nat) : Ex × St → Option (V × Mem)
 | (.exit _, _) => none
 | (_, st) =>
  (runDf P st.df st.mem).bind fun m => (resultsV P m st.tm fn.results.toList).map fun vs => (tupV vs, truncA n (tupV vs) m)
def setMany : List V → List Tmp → List V → List V
 | tm, t :: ts, a :: as => setMany (tm.set t a) ts as
 | tm, _, _ => tm
def endRoundV (n l : Nat) : Ex × St → Option (V × Mem)
 | (e, st) =>
  match st.mem.B[l]? with
  | some (.loop _ _ tm ps as bo) =>
   if st.mem.lb ≤ l then
    match e with
    | .normal => some (.bool true, truncA n (.bool true) { st.mem with B := st.mem.B.set l (.loop .ready none tm ps as bo) })
    | .ret => some (.bool false, truncA n (.bool false) { st.mem with B := st.mem.B.set l (.loop .done (some .ret) tm ps as bo) })
    | .exit id => some (.bool false, truncA n (.bool false) { st.mem with B := st.mem.B.set l (.loop .done (some (.exit id)) tm ps as bo) })
   else none
  | _ => none
def callF (cfg : Cfg) (call : Call) (loop : (St → Option (Ex × St)) → St → Option (Ex × St)) : Call
 | .fn f, args, m =>
  match cfg.P.funcs[f]? with
  | some fn =>
   match fn.body with
   | some c => if cfg.ok f then (exec cfg call loop c (enterSt fn args m)).bind (leaveV cfg.P fn m.A.length) else none
   | none => none
  | none => none
 | .yld l, args, m =>
  match m.B[l]? with
  | some (.loop .ready _ tm ps as bo) =>
   if ps.length = args.length ∧ m.lb ≤ l then
    match exec cfg call loop as { tm := setMany tm ps args, mem := m, df := [], rd := true } with
    | some (.normal, st1) =>
     match st1.mem.B[l]? with
     | some (.loop .ready pend' tm' ps' as' bo') =>
      (exec cfg call loop bo { st1 with mem := { st1.mem with B := st1.mem.B.set l (.loop .busy pend' tm' ps' as' bo') } }).bind (endRoundV m.A.length l)
     | _ => none
    | _ => none
   else none
  | _ => none
def callN (cfg : Cfg) : Nat → Call
 | 0 => fun _ _ _ => none
 | n + 1 => callF cfg (callN cfg n) (fun g => loopN g n)
open Classical in
noncomputable def callW (cfg : Cfg) : Call := fun t args m => if h : ∃ r n, callN cfg n t args m = some r then some h.choose else none
end Go.Proofs.YtpdgbhjhodhkiaaGreatDoor.AI
namespace Go.Proofs.YtpdgbhjhodhkiaaGreatDoor.AI
open Go
inductive Own where
 | non | prot | dm | a (i : Nat) | b (i : Nat) | o (i : Nat)
 deriving DecidableEq
structure Cx where
 fa : Nat → Option Nat
 fb : Nat → Nat × Nat × Nat
 vb : Nat → Nat
 nb : Nat
 fo : Nat → Option Nat
 own : Nat → Own
abbrev Kp := Nat → Option Obj
mutual
def VRel (cx : Cx) (w : World) : V → Value → Prop
 | .undef, _ => True
 | .bool b, v => v = .bool b
 | .int k n, v => v = .int k n
 | .str s, v => v = .string s
 | .nilp, v => v = .pointer none
 | .ptr i off, v => ∃ c, cx.fa i = some c ∧ v = .pointer (some ⟨c, off, none⟩)
 | .bptr b ver off, v => b < cx.nb ∧ ver ≤ cx.vb b ∧ (∃ a, v = .pointer (some a)) ∧ (ver = cx.vb b → v = .pointer (some ⟨(cx.fb b).1, off, none⟩))
 | .rp cells off, v => ∃ blk o, v = .pointer (some ⟨blk, o + off, none⟩) ∧ blk < w.heap.size ∧ cx.own blk = .non ∧ RowRel cx w cells blk o
 | .nils, v => v = .slice none 0 0
 | .sl b ver off len, v => b < cx.nb ∧ ver ≤ cx.vb b ∧ ∃ a cap, v = .slice a len cap ∧ len ≤ cap ∧ (cap = 0 ∨ a.isSome = true) ∧ (ver = cx.vb b → off + cap * (cx.fb b).2.1 = (cx.fb b).2.2 ∧ (cap = 0 ∨ a = some ⟨(cx.fb b).1, off, none⟩))
 | .ro cells n full, v => ∃ a cap, v = .slice a n cap ∧ n ≤ cap ∧ (full = true → cap = n) ∧ (cells = [] ∨ ∃ blk o, a = some ⟨blk, o, none⟩ ∧ blk < w.heap.size ∧ cx.own blk = .non ∧ RowRel cx w cells blk o)
 | .nilm, v => v = .map none
 | .map b, v => ∃ c, cx.fo b = some c ∧ v = .map (some c)
 | .nilf, v => v = .nilFunc
 | .fn f caps, v => ∃ arr, v = .func (.func f) #[] arr ∧ VRelL cx w caps arr.toList
 | .yld l, v => ∃ c, cx.fo l = some c ∧ v = .func (.yield c) #[] #[]
 | .nili, v => v = .nilIface
 | .ifc t x, v => ∃ u, v = .iface t u ∧ VRel cx w x u
 | .agg cs, v => ∃ arr, v = .agg arr ∧ VRelL cx w cs arr.toList
 | .tup vs, v => ∃ arr, v = .tuple arr ∧ VRelL cx w vs arr.toList
def RowRel (cx : Cx) (w : World) : List V → Nat → Nat → Prop
 | [], _, _ => True
 | x :: xs, blk, o => V.pure x = true ∧ (∃ v, w.cell? ⟨blk, o, none⟩ = some v ∧ VRel cx w x v) ∧ RowRel cx w xs blk (o + 1)
def VRelL (cx : Cx) (w : World) : List V → List Value → Prop
 | [], [] => True
 | x :: xs, v :: vs => VRel cx w x v ∧ VRelL cx w xs vs
 | [], _ :: _ => False
 | _ :: _, [] => False
end
structure Ev (n : Nat) (cx : Cx) (m : Mem) (w : World) (cx' : Cx) (m' : Mem) (w' : World) : Prop where
 fa : ∀ i, i < n → cx'.fa i = cx.fa i
 un : ∀ i, i < n → cx.fa i = none → m'.A[i]? = m.A[i]?
 ln : n ≤ m'.A.length
 nb : cx.nb ≤ cx'.nb
 vb : ∀ b, b < cx.nb → cx.vb b ≤ cx'.vb b ∧ (cx'.vb b = cx.vb b → cx'.fb b = cx.fb b)
 fo : ∀ b c, cx.fo b = some c → cx'.fo b = some c
 non : ∀ c, c < w.heap.size → cx.own c = .non → w'.heap[c]? = w.heap[c]? ∧ cx'.own c = .non
 prot : ∀ c, cx.own c = .prot → w'.heap[c]? = w.heap[c]? ∧ cx'.own c = .prot
 dm : ∀ c, cx.own c = .dm → w'.heap[c]? = w.heap[c]? ∧ cx'.own c = .dm
 size : w.heap.size ≤ w'.heap.size
 os : w'.os = w.os
 tape : w'.tape = w.tape
 output : w'.output = w.output
 la : m'.la = m.la
 lb : m'.lb = m.lb
theorem Ev.refl (cx : Cx) (m : Mem) (w : World) (n : Nat) (hn : n ≤ m.A.length) : Ev n cx m w cx m w :=
 ⟨fun _ _ => rfl, fun _ _ _ => rfl, hn, Nat.le_refl _, fun _ _ => ⟨Nat.le_refl _, fun _ => rfl⟩, fun _ _ h => h, fun _ _ h => ⟨rfl, h⟩, fun _ h => ⟨rfl, h⟩, fun _ h => ⟨rfl, h⟩, Nat.le_refl _, rfl, rfl, rfl, rfl, rfl⟩
theorem Ev.trans {n n2 : Nat} {cx cx1 cx2 : Cx} {m m1 m2 : Mem} {w w1 w2 : World} (h : Ev n cx m w cx1 m1 w1) (k : Ev n2 cx1 m1 w1 cx2 m2 w2) (hn : n ≤ n2) : Ev n cx m w cx2 m2 w2 where
 fa i hi := (k.fa i (by omega)).trans (h.fa i hi)
 un i hi hf := (k.un i (by omega) ((h.fa i hi).trans hf)).trans (h.un i hi hf)
 ln := by have := k.ln; omega
 nb := Nat.le_trans h.nb k.nb
 vb b hb := by
  have h1 := h.vb b hb
  have h2 := k.vb b (Nat.lt_of_lt_of_le hb h.nb)
  refine ⟨Nat.le_trans h1.1 h2.1, fun e => ?_⟩
  have e1 : cx1.vb b = cx.vb b := by omega
  have e2 : cx2.vb b = cx1.vb b := by omega
  exact (h2.2 e2).trans (h1.2 e1)
 fo b c hc := k.fo b c (h.fo b c hc)
 non c hc ho := by
  have h1 := h.non c hc ho
  have h2 := k.non c (Nat.lt_of_lt_of_le hc h.size) h1.2
  exact ⟨h2.1.trans h1.1, h2.2⟩
 prot c ho := by
  have h1 := h.prot c ho
  have h2 := k.prot c h1.2
  exact ⟨h2.1.trans h1.1, h2.2⟩
 dm c ho := by
  have h1 := h.dm c ho
  have h2 := k.dm c h1.2
  exact ⟨h2.1.trans h1.1, h2.2⟩
 size := Nat.le_trans h.size k.size
 os := k.os.trans h.os
 tape := k.tape.trans h.tape
 output := k.output.trans h.output
 la := k.la.trans h.la
 lb := k.lb.trans h.lb
theorem Ev.mono {n n2 : Nat} {cx cx1 : Cx} {m m1 : Mem} {w w1 : World} (h : Ev n cx m w cx1 m1 w1) (hn : n2 ≤ n) : Ev n2 cx m w cx1 m1 w1 :=
 { h with fa := fun i hi => h.fa i (by omega), un := fun i hi => h.un i (by omega), ln := Nat.le_trans hn h.ln }
theorem cell_of_heap {w w' : World} {b : Nat} (h : w'.heap[b]? = w.heap[b]?) (o : Nat) : w'.cell? ⟨b, o, none⟩ = w.cell? ⟨b, o, none⟩ := by
 simp [World.cell?, h]
structure Later (cx : Cx) (w : World) (cx' : Cx) (w' : World) : Prop where
 nb : cx.nb ≤ cx'.nb
 vb : ∀ b, b < cx.nb → cx.vb b ≤ cx'.vb b ∧ (cx'.vb b = cx.vb b → cx'.fb b = cx.fb b)
 fo : ∀ b c, cx.fo b = some c → cx'.fo b = some c
 non : ∀ c, c < w.heap.size → cx.own c = .non → w'.heap[c]? = w.heap[c]? ∧ cx'.own c = .non
 size : w.heap.size ≤ w'.heap.size
structure Later0 (cx : Cx) (w : World) (cx' : Cx) (w' : World) : Prop where
 non : ∀ c, c < w.heap.size → cx.own c = .non → w'.heap[c]? = w.heap[c]? ∧ cx'.own c = .non
 size : w.heap.size ≤ w'.heap.size
theorem Later.zero {cx cx' : Cx} {w w' : World} (h : Later cx w cx' w') : Later0 cx w cx' w' := ⟨h.non, h.size⟩
theorem Ev.later {n : Nat} {cx cx1 : Cx} {m m1 : Mem} {w w1 : World} (h : Ev n cx m w cx1 m1 w1) : Later cx w cx1 w1 := ⟨h.nb, h.vb, h.fo, h.non, h.size⟩
mutual
theorem VRel.on {cx cx' : Cx} {w w' : World} {n : Nat} (L : Later cx w cx' w') (hfa : ∀ i c, i < n → cx.fa i = some c → cx'.fa i = some c) : ∀ (x : V) (v : Value), V.maxA x ≤ n → VRel cx w x v → VRel cx' w' x v
 | .undef, _, _, _ => by simp [VRel]
 | .bool _, _, _, h => by simpa [VRel] using h
 | .int _ _, _, _, h => by simpa [VRel] using h
 | .str _, _, _, h => by simpa [VRel] using h
 | .nilp, _, _, h => by simpa [VRel] using h
 | .ptr i off, v, hm, h => by
  simp only [VRel] at h ⊢
  obtain ⟨c, h1, h2⟩ := h
  simp only [V.maxA] at hm
  exact ⟨c, hfa i c (by omega) h1, h2⟩
 | .bptr b ver off, v, _, h => by
  simp only [VRel] at h ⊢
  obtain ⟨h1, h2, h3, h4⟩ := h
  have hv := L.vb b h1
  refine ⟨Nat.lt_of_lt_of_le h1 L.nb, Nat.le_trans h2 hv.1, h3, fun e => ?_⟩
  rw [hv.2 (by omega)]
  exact h4 (by omega)
 | .rp cells off, v, _, h => by
  simp only [VRel] at h ⊢
  obtain ⟨blk, o, h1, h2, h3, h4⟩ := h
  have hn := L.non blk h2 h3
  exact ⟨blk, o, h1, Nat.lt_of_lt_of_le h2 L.size, hn.2, RowRel.on L.zero cells blk o hn.1 h4⟩
 | .nils, _, _, h => by simpa [VRel] using h
 | .sl b ver off len, v, _, h => by
  simp only [VRel] at h ⊢
  obtain ⟨h1, h2, a, cap, h3, h4, h45, h5⟩ := h
  have hv := L.vb b h1
  refine ⟨Nat.lt_of_lt_of_le h1 L.nb, Nat.le_trans h2 hv.1, a, cap, h3, h4, h45, fun e => ?_⟩
  rw [hv.2 (by omega)]
  exact h5 (by omega)
 | .ro cells n' full, v, _, h => by
  simp only [VRel] at h ⊢
  obtain ⟨a, cap, h1, h12, h2, h3⟩ := h
  refine ⟨a, cap, h1, h12, h2, ?_⟩
  rcases h3 with h3 | ⟨blk, o, h3, h4, h5, h6⟩
  ·exact .inl h3
  ·have hn := L.non blk h4 h5
   exact .inr ⟨blk, o, h3, Nat.lt_of_lt_of_le h4 L.size, hn.2, RowRel.on L.zero cells blk o hn.1 h6⟩
 | .nilm, _, _, h => by simpa [VRel] using h
 | .map b, v, _, h => by
  simp only [VRel] at h ⊢
  obtain ⟨c, h1, h2⟩ := h
  exact ⟨c, L.fo b c h1, h2⟩
 | .nilf, _, _, h => by simpa [VRel] using h
 | .fn f caps, v, hm, h => by
  simp only [VRel] at h ⊢
  obtain ⟨arr, h1, h2⟩ := h
  simp only [V.maxA] at hm
  exact ⟨arr, h1, VRelL.on L hfa caps arr.toList hm h2⟩
 | .yld l, v, _, h => by
  simp only [VRel] at h ⊢
  obtain ⟨c, h1, h2⟩ := h
  exact ⟨c, L.fo l c h1, h2⟩
 | .nili, _, _, h => by simpa [VRel] using h
 | .ifc t x, v, hm, h => by
  simp only [VRel] at h ⊢
  obtain ⟨u, h1, h2⟩ := h
  simp only [V.maxA] at hm
  exact ⟨u, h1, VRel.on L hfa x u hm h2⟩
 | .agg cs, v, hm, h => by
  simp only [VRel] at h ⊢
  obtain ⟨arr, h1, h2⟩ := h
  simp only [V.maxA] at hm
  exact ⟨arr, h1, VRelL.on L hfa cs arr.toList hm h2⟩
 | .tup vs, v, hm, h => by
  simp only [VRel] at h ⊢
  obtain ⟨arr, h1, h2⟩ := h
  simp only [V.maxA] at hm
  exact ⟨arr, h1, VRelL.on L hfa vs arr.toList hm h2⟩
theorem RowRel.on {cx cx' : Cx} {w w' : World} (L : Later0 cx w cx' w') : ∀ (cells : List V) (blk o : Nat), w'.heap[blk]? = w.heap[blk]? → RowRel cx w cells blk o → RowRel cx' w' cells blk o
 | [], _, _, _, _ => by simp [RowRel]
 | x :: xs, blk, o, hb, h => by
  simp only [RowRel] at h ⊢
  obtain ⟨h1, ⟨v, h2, h3⟩, h4⟩ := h
  refine ⟨h1, ⟨v, (cell_of_heap hb o).trans h2, ?_⟩, RowRel.on L xs blk (o + 1) hb h4⟩
  exact VRel.onP L x v h1 h3
theorem VRelL.on {cx cx' : Cx} {w w' : World} {n : Nat} (L : Later cx w cx' w') (hfa : ∀ i c, i < n → cx.fa i = some c → cx'.fa i = some c) : ∀ (xs : List V) (vs : List Value), maxAL xs ≤ n → VRelL cx w xs vs → VRelL cx' w' xs vs
 | [], [], _, _ => by simp [VRelL]
 | [], _ :: _, _, h => by simp [VRelL] at h
 | _ :: _, [], _, h => by simp [VRelL] at h
 | x :: xs, v :: vs, hm, h => by
  simp only [VRelL] at h ⊢
  simp only [maxAL] at hm
  exact ⟨VRel.on L hfa x v (by omega) h.1, VRelL.on L hfa xs vs (by omega) h.2⟩
theorem VRel.onP {cx cx' : Cx} {w w' : World} (L : Later0 cx w cx' w') : ∀ (x : V) (v : Value), V.pure x = true → VRel cx w x v → VRel cx' w' x v
 | .undef, _, _, _ => by simp [VRel]
 | .bool _, _, _, h => by simpa [VRel] using h
 | .int _ _, _, _, h => by simpa [VRel] using h
 | .str _, _, _, h => by simpa [VRel] using h
 | .nilp, _, _, h => by simpa [VRel] using h
 | .ptr _ _, _, hp, _ => by simp [V.pure] at hp
 | .bptr _ _ _, _, hp, _ => by simp [V.pure] at hp
 | .rp cells off, v, _, h => by
  simp only [VRel] at h ⊢
  obtain ⟨blk, o, h1, h2, h3, h4⟩ := h
  have hn := L.non blk h2 h3
  exact ⟨blk, o, h1, Nat.lt_of_lt_of_le h2 L.size, hn.2, RowRel.on L cells blk o hn.1 h4⟩
 | .nils, _, _, h => by simpa [VRel] using h
 | .sl _ _ _ _, _, hp, _ => by simp [V.pure] at hp
 | .ro cells n' full, v, _, h => by
  simp only [VRel] at h ⊢
  obtain ⟨a, cap, h1, h12, h2, h3⟩ := h
  refine ⟨a, cap, h1, h12, h2, ?_⟩
  rcases h3 with h3 | ⟨blk, o, h3, h4, h5, h6⟩
  ·exact .inl h3
  ·have hn := L.non blk h4 h5
   exact .inr ⟨blk, o, h3, Nat.lt_of_lt_of_le h4 L.size, hn.2, RowRel.on L cells blk o hn.1 h6⟩
 | .nilm, _, _, h => by simpa [VRel] using h
 | .map _, _, hp, _ => by simp [V.pure] at hp
 | .nilf, _, _, h => by simpa [VRel] using h
 | .fn f caps, v, hp, h => by
  simp only [VRel] at h ⊢
  obtain ⟨arr, h1, h2⟩ := h
  simp only [V.pure] at hp
  exact ⟨arr, h1, VRelL.onP L caps arr.toList hp h2⟩
 | .yld _, _, hp, _ => by simp [V.pure] at hp
 | .nili, _, _, h => by simpa [VRel] using h
 | .ifc t x, v, hp, h => by
  simp only [VRel] at h ⊢
  obtain ⟨u, h1, h2⟩ := h
  simp only [V.pure] at hp
  exact ⟨u, h1, VRel.onP L x u hp h2⟩
 | .agg cs, v, hp, h => by
  simp only [VRel] at h ⊢
  obtain ⟨arr, h1, h2⟩ := h
  simp only [V.pure] at hp
  exact ⟨arr, h1, VRelL.onP L cs arr.toList hp h2⟩
 | .tup vs, v, hp, h => by
  simp only [VRel] at h ⊢
  obtain ⟨arr, h1, h2⟩ := h
  simp only [V.pure] at hp
  exact ⟨arr, h1, VRelL.onP L vs arr.toList hp h2⟩
theorem VRelL.onP {cx cx' : Cx} {w w' : World} (L : Later0 cx w cx' w') : ∀ (xs : List V) (vs : List Value), pureL xs = true → VRelL cx w xs vs → VRelL cx' w' xs vs
 | [], [], _, _ => by simp [VRelL]
 | [], _ :: _, _, h => by simp [VRelL] at h
 | _ :: _, [], _, h => by simp [VRelL] at h
 | x :: xs, v :: vs, hp, h => by
  simp only [VRelL] at h ⊢
  simp only [pureL, Bool.and_eq_true] at hp
  exact ⟨VRel.onP L x v hp.1 h.1, VRelL.onP L xs vs hp.2 h.2⟩
end
end Go.Proofs.YtpdgbhjhodhkiaaGreatDoor.AI
namespace Go.Proofs.YtpdgbhjhodhkiaaGreatDoor.AI
open Go
variable {kp : Kp}
section lists
variable {cx : Cx} {w : World}
theorem VRelL.length : ∀ {xs : List V} {vs : List Value}, VRelL cx w xs vs → xs.length = vs.length
 | [], [], _ => rfl
 | [], _ :: _, h => by simp [VRelL] at h
 | _ :: _, [], h => by simp [VRelL] at h
 | _ :: xs, _ :: vs, h => by
  simp only [VRelL] at h
  simp [VRelL.length h.2]
theorem VRelL.get : ∀ {xs : List V} {vs : List Value} (i : Nat) {x : V}, VRelL cx w xs vs → xs[i]? = some x → ∃ v, vs[i]? = some v ∧ VRel cx w x v
 | [], _, i, _, _, hi => by simp at hi
 | _ :: _, [], _, _, h, _ => by simp [VRelL] at h
 | y :: xs, v :: vs, 0, x, h, hi => by
  simp only [VRelL] at h
  simp at hi
  subst hi
  exact ⟨v, by simp, h.1⟩
 | y :: xs, v :: vs, i + 1, x, h, hi => by
  simp only [VRelL] at h
  simp at hi
  simpa using VRelL.get i h.2 hi
theorem VRelL.set : ∀ {xs : List V} {vs : List Value} (i : Nat) {x : V} {v : Value}, VRelL cx w xs vs → VRel cx w x v → VRelL cx w (xs.set i x) (vs.set i v)
 | [], [], _, _, _, _, _ => by simp [VRelL]
 | [], _ :: _, _, _, _, h, _ => by simp [VRelL] at h
 | _ :: _, [], _, _, _, h, _ => by simp [VRelL] at h
 | _ :: xs, _ :: vs, 0, _, _, h, hx => by
  simp only [VRelL] at h
  simp only [List.set_cons_zero, VRelL]
  exact ⟨hx, h.2⟩
 | _ :: xs, _ :: vs, i + 1, _, _, h, hx => by
  simp only [VRelL] at h
  simp only [List.set_cons_succ, VRelL]
  exact ⟨h.1, VRelL.set i h.2 hx⟩
theorem VRelL.append : ∀ {xs ys : List V} {vs us : List Value}, VRelL cx w xs vs → VRelL cx w ys us → VRelL cx w (xs ++ ys) (vs ++ us)
 | [], _, [], _, _, k => by simpa using k
 | [], _, _ :: _, _, h, _ => by simp [VRelL] at h
 | _ :: _, _, [], _, h, _ => by simp [VRelL] at h
 | _ :: xs, _, _ :: vs, _, h, k => by
  simp only [VRelL] at h
  simp only [List.cons_append, VRelL]
  exact ⟨h.1, VRelL.append h.2 k⟩
theorem VRelL.drop : ∀ {xs : List V} {vs : List Value} (n : Nat), VRelL cx w xs vs → VRelL cx w (xs.drop n) (vs.drop n)
 | [], [], _, _ => by simp [VRelL]
 | [], _ :: _, _, h => by simp [VRelL] at h
 | _ :: _, [], _, h => by simp [VRelL] at h
 | _ :: _, _ :: _, 0, h => by simpa using h
 | _ :: xs, _ :: vs, n + 1, h => by
  simp only [VRelL] at h
  simpa using VRelL.drop n h.2
theorem VRelL.take : ∀ {xs : List V} {vs : List Value} (n : Nat), VRelL cx w xs vs → VRelL cx w (xs.take n) (vs.take n)
 | [], [], _, _ => by simp [VRelL]
 | [], _ :: _, _, h => by simp [VRelL] at h
 | _ :: _, [], _, h => by simp [VRelL] at h
 | _ :: _, _ :: _, 0, _ => by simp [VRelL]
 | _ :: xs, _ :: vs, n + 1, h => by
  simp only [VRelL] at h
  simp only [List.take_succ_cons, VRelL]
  exact ⟨h.1, VRelL.take n h.2⟩
theorem VRelL.getD {xs : List V} {vs : List Value} (h : VRelL cx w xs vs) (i : Nat) : VRel cx w (xs.getD i .undef) (vs.getD i undef) := by
 rw [List.getD_eq_getElem?_getD, List.getD_eq_getElem?_getD]
 cases hx : xs[i]? with
 | none => simp [VRel]
 | some x =>
  obtain ⟨v, hv, hr⟩ := VRelL.get i h hx
  simpa [hv] using hr
theorem VRelL.replicate {x : V} {v : Value} (h : VRel cx w x v) : ∀ n, VRelL cx w (List.replicate n x) (List.replicate n v)
 | 0 => by simp [VRelL]
 | n + 1 => by
  simp only [List.replicate_succ, VRelL]
  exact ⟨h, VRelL.replicate h n⟩
theorem VRelL.of_get : ∀ {xs : List V} {vs : List Value}, xs.length = vs.length → (∀ (i : Nat) (x : V) (v : Value), xs[i]? = some x → vs[i]? = some v → VRel cx w x v) → VRelL cx w xs vs
 | [], [], _, _ => by simp [VRelL]
 | [], _ :: _, h, _ => by simp at h
 | _ :: _, [], h, _ => by simp at h
 | x :: xs, v :: vs, hl, h => by
  simp only [VRelL]
  refine ⟨h 0 x v (by simp) (by simp), VRelL.of_get (by simpa using hl) fun i y u hy hu => h (i + 1) y u (by simpa using hy) (by simpa using hu)⟩
theorem RowRel.get : ∀ {cells : List V} {blk o : Nat} (i : Nat) {x : V}, RowRel cx w cells blk o → cells[i]? = some x → V.pure x = true ∧ ∃ v, w.cell? ⟨blk, o + i, none⟩ = some v ∧ VRel cx w x v
 | [], _, _, i, _, _, hi => by simp at hi
 | y :: ys, blk, o, 0, x, h, hi => by
  simp only [RowRel] at h
  simp at hi
  subst hi
  exact ⟨h.1, by simpa using h.2.1⟩
 | y :: ys, blk, o, i + 1, x, h, hi => by
  simp only [RowRel] at h
  simp at hi
  have := RowRel.get i h.2.2 hi
  rwa [show o + 1 + i = o + (i + 1) from by omega] at this
theorem RowRel.drop : ∀ {cells : List V} {blk o : Nat} (n : Nat), n ≤ cells.length → RowRel cx w cells blk o → RowRel cx w (cells.drop n) blk (o + n)
 | [], _, _, n, hn, _ => by
  have : n = 0 := by simpa using hn
  subst this
  simp [RowRel]
 | _ :: _, _, _, 0, _, h => by simpa using h
 | _ :: ys, blk, o, n + 1, hn, h => by
  simp only [RowRel] at h
  have := RowRel.drop (cells := ys) n (by simpa using hn) h.2.2
  simp only [List.drop_succ_cons]
  rwa [show o + 1 + n = o + (n + 1) from by omega] at this
theorem RowRel.take : ∀ {cells : List V} {blk o : Nat} (n : Nat), RowRel cx w cells blk o → RowRel cx w (cells.take n) blk o
 | [], _, _, _, _ => by simp [RowRel]
 | _ :: _, _, _, 0, _ => by simp [RowRel]
 | _ :: ys, blk, o, n + 1, h => by
  simp only [RowRel] at h
  simp only [List.take_succ_cons, RowRel]
  exact ⟨h.1, h.2.1, RowRel.take n h.2.2⟩
theorem RowRel.of_get : ∀ {cells : List V} {blk o : Nat}, (∀ (i : Nat) (x : V), cells[i]? = some x → V.pure x = true ∧ ∃ v, w.cell? ⟨blk, o + i, none⟩ = some v ∧ VRel cx w x v) → RowRel cx w cells blk o
 | [], _, _, _ => by simp [RowRel]
 | y :: ys, blk, o, h => by
  simp only [RowRel]
  have h0 := h 0 y (by simp)
  refine ⟨h0.1, by simpa using h0.2, RowRel.of_get fun i x hx => ?_⟩
  have := h (i + 1) x (by simpa using hx)
  rwa [show o + (i + 1) = o + 1 + i from by omega] at this
theorem pureL_get : ∀ {xs : List V} (i : Nat) {x : V}, pureL xs = true → xs[i]? = some x → V.pure x = true
 | [], i, _, _, hi => by simp at hi
 | y :: ys, 0, x, h, hi => by
  simp only [pureL, Bool.and_eq_true] at h
  simp at hi
  exact hi ▸ h.1
 | y :: ys, i + 1, x, h, hi => by
  simp only [pureL, Bool.and_eq_true] at h
  simp at hi
  exact pureL_get i h.2 hi
theorem pureL_of_get : ∀ {xs : List V}, (∀ (i : Nat) (x : V), xs[i]? = some x → V.pure x = true) → pureL xs = true
 | [], _ => rfl
 | y :: ys, h => by
  simp only [pureL, Bool.and_eq_true]
  exact ⟨h 0 y (by simp), pureL_of_get fun i x hx => h (i + 1) x (by simpa using hx)⟩
theorem pureL_append {xs ys : List V} : pureL (xs ++ ys) = (pureL xs && pureL ys) := by
 induction xs with
 | nil => simp [pureL]
 | cons x xs ih => simp [pureL, ih, Bool.and_assoc]
theorem maxAL_get : ∀ {xs : List V} (i : Nat) {x : V}, xs[i]? = some x → V.maxA x ≤ maxAL xs
 | [], i, _, hi => by simp at hi
 | y :: ys, 0, x, hi => by
  simp at hi
  subst hi
  simp only [maxAL]
  omega
 | y :: ys, i + 1, x, hi => by
  simp at hi
  have := maxAL_get i hi
  simp only [maxAL]
  omega
theorem maxAL_le : ∀ {xs : List V} {n : Nat}, (∀ (i : Nat) (x : V), xs[i]? = some x → V.maxA x ≤ n) → maxAL xs ≤ n
 | [], _, _ => by simp [maxAL]
 | y :: ys, n, h => by
  have h0 := h 0 y (by simp)
  have := maxAL_le (xs := ys) (n := n) fun i x hx => h (i + 1) x (by simpa using hx)
  simp only [maxAL]
  omega
theorem maxAL_append {xs ys : List V} : maxAL (xs ++ ys) = max (maxAL xs) (maxAL ys) := by
 induction xs with
 | nil => simp [maxAL]
 | cons x xs ih => simp only [List.cons_append, maxAL, ih]; omega
theorem maxAL_take_le {xs : List V} (n : Nat) : maxAL (xs.take n) ≤ maxAL xs :=
 maxAL_le fun i x hx => by
  rw [List.getElem?_take] at hx
  split at hx
  ·exact maxAL_get i hx
  ·simp at hx
theorem maxAL_drop_le {xs : List V} (n : Nat) : maxAL (xs.drop n) ≤ maxAL xs :=
 maxAL_le fun i x hx => by
  rw [List.getElem?_drop] at hx
  exact maxAL_get _ hx
theorem maxAL_splice_le {old cs : List V} (off : Nat) : maxAL (splice old off cs) ≤ max (maxAL old) (maxAL cs) := by
 unfold splice
 rw [maxAL_append, maxAL_append]
 have h1 := maxAL_take_le (xs := old) off
 have h2 := maxAL_drop_le (xs := old) (off + cs.length)
 omega
mutual
theorem maxA_pure : ∀ (x : V), V.pure x = true → V.maxA x = 0
 | .undef, _ | .bool _, _ | .int _ _, _ | .str _, _ | .nilp, _ | .rp _ _, _ | .nils, _ | .ro _ _ _, _ | .nilm, _ | .nilf, _ | .nili, _ => by simp [V.maxA]
 | .ptr _ _, h | .bptr _ _ _, h | .sl _ _ _ _, h | .map _, h | .yld _, h => by simp [V.pure] at h
 | .fn _ cs, h => by simp only [V.pure] at h; simp only [V.maxA]; exact maxAL_pure cs h
 | .ifc _ v, h => by simp only [V.pure] at h; simp only [V.maxA]; exact maxA_pure v h
 | .agg cs, h => by simp only [V.pure] at h; simp only [V.maxA]; exact maxAL_pure cs h
 | .tup cs, h => by simp only [V.pure] at h; simp only [V.maxA]; exact maxAL_pure cs h
theorem maxAL_pure : ∀ (xs : List V), pureL xs = true → maxAL xs = 0
 | [], _ => rfl
 | x :: xs, h => by
  simp only [pureL, Bool.and_eq_true] at h
  simp only [maxAL, maxA_pure x h.1, maxAL_pure xs h.2]
  rfl
end
theorem cellLike_oneCell {x : V} {v : Value} (h : VRel cx w x v) (hc : x.cellLike = true) : v.oneCell' = true := by
 cases x <;> simp only [V.cellLike, Bool.false_eq_true] at hc <;> simp only [VRel] at h
 case bool => subst h; rfl
 case int => subst h; rfl
 case str => subst h; rfl
 case nilp => subst h; rfl
 case ptr => obtain ⟨c, _, rfl⟩ := h; rfl
 case bptr => obtain ⟨_, _, ⟨a, rfl⟩, _⟩ := h; rfl
 case rp => obtain ⟨_, _, rfl, _⟩ := h; rfl
 case nils => subst h; rfl
 case sl => obtain ⟨_, _, a, cap, rfl, _⟩ := h; rfl
 case ro => obtain ⟨a, cap, rfl, _⟩ := h; rfl
 case nilm => subst h; rfl
 case map => obtain ⟨c, _, rfl⟩ := h; rfl
 case nilf => subst h; rfl
 case fn => obtain ⟨arr, rfl, _⟩ := h; rfl
 case yld => obtain ⟨c, _, rfl⟩ := h; rfl
 case nili => subst h; rfl
 case ifc => obtain ⟨u, rfl, _⟩ := h; rfl
theorem cellLike_cells {x : V} {v : Value} (h : VRel cx w x v) (hc : (cellsOf x).all V.cellLike = true) : VRelL cx w (cellsOf x) v.cells.toList := by
 cases x
 case agg cs =>
  simp only [VRel] at h
  obtain ⟨arr, rfl, h⟩ := h
  simpa [cellsOf, Value.cells] using h
 all_goals
  have h2 := cellLike_oneCell h (by simpa [cellsOf] using hc)
  have h3 : v.cells = #[v] := by
   cases v <;> first | rfl | (simp [Value.oneCell'] at h2)
  rw [h3]
  simp only [cellsOf, VRelL]
  exact ⟨h, trivial⟩
end lists
def EsRel (cx : Cx) (w : World) : List (V × V) → List MapEntry → Prop
 | [], [] => True
 | (k, v) :: es, e :: fs => (V.pure k = true ∧ V.maxA k = 0 ∧ VRel cx w k e.key ∧ VRel cx w v e.val) ∧ EsRel cx w es fs
 | [], _ :: _ => False
 | _ :: _, [] => False
def BB.hi : BB → Nat
 | .cells _ _ _ _ cs => maxAL cs
 | .map es => maxAL (es.map (·.2))
 | .loop _ _ tm _ _ _ => maxAL tm
structure HiOk (m : Mem) : Prop where
 A : ∀ (i : Nat) (cs : List V), m.A[i]? = some cs → maxAL cs ≤ m.hi
 B : ∀ (b : Nat) (x : BB), m.B[b]? = some x → x.hi ≤ m.hi
def ownA (la i : Nat) : Own := if i < la then .prot else .a i
def ownB (lb b : Nat) (fz : Bool) : Own := if fz then .non else if b < lb then .prot else .b b
def ownO (lb b : Nat) : Own := if b < lb then .prot else .o b
def AOk (cx : Cx) (w : World) (la i : Nat) (cs : List V) : Prop :=
 ∀ c, cx.fa i = some c → (∃ arr t, w.heap[c]? = some (.cells arr t (0, 0)) ∧ VRelL cx w cs arr.toList) ∧ cx.own c = ownA la i
def BOk (cx : Cx) (w : World) (lb b : Nat) : BB → Prop
 | .cells sz ver pu fz cs => cx.vb b = ver ∧ (cx.fb b).2.1 = sz ∧ cx.own (cx.fb b).1 = ownB lb b fz ∧ (pu = true → pureL cs = true) ∧
  ∃ arr t, w.heap[(cx.fb b).1]? = some (.cells arr t (0, 0)) ∧ arr.size = (cx.fb b).2.2 ∧ cs.length ≤ arr.size ∧ VRelL cx w cs (arr.toList.take cs.length)
 | .map es => ∃ c fs clk, cx.fo b = some c ∧ w.heap[c]? = some (.map fs clk) ∧ EsRel cx w es fs.toList ∧ cx.own c = ownO lb b
 | .loop s p tm ps as bo => ∃ c fn D tmps, cx.fo b = some c ∧ w.heap[c]? = some (.loop { state := s, pending := p, fn := fn, tmps := tmps, params := ps.toArray, assign := as, body := bo, defers := D }) ∧ VRelL cx w tm tmps.toList ∧ cx.own c = ownO lb b
structure Sim (kp : Kp) (cx : Cx) (m : Mem) (w : World) : Prop where
 A : ∀ (i : Nat) (cs : List V), m.A[i]? = some cs → AOk cx w m.la i cs
 fa : ∀ i c, cx.fa i = some c → i < m.A.length
 B : ∀ (b : Nat) (x : BB), m.B[b]? = some x → BOk cx w m.lb b x
 nb : cx.nb = m.B.length
 fo : ∀ b c, cx.fo b = some c → b < m.B.length
 fresh : ∀ c, w.heap.size ≤ c → cx.own c = .non
 la : m.la ≤ m.A.length
 lb : m.lb ≤ m.B.length
 kept : ∀ c o, kp c = some o → c < w.heap.size ∧ cx.own c = .non ∧ w.heap[c]? = some o
theorem Sim.kpt {cx cx' : Cx} {m : Mem} {w w' : World} (S : Sim kp cx m w) (L : Later0 cx w cx' w') : ∀ c o, kp c = some o → c < w'.heap.size ∧ cx'.own c = .non ∧ w'.heap[c]? = some o := fun c o h => by
 obtain ⟨h1, h2, h3⟩ := S.kept c o h
 obtain ⟨h4, h5⟩ := L.non c h1 h2
 exact ⟨Nat.lt_of_lt_of_le h1 L.size, h5, h4.trans h3⟩
theorem EsRel.on {cx cx' : Cx} {w w' : World} {n : Nat} (L : Later cx w cx' w') (hfa : ∀ i c, i < n → cx.fa i = some c → cx'.fa i = some c) : ∀ (es : List (V × V)) (fs : List MapEntry), maxAL (es.map (·.2)) ≤ n → EsRel cx w es fs → EsRel cx' w' es fs
 | [], [], _, _ => by simp [EsRel]
 | [], _ :: _, _, h => by simp [EsRel] at h
 | _ :: _, [], _, h => by simp [EsRel] at h
 | (k, v) :: es, e :: fs, hm, h => by
  simp only [EsRel] at h ⊢
  simp only [List.map_cons, maxAL] at hm
  exact ⟨⟨h.1.1, h.1.2.1, VRel.onP L.zero k _ h.1.1 h.1.2.2.1, VRel.on L hfa v _ (by omega) h.1.2.2.2⟩, EsRel.on L hfa es fs (by omega) h.2⟩
mutual
theorem VRel.maxA {cx : Cx} {w : World} {n : Nat} (hf : ∀ i c, cx.fa i = some c → i < n) : ∀ (x : V) (v : Value), VRel cx w x v → V.maxA x ≤ n
 | .undef, _, _ | .bool _, _, _ | .int _ _, _, _ | .str _, _, _ | .nilp, _, _ | .rp _ _, _, _ | .nils, _, _ | .ro _ _ _, _, _ | .nilm, _, _ | .nilf, _, _ | .nili, _, _ | .bptr _ _ _, _, _ | .sl _ _ _ _, _, _ | .map _, _, _ | .yld _, _, _ => by simp [V.maxA]
 | .ptr i _, v, h => by
  simp only [VRel] at h
  obtain ⟨c, h1, _⟩ := h
  have := hf i c h1
  simp only [V.maxA]
  omega
 | .fn _ cs, v, h => by
  simp only [VRel] at h
  obtain ⟨arr, _, h⟩ := h
  simp only [V.maxA]
  exact VRelL.maxA hf cs _ h
 | .ifc _ x, v, h => by
  simp only [VRel] at h
  obtain ⟨u, _, h⟩ := h
  simp only [V.maxA]
  exact VRel.maxA hf x _ h
 | .agg cs, v, h => by
  simp only [VRel] at h
  obtain ⟨arr, _, h⟩ := h
  simp only [V.maxA]
  exact VRelL.maxA hf cs _ h
 | .tup cs, v, h => by
  simp only [VRel] at h
  obtain ⟨arr, _, h⟩ := h
  simp only [V.maxA]
  exact VRelL.maxA hf cs _ h
theorem VRelL.maxA {cx : Cx} {w : World} {n : Nat} (hf : ∀ i c, cx.fa i = some c → i < n) : ∀ (xs : List V) (vs : List Value), VRelL cx w xs vs → maxAL xs ≤ n
 | [], _, _ => by simp [maxAL]
 | _ :: _, [], h => by simp [VRelL] at h
 | x :: xs, v :: vs, h => by
  simp only [VRelL] at h
  have h1 := VRel.maxA hf x v h.1
  have h2 := VRelL.maxA hf xs vs h.2
  simp only [maxAL]
  omega
end
theorem EsRel.maxA {cx : Cx} {w : World} {n : Nat} (hf : ∀ i c, cx.fa i = some c → i < n) : ∀ (es : List (V × V)) (fs : List MapEntry), EsRel cx w es fs → maxAL (es.map (·.2)) ≤ n
 | [], _, _ => by simp [maxAL]
 | _ :: _, [], h => by simp [EsRel] at h
 | (k, v) :: es, e :: fs, h => by
  simp only [EsRel] at h
  have h1 := VRel.maxA hf v _ h.1.2.2.2
  have h2 := EsRel.maxA hf es fs h.2
  simp only [List.map_cons, maxAL]
  omega
theorem Ev.val {cx cx' : Cx} {m m' : Mem} {w w' : World} (h : Ev m.A.length cx m w cx' m' w') (S : Sim kp cx m w) {x : V} {v : Value} (hv : VRel cx w x v) : VRel cx' w' x v :=
 VRel.on h.later (fun i c hi hc => (h.fa i hi).trans hc) x v (VRel.maxA S.fa x v hv) hv
theorem Ev.vals {cx cx' : Cx} {m m' : Mem} {w w' : World} (h : Ev m.A.length cx m w cx' m' w') (S : Sim kp cx m w) {x : List V} {v : List Value} (hv : VRelL cx w x v) : VRelL cx' w' x v :=
 VRelL.on h.later (fun i c hi hc => (h.fa i hi).trans hc) x v (VRelL.maxA S.fa x v hv) hv
end Go.Proofs.YtpdgbhjhodhkiaaGreatDoor.AI
namespace Go.Proofs.YtpdgbhjhodhkiaaGreatDoor.AI
open Go
variable {kp : Kp}
structure Keep (c0 b0 : Nat) (cx : Cx) (w : World) (cx' : Cx) (w' : World) : Prop where
 later : Later cx w cx' w'
 heap : ∀ c, c ≠ c0 → c < w.heap.size → w'.heap[c]? = w.heap[c]?
 own : ∀ c, c ≠ c0 → cx'.own c = cx.own c
 vb : ∀ b, b ≠ b0 → b < cx.nb → cx'.vb b = cx.vb b ∧ cx'.fb b = cx.fb b
 ok : c0 < w.heap.size → cx.own c0 ≠ .non ∧ cx.own c0 ≠ .prot ∧ cx.own c0 ≠ .dm
theorem lt_of_heap {w : World} {c : Nat} {o : Obj} (h : w.heap[c]? = some o) : c < w.heap.size := (Array.getElem?_eq_some_iff.1 h).1
section
variable {c0 b0 n : Nat} {cx cx' : Cx} {w w' : World}
theorem AOk.keep {la i : Nat} {cs : List V} (K : Keep c0 b0 cx w cx' w') (hfa : ∀ i c, i < n → cx.fa i = some c → cx'.fa i = some c) (hm : maxAL cs ≤ n) (h : AOk cx w la i cs) (hi : cx'.fa i = cx.fa i)
  (hx : c0 < w.heap.size → cx.own c0 ≠ .a i) : AOk cx' w' la i cs := by
 intro c hcx
 rw [hi] at hcx
 obtain ⟨⟨arr, t, h1, h2⟩, h3⟩ := h c hcx
 have hc : c ≠ c0 := by
  rintro rfl
  have hlt := lt_of_heap h1
  have := K.ok hlt
  have := hx hlt
  unfold ownA at h3
  split at h3 <;> simp_all
 exact ⟨⟨arr, t, (K.heap c hc (lt_of_heap h1)).trans h1, VRelL.on K.later hfa cs _ hm h2⟩, (K.own c hc).trans h3⟩
theorem BOk.keep {lb b : Nat} {x : BB} (K : Keep c0 b0 cx w cx' w') (hfa : ∀ i c, i < n → cx.fa i = some c → cx'.fa i = some c) (hm : x.hi ≤ n) (hb : b ≠ b0) (hn : b < cx.nb) (h : BOk cx w lb b x)
  (hx : c0 < w.heap.size → cx.own c0 ≠ .b b ∧ cx.own c0 ≠ .o b) : BOk cx' w' lb b x := by
 cases x with
 | cells sz ver pu fz cs =>
  simp only [BOk, BB.hi] at h hm ⊢
  obtain ⟨h1, h2, h3, h4, arr, t, h5, h6, h7, h8⟩ := h
  have hv := K.vb b hb hn
  have hc : (cx.fb b).1 ≠ c0 := by
   intro e
   have hlt := lt_of_heap h5
   rw [e] at hlt h3
   have := K.ok hlt
   have := hx hlt
   unfold ownB at h3
   split at h3
   ·simp_all
   ·split at h3 <;> simp_all
  rw [hv.1, hv.2]
  refine ⟨h1, h2, (K.own _ hc).trans h3, h4, arr, t, (K.heap _ hc (lt_of_heap h5)).trans h5, h6, h7, VRelL.on K.later hfa cs _ hm h8⟩
 | map es =>
  simp only [BOk, BB.hi] at h hm ⊢
  obtain ⟨c, fs, clk, h1, h2, h3, h4⟩ := h
  have hc : c ≠ c0 := by
   rintro rfl
   have hlt := lt_of_heap h2
   have := K.ok hlt
   have := hx hlt
   unfold ownO at h4
   split at h4 <;> simp_all
  exact ⟨c, fs, clk, K.later.fo b c h1, (K.heap c hc (lt_of_heap h2)).trans h2, EsRel.on K.later hfa es _ hm h3, (K.own c hc).trans h4⟩
 | loop s p tm ps as bo =>
  simp only [BOk, BB.hi] at h hm ⊢
  obtain ⟨c, fn, D, tmps, h1, h2, h3, h4⟩ := h
  have hc : c ≠ c0 := by
   rintro rfl
   have hlt := lt_of_heap h2
   have := K.ok hlt
   have := hx hlt
   unfold ownO at h4
   split at h4 <;> simp_all
  exact ⟨c, fn, D, tmps, K.later.fo b c h1, (K.heap c hc (lt_of_heap h2)).trans h2, VRelL.on K.later hfa tm _ hm h3, (K.own c hc).trans h4⟩
end
theorem BB.hi_le {cx : Cx} {m : Mem} {w : World} (S : Sim kp cx m w) {b : Nat} {x : BB} (h : m.B[b]? = some x) : x.hi ≤ m.A.length := by
 have hx := S.B b x h
 cases x with
 | cells sz ver pu fz cs =>
  simp only [BOk] at hx
  obtain ⟨_, _, _, _, arr, t, _, _, _, h8⟩ := hx
  exact VRelL.maxA S.fa cs _ h8
 | map es =>
  simp only [BOk] at hx
  obtain ⟨c, fs, clk, _, _, h3, _⟩ := hx
  exact EsRel.maxA S.fa es _ h3
 | loop s p tm ps as bo =>
  simp only [BOk] at hx
  obtain ⟨c, fn, D, tmps, _, _, h3, _⟩ := hx
  exact VRelL.maxA S.fa tm _ h3
theorem Sim.lt_nb {cx : Cx} {m : Mem} {w : World} (S : Sim kp cx m w) {b : Nat} {x : BB} (h : m.B[b]? = some x) : b < cx.nb := by
 rw [S.nb]; exact (List.getElem?_eq_some_iff.1 h).1
theorem Sim.not_nb {cx : Cx} {m : Mem} {w : World} (S : Sim kp cx m w) {b : Nat} {x : BB} (h : m.B[b]? = some x) : b ≠ cx.nb := Nat.ne_of_lt (S.lt_nb h)
theorem later_heap {cx : Cx} {w w' : World} (hh : w'.heap = w.heap) : Later cx w cx w' :=
 ⟨Nat.le_refl _, fun _ _ => ⟨Nat.le_refl _, fun _ => rfl⟩, fun _ _ h => h, fun _ _ h => ⟨by rw [hh], h⟩, by rw [hh]; exact Nat.le_refl _⟩
theorem Sim.heap {cx : Cx} {m : Mem} {w w' : World} (S : Sim kp cx m w) (hh : w'.heap = w.heap) : Sim kp cx m w' where
 A i cs h c hc := by
  obtain ⟨⟨arr, t, h1, h2⟩, h3⟩ := S.A i cs h c hc
  exact ⟨⟨arr, t, by rw [hh]; exact h1, VRelL.on (n := m.A.length) (later_heap hh) (fun _ _ _ h => h) cs _ (VRelL.maxA S.fa _ _ h2) h2⟩, h3⟩
 fa := S.fa
 B b x h :=
  BOk.keep (n := m.A.length) (c0 := w.heap.size) (b0 := cx.nb) ⟨later_heap hh, fun _ _ _ => by rw [hh], fun _ _ => rfl, fun _ _ _ => ⟨rfl, rfl⟩, fun h => absurd h (Nat.lt_irrefl _)⟩ (fun _ _ _ h => h)
   (BB.hi_le S h) (S.not_nb h) (S.lt_nb h) (S.B b x h) (fun h => absurd h (Nat.lt_irrefl _))
 nb := S.nb
 fo := S.fo
 fresh c hc := S.fresh c (by rw [← hh]; exact hc)
 la := S.la
 lb := S.lb
 kept := S.kpt (later_heap hh).zero
theorem Ev.heap {cx : Cx} {m : Mem} {w w' : World} (hh : w'.heap = w.heap) (ho : w'.os = w.os) (ht : w'.tape = w.tape) (hp : w'.output = w.output) : Ev m.A.length cx m w cx m w' where
 fa _ _ := rfl
 un _ _ _ := rfl
 ln := Nat.le_refl _
 nb := Nat.le_refl _
 vb _ _ := ⟨Nat.le_refl _, fun _ => rfl⟩
 fo _ _ h := h
 non c _ h := ⟨by rw [hh], h⟩
 prot c h := ⟨by rw [hh], h⟩
 dm c h := ⟨by rw [hh], h⟩
 size := by rw [hh]; exact Nat.le_refl _
 os := ho
 tape := ht
 output := hp
 la := rfl
 lb := rfl
section alloc
variable {cx : Cx} {m : Mem} {w : World}
theorem heap_alloc_lt (w : World) (o : Obj) {c : Nat} (h : c < w.heap.size) : (w.alloc o).heap[c]? = w.heap[c]? := heap_alloc_old w o c h
def Cx.withOwn (cx : Cx) (c0 : Nat) (x : Own) : Cx := { cx with own := fun c => if c = c0 then x else cx.own c }
theorem keep_alloc {cx' : Cx} (o : Obj) (hnb : cx.nb ≤ cx'.nb) (hvb : ∀ b, b < cx.nb → cx'.vb b = cx.vb b ∧ cx'.fb b = cx.fb b) (hfo : ∀ b c, cx.fo b = some c → cx'.fo b = some c)
  (hown : ∀ c, c ≠ w.heap.size → cx'.own c = cx.own c) : Keep w.heap.size cx.nb cx w cx' (w.alloc o) where
 later := ⟨hnb, fun b hb => ⟨by rw [(hvb b hb).1]; exact Nat.le_refl _, fun _ => (hvb b hb).2⟩, hfo, fun c hc h => ⟨heap_alloc_lt w o hc, (hown c (Nat.ne_of_lt hc)).trans h⟩, by simp⟩
 heap c _ hc := heap_alloc_lt w o hc
 own := hown
 vb b _ hb := hvb b hb
 ok h := absurd h (Nat.lt_irrefl _)
theorem ev_alloc {cx' : Cx} {m' : Mem} {o : Obj} {b0 : Nat} (S : Sim kp cx m w) (K : Keep w.heap.size b0 cx w cx' (w.alloc o)) (hfa : ∀ i, i < m.A.length → cx.fa i = cx'.fa i) (hA : m.A.length ≤ m'.A.length)
  (hun : ∀ i, i < m.A.length → cx.fa i = none → m'.A[i]? = m.A[i]?) (hla : m'.la = m.la) (hlb : m'.lb = m.lb) : Ev m.A.length cx m w cx' m' (w.alloc o) where
 fa i hi := (hfa i hi).symm
 un := hun
 ln := hA
 nb := K.later.nb
 vb := K.later.vb
 fo := K.later.fo
 non := K.later.non
 prot c h := by
  have hc : c < w.heap.size := by
   rcases Nat.lt_or_ge c w.heap.size with h' | h'
   ·exact h'
   ·rw [S.fresh c h'] at h; cases h
  exact ⟨heap_alloc_lt w o hc, (K.own c (Nat.ne_of_lt hc)).trans h⟩
 dm c h := by
  have hc : c < w.heap.size := by
   rcases Nat.lt_or_ge c w.heap.size with h' | h'
   ·exact h'
   ·rw [S.fresh c h'] at h; cases h
  exact ⟨heap_alloc_lt w o hc, (K.own c (Nat.ne_of_lt hc)).trans h⟩
 size := K.later.size
 os := rfl
 tape := rfl
 output := rfl
 la := hla
 lb := hlb
theorem sim_grow (S : Sim kp cx m w) {w' : World} (hs : w.heap.size ≤ w'.heap.size) (hh : ∀ c, c < w.heap.size → w'.heap[c]? = w.heap[c]?) (ho : w'.os = w.os) (ht : w'.tape = w.tape) (hp : w'.output = w.output) :
  Sim kp cx m w' ∧ Ev m.A.length cx m w cx m w' := by
 have K : Keep w.heap.size cx.nb cx w cx w' := ⟨⟨Nat.le_refl _, fun _ _ => ⟨Nat.le_refl _, fun _ => rfl⟩, fun _ _ h => h, fun c hc h => ⟨hh c hc, h⟩, hs⟩, fun c _ hc => hh c hc, fun _ _ => rfl, fun _ _ _ => ⟨rfl, rfl⟩, fun h => absurd h (Nat.lt_irrefl _)⟩
 have hlt : ∀ c, cx.own c ≠ .non → c < w.heap.size := fun c h => by
  rcases Nat.lt_or_ge c w.heap.size with h' | h'
  ·exact h'
  ·exact absurd (S.fresh c h') h
 refine ⟨⟨fun i cs h => ?_, S.fa, fun b x h => ?_, S.nb, S.fo, fun c hc => S.fresh c (by omega), S.la, S.lb, S.kpt K.later.zero⟩, ⟨fun _ _ => rfl, fun _ _ _ => rfl, Nat.le_refl _, Nat.le_refl _, fun _ _ => ⟨Nat.le_refl _, fun _ => rfl⟩, fun _ _ h => h, fun c hc h => ⟨hh c hc, h⟩,
  fun c h => ⟨hh c (hlt c (by rw [h]; simp)), h⟩, fun c h => ⟨hh c (hlt c (by rw [h]; simp)), h⟩, hs, ho, ht, hp, rfl, rfl⟩⟩
 ·have hx := S.A i cs h
  intro c hc
  exact AOk.keep (n := m.A.length) K (fun _ _ _ h => h) (by
   obtain ⟨⟨arr, t, _, h2⟩, _⟩ := hx c hc
   exact VRelL.maxA S.fa cs _ h2) hx rfl (fun h => absurd h (Nat.lt_irrefl _)) c hc
 ·exact BOk.keep (n := m.A.length) K (fun _ _ _ h => h) (BB.hi_le S h) (S.not_nb h) (S.lt_nb h) (S.B b x h) (fun h => absurd h (Nat.lt_irrefl _))
theorem AOk.max {la i : Nat} {cs : List V} {c : Nat} (S : Sim kp cx m w) (h : AOk cx w la i cs) (hc : cx.fa i = some c) : maxAL cs ≤ m.A.length := by
 obtain ⟨⟨arr, t, _, h2⟩, _⟩ := h c hc
 exact VRelL.maxA S.fa cs _ h2
theorem Sim.lt_own (S : Sim kp cx m w) {c : Nat} (h : cx.own c ≠ .non) : c < w.heap.size := by
 rcases Nat.lt_or_ge c w.heap.size with h' | h'
 ·exact h'
 ·exact absurd (S.fresh c h') h
theorem sim_alloc_slot (S : Sim kp cx m w) {i : Nat} {z : List V} (hz : m.A[i]? = some z) (hi : cx.fa i = none) (hla : m.la ≤ i) (arr : Array Value) (t : TypeId) (hr : VRelL cx w z arr.toList) :
  ∃ cx', cx'.fa i = some w.heap.size ∧ (∀ k, k ≠ i → cx'.fa k = cx.fa k) ∧ Sim kp cx' m (w.alloc (.cells arr t)) ∧ Keep w.heap.size cx.nb cx w cx' (w.alloc (.cells arr t)) := by
 refine ⟨{ cx with fa := fun k => if k = i then some w.heap.size else cx.fa k, own := fun c => if c = w.heap.size then .a i else cx.own c }, by simp, fun k hk => by simp [hk], ?_, ?_⟩
 case refine_2 => exact keep_alloc _ (Nat.le_refl _) (fun _ _ => ⟨rfl, rfl⟩) (fun _ _ h => h) (fun c hc => by simp [hc])
 have K : Keep w.heap.size cx.nb cx w { cx with fa := fun k => if k = i then some w.heap.size else cx.fa k, own := fun c => if c = w.heap.size then .a i else cx.own c } (w.alloc (.cells arr t)) :=
  keep_alloc _ (Nat.le_refl _) (fun _ _ => ⟨rfl, rfl⟩) (fun _ _ h => h) (fun c hc => by simp [hc])
 have hfa : ∀ (k c : Nat), k < m.A.length → cx.fa k = some c → (if k = i then some w.heap.size else cx.fa k) = some c := fun k c _ hk => by
  by_cases e : k = i
  ·subst e; rw [hi] at hk; cases hk
  ·simp [e, hk]
 refine ⟨fun k cs h => ?_, fun k c h => ?_, fun b x h => ?_, S.nb, S.fo, fun c hc => ?_, S.la, S.lb, S.kpt K.later.zero⟩
 ·by_cases e : k = i
  ·subst e
   intro c hc
   simp only [if_true] at hc
   injection hc with hc
   subst hc
   rw [hz] at h
   injection h with h
   subst h
   refine ⟨⟨arr, t, heap_alloc_new w _, VRelL.on (n := m.A.length) K.later hfa _ _ (VRelL.maxA S.fa _ _ hr) hr⟩, ?_⟩
   simp only [if_true, ownA]
   rw [if_neg (by omega)]
  ·have hx := S.A k cs h
   intro c hc
   have hc' : cx.fa k = some c := by simpa [e] using hc
   exact AOk.keep (n := m.A.length) K hfa (AOk.max S hx hc') hx (by simp [e]) (fun h => absurd h (Nat.lt_irrefl _)) c hc
 ·by_cases e : k = i
  ·subst e
   exact (List.getElem?_eq_some_iff.1 hz).1
  ·exact S.fa k c (by simpa [e] using h)
 ·exact BOk.keep (n := m.A.length) K hfa (BB.hi_le S h) (S.not_nb h) (S.lt_nb h) (S.B b x h) (fun h => absurd h (Nat.lt_irrefl _))
 ·have : w.heap.size + 1 ≤ c := by simpa using hc
  simp only
  rw [if_neg (by omega)]
  exact S.fresh c (by omega)
theorem sim_push_A (S : Sim kp cx m w) (cs : List V) (arr : Array Value) (t : TypeId) (hr : VRelL cx w cs arr.toList) :
  ∃ cx', cx'.fa m.A.length = some w.heap.size ∧ Sim kp cx' { m with A := m.A ++ [cs], hi := max m.hi (maxAL cs) } (w.alloc (.cells arr t)) ∧
   Ev m.A.length cx m w cx' { m with A := m.A ++ [cs], hi := max m.hi (maxAL cs) } (w.alloc (.cells arr t)) := by
 have hno : cx.fa m.A.length = none := by
  cases h : cx.fa m.A.length with
  | none => rfl
  | some c => exact absurd (S.fa _ c h) (Nat.lt_irrefl _)
 refine ⟨{ cx with fa := fun k => if k = m.A.length then some w.heap.size else cx.fa k, own := fun c => if c = w.heap.size then .a m.A.length else cx.own c }, by simp, ?_⟩
 have K : Keep w.heap.size cx.nb cx w { cx with fa := fun k => if k = m.A.length then some w.heap.size else cx.fa k, own := fun c => if c = w.heap.size then .a m.A.length else cx.own c } (w.alloc (.cells arr t)) :=
  keep_alloc _ (Nat.le_refl _) (fun _ _ => ⟨rfl, rfl⟩) (fun _ _ h => h) (fun c hc => by simp [hc])
 have hfa : ∀ (k c : Nat), k < m.A.length → cx.fa k = some c → (if k = m.A.length then some w.heap.size else cx.fa k) = some c := fun k c hk h => by
  rw [if_neg (by omega)]; exact h
 refine ⟨⟨fun k xs h => ?_, fun k c h => ?_, fun b x h => ?_, S.nb, S.fo, fun c hc => ?_, by simp; have := S.la; omega, S.lb, S.kpt K.later.zero⟩, ev_alloc S K (fun i hi => by simp only; rw [if_neg (by omega)]) (by simp) (fun i hi _ => by
  simp only
  rw [List.getElem?_append_left hi]) rfl rfl⟩
 ·by_cases e : k = m.A.length
  ·subst e
   have hx : xs = cs := by simpa using h.symm
   subst hx
   intro c hc
   simp only [if_true] at hc
   injection hc with hc
   subst hc
   refine ⟨⟨arr, t, heap_alloc_new w _, VRelL.on (n := m.A.length) K.later hfa _ _ (VRelL.maxA S.fa _ _ hr) hr⟩, ?_⟩
   simp only [if_true, ownA]
   rw [if_neg (by have := S.la; omega)]
  ·have hk : k < m.A.length := by
    have := (List.getElem?_eq_some_iff.1 h).1
    simp at this
    omega
   have h' : m.A[k]? = some xs := by simpa [List.getElem?_append_left hk] using h
   have hx := S.A k xs h'
   intro c hc
   have hc' : cx.fa k = some c := by simpa [e] using hc
   exact AOk.keep (n := m.A.length) K hfa (AOk.max S hx hc') hx (by simp [e]) (fun h => absurd h (Nat.lt_irrefl _)) c hc
 ·simp only [List.length_append, List.length_singleton]
  by_cases e : k = m.A.length
  ·omega
  ·have := S.fa k c (by simpa [e] using h)
   omega
 ·exact BOk.keep (n := m.A.length) K hfa (BB.hi_le S h) (S.not_nb h) (S.lt_nb h) (S.B b x h) (fun h => absurd h (Nat.lt_irrefl _))
 ·have : w.heap.size + 1 ≤ c := by simpa using hc
  simp only
  rw [if_neg (by omega)]
  exact S.fresh c (by omega)
theorem sim_push_B (S : Sim kp cx m w) (sz : Nat) (pu : Bool) (cs : List V) (hp : pu = true → pureL cs = true) (hi : Nat) (arr : Array Value) (t : TypeId) (hl : cs.length ≤ arr.size) (hr : VRelL cx w cs (arr.toList.take cs.length)) :
  ∃ cx', cx'.nb = cx.nb + 1 ∧ cx'.vb m.B.length = 0 ∧ cx'.fb m.B.length = (w.heap.size, sz, arr.size) ∧ Sim kp cx' { m with B := m.B ++ [.cells sz 0 pu false cs], hi := hi } (w.alloc (.cells arr t)) ∧
   Ev m.A.length cx m w cx' { m with B := m.B ++ [.cells sz 0 pu false cs], hi := hi } (w.alloc (.cells arr t)) := by
 refine ⟨{ cx with nb := cx.nb + 1, vb := fun b => if b = m.B.length then 0 else cx.vb b, fb := fun b => if b = m.B.length then (w.heap.size, sz, arr.size) else cx.fb b, own := fun c => if c = w.heap.size then .b m.B.length else cx.own c }, rfl, by simp, by simp, ?_⟩
 have K : Keep w.heap.size cx.nb cx w { cx with nb := cx.nb + 1, vb := fun b => if b = m.B.length then 0 else cx.vb b, fb := fun b => if b = m.B.length then (w.heap.size, sz, arr.size) else cx.fb b, own := fun c => if c = w.heap.size then .b m.B.length else cx.own c } (w.alloc (.cells arr t)) :=
  keep_alloc _ (by simp) (fun b hb => by
   have : b ≠ m.B.length := by rw [S.nb] at hb; omega
   simp [this]) (fun _ _ h => h) (fun c hc => by simp [hc])
 refine ⟨⟨fun k xs h => ?_, S.fa, fun b x h => ?_, by simp [S.nb], fun b c h => ?_, fun c hc => ?_, S.la, by simp; have := S.lb; omega, S.kpt K.later.zero⟩, ev_alloc S K (fun i hi => rfl) (Nat.le_refl _) (fun i hi _ => rfl) rfl rfl⟩
 ·have hx := S.A k xs h
  intro c hc
  exact AOk.keep (n := m.A.length) K (fun _ _ _ h => h) (AOk.max S hx hc) hx rfl (fun h => absurd h (Nat.lt_irrefl _)) c hc
 ·by_cases e : b = m.B.length
  ·subst e
   have hx : x = .cells sz 0 pu false cs := by simpa using h.symm
   subst hx
   simp only [BOk, if_true]
   refine ⟨trivial, trivial, ?_, hp, arr, t, heap_alloc_new w _, rfl, hl, VRelL.on (n := m.A.length) K.later (fun _ _ _ h => h) _ _ (VRelL.maxA S.fa _ _ hr) hr⟩
   simp only [ownB, Bool.false_eq_true, if_false]
   rw [if_neg (by have := S.lb; omega)]
  ·have hb : b < m.B.length := by
    have := (List.getElem?_eq_some_iff.1 h).1
    simp at this
    omega
   have h' : m.B[b]? = some x := by simpa [List.getElem?_append_left hb] using h
   exact BOk.keep (n := m.A.length) K (fun _ _ _ h => h) (BB.hi_le S h') (S.not_nb h') (S.lt_nb h') (S.B b x h') (fun h => absurd h (Nat.lt_irrefl _))
 ·simp only [List.length_append, List.length_singleton]
  have := S.fo b c h
  omega
 ·have : w.heap.size + 1 ≤ c := by simpa using hc
  simp only
  rw [if_neg (by omega)]
  exact S.fresh c (by omega)
theorem sim_push_O (S : Sim kp cx m w) (x : BB) (hi : Nat) (o : Obj)
  (hx : ∀ cx', cx'.fo m.B.length = some w.heap.size → cx'.own w.heap.size = .o m.B.length → Later cx w cx' (w.alloc o) → cx'.fa = cx.fa → (w.alloc o).heap[w.heap.size]? = some o → BOk cx' (w.alloc o) m.lb m.B.length x) :
  ∃ cx', cx'.fo m.B.length = some w.heap.size ∧ Sim kp cx' { m with B := m.B ++ [x], hi := hi } (w.alloc o) ∧
   Ev m.A.length cx m w cx' { m with B := m.B ++ [x], hi := hi } (w.alloc o) := by
 refine ⟨{ cx with nb := cx.nb + 1, fo := fun b => if b = m.B.length then some w.heap.size else cx.fo b, own := fun c => if c = w.heap.size then .o m.B.length else cx.own c }, by simp, ?_⟩
 have K : Keep w.heap.size cx.nb cx w { cx with nb := cx.nb + 1, fo := fun b => if b = m.B.length then some w.heap.size else cx.fo b, own := fun c => if c = w.heap.size then .o m.B.length else cx.own c } (w.alloc o) :=
  keep_alloc _ (by simp) (fun b hb => ⟨rfl, rfl⟩) (fun b c h => by
   have : b ≠ m.B.length := Nat.ne_of_lt (S.fo b c h)
   simp [this, h]) (fun c hc => by simp [hc])
 refine ⟨⟨fun k xs h => ?_, S.fa, fun b y h => ?_, by simp [S.nb], fun b c h => ?_, fun c hc => ?_, S.la, by simp; have := S.lb; omega, S.kpt K.later.zero⟩, ev_alloc S K (fun i hi => rfl) (Nat.le_refl _) (fun i hi _ => rfl) rfl rfl⟩
 ·have hx := S.A k xs h
  intro c hc
  exact AOk.keep (n := m.A.length) K (fun _ _ _ h => h) (AOk.max S hx hc) hx rfl (fun h => absurd h (Nat.lt_irrefl _)) c hc
 ·by_cases e : b = m.B.length
  ·subst e
   have hy : y = x := by simpa using h.symm
   subst hy
   exact hx _ (by simp) (by simp) K.later rfl (heap_alloc_new w _)
  ·have hb : b < m.B.length := by
    have := (List.getElem?_eq_some_iff.1 h).1
    simp at this
    omega
   have h' : m.B[b]? = some y := by simpa [List.getElem?_append_left hb] using h
   exact BOk.keep (n := m.A.length) K (fun _ _ _ h => h) (BB.hi_le S h') (S.not_nb h') (S.lt_nb h') (S.B b y h') (fun h => absurd h (Nat.lt_irrefl _))
 ·simp only [List.length_append, List.length_singleton]
  by_cases e : b = m.B.length
  ·omega
  ·have := S.fo b c (by simpa [e] using h)
   omega
 ·have : w.heap.size + 1 ≤ c := by simpa using hc
  simp only
  rw [if_neg (by omega)]
  exact S.fresh c (by omega)
end alloc
end Go.Proofs.YtpdgbhjhodhkiaaGreatDoor.AI
namespace Go.Proofs.YtpdgbhjhodhkiaaGreatDoor.AI
open Go
variable {kp : Kp}
def putO (w : World) (c : Nat) (o : Obj) : World := { w with heap := w.heap.setIfInBounds c o }
section
variable {w : World} {c : Nat} {o o' : Obj}
theorem putO_same (h : c < w.heap.size) : (putO w c o).heap[c]? = some o := by simp [putO, h]
theorem putO_other {k : Nat} (h : k ≠ c) : (putO w c o).heap[k]? = w.heap[k]? := by
 simp only [putO, Array.getElem?_setIfInBounds]
 rw [if_neg (by omega)]
theorem putO_size : (putO w c o).heap.size = w.heap.size := by simp [putO]
theorem putO_putO : putO (putO w c o) c o' = putO w c o' := by simp [putO]
theorem putO_self (h : w.heap[c]? = some o) : putO w c o = w := by
 have : w.heap.setIfInBounds c o = w.heap := by
  apply Array.ext_getElem?
  intro i
  rw [Array.getElem?_setIfInBounds]
  split
  ·rename_i e
   subst e
   split
   ·exact h.symm
   ·rename_i hn
    exact absurd (lt_of_heap h) hn
  ·rfl
 simp [putO, this]
theorem setCell_put {arr : Array Value} {t : TypeId} (h : w.heap[c]? = some (.cells arr t (0, 0))) (off : Nat) (v : Value) :
  w.setCell ⟨c, off, none⟩ v = putO w c (.cells (arr.setIfInBounds off v) t (0, 0)) := by
 unfold World.setCell putO
 congr 1
 apply Array.ext_getElem?
 intro i
 rw [Array.getElem?_modify, Array.getElem?_setIfInBounds]
 by_cases e : c = i
 ·subst e
  simp only [if_true, h, Option.map_some]
  rw [if_pos (lt_of_heap h)]
  simp
 ·rw [if_neg e, if_neg e]
theorem cell_block {arr : Array Value} {t : TypeId} {fr : Nat × Nat} (h : w.heap[c]? = some (.cells arr t fr)) (off : Nat) : w.cell? ⟨c, off, none⟩ = arr[off]? := by
 simp [World.cell?, h]
end
theorem add_none (b off n : Nat) : (⟨b, off, none⟩ : Addr).add n = ⟨b, off + n, none⟩ := by
 unfold Addr.add
 split
 ·subst_vars; rfl
 ·rfl
theorem set_take_drop {α : Type} (l : List α) (k : Nat) (v : α) (vs : List α) (h : k < l.length) :
  (l.set k v).take (k + 1) ++ vs ++ (l.set k v).drop (k + 1 + vs.length) = l.take k ++ (v :: vs) ++ l.drop (k + (vs.length + 1)) := by
 have h1 : (l.set k v).take (k + 1) = l.take k ++ [v] := by
  rw [List.take_succ_eq_append_getElem (by simpa using h), List.take_set_of_le (Nat.le_refl _)]
  simp
 have h2 : (l.set k v).drop (k + 1 + vs.length) = l.drop (k + (vs.length + 1)) := by
  rw [List.drop_set_of_lt (by omega)]
  congr 1
  omega
 rw [h1, h2]
 simp
theorem run_storeCells_at {P : Program} : ∀ (vs : List Value) (w : World) (c off i : Nat) (arr : Array Value) (t : TypeId), w.heap[c]? = some (.cells arr t (0, 0)) → off + i + vs.length ≤ arr.size →
  (∀ (k : Nat) (v : Value), vs[k]? = some v → v.oneCell' = true) →
  ∃ arr' : Array Value, arr'.toList = arr.toList.take (off + i) ++ vs ++ arr.toList.drop (off + i + vs.length) ∧ (storeCells ⟨c, off, none⟩ vs i).run P w = .ok () (putO w c (.cells arr' t (0, 0)))
 | [], w, c, off, i, arr, t, h, _, _ => ⟨arr, by simp, by simp [storeCells, putO_self h]⟩
 | v :: vs, w, c, off, i, arr, t, h, hl, hv => by
  simp only [List.length_cons] at hl
  have hlt : off + i < arr.size := by omega
  have hc : w.cell? ⟨c, off + i, none⟩ = some arr[off + i] := by rw [cell_block h]; exact Array.getElem?_eq_getElem hlt
  have hf : w.frozen? ⟨c, off + i, none⟩ = false := frozen_of_row w c (off + i) arr t h
  have hs := run_store P w ⟨c, off + i, none⟩ v .plain (hv 0 v (by simp))
  simp only [hc, hf] at hs
  rw [setCell_put h] at hs
  have h2 : (putO w c (.cells (arr.setIfInBounds (off + i) v) t (0, 0))).heap[c]? = some (.cells (arr.setIfInBounds (off + i) v) t (0, 0)) := putO_same (lt_of_heap h)
  obtain ⟨arr', e, hr⟩ := run_storeCells_at (P := P) vs _ c off (i + 1) _ t h2 (by simp; omega) (fun k u hu => hv (k + 1) u (by simpa using hu))
  refine ⟨arr', ?_, ?_⟩
  ·rw [e]
   simp only [Array.toList_setIfInBounds, List.length_cons]
   rw [show off + (i + 1) = off + i + 1 from by omega]
   exact set_take_drop _ _ _ _ (by simpa using hlt)
  ·simp only [storeCells, add_none, Sem.run_bind, hs]
   simp only [Bool.false_eq_true, if_false, Result.andThen_ok]
   rw [hr, putO_putO]
theorem run_storeCells_block {P : Program} (vs : List Value) (w : World) (c off : Nat) (arr : Array Value) (t : TypeId) (h : w.heap[c]? = some (.cells arr t (0, 0))) (hl : off + vs.length ≤ arr.size)
  (hv : ∀ (k : Nat) (v : Value), vs[k]? = some v → v.oneCell' = true) :
  ∃ arr' : Array Value, arr'.toList = arr.toList.take off ++ vs ++ arr.toList.drop (off + vs.length) ∧ arr'.size = arr.size ∧ (storeCells ⟨c, off, none⟩ vs).run P w = .ok () (putO w c (.cells arr' t (0, 0))) := by
 obtain ⟨arr', e, hr⟩ := run_storeCells_at (P := P) vs w c off 0 arr t h (by simpa using hl) hv
 refine ⟨arr', by simpa using e, ?_, hr⟩
 have := congrArg List.length e
 simp at this
 omega
section
variable {cx cx' : Cx} {m : Mem} {w : World}
theorem keep_put (b0 c : Nat) (o : Obj) (hn : cx.own c ≠ .non ∧ cx.own c ≠ .prot ∧ cx.own c ≠ .dm) (hnb : cx'.nb = cx.nb) (hfo : cx'.fo = cx.fo) (hown : cx'.own = cx.own)
  (hvb : ∀ b, b ≠ b0 → cx'.vb b = cx.vb b ∧ cx'.fb b = cx.fb b) (hv0 : b0 < cx.nb → cx.vb b0 ≤ cx'.vb b0 ∧ (cx'.vb b0 = cx.vb b0 → cx'.fb b0 = cx.fb b0)) : Keep c b0 cx w cx' (putO w c o) where
 later := ⟨by rw [hnb]; exact Nat.le_refl _, fun b hb => by
  by_cases e : b = b0
  ·subst e; exact hv0 hb
  ·exact ⟨by rw [(hvb b e).1]; exact Nat.le_refl _, fun _ => (hvb b e).2⟩, fun b c h => by rw [hfo]; exact h, fun k hk h => ⟨putO_other (fun e => by subst e; exact hn.1 h), by rw [hown]; exact h⟩, by rw [putO_size]; exact Nat.le_refl _⟩
 heap k hk _ := putO_other hk
 own k _ := by rw [hown]
 vb b hb _ := hvb b hb
 ok _ := hn
theorem ev_put {m' : Mem} {b0 c : Nat} {o : Obj} (K : Keep c b0 cx w cx' (putO w c o)) (hc : c < w.heap.size) (hfa : cx'.fa = cx.fa) (hA : m.A.length ≤ m'.A.length)
  (hun : ∀ i, i < m.A.length → cx.fa i = none → m'.A[i]? = m.A[i]?) (hla : m'.la = m.la) (hlb : m'.lb = m.lb) : Ev m.A.length cx m w cx' m' (putO w c o) where
 fa i hi := by rw [hfa]
 un := hun
 ln := hA
 nb := K.later.nb
 vb := K.later.vb
 fo := K.later.fo
 non := K.later.non
 prot k h := by
  have e : k ≠ c := fun e => by subst e; exact (K.ok hc).2.1 h
  exact ⟨putO_other e, (K.own k e).trans h⟩
 dm k h := by
  have e : k ≠ c := fun e => by subst e; exact (K.ok hc).2.2 h
  exact ⟨putO_other e, (K.own k e).trans h⟩
 size := K.later.size
 os := rfl
 tape := rfl
 output := rfl
 la := hla
 lb := hlb
theorem sim_set_A (S : Sim kp cx m w) {i c : Nat} {old cs : List V} {arr arr' : Array Value} {t : TypeId} (hi : m.A[i]? = some old) (hc : cx.fa i = some c) (hla : m.la ≤ i) (ha : w.heap[c]? = some (.cells arr t (0, 0)))
  (hr : VRelL cx w cs arr'.toList) (h : Nat) :
  Sim kp cx { m with A := m.A.set i cs, hi := h } (putO w c (.cells arr' t (0, 0))) ∧ Ev m.A.length cx m w cx { m with A := m.A.set i cs, hi := h } (putO w c (.cells arr' t (0, 0))) := by
 have ho : cx.own c = .a i := by
  have := (S.A i old hi c hc).2
  rw [this, ownA, if_neg (by omega)]
 have K : Keep c cx.nb cx w cx (putO w c (.cells arr' t (0, 0))) := keep_put cx.nb c _ (by rw [ho]; simp) rfl rfl rfl (fun _ _ => ⟨rfl, rfl⟩) (fun h => absurd h (Nat.lt_irrefl _))
 refine ⟨⟨fun k xs hk => ?_, fun k d hd => by simpa using S.fa k d hd, fun b x hb => ?_, S.nb, S.fo, fun k hk => S.fresh k (by rw [← putO_size (w := w) (c := c) (o := .cells arr' t (0, 0))]; exact hk), by simpa using S.la, S.lb, S.kpt K.later.zero⟩,
  ev_put K (lt_of_heap ha) rfl (by simp) (fun k hk hn => by
   have : k ≠ i := fun e => by subst e; rw [hc] at hn; cases hn
   simp only
   rw [List.getElem?_set_ne (Ne.symm this)]) rfl rfl⟩
 ·by_cases e : k = i
  ·subst e
   intro d hd
   rw [hc] at hd
   injection hd with hd
   subst hd
   have hlt := (List.getElem?_eq_some_iff.1 hi).1
   simp only [List.getElem?_set_self hlt] at hk
   injection hk with hk
   subst hk
   exact ⟨⟨arr', t, putO_same (lt_of_heap ha), VRelL.on (n := m.A.length) K.later (fun _ _ _ h => h) _ _ (VRelL.maxA S.fa _ _ hr) hr⟩, (S.A k old hi c hc).2⟩
  ·have hk' : m.A[k]? = some xs := by simpa [List.getElem?_set_ne (Ne.symm e)] using hk
   have hx := S.A k xs hk'
   intro d hd
   exact AOk.keep (n := m.A.length) K (fun _ _ _ h => h) (AOk.max S hx hd) hx rfl (fun _ => by rw [ho]; intro e'; injection e' with e'; exact e e'.symm) d hd
 ·exact BOk.keep (n := m.A.length) K (fun _ _ _ h => h) (BB.hi_le S hb) (S.not_nb hb) (S.lt_nb hb) (S.B b x hb) (fun _ => by rw [ho]; simp)
theorem sim_set_B (S : Sim kp cx m w) {b sz ver : Nat} {pu pu' : Bool} {old cs : List V} {arr arr' : Array Value} {t : TypeId} (hb : m.B[b]? = some (.cells sz ver pu false old)) (hlb : m.lb ≤ b)
  (ha : w.heap[(cx.fb b).1]? = some (.cells arr t (0, 0))) (hsz : arr'.size = arr.size) (hl : cs.length ≤ arr.size) (hp : pu' = true → pureL cs = true) (hr : VRelL cx w cs (arr'.toList.take cs.length)) (h : Nat) :
  Sim kp cx { m with B := m.B.set b (.cells sz ver pu' false cs), hi := h } (putO w (cx.fb b).1 (.cells arr' t (0, 0))) ∧
   Ev m.A.length cx m w cx { m with B := m.B.set b (.cells sz ver pu' false cs), hi := h } (putO w (cx.fb b).1 (.cells arr' t (0, 0))) := by
 have hx := S.B b _ hb
 simp only [BOk] at hx
 obtain ⟨h1, h2, h3, h4, arr0, t0, h5, h6, h7, h8⟩ := hx
 rw [ha] at h5
 injection h5 with h5
 injection h5 with h5 _
 subst h5
 have ho : cx.own (cx.fb b).1 = .b b := by rw [h3]; simp only [ownB, Bool.false_eq_true, if_false]; rw [if_neg (by omega)]
 have K : Keep (cx.fb b).1 cx.nb cx w cx (putO w (cx.fb b).1 (.cells arr' t (0, 0))) := keep_put cx.nb _ _ (by rw [ho]; simp) rfl rfl rfl (fun _ _ => ⟨rfl, rfl⟩) (fun h => absurd h (Nat.lt_irrefl _))
 refine ⟨⟨fun k xs hk => ?_, S.fa, fun k x hk => ?_, by simpa using S.nb, fun k d hd => by simpa using S.fo k d hd, fun k hk => S.fresh k (by rw [← putO_size (w := w) (c := (cx.fb b).1) (o := .cells arr' t (0, 0))]; exact hk), S.la, by simpa using S.lb, S.kpt K.later.zero⟩,
  ev_put K (lt_of_heap ha) rfl (Nat.le_refl _) (fun k hk hn => rfl) rfl rfl⟩
 ·have hx := S.A k xs hk
  intro d hd
  exact AOk.keep (n := m.A.length) K (fun _ _ _ h => h) (AOk.max S hx hd) hx rfl (fun _ => by rw [ho]; simp) d hd
 ·by_cases e : k = b
  ·subst e
   have hlt := (List.getElem?_eq_some_iff.1 hb).1
   simp only [List.getElem?_set_self hlt] at hk
   injection hk with hk
   subst hk
   simp only [BOk]
   exact ⟨h1, h2, h3, hp, arr', t, putO_same (lt_of_heap ha), hsz.trans h6, by omega, VRelL.on (n := m.A.length) K.later (fun _ _ _ h => h) _ _ (VRelL.maxA S.fa _ _ hr) hr⟩
  ·have hk' : m.B[k]? = some x := by simpa [List.getElem?_set_ne (Ne.symm e)] using hk
   exact BOk.keep (n := m.A.length) K (fun _ _ _ h => h) (BB.hi_le S hk') (S.not_nb hk') (S.lt_nb hk') (S.B k x hk') (fun _ => by rw [ho]; exact ⟨fun e' => by injection e' with e'; exact e e'.symm, by simp⟩)
theorem sim_bump_B (S : Sim kp cx m w) {b sz ver : Nat} {pu pu' : Bool} {old cs : List V} {arr arr' : Array Value} {t : TypeId} (hb : m.B[b]? = some (.cells sz ver pu false old)) (hlb : m.lb ≤ b)
  (ha : w.heap[(cx.fb b).1]? = some (.cells arr t (0, 0))) (hsz : arr'.size = arr.size) (hl : cs.length ≤ arr.size) (hp : pu' = true → pureL cs = true) (hr : VRelL cx w cs (arr'.toList.take cs.length)) (h : Nat) :
  ∃ cx', cx'.nb = cx.nb ∧ cx'.vb b = ver + 1 ∧ cx'.fb b = cx.fb b ∧ Sim kp cx' { m with B := m.B.set b (.cells sz (ver + 1) pu' false cs), hi := h } (putO w (cx.fb b).1 (.cells arr' t (0, 0))) ∧
   Ev m.A.length cx m w cx' { m with B := m.B.set b (.cells sz (ver + 1) pu' false cs), hi := h } (putO w (cx.fb b).1 (.cells arr' t (0, 0))) := by
 have hx := S.B b _ hb
 simp only [BOk] at hx
 obtain ⟨h1, h2, h3, h4, arr0, t0, h5, h6, h7, h8⟩ := hx
 rw [ha] at h5
 injection h5 with h5
 injection h5 with h5 _
 subst h5
 have ho : cx.own (cx.fb b).1 = .b b := by rw [h3]; simp only [ownB, Bool.false_eq_true, if_false]; rw [if_neg (by omega)]
 refine ⟨{ cx with vb := fun k => if k = b then ver + 1 else cx.vb k }, rfl, by simp, rfl, ?_⟩
 have K : Keep (cx.fb b).1 b cx w { cx with vb := fun k => if k = b then ver + 1 else cx.vb k } (putO w (cx.fb b).1 (.cells arr' t (0, 0))) :=
  keep_put b _ _ (by rw [ho]; simp) rfl rfl rfl (fun k hk => by simp [hk]) (fun _ => ⟨by simp only [if_true]; omega, fun _ => rfl⟩)
 refine ⟨⟨fun k xs hk => ?_, S.fa, fun k x hk => ?_, by simpa using S.nb, fun k d hd => by simpa using S.fo k d hd, fun k hk => S.fresh k (by rw [← putO_size (w := w) (c := (cx.fb b).1) (o := .cells arr' t (0, 0))]; exact hk), S.la, by simpa using S.lb, S.kpt K.later.zero⟩,
  ev_put K (lt_of_heap ha) rfl (Nat.le_refl _) (fun k hk hn => rfl) rfl rfl⟩
 ·have hx := S.A k xs hk
  intro d hd
  exact AOk.keep (n := m.A.length) K (fun _ _ _ h => h) (AOk.max S hx hd) hx rfl (fun _ => by rw [ho]; simp) d hd
 ·by_cases e : k = b
  ·subst e
   have hlt := (List.getElem?_eq_some_iff.1 hb).1
   simp only [List.getElem?_set_self hlt] at hk
   injection hk with hk
   subst hk
   simp only [BOk, if_true]
   exact ⟨trivial, h2, h3, hp, arr', t, putO_same (lt_of_heap ha), hsz.trans h6, by omega, VRelL.on (n := m.A.length) K.later (fun _ _ _ h => h) _ _ (VRelL.maxA S.fa _ _ hr) hr⟩
  ·have hk' : m.B[k]? = some x := by simpa [List.getElem?_set_ne (Ne.symm e)] using hk
   exact BOk.keep (n := m.A.length) K (fun _ _ _ h => h) (BB.hi_le S hk') e (S.lt_nb hk') (S.B k x hk') (fun _ => by rw [ho]; exact ⟨fun e' => by injection e' with e'; exact e e'.symm, by simp⟩)
theorem sim_move_B (S : Sim kp cx m w) {b sz ver : Nat} {pu pu' : Bool} {old cs : List V} (arr' : Array Value) (t : TypeId) (hb : m.B[b]? = some (.cells sz ver pu false old)) (hlb : m.lb ≤ b)
  (hl : cs.length ≤ arr'.size) (hp : pu' = true → pureL cs = true) (hr : VRelL cx w cs (arr'.toList.take cs.length)) (h : Nat) :
  ∃ cx', cx'.nb = cx.nb ∧ cx'.vb b = ver + 1 ∧ cx'.fb b = (w.heap.size, sz, arr'.size) ∧ Sim kp cx' { m with B := m.B.set b (.cells sz (ver + 1) pu' false cs), hi := h } (w.alloc (.cells arr' t)) ∧
   Ev m.A.length cx m w cx' { m with B := m.B.set b (.cells sz (ver + 1) pu' false cs), hi := h } (w.alloc (.cells arr' t)) := by
 have hx := S.B b _ hb
 simp only [BOk] at hx
 obtain ⟨h1, h2, h3, h4, arr0, t0, h5, h6, h7, h8⟩ := hx
 refine ⟨{ cx with vb := fun k => if k = b then ver + 1 else cx.vb k, fb := fun k => if k = b then (w.heap.size, sz, arr'.size) else cx.fb k, own := fun c => if c = w.heap.size then .b b else cx.own c }, rfl, by simp, by simp, ?_⟩
 have K : Keep w.heap.size b cx w { cx with vb := fun k => if k = b then ver + 1 else cx.vb k, fb := fun k => if k = b then (w.heap.size, sz, arr'.size) else cx.fb k, own := fun c => if c = w.heap.size then .b b else cx.own c } (w.alloc (.cells arr' t)) :=
  { later := ⟨Nat.le_refl _, fun k hk => by
     by_cases e : k = b
     ·subst e
      exact ⟨by simp only [if_true]; omega, fun e => by simp only [if_true] at e; omega⟩
     ·simp [e], fun _ _ h => h, fun c hc h => ⟨heap_alloc_lt w _ hc, by simp [Nat.ne_of_lt hc, h]⟩, by simp⟩
    heap := fun c _ hc => heap_alloc_lt w _ hc
    own := fun c hc => by simp [hc]
    vb := fun k hk _ => by simp [hk]
    ok := fun h => absurd h (Nat.lt_irrefl _) }
 refine ⟨⟨fun k xs hk => ?_, S.fa, fun k x hk => ?_, by simpa using S.nb, fun k d hd => by simpa using S.fo k d hd, fun c hc => ?_, S.la, by simpa using S.lb, S.kpt K.later.zero⟩, ev_alloc S K (fun i hi => rfl) (Nat.le_refl _) (fun i hi _ => rfl) rfl rfl⟩
 ·have hx := S.A k xs hk
  intro d hd
  exact AOk.keep (n := m.A.length) K (fun _ _ _ h => h) (AOk.max S hx hd) hx rfl (fun h => absurd h (Nat.lt_irrefl _)) d hd
 ·by_cases e : k = b
  ·subst e
   have hlt := (List.getElem?_eq_some_iff.1 hb).1
   simp only [List.getElem?_set_self hlt] at hk
   injection hk with hk
   subst hk
   simp only [BOk, if_true]
   refine ⟨trivial, trivial, ?_, hp, arr', t, heap_alloc_new w _, rfl, hl, VRelL.on (n := m.A.length) K.later (fun _ _ _ h => h) _ _ (VRelL.maxA S.fa _ _ hr) hr⟩
   simp only [ownB, Bool.false_eq_true, if_false]
   rw [if_neg (by omega)]
  ·have hk' : m.B[k]? = some x := by simpa [List.getElem?_set_ne (Ne.symm e)] using hk
   exact BOk.keep (n := m.A.length) K (fun _ _ _ h => h) (BB.hi_le S hk') e (S.lt_nb hk') (S.B k x hk') (fun h => absurd h (Nat.lt_irrefl _))
 ·have : w.heap.size + 1 ≤ c := by simpa using hc
  simp only
  rw [if_neg (by omega)]
  exact S.fresh c (by omega)
theorem sim_set_O (S : Sim kp cx m w) {b c : Nat} {x y : BB} {o : Obj} (hb : m.B[b]? = some x) (hlb : m.lb ≤ b) (hc : cx.fo b = some c) (hoc : cx.own c = ownO m.lb b) (hlt : c < w.heap.size)
  (hy : Later cx w cx (putO w c o) → (putO w c o).heap[c]? = some o → BOk cx (putO w c o) m.lb b y) (h : Nat) :
  Sim kp cx { m with B := m.B.set b y, hi := h } (putO w c o) ∧ Ev m.A.length cx m w cx { m with B := m.B.set b y, hi := h } (putO w c o) := by
 have ho : cx.own c = .o b := by rw [hoc, ownO, if_neg (by omega)]
 have K : Keep c cx.nb cx w cx (putO w c o) := keep_put cx.nb _ _ (by rw [ho]; simp) rfl rfl rfl (fun _ _ => ⟨rfl, rfl⟩) (fun h => absurd h (Nat.lt_irrefl _))
 refine ⟨⟨fun k xs hk => ?_, S.fa, fun k z hk => ?_, by simpa using S.nb, fun k d hd => by simpa using S.fo k d hd, fun k hk => S.fresh k (by rw [← putO_size (w := w) (c := c) (o := o)]; exact hk), S.la, by simpa using S.lb, S.kpt K.later.zero⟩,
  ev_put K hlt rfl (Nat.le_refl _) (fun k hk hn => rfl) rfl rfl⟩
 ·have hx := S.A k xs hk
  intro d hd
  exact AOk.keep (n := m.A.length) K (fun _ _ _ h => h) (AOk.max S hx hd) hx rfl (fun _ => by rw [ho]; simp) d hd
 ·by_cases e : k = b
  ·subst e
   have hl := (List.getElem?_eq_some_iff.1 hb).1
   simp only [List.getElem?_set_self hl] at hk
   injection hk with hk
   subst hk
   exact hy K.later (putO_same hlt)
  ·have hk' : m.B[k]? = some z := by simpa [List.getElem?_set_ne (Ne.symm e)] using hk
   exact BOk.keep (n := m.A.length) K (fun _ _ _ h => h) (BB.hi_le S hk') (S.not_nb hk') (S.lt_nb hk') (S.B k z hk') (fun _ => by rw [ho]; exact ⟨by simp, fun e' => by injection e' with e'; exact e e'.symm⟩)
end
end Go.Proofs.YtpdgbhjhodhkiaaGreatDoor.AI
set_option linter.unusedSimpArgs false
namespace Go.Proofs.YtpdgbhjhodhkiaaGreatDoor.AI
open Go
variable {kp : Kp}
section runs
variable {P : Program} {w : World} {t : TypeId}
theorem r_info {i : TypeInfo} (h : P.info? t = some i) : (typeInfo t).run P w = .ok i w := by simp [typeInfo, h]
theorem r_und {d : TypeDesc} (h : P.underlying t = some d) : (underlying t).run P w = .ok d w := by simp [underlying, h]
theorem r_size {i : TypeInfo} (h : P.info? t = some i) : (sizeOf t).run P w = .ok i.size w := by simp [sizeOf, r_info h]
theorem r_agg {d : TypeDesc} (h : P.underlying t = some d) : (isAgg t).run P w = .ok (isAggD d) w := by
 simp only [isAgg, Sem.run_bind, r_und h, Result.andThen_ok]
 cases d <;> rfl
theorem r_zero {i : TypeInfo} {z : Value} (h : P.info? t = some i) (hz : i.zero = some z) : (zeroValue t).run P w = .ok z w := by simp [zeroValue, r_info h, hz]
theorem r_cells (a : Addr) (vs : List Value) (h : ∀ (j : Nat) (v : Value), vs[j]? = some v → w.cell? (a.add j) = some v) : (loadCells a vs.length).run P w = .ok vs.toArray w :=
 run_loadCells_list (P := P) w a vs h
end runs
def OpRes (kp : Kp) (P : Program) (cx : Cx) (m : Mem) (w : World) (v : V) (m' : Mem) (s : Sem Value) : Prop :=
 ∃ cv w' cx', s.run P w = .ok cv w' ∧ VRel cx' w' v cv ∧ Sim kp cx' m' w' ∧ Ev m.A.length cx m w cx' m' w'
theorem OpRes.same {P : Program} {cx : Cx} {m : Mem} {w : World} {v : V} {s : Sem Value} (S : Sim kp cx m w) {cv : Value} (h : s.run P w = .ok cv w) (hv : VRel cx w v cv) : OpRes kp P cx m w v m s :=
 ⟨cv, w, cx, h, hv, S, Ev.refl _ _ _ _ (Nat.le_refl _)⟩
section
variable {P : Program} {cx : Cx} {m : Mem} {w : World}
theorem RowRel.list : ∀ {cells : List V} {blk o : Nat}, RowRel cx w cells blk o → ∃ vs : List Value, VRelL cx w cells vs ∧ ∀ (j : Nat) (v : Value), vs[j]? = some v → w.cell? ⟨blk, o + j, none⟩ = some v
 | [], _, _, _ => ⟨[], by simp [VRelL], by simp⟩
 | x :: xs, blk, o, h => by
  simp only [RowRel] at h
  obtain ⟨_, ⟨v, h1, h2⟩, h3⟩ := h
  obtain ⟨vs, h4, h5⟩ := RowRel.list h3
  refine ⟨v :: vs, ⟨h2, h4⟩, fun j u hj => ?_⟩
  cases j with
  | zero => simp at hj; subst hj; simpa using h1
  | succ j =>
   have := h5 j u (by simpa using hj)
   rwa [show o + 1 + j = o + (j + 1) from by omega] at this
theorem sub_some {cs l : List V} {off n : Nat} (h : sub cs off n = some l) : off + n ≤ cs.length ∧ l = (cs.drop off).take n ∧ l.length = n := by
 unfold sub at h
 split at h
 ·rename_i hl
  injection h with h
  refine ⟨hl, h.symm, ?_⟩
  rw [← h]
  simp
  omega
 ·cases h
theorem rd_sound (S : Sim kp cx m w) {p : V} {cp : Value} {n : Nat} {cs : List V} (hp : VRel cx w p cp) (h : rdCells m p n = some cs) :
  ∃ c off vs, cp = .pointer (some ⟨c, off, none⟩) ∧ vs.length = n ∧ VRelL cx w cs vs ∧ ∀ (j : Nat) (v : Value), vs[j]? = some v → w.cell? ⟨c, off + j, none⟩ = some v := by
 cases p <;> simp only [rdCells] at h <;> try cases h
 case ptr i off =>
  simp only [VRel] at hp
  obtain ⟨c, hf, rfl⟩ := hp
  cases hA : m.A[i]? with
  | none => simp [hA] at h
  | some xs =>
   simp only [hA, Option.bind_some] at h
   obtain ⟨h1, rfl, h3⟩ := sub_some h
   obtain ⟨⟨arr, t, h4, h5⟩, _⟩ := S.A i xs hA c hf
   have h6 := VRelL.take n (VRelL.drop off h5)
   refine ⟨c, off, (arr.toList.drop off).take n, rfl, by rw [← h6.length, h3], h6, fun j v hj => ?_⟩
   rw [cell_block h4, ← Array.getElem?_toList]
   rw [List.getElem?_take] at hj
   split at hj
   ·rwa [List.getElem?_drop] at hj
   ·cases hj
 case bptr b ver off =>
  simp only [VRel] at hp
  obtain ⟨h1, h2, h3, h4⟩ := hp
  cases hB : m.B[b]? with
  | none => simp [hB] at h
  | some x =>
   cases x with
   | map _ => simp [hB] at h
   | loop _ _ _ _ _ _ => simp [hB] at h
   | cells sz ver' pu fz xs =>
    simp only [hB] at h
    split at h
    ·rename_i e
     obtain ⟨hl, rfl, hn⟩ := sub_some h
     have hx := S.B b _ hB
     simp only [BOk] at hx
     obtain ⟨k1, _, _, _, arr, t, k5, _, k7, k8⟩ := hx
     have h6 := VRelL.take n (VRelL.drop off k8)
     refine ⟨(cx.fb b).1, off, ((arr.toList.take xs.length).drop off).take n, h4 (by omega), by rw [← h6.length, hn], h6, fun j v hj => ?_⟩
     rw [cell_block k5, ← Array.getElem?_toList]
     rw [List.getElem?_take] at hj
     split at hj
     ·rw [List.getElem?_drop, List.getElem?_take] at hj
      split at hj
      ·exact hj
      ·cases hj
     ·cases hj
    ·cases h
 case rp cells off =>
  simp only [VRel] at hp
  obtain ⟨blk, o, rfl, h2, h3, h4⟩ := hp
  obtain ⟨hl, rfl, hn⟩ := sub_some h
  obtain ⟨vs, h5, h6⟩ := RowRel.list (RowRel.take n (RowRel.drop off (by omega) h4))
  exact ⟨blk, o + off, vs, rfl, by rw [← h5.length, hn], h5, h6⟩
theorem load_sound (S : Sim kp cx m w) {t : TypeId} {p v : V} {cp : Value} (hp : VRel cx w p cp) (h : loadV P m t p = some v) : OpRes kp P cx m w v m (Instr.loadAt t cp) := by
 unfold loadV at h
 cases hi : P.info? t with
 | none => simp [hi] at h
 | some i =>
  cases hd : P.underlying t with
  | none => simp [hi, hd] at h
  | some d =>
   simp only [hi, hd] at h
   split at h
   ·rename_i ha
    cases hr : rdCells m p i.size with
    | none => simp [hr] at h
    | some cs =>
     simp only [hr, Option.map_some] at h
     injection h with h
     subst h
     obtain ⟨c, off, vs, rfl, h1, h2, h3⟩ := rd_sound S hp hr
     refine OpRes.same S (cv := .agg vs.toArray) ?_ ⟨vs.toArray, rfl, by simpa using h2⟩
     have hl := r_cells (P := P) (w := w) ⟨c, off, none⟩ vs (fun j v hj => by rw [add_none]; exact h3 j v hj)
     simp [Instr.loadAt, Instr.sureAddr, loadVar, r_agg hd, ha, r_size hi, ← h1, hl]
   ·rename_i ha
    cases hr : rdCells m p 1 with
    | none => simp [hr] at h
    | some cs =>
     simp only [hr, Option.bind_some] at h
     match cs, h with
     | [x], h =>
      injection h with h
      subst h
      obtain ⟨c, off, vs, rfl, h1, h2, h3⟩ := rd_sound S hp hr
      match vs, h1, h2 with
      | [u], _, h2 =>
       simp only [VRelL] at h2
       have hc := h3 0 u (by simp)
       refine OpRes.same S (cv := u) ?_ h2.1
       simp [Instr.loadAt, Instr.sureAddr, loadVar, r_agg hd, ha]
       rw [show off + 0 = off from rfl] at hc
       simp [hc]
theorem splice_rel {old cs : List V} {vo vs : List Value} (off : Nat) (h : VRelL cx w old vo) (k : VRelL cx w cs vs) : VRelL cx w (splice old off cs) (vo.take off ++ vs ++ vo.drop (off + vs.length)) := by
 unfold splice
 rw [k.length]
 exact VRelL.append (VRelL.append (VRelL.take off h) k) (VRelL.drop _ h)
theorem splice_length {old cs : List V} {off : Nat} (h : off + cs.length ≤ old.length) : (splice old off cs).length = old.length := by
 unfold splice
 simp
 omega
theorem splice_take {old cs : List V} {arr : Array Value} {vs : List Value} {off : Nat} (k8 : VRelL cx w old (arr.toList.take old.length)) (hc : VRelL cx w cs vs) (k7 : old.length ≤ arr.size) (hl : off + cs.length ≤ old.length) :
  VRelL cx w (splice old off cs) ((arr.toList.take off ++ vs ++ arr.toList.drop (off + vs.length)).take old.length) := by
 have hvl : vs.length = cs.length := hc.length.symm
 have e2 : (arr.toList.take off ++ vs ++ arr.toList.drop (off + vs.length)).take old.length = (arr.toList.take old.length).take off ++ vs ++ (arr.toList.take old.length).drop (off + vs.length) := by
  rw [List.append_assoc, List.take_append, List.take_append, List.take_take, List.take_take, List.append_assoc]
  congr 1
  ·congr 1; omega
  ·have h2 : old.length - (List.take off arr.toList).length = old.length - off := by simp; omega
   rw [h2]
   congr 1
   ·exact List.take_of_length_le (by omega)
   ·rw [List.drop_take]
    congr 1
    omega
 rw [e2]
 exact splice_rel off k8 hc
theorem splice_pure {old cs : List V} {off : Nat} (ho : pureL old = true) (hc : pureL cs = true) : pureL (splice old off cs) = true := by
 unfold splice
 rw [pureL_append, pureL_append, Bool.and_eq_true, Bool.and_eq_true]
 refine ⟨⟨pureL_of_get fun k x hk => ?_, hc⟩, pureL_of_get fun k x hk => ?_⟩
 ·rw [List.getElem?_take] at hk
  split at hk
  ·exact pureL_get _ ho hk
  ·cases hk
 ·rw [List.getElem?_drop] at hk
  exact pureL_get _ ho hk
theorem cells_one {cs : List V} {vs : List Value} (h : VRelL cx w cs vs) (hc : cs.all V.cellLike = true) (k : Nat) (v : Value) (hv : vs[k]? = some v) : v.oneCell' = true := by
 have hl := h.length
 have hk : k < cs.length := by rw [hl]; exact (List.getElem?_eq_some_iff.1 hv).1
 obtain ⟨u, hu, hr⟩ := VRelL.get k h (List.getElem?_eq_getElem hk)
 rw [hv] at hu
 injection hu with hu
 subst hu
 exact cellLike_oneCell hr (List.all_eq_true.1 hc _ (List.getElem_mem hk))
theorem wr_sound (S : Sim kp cx m w) {p : V} {cp : Value} {cs : List V} {vs : List Value} {m' : Mem} (hp : VRel cx w p cp) (hc : VRelL cx w cs vs) (h1 : cs.all V.cellLike = true) (h : wrCells m p cs = some m') :
  ∃ a w', cp = .pointer (some a) ∧ (storeCells a vs).run P w = .ok () w' ∧ Sim kp cx m' w' ∧ Ev m.A.length cx m w cx m' w' := by
 cases p <;> simp only [wrCells] at h <;> try cases h
 case ptr i off =>
  simp only [VRel] at hp
  obtain ⟨c, hf, rfl⟩ := hp
  cases hA : m.A[i]? with
  | none => simp [hA] at h
  | some old =>
   simp only [hA] at h
   split at h
   ·rename_i hcond
    injection h with h
    subst h
    obtain ⟨⟨arr, t, h4, h5⟩, _⟩ := S.A i old hA c hf
    have hlen : arr.size = old.length := by have := h5.length; simp at this; exact this.symm
    obtain ⟨arr', e, hsz, hr⟩ := run_storeCells_block (P := P) vs w c off arr t h4 (by rw [← hc.length, hlen]; exact hcond.2) (cells_one hc h1)
    have hrel : VRelL cx w (splice old off cs) arr'.toList := by rw [e]; exact splice_rel off h5 hc
    obtain ⟨S', E'⟩ := sim_set_A S hA hf hcond.1 h4 hrel (max m.hi (maxAL cs))
    exact ⟨_, _, rfl, hr, S', E'⟩
   ·cases h
 case bptr b ver off =>
  simp only [VRel] at hp
  obtain ⟨g1, g2, g3, g4⟩ := hp
  cases hB : m.B[b]? with
  | none => simp [hB] at h
  | some x =>
   cases x with
   | map _ => simp [hB] at h
   | loop _ _ _ _ _ _ => simp [hB] at h
   | cells sz ver' pu fz old =>
    cases fz with
    | true => simp [hB] at h
    | false =>
     simp only [hB] at h
     split at h
     ·rename_i hcond
      injection h with h
      subst h
      have hx := S.B b _ hB
      simp only [BOk] at hx
      obtain ⟨k1, _, _, k4, arr, t, k5, _, k7, k8⟩ := hx
      have hle : off + vs.length ≤ arr.size := by rw [← hc.length]; omega
      obtain ⟨arr', e, hsz, hr⟩ := run_storeCells_block (P := P) vs w (cx.fb b).1 off arr t k5 hle (cells_one hc h1)
      have hspl : (splice old off cs).length = old.length := splice_length hcond.2.2
      have hrel : VRelL cx w (splice old off cs) (arr'.toList.take (splice old off cs).length) := by
       have := splice_rel off k8 hc
       rw [hspl, e]
       have e2 : (arr.toList.take off ++ vs ++ arr.toList.drop (off + vs.length)).take old.length = (arr.toList.take old.length).take off ++ vs ++ (arr.toList.take old.length).drop (off + vs.length) := by
        have hvl : vs.length = cs.length := hc.length.symm
        rw [List.append_assoc, List.take_append, List.take_append, List.take_take, List.take_take, List.append_assoc]
        congr 1
        ·congr 1; omega
        ·have h2 : old.length - (List.take off arr.toList).length = old.length - off := by simp; omega
         rw [h2]
         congr 1
         ·exact List.take_of_length_le (by omega)
         ·rw [List.drop_take]
          congr 1
          omega
       rw [e2]
       exact this
      have hl2 : (splice old off cs).length ≤ arr.size := by rw [hspl]; omega
      obtain ⟨S', E'⟩ := sim_set_B (pu' := pu && pureL cs) S hB hcond.2.1 k5 hsz hl2 (fun hpu => by
       simp only [Bool.and_eq_true] at hpu
       have ho := k4 hpu.1
       unfold splice
       rw [pureL_append, pureL_append, Bool.and_eq_true, Bool.and_eq_true]
       refine ⟨⟨pureL_of_get fun k x hk => ?_, hpu.2⟩, pureL_of_get fun k x hk => ?_⟩
       ·rw [List.getElem?_take] at hk
        split at hk
        ·exact pureL_get _ ho hk
        ·cases hk
       ·rw [List.getElem?_drop] at hk
        exact pureL_get _ ho hk) hrel (max m.hi (maxAL cs))
      exact ⟨_, _, g4 (by omega), hr, S', E'⟩
     ·cases h
theorem store_sound (S : Sim kp cx m w) {t : TypeId} {p x : V} {cp cv : Value} {m' : Mem} (hp : VRel cx w p cp) (hx : VRel cx w x cv) (h : storeV P m t p x = some m') :
  ∃ w', (Instr.storeAt t cp cv).run P w = .ok () w' ∧ Sim kp cx m' w' ∧ Ev m.A.length cx m w cx m' w' := by
 unfold storeV at h
 cases hi : P.info? t with
 | none => simp [hi] at h
 | some i =>
  simp only [hi] at h
  split at h
  ·rename_i hcond
   have hc := cellLike_cells hx hcond.2
   obtain ⟨a, w', rfl, hr, S', E'⟩ := wr_sound (P := P) S hp hc hcond.2 h
   refine ⟨w', ?_, S', E'⟩
   have hsz : cv.cells.size = i.size := by
    have := hc.length
    rw [hcond.1] at this
    simp at this
    exact this.symm
   simp [Instr.storeAt, Instr.sureAddr, storeVar, r_size hi, hsz, hr]
  ·cases h
end
end Go.Proofs.YtpdgbhjhodhkiaaGreatDoor.AI
namespace Go.Proofs.YtpdgbhjhodhkiaaGreatDoor.AI
open Go
variable {kp : Kp}
section
variable {P : Program} {cx : Cx} {m : Mem} {w : World}
theorem ofConst0_rel (v : Value) : VRel cx w (ofConst0 v) v := by
 unfold ofConst0
 split <;> simp [VRel]
theorem map_ofConst0_rel : ∀ (vs : List Value), VRelL cx w (vs.map ofConst0) vs
 | [] => by simp [VRelL]
 | v :: vs => by simp only [List.map_cons, VRelL]; exact ⟨ofConst0_rel v, map_ofConst0_rel vs⟩
theorem ofConst_rel (v : Value) : VRel cx w (ofConst v) v := by
 unfold ofConst
 split
 ·exact ⟨_, rfl, map_ofConst0_rel _⟩
 ·exact ofConst0_rel v
theorem evalO_rel {tm : List V} {a : Act} (h : VRelL cx w tm a.tmps.toList) (o : Operand) : VRel cx w (evalO tm o) (a.eval o) := by
 cases o with
 | tmp t =>
  have := h.getD t
  simpa [evalO, Act.eval, Array.getD_eq_getD_getElem?, List.getD_eq_getElem?_getD] using this
 | const v => exact ofConst_rel v
 | global g => simp [evalO, VRel]
 | func f => simp [evalO, Act.eval, VRel, VRelL]
theorem ofConst0_maxA (v : Value) : V.maxA (ofConst0 v) = 0 := by
 unfold ofConst0
 split <;> simp [V.maxA]
theorem map_ofConst0_maxA : ∀ (vs : List Value), maxAL (vs.map ofConst0) = 0
 | [] => rfl
 | v :: vs => by simp [maxAL, ofConst0_maxA, map_ofConst0_maxA vs]
theorem shift_sound {op : BinOp} {k yk : IntKind} {x y : Int} {v : V} (h : shiftV op k x y = some v) : ∃ cv, (Op.shift op k x yk y).run P w = .ok cv w ∧ VRel cx w v cv := by
 unfold shiftV at h
 split at h
 ·cases h
 ·rename_i hy
  cases op <;> simp only [Option.some.injEq] at h <;> try cases h
  all_goals
   refine ⟨_, ?_, by simp only [VRel]; rfl⟩
   simp [Op.shift, hy]
theorem int_sound {op : BinOp} {k : IntKind} {x y : Int} {v : V} (h : intV op k x y = some v) (t : TypeId) (h1 : op ≠ .shl) (h2 : op ≠ .shr) : ∃ cv, (binOp op t (.int k x) (.int k y)).run P w = .ok cv w ∧ VRel cx w v cv := by
 cases op <;> simp only [intV] at h <;> try cases h
 case quo =>
  split at h
  ·cases h
  ·rename_i hy
   injection h with h; subst h
   exact ⟨_, by simp [binOp, Op.intDiv, hy]; rfl, by simp [VRel]⟩
 case rem =>
  split at h
  ·cases h
  ·rename_i hy
   injection h with h; subst h
   exact ⟨_, by simp [binOp, Op.intDiv, hy]; rfl, by simp [VRel]⟩
 all_goals
  refine ⟨_, ?_, by simp only [VRel]; rfl⟩
  simp [binOp, Op.intArith, Op.intBits, Op.intCmp]
theorem str_sound {op : BinOp} {x y : ByteArray} {v : V} (h : strV op x y = some v) (t : TypeId) : ∃ cv, (binOp op t (.string x) (.string y)).run P w = .ok cv w ∧ VRel cx w v cv := by
 cases op <;> simp only [strV] at h <;> try cases h
 case add =>
  split at h
  ·cases h
  ·rename_i hy
   injection h with h; subst h
   refine ⟨_, ?_, by simp only [VRel]; rfl⟩
   have hm : IntKind.i64.max = 9223372036854775807 := by decide
   simp only [binOp, Op.stringOp, hm]
   rw [if_neg hy]
   rfl
 all_goals
  refine ⟨_, ?_, by simp only [VRel]; rfl⟩
  simp [binOp, Op.stringOp]
theorem eqlIn_sound (n : Nat) {t : TypeId} {d : TypeDesc} {lit : Bool} {x y : V} {cx' cy : Value} {b : Bool} (hd : P.underlying t = some d) (hx : VRel cx w x cx') (hy : VRel cx w y cy) (h : eqlV d lit x y = some b) :
  (Op.equalIn (n + 1) t cx' cy).run P w = .ok b w ∧ (∀ k n, cx' ≠ .int k n) ∧ (∀ s, cx' ≠ .string s) ∧ (∀ k n, cx' ≠ .float k n) ∧ (∀ k a b, cx' ≠ .complex k a b) ∧
   (cx' = .nilIface → cy = .nilIface → lit = true) ∧ (∀ a, cx' ≠ .agg a) := by
 unfold eqlV at h
 split at h <;> try cases h
 all_goals simp only [VRel] at hx hy
 case h_1 =>
  subst hx hy
  exact ⟨by simp [Op.equalIn, r_und hd], by simp⟩
 case h_2 =>
  subst hx hy
  exact ⟨by simp [Op.equalIn, r_und hd], by simp⟩
 case h_3 =>
  obtain ⟨c, _, rfl⟩ := hy
  subst hx
  exact ⟨by simp [Op.equalIn, r_und hd], by simp⟩
 case h_4 =>
  obtain ⟨c, _, rfl⟩ := hx
  subst hy
  exact ⟨by simp [Op.equalIn, r_und hd], by simp⟩
 case h_5 =>
  obtain ⟨_, _, ⟨a, rfl⟩, _⟩ := hy
  subst hx
  exact ⟨by simp [Op.equalIn, r_und hd], by simp⟩
 case h_6 =>
  obtain ⟨_, _, ⟨a, rfl⟩, _⟩ := hx
  subst hy
  exact ⟨by simp [Op.equalIn, r_und hd], by simp⟩
 case h_7 =>
  obtain ⟨_, _, rfl, _⟩ := hy
  subst hx
  exact ⟨by simp [Op.equalIn, r_und hd], by simp⟩
 case h_8 =>
  obtain ⟨_, _, rfl, _⟩ := hx
  subst hy
  exact ⟨by simp [Op.equalIn, r_und hd], by simp⟩
 case h_9 =>
  subst hx hy
  split at h
  ·rename_i hl
   injection h with h
   subst h
   exact ⟨by simp [Op.equalIn, r_und hd], by simp [hl]⟩
  ·cases h
 case h_10 =>
  obtain ⟨u, rfl, _⟩ := hy
  subst hx
  exact ⟨by simp [Op.equalIn, r_und hd], by simp⟩
 case h_11 =>
  obtain ⟨u, rfl, _⟩ := hx
  subst hy
  exact ⟨by simp [Op.equalIn, r_und hd], by simp⟩
 case h_12 =>
  subst hx hy
  exact ⟨by simp [Op.equalIn, r_und hd], by simp⟩
 case h_13 =>
  subst hx hy
  exact ⟨by simp [Op.equalIn, r_und hd], by simp⟩
 case h_14 =>
  obtain ⟨c, _, rfl⟩ := hy
  subst hx
  exact ⟨by simp [Op.equalIn, r_und hd], by simp⟩
 case h_15 =>
  obtain ⟨c, _, rfl⟩ := hx
  subst hy
  exact ⟨by simp [Op.equalIn, r_und hd], by simp⟩
 case h_16 =>
  subst hx hy
  exact ⟨by simp [Op.equalIn, r_und hd], by simp⟩
 case h_17 =>
  obtain ⟨arr, rfl, _⟩ := hy
  subst hx
  exact ⟨by simp [Op.equalIn, r_und hd], by simp⟩
 case h_18 =>
  obtain ⟨arr, rfl, _⟩ := hx
  subst hy
  exact ⟨by simp [Op.equalIn, r_und hd], by simp⟩
theorem eql_sound {t : TypeId} {d : TypeDesc} {lit : Bool} {x y : V} {cx' cy : Value} {b : Bool} (hd : P.underlying t = some d) (hx : VRel cx w x cx') (hy : VRel cx w y cy) (h : eqlV d lit x y = some b) :
  (Op.equal t cx' cy).run P w = .ok b w ∧ (∀ k n, cx' ≠ .int k n) ∧ (∀ s, cx' ≠ .string s) ∧ (∀ k n, cx' ≠ .float k n) ∧ (∀ k a b, cx' ≠ .complex k a b) ∧
   (cx' = .nilIface → cy = .nilIface → lit = true) ∧ (∀ a, cx' ≠ .agg a) :=
 eqlIn_sound 9999 hd hx hy h
theorem guard_in {t : TypeId} {ox oy : Operand} {a b : Value} (h : a = .nilIface → b = .nilIface → (isConstO ox || isConstO oy) = true) (ha : ∀ c, a ≠ .agg c) :
  (eqGuard .eql t ox oy a b).run P w = .ok () w ∧ (eqGuard .neq t ox oy a b).run P w = .ok () w := by
 cases a <;> try exact ⟨rfl, rfl⟩
 case nilIface =>
  cases b <;> try exact ⟨rfl, rfl⟩
  have := h rfl rfl
  simp only [isConstO, Bool.or_eq_true] at this
  cases ox <;> cases oy <;> simp at this <;> exact ⟨rfl, rfl⟩
 case agg c => exact absurd rfl (ha c)
theorem guard_same {op : BinOp} {t : TypeId} {ox oy : Operand} {a b : Value} (h : a = .nilIface → b = .nilIface → (isConstO ox || isConstO oy) = true) (ha : ∀ c, a ≠ .agg c) :
  (eqGuard op t ox oy a b).run P w = .ok () w := by
 cases op <;> first | exact (guard_in h ha).1 | exact (guard_in h ha).2 | rfl
theorem bin_sound {op : BinOp} {t : TypeId} {ox oy : Operand} {x y : V} {a b : Value} {v : V} (hx : VRel cx w x a) (hy : VRel cx w y b) (h : binV P op t (isConstO ox || isConstO oy) x y = some v) :
  ∃ cv, (do eqGuard op t ox oy a b; binOp op t a b).run P w = .ok cv w ∧ VRel cx w v cv := by
 have fin : ∀ (a b : Value), (a = .nilIface → b = .nilIface → (isConstO ox || isConstO oy) = true) → (∀ c, a ≠ .agg c) → (∃ cv, (binOp op t a b).run P w = .ok cv w ∧ VRel cx w v cv) →
   ∃ cv, (do eqGuard op t ox oy a b; binOp op t a b).run P w = .ok cv w ∧ VRel cx w v cv := fun a b h1 h2 ⟨cv, h3, h4⟩ => ⟨cv, by simp [guard_same h1 h2, h3], h4⟩
 unfold binV at h
 split at h
 ·rename_i k n k' n'
  simp only [VRel] at hx hy
  subst hx hy
  refine fin _ _ (by simp) (by simp) ?_
  split at h
  ·obtain ⟨cv, h1, h2⟩ := shift_sound (P := P) (w := w) (cx := cx) (yk := k') h
   exact ⟨cv, by simpa [binOp] using h1, h2⟩
  ·obtain ⟨cv, h1, h2⟩ := shift_sound (P := P) (w := w) (cx := cx) (yk := k') h
   exact ⟨cv, by simpa [binOp] using h1, h2⟩
  ·rename_i hs1 hs2
   split at h
   ·rename_i e
    subst e
    exact int_sound h t (fun e => hs1 e) (fun e => hs2 e)
   ·cases h
 ·simp only [VRel] at hx hy
  subst hx hy
  exact fin _ _ (by simp) (by simp) (str_sound h t)
 ·split at h
  ·rename_i d hd
   cases he : eqlV d (isConstO ox || isConstO oy) x y with
   | none => simp [he] at h
   | some r =>
    simp only [he, Option.map_some] at h
    injection h with h
    subst h
    obtain ⟨h1, h2, h3, h4, h5, h6, h7⟩ := eql_sound hd hx hy he
    refine fin _ _ h6 h7 ⟨.bool r, ?_, by simp [VRel]⟩
    have : binOp .eql t a b = (do pure (.bool (← Op.equal t a b))) := by
     unfold binOp
     cases a <;> simp_all
    rw [this]
    simp [h1]
  ·rename_i d hd
   cases he : eqlV d (isConstO ox || isConstO oy) x y with
   | none => simp [he] at h
   | some r =>
    simp only [he, Option.map_some] at h
    injection h with h
    subst h
    obtain ⟨h1, h2, h3, h4, h5, h6, h7⟩ := eql_sound hd hx hy he
    refine fin _ _ h6 h7 ⟨.bool (!r), ?_, by simp [VRel]⟩
    have : binOp .neq t a b = (do pure (.bool (!(← Op.equal t a b)))) := by
     unfold binOp
     cases a <;> simp_all
    rw [this]
    simp [h1]
  ·cases h
theorem un_sound {op : UnOp} {x : V} {a : Value} {v : V} (hx : VRel cx w x a) (h : unV op x = some v) : ∃ cv, (Op.unary op a).run P w = .ok cv w ∧ VRel cx w v cv := by
 unfold unV at h
 split at h <;> try cases h
 ·simp only [VRel] at hx
  subst hx
  exact ⟨_, by simp [Op.unary, Op.intArith]; rfl, by simp [VRel]⟩
 ·simp only [VRel] at hx
  subst hx
  exact ⟨_, by simp [Op.unary]; rfl, by simp [VRel]⟩
end
end Go.Proofs.YtpdgbhjhodhkiaaGreatDoor.AI
namespace Go.Proofs.YtpdgbhjhodhkiaaGreatDoor.AI
open Go
variable {kp : Kp}
section
variable {P : Program} {cx : Cx} {m : Mem} {w : World}
theorem OpRes.grow {v : V} {s : Sem Value} {cv : Value} {w' : World} (S : Sim kp cx m w) (h : s.run P w = .ok cv w') (hs : w.heap.size ≤ w'.heap.size) (hh : ∀ c, c < w.heap.size → w'.heap[c]? = w.heap[c]?) (ho : w'.os = w.os) (ht : w'.tape = w.tape) (hp : w'.output = w.output)
  (hv : VRel cx w' v cv) : OpRes kp P cx m w v m s := by
 obtain ⟨S', E'⟩ := sim_grow S hs hh ho ht hp
 exact ⟨cv, w', cx, h, hv, S', E'⟩
theorem bytes_rel (l : List UInt8) : VRelL cx w (l.map fun b => V.int .u8 b.toNat) (l.map fun b => Value.int .u8 b.toNat) := by
 induction l with
 | nil => simp [VRelL]
 | cons b l ih => simp only [List.map_cons, VRelL, VRel]; exact ⟨trivial, ih⟩
theorem contents_sound (S : Sim kp cx m w) {sz n : Nat} {x : V} {cs : List V} {cv : Value} (hx : VRel cx w x cv) (h : contents m sz x = some (n, cs)) :
  cs.length = n * sz ∧ (Builtin.lenOf cv).run P w = .ok n w ∧ ∃ vs : List Value, VRelL cx w cs vs ∧ (Builtin.firstCells sz n cv).run P w = .ok vs.toArray w := by
 unfold contents at h
 split at h
 ·injection h with h; injection h with h1 h2; subst h1 h2
  simp only [VRel] at hx
  subst hx
  exact ⟨by simp, by simp [Builtin.lenOf], [], by simp [VRelL], by simp [Builtin.firstCells]⟩
 ·rename_i cells k full
  split at h
  ·rename_i e
   injection h with h; injection h with h1 h2; subst h1 h2
   simp only [VRel] at hx
   obtain ⟨a, cap, rfl, _, _, hr⟩ := hx
   refine ⟨e.symm, by simp [Builtin.lenOf], ?_⟩
   rcases hr with rfl | ⟨blk, o, rfl, _, _, hr⟩
   ·have : k * sz = 0 := by simpa using e
    refine ⟨[], by simp [VRelL], ?_⟩
    cases a with
    | none => simp [Builtin.firstCells]
    | some a => simp [Builtin.firstCells, this, loadCells, loadCellsFrom]
   ·obtain ⟨vs, h5, h6⟩ := RowRel.list hr
    refine ⟨vs, h5, ?_⟩
    have hl := r_cells (P := P) (w := w) ⟨blk, o, none⟩ vs (fun j v hj => by rw [add_none]; exact h6 j v hj)
    simp [Builtin.firstCells, e, h5.length, hl]
  ·cases h
 ·rename_i b ver off len
  cases hB : m.B[b]? with
  | none => simp [hB] at h
  | some y =>
   cases y with
   | map _ => simp [hB] at h
   | loop _ _ _ _ _ _ => simp [hB] at h
   | cells sz' ver' pu fz xs =>
    simp only [hB] at h
    split at h
    ·rename_i e
     cases hs : sub xs off (len * sz) with
     | none => simp [hs] at h
     | some l =>
      simp only [hs, Option.map_some] at h
      injection h with h; injection h with h1 h2; subst h1 h2
      obtain ⟨g1, rfl, g3⟩ := sub_some hs
      simp only [VRel] at hx
      obtain ⟨k1, k2, a, cap, rfl, k4, _, k5⟩ := hx
      have hb := S.B b _ hB
      simp only [BOk] at hb
      obtain ⟨j1, j2, _, _, arr, t, j5, _, j7, j8⟩ := hb
      refine ⟨g3, by simp [Builtin.lenOf], ?_⟩
      have h6 := VRelL.take (len * sz) (VRelL.drop off j8)
      obtain ⟨_, hc⟩ := k5 (by omega)
      rcases hc with hc | rfl
      ·have h0 : len = 0 := by omega
       subst h0
       refine ⟨[], by simp [VRelL], ?_⟩
       cases a with
       | none => simp [Builtin.firstCells]
       | some a => simp [Builtin.firstCells, loadCells, loadCellsFrom]
      ·refine ⟨_, h6, ?_⟩
       have hlen : (((arr.toList.take xs.length).drop off).take (len * sz)).length = len * sz := by rw [← h6.length, g3]
       have hl := r_cells (P := P) (w := w) ⟨(cx.fb b).1, off, none⟩ (((arr.toList.take xs.length).drop off).take (len * sz)) (fun j v hj => by
        rw [add_none, cell_block j5, ← Array.getElem?_toList]
        rw [List.getElem?_take] at hj
        split at hj
        ·rw [List.getElem?_drop, List.getElem?_take] at hj
         split at hj
         ·exact hj
         ·cases hj
        ·cases hj)
       rw [hlen] at hl
       simp only [Builtin.firstCells]
       exact hl
    ·cases h
 ·rename_i s
  split at h
  ·rename_i e
   subst e
   injection h with h; injection h with h1 h2; subst h1 h2
   simp only [VRel] at hx
   subst hx
   refine ⟨by rw [List.length_map, Array.length_toList, Nat.mul_one]; rfl, by simp [Builtin.lenOf], _, bytes_rel s.data.toList, ?_⟩
   simp only [Builtin.firstCells, Sem.run_pure]
   congr 1
   have : s.extract 0 s.size = s := by simp
   rw [this]
   apply Array.ext'
   simp
  ·cases h
 ·cases h
theorem u8s_rel : ∀ {cs : List V} {xs : List Int} {vs : List Value}, u8sOf cs = some xs → VRelL cx w cs vs → vs = xs.map (Value.int .u8)
 | [], xs, vs, h, hv => by
  simp [u8sOf] at h
  subst h
  cases vs with
  | nil => rfl
  | cons _ _ => simp [VRelL] at hv
 | .int .u8 n :: r, xs, vs, h, hv => by
  simp only [u8sOf] at h
  cases hr : u8sOf r with
  | none => simp [hr] at h
  | some ys =>
   simp only [hr, Option.map_some] at h
   injection h with h
   subst h
   cases vs with
   | nil => simp [VRelL] at hv
   | cons v vs =>
    simp only [VRelL, VRel] at hv
    rw [hv.1, u8s_rel hr hv.2]
    rfl
 | .undef :: _, _, _, h, _ | .bool _ :: _, _, _, h, _ | .str _ :: _, _, _, h, _ | .nilp :: _, _, _, h, _ | .ptr _ _ :: _, _, _, h, _ | .bptr _ _ _ :: _, _, _, h, _ | .rp _ _ :: _, _, _, h, _
 | .nils :: _, _, _, h, _ | .sl _ _ _ _ :: _, _, _, h, _ | .ro _ _ _ :: _, _, _, h, _ | .nilm :: _, _, _, h, _ | .map _ :: _, _, _, h, _ | .nilf :: _, _, _, h, _ | .fn _ _ :: _, _, _, h, _ | .yld _ :: _, _, _, h, _
 | .nili :: _, _, _, h, _ | .ifc _ _ :: _, _, _, h, _ | .agg _ :: _, _, _, h, _ | .tup _ :: _, _, _, h, _ => by simp [u8sOf] at h
 | .int .i8 _ :: _, _, _, h, _ | .int .i16 _ :: _, _, _, h, _ | .int .i32 _ :: _, _, _, h, _ | .int .i64 _ :: _, _, _, h, _ | .int .u16 _ :: _, _, _, h, _ | .int .u32 _ :: _, _, _, h, _ | .int .u64 _ :: _, _, _, h, _ => by simp [u8sOf] at h
theorem bytesTo_run {src dst e : TypeId} (hs : P.underlying src = some (.slice e)) (he : P.underlying e = some (.int .u8)) (hd : P.underlying dst = some .string) {a : Option Addr} {n cap : Nat} {xs : List Int}
  (hf : (Builtin.firstCells 1 n (.slice a n cap)).run P w = .ok (xs.map (Value.int .u8)).toArray w) : (convert src dst (.slice a n cap)).run P w = .ok (.string (strOfNums xs)) w := by
 rw [run_convert_bytes_string w src dst e a n cap hs he hd]
 cases a with
 | none =>
  simp [Builtin.firstCells] at hf
  subst hf
  simp [Conv.bytesToString, strOfNums]
  rfl
 | some a =>
  simp only [Builtin.firstCells, Nat.mul_one] at hf
  rw [run_bytesToString w a n cap xs hf, foldl_push_bytes]
  simp [strOfNums, ByteArray.empty, ByteArray.emptyWithCapacity]
  rfl
theorem conv_sound (S : Sim kp cx m w) {src dst : TypeId} {x v : V} {cv : Value} (hx : VRel cx w x cv) (h : convV P m src dst x = some v) : OpRes kp P cx m w v m (convert src dst cv) := by
 unfold convV at h
 split at h
 ·rename_i e hs hd
  split at h
  ·rename_i he
   injection h with h
   subst h
   simp only [VRel] at hx
   subst hx
   exact OpRes.same S (bytesTo_run (xs := []) hs he hd (by simp [Builtin.firstCells])) (by simp [VRel, strOfNums]; rfl)
  ·rename_i cells n full he
   cases hc : contents m 1 (.ro cells n full) with
   | none => simp [hc] at h
   | some p =>
    obtain ⟨k, cs⟩ := p
    simp only [hc, Option.bind_some] at h
    cases hu : u8sOf cs with
    | none => simp [hu] at h
    | some xs =>
     simp only [hu, Option.map_some] at h
     injection h with h
     subst h
     obtain ⟨_, h2, vs, h3, h4⟩ := contents_sound (P := P) S hx hc
     have hv := u8s_rel hu h3
     subst hv
     simp only [VRel] at hx
     obtain ⟨a, cap, rfl, _⟩ := hx
     have hk : n = k := by simpa [Builtin.lenOf] using h2
     subst hk
     exact OpRes.same S (bytesTo_run hs he hd h4) (by simp [VRel])
  ·rename_i b ver off len he
   cases hc : contents m 1 (.sl b ver off len) with
   | none => simp [hc] at h
   | some p =>
    obtain ⟨k, cs⟩ := p
    simp only [hc, Option.bind_some] at h
    cases hu : u8sOf cs with
    | none => simp [hu] at h
    | some xs =>
     simp only [hu, Option.map_some] at h
     injection h with h
     subst h
     obtain ⟨_, h2, vs, h3, h4⟩ := contents_sound (P := P) S hx hc
     have hv := u8s_rel hu h3
     subst hv
     simp only [VRel] at hx
     obtain ⟨_, _, a, cap, rfl, _⟩ := hx
     have hk : len = k := by simpa [Builtin.lenOf] using h2
     subst hk
     exact OpRes.same S (bytesTo_run hs he hd h4) (by simp [VRel])
  ·cases h
 ·rename_i k k' n hs hd
  injection h with h
  subst h
  simp only [VRel] at hx
  subst hx
  exact OpRes.same S (cv := .int k (k.wrap n)) (by simp [convert, r_und hs, r_und hd, Conv.intToInt]) (by simp [VRel])
 ·rename_i s hs hd
  injection h with h
  subst h
  simp only [VRel] at hx
  subst hx
  exact OpRes.same S (cv := .string s) (by simp [convert, r_und hs, r_und hd]) (by simp [VRel])
 ·rename_i e s hs hd
  split at h
  ·rename_i he
   split at h
   ·rename_i hsz
    injection h with h
    subst h
    simp only [VRel] at hx
    subst hx
    generalize hcap : Question.cut (.appendCap s.size 0 e) (w.tape w.drawn (.appendCap s.size 0 e)) = cap
    generalize harr : (s.data.map fun b => Value.int .u8 b.toNat) ++ Array.replicate (cap - s.size) (Value.int .u8 0) = arr
    have hn : (w.drew.alloc (.cells arr e)).heap[w.heap.size]? = some (.cells arr e (0, 0)) := heap_alloc_new w.drew _
    have hsh : (w.drew.alloc (.cells arr e)).shape? w.heap.size = some (e, arr.size) := by simp only [World.shape?, hn]
    have hrun : (convert src dst (.string s)).run P w = .ok (.slice (some ⟨w.heap.size, 0, none⟩) s.size cap) ((w.drew.alloc (.cells arr e)).freeze { block := w.heap.size, off := arr.size } 1) := by
     simp [convert, r_und hs, r_und hd, r_und he, Conv.stringToBytes, Question.forced, hcap, harr, newRow, markStringish, hsh]
    have hfz : ((w.drew.alloc (.cells arr e)).freeze { block := w.heap.size, off := arr.size } 1).heap = (w.drew.alloc (.cells arr e)).heap.modify w.heap.size (fun
      | .cells c elem (lo, hi) => .cells c elem (if lo == hi then (arr.size, arr.size + 1) else (min lo arr.size, max hi (arr.size + 1)))
      | o => o) := rfl
    have hheap : ∀ c, c < w.heap.size → ((w.drew.alloc (.cells arr e)).freeze { block := w.heap.size, off := arr.size } 1).heap[c]? = w.heap[c]? := by
     intro c hc
     rw [hfz, Array.getElem?_modify, if_neg (by omega)]
     exact heap_alloc_lt w.drew _ hc
    have hnew : ((w.drew.alloc (.cells arr e)).freeze { block := w.heap.size, off := arr.size } 1).heap[w.heap.size]? = some (.cells arr e (arr.size, arr.size + 1)) := by
     rw [hfz, Array.getElem?_modify, if_pos rfl, hn]
     rfl
    have hsize : w.heap.size ≤ ((w.drew.alloc (.cells arr e)).freeze { block := w.heap.size, off := arr.size } 1).heap.size := by
     rw [hfz]
     simp
    refine OpRes.grow S hrun hsize hheap rfl rfl rfl ?_
    simp only [VRel]
    refine ⟨_, cap, rfl, by rw [← hcap]; simp only [Question.cut]; omega, by simp, ?_⟩
    refine .inr ⟨w.heap.size, 0, rfl, lt_of_heap hnew, S.fresh _ (Nat.le_refl _), RowRel.of_get fun i x hi => ?_⟩
    have hil : i < s.data.toList.length := by
     have := (List.getElem?_eq_some_iff.1 hi).1
     simpa using this
    rw [List.getElem?_map, List.getElem?_eq_getElem hil] at hi
    simp only [Option.map_some] at hi
    injection hi with hi
    subst hi
    refine ⟨by simp [V.pure], _, ?_, by simp only [VRel]; rfl⟩
    rw [cell_block hnew, ← harr]
    have hil2 : i < s.data.size := by simpa using hil
    rw [Nat.zero_add, Array.getElem?_append_left (by simpa using hil2)]
    simp
    exact ⟨_, Array.getElem?_eq_getElem hil2, rfl⟩
   ·cases h
  ·cases h
 ·cases h
end
end Go.Proofs.YtpdgbhjhodhkiaaGreatDoor.AI
namespace Go.Proofs.YtpdgbhjhodhkiaaGreatDoor.AI
open Go
variable {kp : Kp}
section
variable {P : Program} {cx : Cx} {m : Mem} {w : World}
theorem sizeV_some {t : TypeId} {n : Nat} (h : sizeV P t = some n) : (sizeOf t).run P w = .ok n w := by
 unfold sizeV at h
 cases hi : P.info? t with
 | none => simp [hi] at h
 | some i =>
  simp only [hi, Option.map_some] at h
  injection h with h
  rw [r_size hi, h]
theorem padd_sound {p v : V} {cp : Value} {n : Nat} (hp : VRel cx w p cp) (h : padd p n = some v) : ∃ a, cp = .pointer (some a) ∧ VRel cx w v (.pointer (some (a.add n))) := by
 unfold padd at h
 split at h <;> try cases h
 ·simp only [VRel] at hp ⊢
  obtain ⟨c, h1, rfl⟩ := hp
  exact ⟨_, rfl, c, h1, by rw [add_none]⟩
 ·simp only [VRel] at hp ⊢
  obtain ⟨h1, h2, ⟨a, rfl⟩, h4⟩ := hp
  refine ⟨a, rfl, h1, h2, ⟨_, rfl⟩, fun e => ?_⟩
  have := h4 e
  injection this with this
  injection this with this
  rw [this, add_none]
 ·simp only [VRel] at hp ⊢
  obtain ⟨blk, o, rfl, h2, h3, h4⟩ := hp
  exact ⟨_, rfl, blk, o, by rw [add_none, Nat.add_assoc], h2, h3, h4⟩
theorem fieldAddr_sound (S : Sim kp cx m w) {s : TypeId} {p v : V} {cp : Value} {f : Nat} (hp : VRel cx w p cp) (h : fieldAddrV P s p f = some v) : OpRes kp P cx m w v m (Instr.fieldAt s cp f) := by
 unfold fieldAddrV at h
 split at h
 ·rename_i fields hd
  split at h
  ·rename_i fd hf
   split at h
   ·rename_i n hn
    split at h
    ·cases h
    ·rename_i hz
     obtain ⟨a, rfl, hv⟩ := padd_sound hp h
     refine OpRes.same S (cv := .pointer (some (a.add fd.offset))) ?_ hv
     simp [Instr.fieldAt, r_und hd, hf, Instr.sureAddr, fieldPlace, sizeV_some hn, hz]
   ·cases h
  ·cases h
 ·cases h
theorem part_sound {t : TypeId} {cs : List V} {arr : Array Value} {off : Nat} {v : V} (hc : VRelL cx w cs arr.toList) (h : partV P t cs off = some v) : ∃ cv, (part t arr off).run P w = .ok cv w ∧ VRel cx w v cv := by
 unfold partV at h
 split at h
 ·rename_i i d hi hd
  split at h
  ·rename_i ha
   cases hs : sub cs off i.size with
   | none => simp [hs] at h
   | some l =>
    simp only [hs, Option.map_some] at h
    injection h with h
    subst h
    obtain ⟨h1, rfl, h3⟩ := sub_some hs
    refine ⟨.agg (arr.extract off (off + i.size)), by simp [part, r_agg hd, ha, r_size hi], _, rfl, ?_⟩
    have := VRelL.take i.size (VRelL.drop off hc)
    simpa [List.extract_eq_take_drop] using this
  ·rename_i ha
   obtain ⟨cv, h1, h2⟩ := VRelL.get off hc h
   have h1' : arr[off]? = some cv := by simpa using h1
   exact ⟨cv, by simp [part, r_agg hd, ha, h1'], h2⟩
 ·cases h
theorem field_sound (S : Sim kp cx m w) {t : TypeId} {x v : V} {cv : Value} {f : Nat} (hx : VRel cx w x cv) (h : fieldV P t x f = some v) : OpRes kp P cx m w v m (Instr.field t cv f) := by
 unfold fieldV at h
 split at h
 ·rename_i fields cs hd
  split at h
  ·rename_i fd hf
   simp only [VRel] at hx
   obtain ⟨arr, rfl, hc⟩ := hx
   obtain ⟨r, h1, h2⟩ := part_sound (P := P) hc h
   exact OpRes.same S (cv := r) (by simp [Instr.field, r_und hd, hf, asAgg, h1]) h2
  ·cases h
 ·cases h
theorem index_sound (S : Sim kp cx m w) {t : TypeId} {x ix v : V} {cx' ci : Value} (hx : VRel cx w x cx') (hi : VRel cx w ix ci) (h : indexV P t x ix = some v) : OpRes kp P cx m w v m (Instr.index t cx' ci) := by
 unfold indexV at h
 split at h
 ·rename_i s k i hd
  split at h
  ·rename_i h0
   simp only [VRel] at hx hi
   subst hx hi
   cases hb : byteAt s i.toNat with
   | none => simp [hb] at h
   | some b =>
    simp only [hb, Option.map_some] at h
    injection h with h
    subst h
    have hb' : s[i.toNat]? = some b := by
     unfold byteAt at hb
     have hl := (List.getElem?_eq_some_iff.1 hb)
     obtain ⟨h1, h2⟩ := hl
     have h3 : i.toNat < s.size := by
      rw [Array.length_toList] at h1
      exact h1
     rw [getElem?_pos s i.toNat h3]
     congr 1
    refine OpRes.same S (cv := .int .u8 b.toNat) ?_ (by simp [VRel])
    simp [Instr.index, asIntOf, r_und hd, h0, hb']
  ·cases h
 ·rename_i len e cs k i hd
  split at h
  ·rename_i sz hs
   split at h
   ·rename_i hb
    simp only [VRel] at hx hi
    subst hi
    obtain ⟨arr, rfl, hc⟩ := hx
    obtain ⟨r, h1, h2⟩ := part_sound (P := P) hc h
    exact OpRes.same S (cv := r) (by simp [Instr.index, asIntOf, r_und hd, hb, sizeV_some hs, h1]) h2
   ·cases h
  ·cases h
 ·cases h
theorem indexAddr_sound (S : Sim kp cx m w) {t : TypeId} {x ix v : V} {cx' ci : Value} (hx : VRel cx w x cx') (hi : VRel cx w ix ci) (h : indexAddrV P t x ix = some v) : OpRes kp P cx m w v m (Instr.indexAt t cx' ci) := by
 unfold indexAddrV at h
 split at h
 ·rename_i e k i hd
  simp only [VRel] at hi
  subst hi
  split at h
  ·rename_i sz b ver off len hs
   split at h
   ·rename_i hb
    injection h with h
    subst h
    simp only [VRel] at hx
    obtain ⟨h1, h2, a, cap, rfl, h4, h45, h5⟩ := hx
    have hcap : cap ≠ 0 := by omega
    cases a with
    | none => simp [hcap] at h45
    | some a =>
     refine OpRes.same S (cv := .pointer (some (a.add (i.toNat * sz)))) ?_ ?_
     ·simp [Instr.indexAt, asIntOf, r_und hd, hb, sizeV_some hs]
     ·simp only [VRel]
      refine ⟨h1, h2, ⟨_, rfl⟩, fun e => ?_⟩
      rcases (h5 e).2 with h5 | h5
      ·exact absurd h5 hcap
      ·injection h5 with h5
       rw [h5, add_none]
   ·cases h
  ·rename_i sz cells n full hs
   split at h
   ·rename_i hb
    injection h with h
    subst h
    simp only [VRel] at hx
    obtain ⟨a, cap, rfl, _, _, hr⟩ := hx
    rcases hr with rfl | ⟨blk, o, rfl, h2, h3, h4⟩
    ·simp at hb
    ·refine OpRes.same S (cv := .pointer (some ((⟨blk, o, none⟩ : Addr).add (i.toNat * sz)))) ?_ ?_
     ·simp [Instr.indexAt, asIntOf, r_und hd, hb.1, hb.2.1, sizeV_some hs]
     ·simp only [VRel]
      exact ⟨blk, o, by rw [add_none], h2, h3, h4⟩
   ·cases h
  ·cases h
 ·rename_i len e k i hd
  simp only [VRel] at hi
  subst hi
  split at h
  ·rename_i sz hs
   split at h
   ·rename_i hb
    obtain ⟨a, rfl, hv⟩ := padd_sound hx h
    refine OpRes.same S (cv := .pointer (some (a.add (i.toNat * sz)))) ?_ hv
    simp [Instr.indexAt, asIntOf, r_und hd, Instr.sureAddr, hb, sizeV_some hs]
   ·cases h
  ·cases h
 ·cases h
def ORel (cx : Cx) (w : World) : Option V → Option Value → Prop
 | none, none => True
 | some x, some c => VRel cx w x c
 | _, _ => False
theorem bound_sound {x : Option V} {c : Option Value} {d l : Nat} (hx : ORel cx w x c) (h : boundV x d = some l) : (x = none ∧ c = none ∧ l = d) ∨ ∃ v, x.isSome = true ∧ c = some v ∧ ∀ y code, l ≤ y → (Instr.sliceBound v y code).run P w = .ok l w := by
 cases x with
 | none =>
  cases c with
  | none =>
   simp only [boundV] at h
   injection h with h
   exact .inl ⟨rfl, rfl, h.symm⟩
  | some v => simp [ORel] at hx
 | some x =>
  cases c with
  | none => simp [ORel] at hx
  | some v =>
   simp only [ORel] at hx
   unfold boundV at h
   split at h <;> try cases h
   ·simp at *
   ·rename_i k i he
    injection he with he
    subst he
    split at h
    ·rename_i h0
     injection h with h
     subst h
     simp only [VRel] at hx
     subst hx
     refine .inr ⟨_, rfl, rfl, fun y code hy => ?_⟩
     have : i ≤ (y : Int) := by omega
     simp [Instr.sliceBound, asIntOf, h0, this]
    ·cases h
theorem bounds_none {lo hi : Option V} {clo chi : Option Value} {l h len cap : Nat} (b : Bool) (hlo : ORel cx w lo clo) (hhi : ORel cx w hi chi) (h1 : boundV lo 0 = some l) (h2 : boundV hi len = some h) (hlh : l ≤ h) (hlen : len ≤ cap) (hc : h ≤ len) :
  (Instr.sliceBounds b len cap clo chi none).run P w = .ok (l, h, cap) w := by
 rcases bound_sound (P := P) hhi h2 with ⟨_, rfl, rfl⟩ | ⟨v, _, rfl, hv⟩ <;> rcases bound_sound (P := P) hlo h1 with ⟨_, rfl, rfl⟩ | ⟨u, _, rfl, hu⟩
 ·simp [Instr.sliceBounds]
 ·simp [Instr.sliceBounds, hu _ _ hlh]
 ·simp [Instr.sliceBounds, hv _ _ (show h ≤ cap by omega)]
 ·simp [Instr.sliceBounds, hv _ _ (show h ≤ cap by omega), hu _ _ hlh]
theorem bounds_some {lo hi : Option V} {clo chi : Option Value} {mv : V} {cm : Value} {l h k len cap : Nat} (b : Bool) (hlo : ORel cx w lo clo) (hhi : ORel cx w hi chi) (hm : VRel cx w mv cm) (h1 : boundV lo 0 = some l) (h2 : boundV hi len = some h) (h3 : boundV (some mv) 0 = some k)
  (hs : hi.isSome = true) (hlh : l ≤ h) (hhk : h ≤ k) (hk : k ≤ cap) : (Instr.sliceBounds b len cap clo chi (some cm)).run P w = .ok (l, h, k) w := by
 have hmm : ∀ code, (Instr.sliceBound cm cap code).run P w = .ok k w := by
  intro code
  rcases bound_sound (P := P) (c := some cm) (by simpa [ORel] using hm) h3 with ⟨h, _⟩ | ⟨v, _, e, hv⟩
  ·cases h
  ·injection e with e
   subst e
   exact hv _ _ hk
 rcases bound_sound (P := P) hhi h2 with ⟨rfl, _, _⟩ | ⟨v, _, rfl, hv⟩
 ·simp at hs
 ·rcases bound_sound (P := P) hlo h1 with ⟨_, rfl, rfl⟩ | ⟨u, _, rfl, hu⟩
  ·simp [Instr.sliceBounds, hmm, hv _ _ hhk]
  ·simp [Instr.sliceBounds, hmm, hv _ _ hhk, hu _ _ hlh]
theorem ro_sub {cells cs : List V} {n k : Nat} {b' : Bool} {a : Option Addr} {off c2 : Nat} (hr : cells = [] ∨ ∃ blk o, a = some ⟨blk, o, none⟩ ∧ blk < w.heap.size ∧ cx.own blk = .non ∧ RowRel cx w cells blk o) (hs : sub cells off n = some cs) (hkc : k ≤ c2) (hb : b' = true → c2 = k) (hz : c2 = 0 → n = 0) :
  VRel cx w (.ro cs k b') (.slice (if c2 = 0 then a else a.map (·.add off)) k c2) := by
 obtain ⟨h1, rfl, h3⟩ := sub_some hs
 simp only [VRel]
 refine ⟨_, c2, rfl, hkc, hb, ?_⟩
 rcases hr with rfl | ⟨blk, o, rfl, h4, h5, h6⟩
 ·left; simp
 ·by_cases hc : c2 = 0
  ·left
   have := hz hc
   subst this
   simp
  ·right
   rw [if_neg hc]
   refine ⟨blk, o + off, by simp [add_none], h4, h5, RowRel.take n (RowRel.drop off (by omega) h6)⟩
theorem slice_sound (S : Sim kp cx m w) {t : TypeId} {x v : V} {lo hi mx : Option V} {cv : Value} {clo chi cmx : Option Value} (hx : VRel cx w x cv) (hlo : ORel cx w lo clo) (hhi : ORel cx w hi chi) (hmx : ORel cx w mx cmx)
  (h : sliceV P m t x lo hi mx = some v) : OpRes kp P cx m w v m (Instr.sliceAt t cv clo chi cmx) := by
 unfold sliceV at h
 split at h
 ·rename_i s hd
  split at h
  ·rename_i l k h1 h2
   cases cmx with
   | some _ => simp [ORel] at hmx
   | none =>
    split at h
    ·rename_i hb
     injection h with h
     subst h
     simp only [VRel] at hx
     subst hx
     have := bounds_none (P := P) false hlo hhi h1 h2 hb.1 (Nat.le_refl _) hb.2
     exact OpRes.same S (cv := .string (s.extract l k)) (by simp [Instr.sliceAt, Instr.slice, r_und hd, this]) (by simp [VRel])
    ·cases h
  ·cases h
 ·rename_i e cells n full hd
  simp only [VRel] at hx
  obtain ⟨a, cap, rfl, hnc, hf, hr⟩ := hx
  split at h
  ·rename_i sz l k hsz h1 h2
   cases cmx with
   | some _ => simp [ORel] at hmx
   | none =>
    split at h
    ·rename_i hb
     cases hs : sub cells (l * sz) ((k - l) * sz) with
     | none => simp [hs] at h
     | some cs =>
      simp only [hs, Option.map_some] at h
      injection h with h
      subst h
      have := bounds_none (P := P) true hlo hhi h1 h2 hb.1 hnc hb.2
      refine OpRes.same S (cv := .slice (if cap = l then a else a.map (·.add (l * sz))) (k - l) (cap - l)) (by simp [Instr.sliceAt, Instr.slice, r_und hd, this, sizeV_some hsz]) ?_
      have e : (if cap = l then a else a.map (·.add (l * sz))) = (if cap - l = 0 then a else a.map (·.add (l * sz))) := by
       by_cases e : cap = l
       ·rw [if_pos e, if_pos (by omega)]
       ·rw [if_neg e, if_neg (by omega)]
      rw [e]
      refine ro_sub hr hs (by omega) (fun hb' => ?_) (fun h0 => by
       have : k - l = 0 := by omega
       rw [this]; simp)
      simp only [Bool.and_eq_true, beq_iff_eq] at hb'
      have := hf hb'.1
      omega
    ·cases h
  ·rename_i sz l k mv hsz h1 h2
   split at h
   ·rename_i mm h3
    cases cmx with
    | none => simp [ORel] at hmx
    | some cm =>
     simp only [ORel] at hmx
     split at h
     ·rename_i hb
      cases hs : sub cells (l * sz) ((k - l) * sz) with
      | none => simp [hs] at h
      | some cs =>
       simp only [hs, Option.map_some] at h
       injection h with h
       subst h
       have := bounds_some (P := P) true hlo hhi hmx h1 h2 h3 hb.2.2.2 hb.1 hb.2.1 (Nat.le_trans hb.2.2.1 hnc)
       refine OpRes.same S (cv := .slice (if mm = l then a else a.map (·.add (l * sz))) (k - l) (mm - l)) (by simp [Instr.sliceAt, Instr.slice, r_und hd, this, sizeV_some hsz]) ?_
       have e : (if mm = l then a else a.map (·.add (l * sz))) = (if mm - l = 0 then a else a.map (·.add (l * sz))) := by
        by_cases e : mm = l
        ·rw [if_pos e, if_pos (by omega)]
        ·rw [if_neg e, if_neg (by omega)]
       rw [e]
       refine ro_sub hr hs (by omega) (fun hb' => ?_) (fun h0 => by
        have : k - l = 0 := by omega
        rw [this]; simp)
       simp only [beq_iff_eq] at hb'
       omega
     ·cases h
   ·cases h
  ·cases h
 ·rename_i e b ver off len hd
  split at h
  ·rename_i sz l k hsz h1 h2
   cases cmx with
   | some _ => simp [ORel] at hmx
   | none =>
    split at h
    ·rename_i sz' ver' pu fz cs hB
     split at h
     ·rename_i hb
      injection h with h
      subst h
      simp only [VRel] at hx
      obtain ⟨g1, g2, a, cap, rfl, g4, g45, g5⟩ := hx
      have hbb := S.B b _ hB
      simp only [BOk] at hbb
      have hfb : (cx.fb b).2.1 = sz := by rw [hbb.2.1]; exact hb.2.2.1.symm
      have := bounds_none (P := P) true hlo hhi h1 h2 hb.1 g4 hb.2.1
      refine OpRes.same S (cv := .slice (if cap = l then a else a.map (·.add (l * sz))) (k - l) (cap - l)) (by simp [Instr.sliceAt, Instr.slice, r_und hd, this, sizeV_some hsz]) ?_
      simp only [VRel]
      refine ⟨g1, g2, _, _, rfl, by omega, ?_, fun e => ?_⟩
      ·by_cases e : cap = l
       ·left; omega
       ·right
        rw [if_neg e]
        rcases g45 with g45 | g45
        ·omega
        ·simpa using g45
      ·obtain ⟨g6, g7⟩ := g5 e
       rw [hfb] at g6 ⊢
       have hlc : l * sz ≤ cap * sz := Nat.mul_le_mul_right _ (by omega)
       refine ⟨by rw [← g6, Nat.sub_mul]; omega, ?_⟩
       by_cases e2 : cap = l
       ·left; omega
       ·right
        rw [if_neg e2]
        rcases g7 with g7 | ha
        ·omega
        ·subst ha
         simp [add_none]
     ·cases h
    ·cases h
  ·cases h
 ·rename_i e hd
  simp only [VRel] at hx
  subst hx
  split at h
  ·rename_i sz hsz h1 h2 h3
   split at h
   ·rename_i hi'
    injection h with h
    subst h
    cases cmx with
    | none =>
     cases mx with
     | some _ => simp [ORel] at hmx
     | none =>
      have := bounds_none (P := P) (len := 0) (cap := 0) true hlo hhi h1 h2 (Nat.le_refl _) (Nat.le_refl _) (Nat.le_refl _)
      exact OpRes.same S (cv := .slice none 0 0) (by simp [Instr.sliceAt, Instr.slice, r_und hd, this, sizeV_some hsz]) (by simp [VRel])
    | some cm =>
     cases mx with
     | none => simp [ORel] at hmx
     | some mv =>
      simp only [ORel] at hmx
      have := bounds_some (P := P) (len := 0) (cap := 0) true hlo hhi hmx h1 h2 h3 (hi' rfl) (Nat.le_refl _) (Nat.le_refl _) (Nat.le_refl _)
      exact OpRes.same S (cv := .slice none 0 0) (by simp [Instr.sliceAt, Instr.slice, r_und hd, this, sizeV_some hsz]) (by simp [VRel])
   ·cases h
  ·cases h
 ·cases h
end
end Go.Proofs.YtpdgbhjhodhkiaaGreatDoor.AI
namespace Go.Proofs.YtpdgbhjhodhkiaaGreatDoor.AI
open Go
variable {kp : Kp}
section
variable {P : Program} {cx : Cx} {m : Mem} {w : World}
theorem zeroCells_some {t : TypeId} {z : List V} (h : zeroCellsV P t = some z) : ∃ i zv, P.info? t = some i ∧ i.zero = some zv ∧ z = zv.cells.toList.map ofConst0 ∧ z.all V.cellLike = true := by
 unfold zeroCellsV at h
 split at h
 ·rename_i i hi
  split at h
  ·rename_i zv hz
   split at h
   ·rename_i hc
    injection h with h
    subst h
    exact ⟨i, zv, hi, hz, rfl, hc⟩
   ·cases h
  ·cases h
 ·cases h
theorem run_grow {sT xT ty e : TypeId} {i : TypeInfo} {zv : Value} {base : Option Addr} {sLen sCap n : Nat} {cx' : Value} {old new : List Value} (hs : P.underlying sT = some (.slice e)) (hx : (∃ e2, P.underlying xT = some (.slice e2)) ∨ P.underlying xT = some .string)
  (hi : P.info? e = some i) (hz : i.zero = some zv) (hl : (Builtin.lenOf cx').run P w = .ok n w) (ho : (Builtin.firstCells i.size sLen (.slice base sLen sCap)).run P w.drew = .ok old.toArray w.drew) (hn : (Builtin.firstCells i.size n cx').run P w.drew = .ok new.toArray w.drew)
  (hgt : sCap < sLen + n) (hb : (sLen + n) * i.bytes ≤ 140737488355328) (hb0 : 0 < i.bytes) :
  ∃ cap, sLen + n ≤ cap ∧ (Builtin.append_ #[sT, xT] ty #[.slice base sLen sCap, cx']).run P w =
   .ok (.slice (some ⟨w.heap.size, 0, none⟩) (sLen + n) cap) (w.drew.alloc (.cells (old.toArray ++ new.toArray ++ Builtin.zeroCells zv.cells (cap - (sLen + n))) e)) := by
 have hcap : sLen + n ≤ (Question.appendCap (sLen + n) sCap e).cut (w.tape w.drawn (.appendCap (sLen + n) sCap e)) := by simp only [Question.cut]; omega
 refine ⟨(Question.appendCap (sLen + n) sCap e).cut (w.tape w.drawn (.appendCap (sLen + n) sCap e)), hcap, ?_⟩
 have hle : sLen + n ≤ 140737488355328 := Nat.le_trans (Nat.le_mul_of_pos_right _ hb0) hb
 have hm : IntKind.i64.max = 9223372036854775807 := by decide
 have h1 : ¬ (sLen + n ≤ sCap) := by omega
 have h2 : ¬ (Builtin.nextslicecap (sLen + n) sCap * i.bytes > 2 ^ 48) := by
  have := growslice_fits (bytes := i.bytes) hgt hb
  omega
 have h3 : ¬ (((sLen + n : Nat) : Int) > IntKind.i64.max) := by rw [hm]; omega
 generalize hq : (Question.appendCap (sLen + n) sCap e).cut (w.tape w.drawn (.appendCap (sLen + n) sCap e)) = cap at *
 have hch : (choose (.appendCap (sLen + n) sCap e)).run P w = .ok cap w.drew := by
  rw [run_choose]
  simp only [Question.forced, Bool.false_eq_true, if_false, hq]
  rfl
 have hz' : (zeroValue e).run P w.drew = .ok zv w.drew := r_zero hi hz
 rcases hx with ⟨e2, hx⟩ | hx
 all_goals
  simp only [Builtin.append_, List.getElem?_toArray, List.getElem?_cons_succ, List.getElem?_cons_zero, Sem.run_bind, r_und hs, r_und hx, r_size hi, r_info hi, hl, Result.andThen_ok, Sem.run_pure, Bool.false_eq_true, if_false, h1, h3, false_and, h2, hch, run_askRoom, ho, hn, Bool.not_false, if_true, hz']
  simp [newRow]
  rfl
theorem append_arr {old new : List Value} {z : Array Value} {k : Nat} : (old.toArray ++ new.toArray ++ Builtin.zeroCells z k).toList.take (old ++ new).length = old ++ new := by
 simp only [Array.toList_append, List.append_assoc]
 rw [← List.append_assoc]
 exact List.take_left
theorem run_room {sT xT ty e : TypeId} {i : TypeInfo} {a : Addr} {sLen sCap n : Nat} {cx' : Value} {new : List Value} {w' : World} (hs : P.underlying sT = some (.slice e)) (hx : (∃ e2, P.underlying xT = some (.slice e2)) ∨ P.underlying xT = some .string)
  (hi : P.info? e = some i) (hl : (Builtin.lenOf cx').run P w = .ok n w) (hn : (Builtin.firstCells i.size n cx').run P w = .ok new.toArray w)
  (hle : sLen + n ≤ sCap) (hst : (storeCells (a.add (sLen * i.size)) new).run P w = .ok () w') :
  (Builtin.append_ #[sT, xT] ty #[.slice (some a) sLen sCap, cx']).run P w = .ok (.slice (some a) (sLen + n) sCap) w' := by
 rcases hx with ⟨e2, hx⟩ | hx
 all_goals
  simp only [Builtin.append_, List.getElem?_toArray, List.getElem?_cons_succ, List.getElem?_cons_zero, Sem.run_bind, r_und hs, r_und hx, r_size hi, r_info hi, hl, Result.andThen_ok, Sem.run_pure, Bool.false_eq_true, if_false, hle, if_true, hn, Bool.not_false, hst]
theorem run_room_none {sT xT ty e : TypeId} {i : TypeInfo} {base : Option Addr} {sLen sCap : Nat} {cx' : Value} (hs : P.underlying sT = some (.slice e)) (hx : (∃ e2, P.underlying xT = some (.slice e2)) ∨ P.underlying xT = some .string)
  (hi : P.info? e = some i) (hl : (Builtin.lenOf cx').run P w = .ok 0 w) (hn : (Builtin.firstCells i.size 0 cx').run P w = .ok #[] w) (hle : sLen ≤ sCap) :
  (Builtin.append_ #[sT, xT] ty #[.slice base sLen sCap, cx']).run P w = .ok (.slice base sLen sCap) w := by
 rcases hx with ⟨e2, hx⟩ | hx <;> cases base
 all_goals
  simp only [Builtin.append_, List.getElem?_toArray, List.getElem?_cons_succ, List.getElem?_cons_zero, Sem.run_bind, r_und hs, r_und hx, r_size hi, r_info hi, hl, Result.andThen_ok, Sem.run_pure, Bool.false_eq_true, if_false, hle, if_true, hn, Bool.not_false, Nat.add_zero, storeCells]
theorem val_drew {x : V} {v : Value} (S : Sim kp cx m w) (h : VRel cx w x v) : VRel cx w.drew x v := VRel.on (w := w) (w' := w.drew) (n := m.A.length) (later_heap rfl) (fun _ _ _ h => h) x v (VRel.maxA S.fa x v h) h
theorem ev_drew (S : Sim kp cx m w) : Ev m.A.length cx m w cx m w.drew := Ev.heap rfl rfl rfl rfl
theorem zero_arr_size {z : Array Value} {old new : List Value} {k : Nat} : (old.toArray ++ new.toArray ++ Builtin.zeroCells z k).size = old.length + new.length + k * z.size := by
 simp [Builtin.zeroCells, Nat.add_assoc]
theorem append_sound (S : Sim kp cx m w) {sT xT ty : TypeId} {s x v : V} {c1 c2 : Value} {m' : Mem} (hs : VRel cx w s c1) (hx : VRel cx w x c2) (hxT : (∃ e2, P.underlying xT = some (.slice e2)) ∨ P.underlying xT = some .string)
  (h : appendV P m sT s x = some (v, m')) : OpRes kp P cx m w v m' (Builtin.append_ #[sT, xT] ty #[c1, c2]) := by
 unfold appendV at h
 split at h
 ·rename_i e hsT
  split at h
  ·cases h
  ·rename_i i hi
   split at h
   ·rename_i n new z hcon hz
    split at h
    ·cases h
    ·rename_i hg
     have hcell : new.all V.cellLike = true := by
      cases hb : new.all V.cellLike
      ·exact absurd (.inl hb) hg
      ·rfl
     have hsz0 : i.size ≠ 0 := fun e => hg (.inr (.inl e))
     have hzl : z.length = i.size := by
      rcases Nat.decEq z.length i.size with hne | heq
      ·exact absurd (.inr (.inr hne)) hg
      ·exact heq
     obtain ⟨i2, zv, hi2, hz2, rfl, _⟩ := zeroCells_some hz
     rw [hi] at hi2
     injection hi2 with hi2
     subst hi2
     have hzs : zv.cells.size = i.size := by simpa using hzl
     obtain ⟨hnl, hlen, vs, hvs, hfc⟩ := contents_sound (P := P) S hx hcon
     have Sd : Sim kp cx m w.drew := S.heap rfl
     obtain ⟨_, _, vs', hvs', hfc'⟩ := contents_sound (P := P) Sd (val_drew S hx) hcon
     split at h
     ·rename_i hn0
      subst hn0
      have hv0 : vs = [] := by
       have := hvs.length
       rw [hnl] at this
       simpa using this.symm
      subst hv0
      have hfin : ∀ {base : Option Addr} {sLen sCap : Nat}, sLen ≤ sCap → c1 = .slice base sLen sCap → s = v → m = m' → OpRes kp P cx m w v m' (Builtin.append_ #[sT, xT] ty #[c1, c2]) := by
       rintro base sLen sCap hle rfl rfl rfl
       exact OpRes.same S (run_room_none hsT hxT hi hlen hfc hle) hs
      split at h
      ·injection h with h; injection h with h1 h2
       simp only [VRel] at hs
       exact hfin (Nat.le_refl _) hs h1 h2
      ·injection h with h; injection h with h1 h2
       have hs' := hs
       simp only [VRel] at hs'
       obtain ⟨a, cap, e1, hle, _⟩ := hs'
       exact hfin hle e1 h1 h2
      ·injection h with h; injection h with h1 h2
       have hs' := hs
       simp only [VRel] at hs'
       obtain ⟨_, _, a, cap, e1, hle, _⟩ := hs'
       exact hfin hle e1 h1 h2
      ·cases h
     ·rename_i hn0
      have hn1 : 0 < n := Nat.pos_of_ne_zero hn0
      have hpush : ∀ {base : Option Addr} {sLen sCap : Nat} {cells : List V} {old : List Value}, c1 = .slice base sLen sCap → sCap < sLen + n → (sLen + n) * i.bytes ≤ 140737488355328 → 0 < i.bytes → cells.length = sLen * i.size →
        VRelL cx w.drew cells old → (Builtin.firstCells i.size sLen (.slice base sLen sCap)).run P w.drew = .ok old.toArray w.drew → ∀ (pu : Bool), (pu = true → pureL (cells ++ new) = true) → ∀ hi',
        OpRes kp P cx m w (.sl m.B.length 0 0 (sLen + n)) { m with B := m.B ++ [.cells i.size 0 pu false (cells ++ new)], hi := hi' } (Builtin.append_ #[sT, xT] ty #[c1, c2]) := by
       rintro base sLen sCap cells old rfl hgt hb hb0 hcl hold hfo pu hpu hi'
       obtain ⟨cap, hcap, hr⟩ := run_grow (ty := ty) hsT hxT hi hz2 hlen hfo hfc' hgt hb hb0
       have hrel : VRelL cx w.drew (cells ++ new) (old ++ vs') := VRelL.append hold hvs'
       have hll : (cells ++ new).length = (old ++ vs').length := hrel.length
       have hnew : (cells ++ new).length = (sLen + n) * i.size := by rw [List.length_append, hcl, hnl, Nat.add_mul]
       have hsize : (old.toArray ++ vs'.toArray ++ Builtin.zeroCells zv.cells (cap - (sLen + n))).size = cap * i.size := by
        rw [zero_arr_size, hzs]
        have h1 : old.length + vs'.length = (sLen + n) * i.size := by rw [← hnew, hll, List.length_append]
        rw [h1, ← Nat.add_mul]
        congr 1
        omega
       obtain ⟨cx', g1, g2, g3, S', E'⟩ := sim_push_B Sd i.size pu (cells ++ new) hpu hi' (old.toArray ++ vs'.toArray ++ Builtin.zeroCells zv.cells (cap - (sLen + n))) e
        (by rw [hsize, hnew]; exact Nat.mul_le_mul_right _ hcap) (by rw [hll, append_arr]; exact hrel)
       refine ⟨_, _, cx', hr, ?_, S', (ev_drew S).trans E' (Nat.le_refl _)⟩
       simp only [VRel]
       have hnb : cx.nb = m.B.length := S.nb
       refine ⟨by omega, by omega, _, cap, rfl, hcap, .inr rfl, fun _ => ⟨?_, .inr (by rw [g3]; rfl)⟩⟩
       rw [g3, hsize]
       simp
      split at h
      ·split at h
       ·rename_i hb
        injection h with h; injection h with h1 h2
        subst h1 h2
        simp only [VRel] at hs
        have := hpush (cells := []) (old := []) hs (by omega) (by simpa using hb.1) hb.2 (by simp) (by simp [VRelL]) (by simp [Builtin.firstCells]) (pureL new) (by simp) (max m.hi (maxAL new))
        simpa using this
       ·cases h
      ·rename_i cells k
       split at h
       ·rename_i hb
        injection h with h; injection h with h1 h2
        subst h1 h2
        have hco : contents m i.size (.ro cells k true) = some (k, cells) := by simp [contents, hb.1]
        obtain ⟨q1, q2, old, q3, q4⟩ := contents_sound (P := P) Sd (val_drew S hs) hco
        have hs' := hs
        simp only [VRel] at hs'
        obtain ⟨a, cap, rfl, hle, hfull, hrow⟩ := hs'
        have hck : cap = k := hfull trivial
        subst hck
        have hpc : pureL cells = true := by
         rcases hrow with rfl | ⟨blk, o, _, _, _, hrow⟩
         ·rfl
         ·exact pureL_of_get fun j y hy => (RowRel.get j hrow hy).1
        exact hpush rfl (by omega) hb.2.1 hb.2.2.1 hb.1.symm q3 q4 (pureL new) (fun hp => by rw [pureL_append, hpc, hp]; rfl) _
       ·cases h
      ·rename_i b ver off len
       split at h
       ·rename_i sz ver' pu cs hB
        split at h
        ·rename_i hb
         obtain ⟨hv, rfl, hlb, hby, hb0⟩ := hb
         subst hv
         have hs' := hs
         simp only [VRel] at hs'
         obtain ⟨g1, g2, a, cap, rfl, hle, g45, g5⟩ := hs'
         have hbb := S.B b _ hB
         simp only [BOk] at hbb
         obtain ⟨k1, k2, k3, k4, arr, t, k5, k6, k7, k8⟩ := hbb
         split at h
         ·
          rename_i hin
          injection h with h; injection h with h1 h2
          subst h1 h2
          have hnl2 : new.length = n * i.size := hnl
          have hpos : 0 < n * i.size := Nat.mul_pos hn1 (Nat.pos_of_ne_zero hsz0)
          have hcapn : len + n ≤ cap ∧ a = some ⟨(cx.fb b).1, off, none⟩ := by
           obtain ⟨g6, g7⟩ := g5 k1.symm
           rw [k2, ← k6] at g6
           have h3 : (len + n) * i.size ≤ cap * i.size := by omega
           have h4 := Nat.le_of_mul_le_mul_right h3 (Nat.pos_of_ne_zero hsz0)
           refine ⟨h4, ?_⟩
           rcases g7 with g7 | g7
           ·omega
           ·exact g7
          obtain ⟨hcn, rfl⟩ := hcapn
          have hoff : off + len * i.size + vs.length ≤ arr.size := by
           rw [← hvs.length, hnl2]
           rw [Nat.add_mul] at hin
           omega
          obtain ⟨arr', e1, e2, e3⟩ := run_storeCells_block (P := P) vs w (cx.fb b).1 (off + len * i.size) arr t k5 hoff (cells_one hvs hcell)
          have hspl : off + len * i.size + new.length ≤ cs.length := by rw [hnl2]; rw [Nat.add_mul] at hin; omega
          have hrel : VRelL cx w (splice cs (off + len * i.size) new) (arr'.toList.take (splice cs (off + len * i.size) new).length) := by
           rw [splice_length hspl, e1]
           exact splice_take k8 hvs k7 hspl
          obtain ⟨S', E'⟩ := sim_set_B (pu' := pu && pureL new) S hB hlb k5 e2 (by rw [splice_length hspl]; exact k7) (fun hp => by
           simp only [Bool.and_eq_true] at hp
           exact splice_pure (k4 hp.1) hp.2) hrel (max m.hi (maxAL new))
          refine ⟨_, _, cx, run_room hsT hxT hi hlen hfc hcn (by rw [add_none]; exact e3), ?_, S', E'⟩
          simp only [VRel]
          exact ⟨g1, g2, _, cap, rfl, hcn, .inr rfl, fun e => g5 e⟩
         ·split at h
          ·rename_i hend
           obtain ⟨rfl, hend⟩ := hend
           injection h with h; injection h with h1 h2
           subst h1 h2
           have hpu : (pu && pureL new) = true → pureL (cs ++ new) = true := fun hp => by
            simp only [Bool.and_eq_true] at hp
            rw [pureL_append, k4 hp.1, hp.2]
            rfl
           by_cases hroom : len + n ≤ cap
           ·
            have ha : a = some ⟨(cx.fb b).1, 0, none⟩ ∧ cap * i.size = arr.size := by
             obtain ⟨g6, g7⟩ := g5 k1.symm
             rw [k2, ← k6] at g6
             rcases g7 with g7 | ha
             ·omega
             ·exact ⟨ha, by omega⟩
            obtain ⟨rfl, hcs⟩ := ha
            have hfit : cs.length + new.length ≤ arr.size := by
             rw [← hcs, ← hend, hnl, ← Nat.add_mul]
             exact Nat.mul_le_mul_right _ hroom
            have hoff : 0 + len * i.size + vs.length ≤ arr.size := by rw [← hvs.length, Nat.zero_add, hend]; exact hfit
            obtain ⟨arr', e1, e2, e3⟩ := run_storeCells_block (P := P) vs w (cx.fb b).1 (0 + len * i.size) arr t k5 hoff (cells_one hvs hcell)
            have hrel : VRelL cx w (cs ++ new) (arr'.toList.take (cs ++ new).length) := by
             have e4 : arr'.toList.take (cs ++ new).length = arr.toList.take cs.length ++ vs := by
              rw [e1, Nat.zero_add, hend]
              have : (cs ++ new).length = (arr.toList.take cs.length ++ vs).length := by
               rw [List.length_append, List.length_append, ← k8.length, hvs.length]
              rw [this]
              exact List.take_left
             rw [e4]
             exact VRelL.append k8 hvs
            obtain ⟨cx', j1, j2, j3, S', E'⟩ := sim_bump_B (pu' := pu && pureL new) S hB hlb k5 e2 (by rw [List.length_append]; exact hfit) hpu hrel (max m.hi (maxAL new))
            refine ⟨_, _, cx', run_room hsT hxT hi hlen hfc hroom (by rw [add_none]; exact e3), ?_, S', E'⟩
            simp only [VRel]
            refine ⟨by rw [j1]; exact g1, by rw [j2]; exact Nat.le_refl _, _, cap, rfl, hroom, .inr rfl, fun _ => ⟨?_, .inr (by rw [j3])⟩⟩
            rw [j3, k2, ← k6]
            omega
           ·
            have hco : contents m i.size (.sl b ver 0 len) = some (len, cs) := by
             simp only [contents, hB, true_and, if_true]
             unfold sub
             rw [if_pos (by omega), hend]
             simp
            obtain ⟨q1, q2, old, q3, q4⟩ := contents_sound (P := P) Sd (val_drew S hs) hco
            obtain ⟨cap', hcap, hr⟩ := run_grow (ty := ty) hsT hxT hi hz2 hlen q4 hfc' (by omega) hby hb0
            have hrel : VRelL cx w.drew (cs ++ new) (old ++ vs') := VRelL.append q3 hvs'
            have hll : (cs ++ new).length = (old ++ vs').length := hrel.length
            have hnew : (cs ++ new).length = (len + n) * i.size := by rw [List.length_append, ← hend, hnl, Nat.add_mul]
            have hsize : (old.toArray ++ vs'.toArray ++ Builtin.zeroCells zv.cells (cap' - (len + n))).size = cap' * i.size := by
             rw [zero_arr_size, hzs]
             have h1 : old.length + vs'.length = (len + n) * i.size := by rw [← hnew, hll, List.length_append]
             rw [h1, ← Nat.add_mul]
             congr 1
             omega
            obtain ⟨cx', j1, j2, j3, S', E'⟩ := sim_move_B (pu' := pu && pureL new) Sd (old.toArray ++ vs'.toArray ++ Builtin.zeroCells zv.cells (cap' - (len + n))) e hB hlb
             (by rw [hsize, hnew]; exact Nat.mul_le_mul_right _ hcap) hpu (by rw [hll, append_arr]; exact hrel) (max m.hi (maxAL new))
            refine ⟨_, _, cx', hr, ?_, S', (ev_drew S).trans E' (Nat.le_refl _)⟩
            simp only [VRel]
            refine ⟨by rw [j1]; exact g1, by rw [j2]; exact Nat.le_refl _, _, cap', rfl, hcap, .inr rfl, fun _ => ⟨?_, .inr (by rw [j3]; rfl)⟩⟩
            rw [j3, hsize]
            simp
          ·cases h
        ·cases h
       ·cases h
      ·cases h
   ·cases h
 ·cases h
end
end Go.Proofs.YtpdgbhjhodhkiaaGreatDoor.AI
namespace Go.Proofs.YtpdgbhjhodhkiaaGreatDoor.AI
open Go
variable {kp : Kp}
section
variable {P : Program} {cx : Cx} {m : Mem} {w : World}
theorem agg2 {a b : ByteArray} {v : Value} (h : VRel cx w (.agg [.str a, .str b]) v) : v = .agg #[.string a, .string b] := by
 simp only [VRel] at h
 obtain ⟨arr, rfl, h⟩ := h
 match hl : arr.toList, h with
 | [], h => simp [VRelL] at h
 | [_], h => simp [VRelL] at h
 | [x, y], h =>
  simp only [VRelL, VRel] at h
  obtain ⟨rfl, rfl, _⟩ := h
  have : arr = #[.string a, .string b] := by
   apply Array.ext'
   simpa using hl
  rw [this]
 | _ :: _ :: _ :: _, h => simp [VRelL] at h
theorem equal2 (n : Nat) {kt e : TypeId} {a1 a2 b1 b2 : ByteArray} (hd : P.underlying kt = some (.array 2 e)) (he : P.underlying e = some .string) (hs : sizeV P e = some 1) :
  (Op.equalIn (n + 2) kt (.agg #[.string a1, .string a2]) (.agg #[.string b1, .string b2])).run P w = .ok (a1 == b1 && a2 == b2) w := by
 have hs' := fun w => sizeV_some (P := P) (w := w) hs
 have hp : ∀ (x y : ByteArray) (i : Nat) (v : Value), (#[Value.string x, .string y] : Array Value)[i]? = some v → (part e #[.string x, .string y] i).run P w = .ok v w := by
  intro x y i v h
  simp [part, r_agg he, isAggD, h]
 have h0 : ∀ (x y : ByteArray), (part e #[.string x, .string y] 0).run P w = .ok (.string x) w := fun x y => hp x y 0 _ rfl
 have h1 : ∀ (x y : ByteArray), (part e #[.string x, .string y] 1).run P w = .ok (.string y) w := fun x y => hp x y 1 _ rfl
 have hq : ∀ (x y : ByteArray), (Op.equalIn (n + 1) e (.string x) (.string y)).run P w = .ok (x == y) w := fun x y => by simp [Op.equalIn, r_und he]
 rw [show n + 2 = (n + 1) + 1 from rfl]
 unfold Op.equalIn
 simp only [Sem.run_bind, r_und hd, Result.andThen_ok, hs']
 cases h1c : (a1 == b1) <;> cases h2c : (a2 == b2) <;>
  simp [Std.Legacy.Range.forIn_eq_forIn_range', Std.Legacy.Range.size, List.range', h0, h1, hq, h1c, h2c]
theorem keyOk_cases {d : TypeDesc} {k : V} {ck : Value} (hk : keyOk P d k = true) (hr : VRel cx w k ck) :
  (MapKept.IsKey d ck ∧ V.pure k = true ∧ (∀ n e, d ≠ .array n e)) ∨ ∃ e a b, d = .array 2 e ∧ k = .agg [.str a, .str b] ∧ ck = .agg #[.string a, .string b] ∧ P.underlying e = some .string ∧ sizeV P e = some 1 := by
 unfold keyOk at hk
 split at hk
 ·left; simp only [VRel] at hr; subst hr; have hk := beq_iff_eq.1 hk; subst hk; exact ⟨by simp [MapKept.IsKey], rfl, by simp⟩
 ·left; simp only [VRel] at hr; subst hr; exact ⟨by simp [MapKept.IsKey], rfl, by simp⟩
 ·left; simp only [VRel] at hr; subst hr; exact ⟨by simp [MapKept.IsKey], rfl, by simp⟩
 ·rename_i e a b
  split at hk
  ·rename_i h1 h2
   exact .inr ⟨e, a, b, rfl, rfl, agg2 hr, h1, h2⟩
  ·cases hk
 ·cases hk
theorem keyOk_pure {d : TypeDesc} {k : V} (hk : keyOk P d k = true) : V.pure k = true := by
 unfold keyOk at hk
 split at hk <;> first | rfl | cases hk
def RRel (cx : Cx) (w : World) : Option (Nat × V) → Option (Nat × Value) → Prop
 | none, none => True
 | some (i, v), some (j, c) => i = j ∧ VRel cx w v c
 | _, _ => False
theorem keyEq_now {d : TypeDesc} {k k' : V} {ck ck' : Value} {b : Bool} (hd : ∀ n e, d ≠ .array n e) (hr : VRel cx w k ck) (hr' : VRel cx w k' ck') (h : keyEq P d k k' = some b) : Instr.sameNow d ck ck' = some b := by
 unfold keyEq at h
 split at h
 ·simp only [VRel] at hr hr'
  subst hr hr'
  simpa [Instr.sameNow] using h
 ·simp only [VRel] at hr hr'
  subst hr hr'
  simpa [Instr.sameNow] using h
 ·simp only [VRel] at hr hr'
  subst hr hr'
  simpa [Instr.sameNow] using h
 ·exact absurd rfl (hd _ _)
 ·cases h
theorem find_now {d : TypeDesc} {k : V} {ck : Value} (hd : ∀ n e, d ≠ .array n e) (hr : VRel cx w k ck) : ∀ (es : List (V × V)) (fs : List MapEntry) (i : Nat) {r : Option (Nat × V)}, EsRel cx w es fs → findV P d k es i = some r → ∃ r', Instr.findNow d ck fs i = some r' ∧ RRel cx w r r'
 | [], [], i, r, _, h => by
  simp only [findV] at h
  injection h with h
  subst h
  exact ⟨none, rfl, trivial⟩
 | [], _ :: _, _, _, h, _ => by simp [EsRel] at h
 | _ :: _, [], _, _, h, _ => by simp [EsRel] at h
 | (k', v) :: es, e :: fs, i, r, he, h => by
  simp only [EsRel] at he
  simp only [findV] at h
  cases hq : keyEq P d k k' with
  | none => simp [hq] at h
  | some b =>
   have hn := keyEq_now hd hr he.1.2.2.1 hq
   cases b with
   | true =>
    simp only [hq] at h
    injection h with h
    subst h
    exact ⟨some (i, e.val), by simp [Instr.findNow, hn], rfl, he.1.2.2.2⟩
   | false =>
    simp only [hq] at h
    obtain ⟨r', h1, h2⟩ := find_now hd hr es fs (i + 1) he.2 h
    exact ⟨r', by simp [Instr.findNow, hn, h1], h2⟩
theorem find_asking {kt e : TypeId} {a b : ByteArray} (hd : P.underlying kt = some (.array 2 e)) (he : P.underlying e = some .string) (hs : sizeV P e = some 1) : ∀ (es : List (V × V)) (fs : List MapEntry) (i : Nat) {r : Option (Nat × V)}, EsRel cx w es fs →
  findV P (.array 2 e) (.agg [.str a, .str b]) es i = some r → ∃ r', (Instr.findAsking kt (.agg #[.string a, .string b]) fs i).run P w = .ok r' w ∧ RRel cx w r r'
 | [], [], i, r, _, h => by
  simp only [findV] at h
  injection h with h
  subst h
  exact ⟨none, rfl, trivial⟩
 | [], _ :: _, _, _, h, _ => by simp [EsRel] at h
 | _ :: _, [], _, _, h, _ => by simp [EsRel] at h
 | (k', v) :: es, f :: fs, i, r, hes, h => by
  simp only [EsRel] at hes
  simp only [findV] at h
  cases hq : keyEq P (.array 2 e) (.agg [.str a, .str b]) k' with
  | none => simp [hq] at h
  | some q =>
   have hkk : ∃ b1 b2, k' = .agg [.str b1, .str b2] ∧ q = (a == b1 && b == b2) := by
    unfold keyEq at hq
    split at hq
    ·simp at *
    ·simp at *
    ·simp at *
    ·rename_i e' a1 a2 b1 b2 h1 h2
     simp only [V.agg.injEq, List.cons.injEq, V.str.injEq, and_true] at h2
     obtain ⟨rfl, rfl⟩ := h2
     simp only [TypeDesc.array.injEq, true_and] at h1
     subst h1
     rw [he, hs] at hq
     simp only [Option.some.injEq] at hq
     exact ⟨b1, b2, rfl, hq.symm⟩
    ·cases hq
   obtain ⟨b1, b2, rfl, rfl⟩ := hkk
   have hk := agg2 hes.1.2.2.1
   have heq : (Op.equal kt (.agg #[.string a, .string b]) f.key).run P w = .ok (a == b1 && b == b2) w := by
    rw [hk]
    exact equal2 9998 hd he hs
   cases hb : (a == b1 && b == b2) with
   | true =>
    simp only [hq, hb] at h
    injection h with h
    subst h
    exact ⟨some (i, f.val), by simp [Instr.findAsking, heq, hb], rfl, hes.1.2.2.2⟩
   | false =>
    simp only [hq, hb] at h
    obtain ⟨r', h1, h2⟩ := find_asking hd he hs es fs (i + 1) hes.2 h
    exact ⟨r', by simp [Instr.findAsking, heq, hb, h1], h2⟩
theorem find_sound {kt : TypeId} {d : TypeDesc} {k : V} {ck : Value} (hd : P.underlying kt = some d) (hk : keyOk P d k = true) (hr : VRel cx w k ck) {es : List (V × V)} {fs : List MapEntry} {r : Option (Nat × V)} (he : EsRel cx w es fs) (h : findV P d k es 0 = some r) :
  ∃ r', (Instr.findKey kt ck fs).run P w = .ok r' w ∧ RRel cx w r r' := by
 rcases keyOk_cases hk hr with ⟨h1, h2, h3⟩ | ⟨e, a, b, rfl, rfl, rfl, h4, h5⟩
 ·obtain ⟨r', h4, h5⟩ := find_now (P := P) h3 hr es fs 0 he h
  exact ⟨r', MapKept.run_findKey hd h4, h5⟩
 ·cases fs with
  | nil =>
   cases es with
   | nil =>
    simp only [findV] at h
    injection h with h
    subst h
    exact ⟨none, by simp [Instr.findKey, r_und hd, Instr.findNow], trivial⟩
   | cons _ _ => simp [EsRel] at he
  | cons f fs =>
   obtain ⟨r', h6, h7⟩ := find_asking (P := P) hd h4 h5 es (f :: fs) 0 he h
   refine ⟨r', ?_, h7⟩
   simp [Instr.findKey, r_und hd, Instr.findNow, Instr.sameNow, h6]
theorem check_sound {kt : TypeId} {d : TypeDesc} {k : V} {ck : Value} (hd : P.underlying kt = some d) (hk : keyOk P d k = true) (hr : VRel cx w k ck) (em : Bool) (n : Nat) : (Instr.checkKey em (n + 2) kt ck).run P w = .ok () w := by
 rcases keyOk_cases hk hr with ⟨h1, h2, h3⟩ | ⟨e, a, b, rfl, rfl, rfl, h4, h5⟩
 ·exact MapKept.run_checkKey hd h1 em (n + 1)
 ·have hs' := fun w => sizeV_some (P := P) (w := w) h5
  have hp : ∀ (i : Nat) (v : Value), (#[Value.string a, .string b] : Array Value)[i]? = some v → (part e #[.string a, .string b] i).run P w = .ok v w := by
   intro i v h
   simp [part, r_agg h4, isAggD, h]
  have h0 := hp 0 _ rfl
  have h1 := hp 1 _ rfl
  have hc : ∀ s, (Instr.checkKey em (n + 1) e (.string s)).run P w = .ok () w := fun s => MapKept.run_checkKey h4 (by simp [MapKept.IsKey]) em n
  rw [show n + 2 = (n + 1) + 1 from rfl]
  unfold Instr.checkKey
  simp only [Sem.run_bind, r_und hd, Result.andThen_ok]
  simp [Std.Legacy.Range.forIn_eq_forIn_range', Std.Legacy.Range.size, List.range', h0, h1, hs', hc]
theorem stays_sound {d : TypeDesc} {k : V} {ck : Value} (hk : keyOk P d k = true) (hr : VRel cx w k ck) (co : Value) (ho : Instr.sameBits 10000 co ck = true) : (Instr.keyThatStays co ck).run P w = .ok ck w := by
 simp [Instr.keyThatStays, ho]
theorem lookup_sound (S : Sim kp cx m w) {t : TypeId} {x k v : V} {cv ck : Value} {ok : Bool} (hx : VRel cx w x cv) (hk : VRel cx w k ck) (h : lookupV P m t x k ok = some v) : OpRes kp P cx m w v m (Instr.lookup t cv ck ok) := by
 unfold lookupV at h
 split at h
 ·rename_i kt et hd
  split at h
  ·rename_i d es z hdk hes hz
   split at h
   ·cases h
   ·rename_i hko
    have hko : keyOk P d k = true := by simpa using hko
    have hzz : ∃ i zv, P.info? et = some i ∧ i.zero = some zv ∧ z = ofConst zv := by
     unfold zeroV at hz
     cases hi : P.info? et with
     | none => simp [hi] at hz
     | some i =>
      cases hzv : i.zero with
      | none => simp [hi, hzv] at hz
      | some zv =>
       simp only [hi, hzv, Option.map_some] at hz
       injection hz with hz
       exact ⟨i, zv, rfl, hzv, hz.symm⟩
    obtain ⟨i, zv, hi, hzv, rfl⟩ := hzz
    have hent : ∃ fs : Array MapEntry, EsRel cx w es fs.toList ∧ ((cv = .map none ∧ fs = #[]) ∨ ∃ c clk, cv = .map (some c) ∧ w.heap[c]? = some (.map fs clk)) := by
     cases x <;> simp only at hes <;> try cases hes
     case nilm =>
      simp only [VRel] at hx
      exact ⟨#[], by simp [EsRel], .inl ⟨hx, rfl⟩⟩
     case map b =>
      split at hes
      ·rename_i es' hB
       injection hes with hes
       subst hes
       have hb := S.B b _ hB
       simp only [BOk] at hb
       obtain ⟨c, fs, clk, h1, h2, h3, _⟩ := hb
       simp only [VRel] at hx
       obtain ⟨c', h4, rfl⟩ := hx
       rw [h1] at h4
       injection h4 with h4
       subst h4
       exact ⟨fs, h3, .inr ⟨c, clk, rfl, h2⟩⟩
      ·cases hes
    obtain ⟨fs, h1, h2⟩ := hent
    cases hf : findV P d k es 0 with
    | none => simp [hf] at h
    | some r =>
     obtain ⟨r', h3, h4⟩ := find_sound hdk hko hk h1 hf
     have hc := check_sound (P := P) hdk hko hk fs.isEmpty 9998
     cases r with
     | none =>
      cases r' with
      | some _ => simp [RRel] at h4
      | none =>
       simp only [hf] at h
       injection h with h
       subst h
       refine OpRes.same S (cv := if ok then .tuple #[zv, .bool false] else zv) ?_ ?_
       ·rcases h2 with ⟨rfl, rfl⟩ | ⟨c, clk, rfl, h2⟩
        ·simp only [Instr.lookup, Sem.run_bind, r_und hd, Result.andThen_ok, Sem.run_pure, hc, h3, r_zero hi hzv]
        ·simp only [Instr.lookup, Sem.run_bind, r_und hd, Result.andThen_ok, Sem.run_pure, MapKept.run_getObj_map h2, hc, h3, r_zero hi hzv]
       ·cases ok
        ·exact ofConst_rel zv
        ·simp only [if_true, VRel]
         exact ⟨_, rfl, ofConst_rel zv, by simp [VRel], trivial⟩
     | some q =>
      obtain ⟨j, vq⟩ := q
      cases r' with
      | none => simp [RRel] at h4
      | some q' =>
       obtain ⟨j', cq⟩ := q'
       simp only [RRel] at h4
       simp only [hf] at h
       injection h with h
       subst h
       refine OpRes.same S (cv := if ok then .tuple #[cq, .bool true] else cq) ?_ ?_
       ·rcases h2 with ⟨rfl, rfl⟩ | ⟨c, clk, rfl, h2⟩
        ·simp only [Instr.lookup, Sem.run_bind, r_und hd, Result.andThen_ok, Sem.run_pure, hc, h3]
        ·simp only [Instr.lookup, Sem.run_bind, r_und hd, Result.andThen_ok, Sem.run_pure, MapKept.run_getObj_map h2, hc, h3]
       ·cases ok
        ·exact h4.2
        ·simp only [if_true, VRel]
         exact ⟨_, rfl, h4.2, by simp [VRel], trivial⟩
  ·cases h
 ·cases h
theorem EsRel.length : ∀ {es : List (V × V)} {fs : List MapEntry}, EsRel cx w es fs → es.length = fs.length
 | [], [], _ => rfl
 | [], _ :: _, h => by simp [EsRel] at h
 | _ :: _, [], h => by simp [EsRel] at h
 | _ :: es, _ :: fs, h => by
  simp only [EsRel] at h
  simp [EsRel.length h.2]
theorem EsRel.push : ∀ {es : List (V × V)} {fs : List MapEntry} {k v : V} {f : MapEntry}, EsRel cx w es fs → V.pure k = true → VRel cx w k f.key → VRel cx w v f.val → EsRel cx w (es ++ [(k, v)]) (fs ++ [f])
 | [], [], k, v, f, _, hp, hk, hv => by
  simp only [List.nil_append, EsRel]
  exact ⟨⟨hp, maxA_pure k hp, hk, hv⟩, trivial⟩
 | [], _ :: _, _, _, _, h, _, _, _ => by simp [EsRel] at h
 | _ :: _, [], _, _, _, h, _, _, _ => by simp [EsRel] at h
 | _ :: es, _ :: fs, k, v, f, h, hp, hk, hv => by
  simp only [EsRel] at h
  simp only [List.cons_append, EsRel]
  exact ⟨h.1, EsRel.push h.2 hp hk hv⟩
theorem EsRel.modify : ∀ {es : List (V × V)} {fs : List MapEntry} (i : Nat) {k v : V} {g : MapEntry → MapEntry}, EsRel cx w es fs → V.pure k = true → (∀ f, VRel cx w k (g f).key) → (∀ f, VRel cx w v (g f).val) →
  EsRel cx w (es.modify i fun _ => (k, v)) (fs.modify i g)
 | [], [], i, _, _, _, _, _, _, _ => by simp [EsRel]
 | [], _ :: _, _, _, _, _, h, _, _, _ => by simp [EsRel] at h
 | _ :: _, [], _, _, _, _, h, _, _, _ => by simp [EsRel] at h
 | _ :: es, _ :: fs, 0, k, v, g, h, hp, hk, hv => by
  simp only [EsRel] at h
  simp only [List.modify_zero_cons, EsRel]
  exact ⟨⟨hp, maxA_pure k hp, hk _, hv _⟩, h.2⟩
 | _ :: es, _ :: fs, i + 1, k, v, g, h, hp, hk, hv => by
  simp only [EsRel] at h
  simp only [List.modify_succ_cons, EsRel]
  exact ⟨h.1, EsRel.modify i h.2 hp hk hv⟩
theorem EsRel.erase : ∀ {es : List (V × V)} {fs : List MapEntry} (i : Nat), EsRel cx w es fs → EsRel cx w (es.eraseIdx i) (fs.eraseIdx i)
 | [], [], i, _ => by simp [EsRel]
 | [], _ :: _, _, h => by simp [EsRel] at h
 | _ :: _, [], _, h => by simp [EsRel] at h
 | _ :: es, _ :: fs, 0, h => by
  simp only [EsRel] at h
  simpa using h.2
 | _ :: es, _ :: fs, i + 1, h => by
  simp only [EsRel] at h
  simp only [List.eraseIdx_cons_succ, EsRel]
  exact ⟨h.1, EsRel.erase i h.2⟩
theorem EsRel.on' {cx' : Cx} {w' : World} (S : Sim kp cx m w) (L : Later cx w cx' w') (hfa : ∀ i c, i < m.A.length → cx.fa i = some c → cx'.fa i = some c) {es : List (V × V)} {fs : List MapEntry} (h : EsRel cx w es fs) : EsRel cx' w' es fs :=
 EsRel.on L hfa es fs (EsRel.maxA S.fa es fs h) h
theorem find_same {d : TypeDesc} {k : V} {ck : Value} (hk : keyOk P d k = true) (hr : VRel cx w k ck) : ∀ (es : List (V × V)) (fs : List MapEntry) (i j : Nat) (v : V), EsRel cx w es fs → findV P d k es i = some (some (j, v)) → i ≤ j ∧ ∃ f, fs[j - i]? = some f ∧ Instr.sameBits 10000 f.key ck = true
 | [], _, _, _, _, _, h => by simp [findV] at h
 | _ :: _, [], _, _, _, h, _ => by simp [EsRel] at h
 | (k', v') :: es, f :: fs, i, j, v, he, h => by
  simp only [EsRel] at he
  simp only [findV] at h
  cases hq : keyEq P d k k' with
  | none => simp [hq] at h
  | some b =>
   cases b with
   | false =>
    simp only [hq] at h
    obtain ⟨h1, f', h2, h3⟩ := find_same hk hr es fs (i + 1) j v he.2 h
    refine ⟨by omega, f', ?_, h3⟩
    rw [show j - i = (j - (i + 1)) + 1 from by omega]
    simpa using h2
   | true =>
    simp only [hq] at h
    simp only [Option.some.injEq, Prod.mk.injEq] at h
    obtain ⟨rfl, rfl⟩ := h
    refine ⟨Nat.le_refl _, f, by simp, ?_⟩
    have hkk := he.1.2.2.1
    unfold keyEq at hq
    split at hq
    ·split at hq
     ·rename_i e
      simp only [VRel] at hr hkk
      rw [hr, hkk]
      simp only [Option.some.injEq, beq_iff_eq] at hq
      simp [Instr.sameBits, e, hq]
     ·cases hq
    ·simp only [VRel] at hr hkk
     rw [hr, hkk]
     simp only [Option.some.injEq] at hq
     have := (MapKept.bytes_beq _ _).1 hq
     subst this
     simp [Instr.sameBits, (MapKept.bytes_beq _ _).2]
    ·simp only [VRel] at hr hkk
     rw [hr, hkk]
     simp only [Option.some.injEq, beq_iff_eq] at hq
     simp [Instr.sameBits, hq]
    ·rename_i e a1 a2 b1 b2
     split at hq
     ·simp only [Option.some.injEq, Bool.and_eq_true] at hq
      have e1 := (MapKept.bytes_beq _ _).1 hq.1
      have e2 := (MapKept.bytes_beq _ _).1 hq.2
      subst e1 e2
      rw [agg2 hr, agg2 hkk]
      have hb : ∀ x : ByteArray, (x == x) = true := fun x => (MapKept.bytes_beq _ _).2 rfl
      simp [Instr.sameBits, hb]
     ·cases hq
    ·cases hq
theorem setObj_put {c : Nat} {es : Array MapEntry} {clk : Nat} (o : Obj) (hb : w.heap[c]? = some (.map es clk)) : (setObj c o).run P w = .ok () (putO w c o) := MapKept.run_setObj_map o hb
theorem update_sound (S : Sim kp cx m w) {t : TypeId} {x k v : V} {cv ck cw : Value} {m' : Mem} (hx : VRel cx w x cv) (hk : VRel cx w k ck) (hv : VRel cx w v cw) (h : updateV P m t x k v = some m') :
  ∃ w', (Instr.mapUpdate t cv ck cw).run P w = .ok () w' ∧ Sim kp cx m' w' ∧ Ev m.A.length cx m w cx m' w' := by
 unfold updateV at h
 split at h
 ·rename_i kt et b hd
  split at h
  ·rename_i d es hdk hB
   split at h
   ·rename_i hcond
    obtain ⟨hlb, hko⟩ := hcond
    have hb := S.B b _ hB
    simp only [BOk] at hb
    obtain ⟨c, fs, clk, h1, h2, h3, h4⟩ := hb
    simp only [VRel] at hx
    obtain ⟨c', h5, rfl⟩ := hx
    rw [h1] at h5
    injection h5 with h5
    subst h5
    cases hf : findV P d k es 0 with
    | none => simp [hf] at h
    | some r =>
     obtain ⟨r', h6, h7⟩ := find_sound hdk hko hk h3 hf
     have hc := check_sound (P := P) hdk hko hk false 9998
     have hpk := keyOk_pure hko
     cases r with
     | none =>
      cases r' with
      | some _ => simp [RRel] at h7
      | none =>
       simp only [hf] at h
       injection h with h
       subst h
       have hput := sim_set_O (y := .map (es ++ [(k, v)])) (o := .map (fs.push { key := ck, val := cw, born := clk }) (clk + 1)) S hB hlb h1 h4 (lt_of_heap h2) (fun L hn => by
        simp only [BOk]
        refine ⟨c, _, _, h1, hn, ?_, h4⟩
        rw [Array.toList_push]
        exact EsRel.on' S L (fun _ _ _ h => h) (EsRel.push h3 hpk hk hv)) (max m.hi (V.maxA v))
       refine ⟨_, ?_, hput.1, hput.2⟩
       simp only [Instr.mapUpdate, Sem.run_bind, r_und hd, Result.andThen_ok, MapKept.run_getObj_map h2, hc, h6]
       exact setObj_put _ h2
     | some q =>
      obtain ⟨j, vq⟩ := q
      cases r' with
      | none => simp [RRel] at h7
      | some q' =>
       obtain ⟨j', cq⟩ := q'
       simp only [RRel] at h7
       obtain ⟨rfl, h7⟩ := h7
       simp only [hf] at h
       injection h with h
       subst h
       obtain ⟨_, f, h8, h9⟩ := find_same hko hk es fs.toList 0 j vq h3 hf
       have hst := stays_sound (P := P) hko hk f.key h9
       have hput := sim_set_O (y := .map (es.modify j fun _ => (k, v))) (o := .map (fs.modify j fun e => { e with key := ck, val := cw }) clk) S hB hlb h1 h4 (lt_of_heap h2) (fun L hn => by
        simp only [BOk]
        refine ⟨c, _, _, h1, hn, ?_, h4⟩
        rw [Array.toList_modify]
        exact EsRel.on' S L (fun _ _ _ h => h) (EsRel.modify j h3 hpk (fun _ => hk) (fun _ => hv))) (max m.hi (V.maxA v))
       refine ⟨_, ?_, hput.1, hput.2⟩
       have h8' : fs[j]? = some f := by simpa using h8
       simp only [Instr.mapUpdate, Sem.run_bind, r_und hd, Result.andThen_ok, MapKept.run_getObj_map h2, hc, h6, h8', Option.map_some, Option.getD_some, hst]
       exact setObj_put _ h2
   ·cases h
  ·cases h
 ·cases h
theorem delete_sound (S : Sim kp cx m w) {t : TypeId} {x k : V} {cv ck : Value} {m' : Mem} (ts : Array TypeId) (ht : ts[0]? = some t) (ty : TypeId) (hx : VRel cx w x cv) (hk : VRel cx w k ck) (h : deleteV P m t x k = some m') :
  ∃ w', (Builtin.delete_ ts ty #[cv, ck]).run P w = .ok (.tuple #[]) w' ∧ Sim kp cx m' w' ∧ Ev m.A.length cx m w cx m' w' := by
 unfold deleteV at h
 split at h
 ·rename_i kt et b hd
  split at h
  ·rename_i d es hdk hB
   split at h
   ·rename_i hcond
    obtain ⟨hlb, hko⟩ := hcond
    have hb := S.B b _ hB
    simp only [BOk] at hb
    obtain ⟨c, fs, clk, h1, h2, h3, h4⟩ := hb
    simp only [VRel] at hx
    obtain ⟨c', h5, rfl⟩ := hx
    rw [h1] at h5
    injection h5 with h5
    subst h5
    cases hf : findV P d k es 0 with
    | none => simp [hf] at h
    | some r =>
     obtain ⟨r', h6, h7⟩ := find_sound hdk hko hk h3 hf
     have hc := check_sound (P := P) hdk hko hk fs.isEmpty 9998
     cases r with
     | none =>
      cases r' with
      | some _ => simp [RRel] at h7
      | none =>
       simp only [hf] at h
       injection h with h
       subst h
       refine ⟨w, ?_, S, Ev.refl _ _ _ _ (Nat.le_refl _)⟩
       simp only [Builtin.delete_, ht, List.getElem?_toArray, List.getElem?_cons_succ, List.getElem?_cons_zero, Sem.run_bind, r_und hd, Result.andThen_ok, MapKept.run_getObj_map h2, hc, h6, setObj_put _ h2, putO_self h2, Sem.run_pure]
     | some q =>
      obtain ⟨j, vq⟩ := q
      cases r' with
      | none => simp [RRel] at h7
      | some q' =>
       obtain ⟨j', cq⟩ := q'
       simp only [RRel] at h7
       obtain ⟨rfl, h7⟩ := h7
       simp only [hf] at h
       injection h with h
       subst h
       have hput := sim_set_O (y := .map (es.eraseIdx j)) (o := .map (fs.eraseIdxIfInBounds j) clk) S hB hlb h1 h4 (lt_of_heap h2) (fun L hn => by
        simp only [BOk]
        refine ⟨c, _, _, h1, hn, ?_, h4⟩
        have : (fs.eraseIdxIfInBounds j).toList = fs.toList.eraseIdx j := by
         unfold Array.eraseIdxIfInBounds
         split
         ·simp
         ·rename_i hn
          rw [List.eraseIdx_of_length_le (by simpa using hn)]
        rw [this]
        exact EsRel.on' S L (fun _ _ _ h => h) (EsRel.erase j h3)) m.hi
       refine ⟨_, ?_, hput.1, hput.2⟩
       simp only [Builtin.delete_, ht, List.getElem?_toArray, List.getElem?_cons_succ, List.getElem?_cons_zero, Sem.run_bind, r_und hd, Result.andThen_ok, MapKept.run_getObj_map h2, hc, h6, setObj_put _ h2, Sem.run_pure]
   ·cases h
  ·cases h
 ·cases h
end
end Go.Proofs.YtpdgbhjhodhkiaaGreatDoor.AI
