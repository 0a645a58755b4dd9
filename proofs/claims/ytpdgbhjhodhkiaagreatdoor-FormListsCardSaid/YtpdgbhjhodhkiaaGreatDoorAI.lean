/- An abstract interpreter over loaded Go code: values, memory, operations, code, calls. Deterministic: no tape, no capacities, no orders. -/
import Derived.RangeFuncLeaves
import Derived.Below
import Derived.Laws.Sem
import Derived.Laws.BytesArg
import Derived.KernelRfl
set_option linter.unusedVariables false
namespace Go.Proofs.YtpdgbhjhodhkiaaGreatDoor.AI
open Go

/-- Abstract values. 'undef' stands for anything; 'tup []' for the machine's own undef. 'ptr': into block i of A (variables); 'bptr', 'sl': into block b of B (rows that grow, at a version); 'rp', 'ro': into rows that nobody writes any more, as values. -/
inductive V where
  | undef
  | bool (b : Bool)
  | int (k : IntKind) (n : Int)
  | str (s : ByteArray)
  | nilp
  | ptr (i off : Nat)
  | bptr (b ver off : Nat)
  | rp (cells : List V) (off : Nat)
  | nils
  | sl (b ver off len : Nat)
  | ro (cells : List V) (n : Nat) (full : Bool)
  | nilm
  | map (b : Nat)
  | nilf
  | fn (f : FuncId) (caps : List V)
  | yld (l : Nat)
  | nili
  | ifc (t : TypeId) (v : V)
  | agg (cells : List V)
  | tup (vs : List V)
  deriving Inhabited

mutual
/-- No reference into A or B. -/
def V.pure : V → Bool
  | .ptr _ _ => false
  | .bptr _ _ _ => false
  | .sl _ _ _ _ => false
  | .map _ => false
  | .yld _ => false
  | .fn _ cs => pureL cs
  | .ifc _ v => V.pure v
  | .agg cs => pureL cs
  | .tup vs => pureL vs
  | .undef | .bool _ | .int _ _ | .str _ | .nilp | .rp _ _ | .nils | .ro _ _ _ | .nilm | .nilf | .nili => true
def pureL : List V → Bool
  | [] => true
  | v :: vs => V.pure v && pureL vs
end

mutual
/-- One more than the greatest block of A that a value leads to. -/
def V.maxA : V → Nat
  | .ptr i _ => i + 1
  | .fn _ cs => maxAL cs
  | .ifc _ v => V.maxA v
  | .agg cs => maxAL cs
  | .tup vs => maxAL vs
  | .undef | .bool _ | .int _ _ | .str _ | .nilp | .bptr _ _ _ | .sl _ _ _ _ | .map _ | .yld _ | .rp _ _ | .nils | .ro _ _ _ | .nilm | .nilf | .nili => 0
def maxAL : List V → Nat
  | [] => 0
  | v :: vs => max (V.maxA v) (maxAL vs)
end

/-- Blocks of B. 'cells': element size, version, all values pure, frozen, the cells so far. -/
inductive BB where
  | cells (sz ver : Nat) (pu fz : Bool) (cs : List V)
  | map (es : List (V × V))
  | loop (st : LoopState) (pend : Option Code) (tm : List V) (ps : List Tmp) (assign body : Code)

structure Mem where
  A : List (List V)
  B : List BB
  hi : Nat
  la : Nat
  lb : Nat

def Mem.empty : Mem := ⟨[], [], 0, 0, 0⟩

structure St where
  tm : List V
  mem : Mem
  df : List (TypeId × V × V)
  rd : Bool

inductive Ex where
  | normal
  | exit (id : Nat)
  | ret

inductive Md where
  | keep | pure | frozen | ext
  deriving DecidableEq

inductive Tgt where
  | fn (f : FuncId)
  | yld (l : Nat)

structure Cfg where
  P : Program
  ok : FuncId → Bool
  md : FuncId → Md
  ext : FuncId → List V → Option V
  /-- Calls and parts of these hand rows on for good. -/
  share : FuncId → Bool := fun _ => false
  shareT : TypeId → Bool := fun _ => false

/-! ### Values -/
def V.cellLike : V → Bool
  | .agg _ => false
  | .tup _ => false
  | .undef => false
  | .bool _ | .int _ _ | .str _ | .nilp | .ptr _ _ | .bptr _ _ _ | .rp _ _ | .nils | .sl _ _ _ _ | .ro _ _ _ | .nilm | .map _ | .nilf | .fn _ _ | .yld _ | .nili | .ifc _ _ => true
def cellsOf : V → List V
  | .agg cs => cs
  | v => [v]
def ofConst0 : Value → V
  | .bool b => .bool b
  | .int k n => .int k n
  | .string s => .str s
  | .pointer none => .nilp
  | .slice none 0 0 => .ro [] 0 true
  | .map none => .nilm
  | .nilFunc => .nilf
  | .nilIface => .nili
  | _ => .undef
def ofConst : Value → V
  | .agg cs => .agg (cs.toList.map ofConst0)
  | v => ofConst0 v
def evalO (tm : List V) : Operand → V
  | .tmp t => tm.getD t .undef
  | .const v => ofConst v
  | .func f => .fn f []
  | .global _ => .undef
def sub (cs : List V) (off n : Nat) : Option (List V) := if off + n ≤ cs.length then some ((cs.drop off).take n) else none
def splice (old : List V) (off : Nat) (cs : List V) : List V := old.take off ++ cs ++ old.drop (off + cs.length)

def isAggD : TypeDesc → Bool
  | .struct _ => true
  | .array _ _ => true
  | _ => false

/-! ### Memory -/
def rdCells (m : Mem) (p : V) (n : Nat) : Option (List V) :=
  match p with
  | .ptr i off => (m.A[i]?).bind fun cs => sub cs off n
  | .bptr b ver off =>
    match m.B[b]? with
    | some (.cells _ ver' _ _ cs) => if ver = ver' then sub cs off n else none
    | _ => none
  | .rp cells off => sub cells off n
  | _ => none
def wrCells (m : Mem) (p : V) (cs : List V) : Option Mem :=
  match p with
  | .ptr i off =>
    match m.A[i]? with
    | some old => if m.la ≤ i ∧ off + cs.length ≤ old.length then some { m with A := m.A.set i (splice old off cs), hi := max m.hi (maxAL cs) } else none
    | none => none
  | .bptr b ver off =>
    match m.B[b]? with
    | some (.cells sz ver' pu false old) =>
      if ver = ver' ∧ m.lb ≤ b ∧ off + cs.length ≤ old.length then some { m with B := m.B.set b (.cells sz ver' (pu && pureL cs) false (splice old off cs)), hi := max m.hi (maxAL cs) } else none
    | _ => none
  | _ => none
def loadV (P : Program) (m : Mem) (t : TypeId) (p : V) : Option V :=
  match P.info? t, P.underlying t with
  | some i, some d =>
    if isAggD d then (rdCells m p i.size).map .agg
    else (rdCells m p 1).bind fun
      | [x] => some x
      | _ => none
  | _, _ => none
def storeV (P : Program) (m : Mem) (t : TypeId) (p v : V) : Option Mem :=
  match P.info? t with
  | some i => if (cellsOf v).length = i.size ∧ (cellsOf v).all V.cellLike = true then wrCells m p (cellsOf v) else none
  | none => none
def padd (p : V) (n : Nat) : Option V :=
  match p with
  | .ptr i off => some (.ptr i (off + n))
  | .bptr b ver off => some (.bptr b ver (off + n))
  | .rp cells off => some (.rp cells (off + n))
  | _ => none
def zeroCellsV (P : Program) (t : TypeId) : Option (List V) :=
  match P.info? t with
  | some i =>
    match i.zero with
    | some z => if ((z.cells.toList.map ofConst0).all V.cellLike) = true then some (z.cells.toList.map ofConst0) else none
    | none => none
  | none => none
def zeroV (P : Program) (t : TypeId) : Option V :=
  match P.info? t with
  | some i => i.zero.map ofConst
  | none => none
def sizeV (P : Program) (t : TypeId) : Option Nat := (P.info? t).map (·.size)
def bytesV (P : Program) (t : TypeId) : Option Nat := (P.info? t).map (·.bytes)
def partV (P : Program) (t : TypeId) (cs : List V) (off : Nat) : Option V :=
  match P.info? t, P.underlying t with
  | some i, some d => if isAggD d then (sub cs off i.size).map .agg else cs[off]?
  | _, _ => none

/-! ### Operations on values -/
def shiftV (op : BinOp) (k : IntKind) (x y : Int) : Option V :=
  if y < 0 then none else
  match op with
  | .shl => some (.int k (k.wrap (x * 2 ^ (min y.toNat k.bits))))
  | .shr => some (.int k (x.fdiv (2 ^ (min y.toNat k.bits))))
  | _ => none
def intV (op : BinOp) (k : IntKind) (x y : Int) : Option V :=
  match op with
  | .add => some (.int k (k.wrap (x + y)))
  | .sub => some (.int k (k.wrap (x - y)))
  | .mul => some (.int k (k.wrap (x * y)))
  | .quo => if y = 0 then none else some (.int k (k.wrap (x.tdiv y)))
  | .rem => if y = 0 then none else some (.int k (x.tmod y))
  | .and => some (.int k (k.wrap (BitVec.ofInt k.bits x &&& BitVec.ofInt k.bits y).toNat))
  | .or => some (.int k (k.wrap (BitVec.ofInt k.bits x ||| BitVec.ofInt k.bits y).toNat))
  | .xor => some (.int k (k.wrap (BitVec.ofInt k.bits x ^^^ BitVec.ofInt k.bits y).toNat))
  | .andNot => some (.int k (k.wrap (BitVec.ofInt k.bits x &&& ~~~ BitVec.ofInt k.bits y).toNat))
  | .eql => some (.bool (x == y))
  | .neq => some (.bool (x != y))
  | .lss => some (.bool (x < y))
  | .leq => some (.bool (x ≤ y))
  | .gtr => some (.bool (x > y))
  | .geq => some (.bool (x ≥ y))
  | _ => none
def strV (op : BinOp) (x y : ByteArray) : Option V :=
  match op with
  | .add => if ((x.size + y.size : Nat) : Int) > 9223372036854775807 then none else some (.str (x ++ y))
  | .eql => some (.bool (x.toList == y.toList))
  | .neq => some (.bool !(x.toList == y.toList))
  | .lss => some (.bool (Op.bytesLess x.toList y.toList))
  | .leq => some (.bool (Op.bytesLess x.toList y.toList || x.toList == y.toList))
  | .gtr => some (.bool !(Op.bytesLess x.toList y.toList || x.toList == y.toList))
  | .geq => some (.bool !(Op.bytesLess x.toList y.toList))
  | _ => none
def isConstO : Operand → Bool
  | .const _ => true
  | _ => false
/-- '==' on what is no number and no string. -/
def eqlV (d : TypeDesc) (lit : Bool) (x y : V) : Option Bool :=
  match d, x, y with
  | .bool, .bool a, .bool b => some (a == b)
  | .pointer _, .nilp, .nilp => some true
  | .pointer _, .nilp, .ptr _ _ | .pointer _, .ptr _ _, .nilp | .pointer _, .nilp, .bptr _ _ _ | .pointer _, .bptr _ _ _, .nilp | .pointer _, .nilp, .rp _ _ | .pointer _, .rp _ _, .nilp => some false
  | .interface _, .nili, .nili => if lit then some true else none
  | .interface _, .nili, .ifc _ _ | .interface _, .ifc _ _, .nili => some false
  | .slice _, .nils, .nils => some true
  | .map _ _, .nilm, .nilm => some true
  | .map _ _, .nilm, .map _ | .map _ _, .map _, .nilm => some false
  | .func _ _ _, .nilf, .nilf => some true
  | .func _ _ _, .nilf, .fn _ _ | .func _ _ _, .fn _ _, .nilf => some false
  | _, _, _ => none
def binV (P : Program) (op : BinOp) (t : TypeId) (lit : Bool) (x y : V) : Option V :=
  match x, y with
  | .int k a, .int k' b =>
    match op with
    | .shl => shiftV .shl k a b
    | .shr => shiftV .shr k a b
    | _ => if k = k' then intV op k a b else none
  | .str a, .str b => strV op a b
  | x, y =>
    match op, P.underlying t with
    | .eql, some d => (eqlV d lit x y).map .bool
    | .neq, some d => (eqlV d lit x y).map fun b => .bool (!b)
    | _, _ => none
def unV (op : UnOp) (x : V) : Option V :=
  match op, x with
  | .neg, .int k n => some (.int k (k.wrap (0 - n)))
  | .not, .bool b => some (.bool !b)
  | _, _ => none
/-! ### Slices' contents -/
/-- The cells of a slice with elements of size sz. -/
def contents (m : Mem) (sz : Nat) : V → Option (Nat × List V)
  | .nils => some (0, [])
  | .ro cells n _ => if n * sz = cells.length then some (n, cells) else none
  | .sl b ver off len =>
    match m.B[b]? with
    | some (.cells sz' ver' _ _ cs) => if ver = ver' ∧ sz = sz' then (sub cs off (len * sz)).map fun l => (len, l) else none
    | _ => none
  | .str s => if sz = 1 then some (s.size, s.data.toList.map fun b => .int .u8 b.toNat) else none
  | _ => none

/-- Bytes as numbers. -/
def u8sOf : List V → Option (List Int)
  | [] => some []
  | .int .u8 n :: r => (u8sOf r).map (n :: ·)
  | _ :: _ => none
def convV (P : Program) (m : Mem) (src dst : TypeId) (x : V) : Option V :=
  match P.underlying src, P.underlying dst, x with
  | some (.slice e), some .string, x =>
    match P.underlying e, x with
    | some (.int .u8), .nils => some (.str ByteArray.empty)
    | some (.int .u8), .ro cells n full => (contents m 1 (.ro cells n full)).bind fun (_, cs) => (u8sOf cs).map fun xs => .str (strOfNums xs)
    | some (.int .u8), .sl b ver off len => (contents m 1 (.sl b ver off len)).bind fun (_, cs) => (u8sOf cs).map fun xs => .str (strOfNums xs)
    | _, _ => none
  | some (.int _), some (.int k), .int _ n => some (.int k (k.wrap n))
  | some .string, some .string, .str s => some (.str s)
  | some .string, some (.slice e), .str s =>
    match P.underlying e with
    | some (.int .u8) => if s.size ≤ 140737488355328 then some (.ro (s.data.toList.map fun b => .int .u8 b.toNat) s.size false) else none
    | _ => none
  | _, _, _ => none
/-- A slice's bounds. -/
def boundV (x : Option V) (dflt : Nat) : Option Nat :=
  match x with
  | none => some dflt
  | some (.int _ i) => if 0 ≤ i then some i.toNat else none
  | some _ => none
def sliceV (P : Program) (mem : Mem) (t : TypeId) (x : V) (lo hi mx : Option V) : Option V :=
  match P.underlying t, x with
  | some .string, .str s =>
    match boundV lo 0, boundV hi s.size, mx with
    | some l, some h, none => if l ≤ h ∧ h ≤ s.size then some (.str (s.extract l h)) else none
    | _, _, _ => none
  | some (.slice e), .ro cells n full =>
    match sizeV P e, boundV lo 0, boundV hi n, mx with
    | some sz, some l, some h, none => if l ≤ h ∧ h ≤ n then (sub cells (l * sz) ((h - l) * sz)).map fun cs => .ro cs (h - l) (full && h == n) else none
    | some sz, some l, some h, some m =>
      match boundV (some m) 0 with
      | some m => if l ≤ h ∧ h ≤ m ∧ m ≤ n ∧ hi.isSome = true then (sub cells (l * sz) ((h - l) * sz)).map fun cs => .ro cs (h - l) (h == m) else none
      | none => none
    | _, _, _, _ => none
  | some (.slice e), .sl b ver off len =>
    match sizeV P e, boundV lo 0, boundV hi len, mx with
    | some sz, some l, some h, none =>
      match mem.B[b]? with
      | some (.cells sz' ver' _ _ _) => if l ≤ h ∧ h ≤ len ∧ sz = sz' ∧ ver = ver' then some (.sl b ver (off + l * sz) (h - l)) else none
      | _ => none
    | _, _, _, _ => none
  | some (.slice e), .nils =>
    match sizeV P e, boundV lo 0, boundV hi 0, boundV mx 0 with
    | some _, some 0, some 0, some 0 => if mx.isSome → hi.isSome then some .nils else none
    | _, _, _, _ => none
  | _, _ => none
def fieldAddrV (P : Program) (s : TypeId) (p : V) (f : Nat) : Option V :=
  match P.underlying s with
  | some (.struct fields) =>
    match fields[f]? with
    | some fd =>
      match sizeV P fd.type with
      | some n => if n = 0 then none else padd p fd.offset
      | none => none
    | none => none
  | _ => none
def fieldV (P : Program) (t : TypeId) (x : V) (f : Nat) : Option V :=
  match P.underlying t, x with
  | some (.struct fields), .agg cs =>
    match fields[f]? with
    | some fd => partV P fd.type cs fd.offset
    | none => none
  | _, _ => none
def indexAddrV (P : Program) (t : TypeId) (x ix : V) : Option V :=
  match P.underlying t, ix with
  | some (.slice e), .int _ i =>
    match sizeV P e, x with
    | some sz, .sl b ver off len => if 0 ≤ i ∧ i < len then some (.bptr b ver (off + i.toNat * sz)) else none
    | some sz, .ro cells n _ => if 0 ≤ i ∧ i < n ∧ i.toNat * sz < cells.length then some (.rp cells (i.toNat * sz)) else none
    | _, _ => none
  | some (.array len e), .int _ i =>
    match sizeV P e with
    | some sz => if 0 ≤ i ∧ i < len then padd x (i.toNat * sz) else none
    | none => none
  | _, _ => none
def byteAt (s : ByteArray) (i : Nat) : Option UInt8 := s.data.toList[i]?
def indexV (P : Program) (t : TypeId) (x ix : V) : Option V :=
  match P.underlying t, x, ix with
  | some .string, .str s, .int _ i => if 0 ≤ i then (byteAt s i.toNat).map fun b => .int .u8 b.toNat else none
  | some (.array len e), .agg cs, .int _ i =>
    match sizeV P e with
    | some sz => if 0 ≤ i ∧ i < len then partV P e cs (i.toNat * sz) else none
    | none => none
  | _, _, _ => none
def fillV (place : Nat → Option (Nat × Nat)) (cells : List V) : List (Nat × V) → Option (List V)
  | [] => some cells
  | (i, v) :: rest =>
    match place i with
    | none => none
    | some (off, size) => if (cellsOf v).length = size ∧ off + size ≤ cells.length ∧ (cellsOf v).all V.cellLike = true then fillV place (splice cells off (cellsOf v)) rest else none
def fieldPlaceV (P : Program) (fields : Array Field) (i : Nat) : Option (Nat × Nat) :=
  match fields[i]? with
  | some f => (sizeV P f.type).map fun n => (f.offset, n)
  | none => none
def buildV (P : Program) (t : TypeId) (parts : List (Nat × V)) : Option V :=
  match zeroV P t, P.underlying t with
  | some (.agg z), some (.struct fields) => if fields.toList.all (fun f => (sizeV P f.type).isSome) = true then (fillV (fieldPlaceV P fields) z parts).map .agg else none
  | some (.agg z), some (.array _ e) =>
    match sizeV P e with
    | some sz => (fillV (fun i => some (i * sz, sz)) z parts).map .agg
    | none => none
  | _, _ => none
def repl (n : Nat) (z : List V) : List V :=
  match n with
  | 0 => []
  | n + 1 => z ++ repl n z
def buildSliceCells (P : Program) (t : TypeId) (len : Nat) (parts : List (Nat × V)) : Option (Nat × List V) :=
  match P.underlying t with
  | some (.slice e) =>
    match sizeV P e, zeroCellsV P e with
    | some sz, some z =>
      if z.length = sz ∧ 0 < sz ∧ len * sz ≤ 16777216 then
        match fillV (fun i => some (i * sz, sz)) (repl len z) parts with
        | some cs => if cs.all V.cellLike = true then some (sz, cs) else none
        | none => none
      else none
    | _, _ => none
  | _ => none

/-! ### Sealing -/
mutual
/-- A value without references, as long as nothing that it leads to is written any more. -/
def shut (B : List BB) (lo : Nat) : V → Option V
  | .sl b ver off len =>
    match B[b]? with
    | some (.cells sz ver' true _ cs) => if ver = ver' ∧ lo ≤ b then (sub cs off (len * sz)).map fun l => .ro l len false else none
    | _ => none
  | .agg cs => (shutL B lo cs).map .agg
  | .tup vs => (shutL B lo vs).map .tup
  | v => if V.pure v then some v else none
def shutL (B : List BB) (lo : Nat) : List V → Option (List V)
  | [] => some []
  | v :: vs =>
    match shut B lo v, shutL B lo vs with
    | some x, some xs => some (x :: xs)
    | _, _ => none
end

mutual
/-- The rows that a value hands on. -/
def V.used : V → List Nat
  | .sl b _ _ _ => [b]
  | .agg cs => usedL cs
  | .tup vs => usedL vs
  | _ => []
def usedL : List V → List Nat
  | [] => []
  | v :: vs => V.used v ++ usedL vs
end
/-- A row that nobody writes any more. -/
def BB.frz : BB → BB
  | .cells sz ver true _ cs => .cells sz ver true true cs
  | x => x
def frzB (bs : List Nat) : Nat → List BB → List BB
  | _, [] => []
  | i, x :: B => (if bs.contains i then x.frz else x) :: frzB bs (i + 1) B

def scalar0 : V → Bool
  | .bool _ | .int _ _ | .str _ | .nilp | .nils | .nilm | .nilf | .nili | .ro [] _ _ => true
  | _ => false
def scalarV : V → Bool
  | .tup vs => vs.all scalar0
  | v => scalar0 v

/-! ### append -/
def appendV (P : Program) (m : Mem) (sT : TypeId) (s x : V) : Option (V × Mem) :=
  match P.underlying sT with
  | some (.slice e) =>
    match P.info? e with
    | none => none
    | some i =>
      match contents m i.size x, zeroCellsV P e with
      | some (n, new), some z =>
        if new.all V.cellLike = false ∨ i.size = 0 ∨ z.length ≠ i.size then none
        else if n = 0 then
          (match s with
           | .nils | .ro _ _ _ | .sl _ _ _ _ => some (s, m)
           | _ => none)
        else
          match s with
          | .nils =>
            if n * i.bytes ≤ 140737488355328 ∧ 0 < i.bytes then
              some (.sl m.B.length 0 0 n, { m with B := m.B ++ [.cells i.size 0 (pureL new) false new], hi := max m.hi (maxAL new) })
            else none
          | .ro cells k true =>
            if k * i.size = cells.length ∧ (k + n) * i.bytes ≤ 140737488355328 ∧ 0 < i.bytes ∧ cells.all V.cellLike = true then
              some (.sl m.B.length 0 0 (k + n), { m with B := m.B ++ [.cells i.size 0 (pureL new) false (cells ++ new)], hi := max m.hi (max (maxAL cells) (maxAL new)) })
            else none
          | .sl b ver off len =>
            match m.B[b]? with
            | some (.cells sz ver' pu false cs) =>
              if ver = ver' ∧ sz = i.size ∧ m.lb ≤ b ∧ (len + n) * i.bytes ≤ 140737488355328 ∧ 0 < i.bytes then
                if off + (len + n) * sz ≤ cs.length then
                  some (.sl b ver off (len + n), { m with B := m.B.set b (.cells sz ver (pu && pureL new) false (splice cs (off + len * sz) new)), hi := max m.hi (maxAL new) })
                else if off = 0 ∧ len * sz = cs.length then
                  some (.sl b (ver + 1) 0 (len + n), { m with B := m.B.set b (.cells sz (ver + 1) (pu && pureL new) false (cs ++ new)), hi := max m.hi (maxAL new) })
                else none
              else none
            | _ => none
          | _ => none
      | _, _ => none
  | _ => none

/-! ### Maps -/
def keyEq (P : Program) (d : TypeDesc) (a b : V) : Option Bool :=
  match d, a, b with
  | .int _, .int k x, .int k' y => if k = k' then some (x == y) else none
  | .string, .str x, .str y => some (x == y)
  | .bool, .bool x, .bool y => some (x == y)
  | .array 2 e, .agg [.str a1, .str a2], .agg [.str b1, .str b2] =>
    match P.underlying e, sizeV P e with
    | some .string, some 1 => some (a1 == b1 && a2 == b2)
    | _, _ => none
  | _, _, _ => none
def keyOk (P : Program) : TypeDesc → V → Bool
  | .int k, .int k' _ => k == k'
  | .string, .str _ => true
  | .bool, .bool _ => true
  | .array 2 e, .agg [.str _, .str _] =>
    match P.underlying e, sizeV P e with
    | some .string, some 1 => true
    | _, _ => false
  | _, _ => false
def findV (P : Program) (d : TypeDesc) (k : V) : List (V × V) → Nat → Option (Option (Nat × V))
  | [], _ => some none
  | (k', v) :: es, i =>
    match keyEq P d k k' with
    | some true => some (some (i, v))
    | some false => findV P d k es (i + 1)
    | none => none
def lookupV (P : Program) (m : Mem) (t : TypeId) (x k : V) (ok : Bool) : Option V :=
  match P.underlying t with
  | some (.map kt et) =>
    match P.underlying kt, (match x with
      | .nilm => some []
      | .map b => (match m.B[b]? with | some (.map es) => some es | _ => none)
      | _ => none : Option (List (V × V))), zeroV P et with
    | some d, some es, some z =>
      if keyOk P d k = false then none else
      match findV P d k es 0 with
      | some (some (_, v)) => some (if ok then .tup [v, .bool true] else v)
      | some none => some (if ok then .tup [z, .bool false] else z)
      | none => none
    | _, _, _ => none
  | _ => none
def updateV (P : Program) (m : Mem) (t : TypeId) (x k v : V) : Option Mem :=
  match P.underlying t, x with
  | some (.map kt _), .map b =>
    match P.underlying kt, m.B[b]? with
    | some d, some (.map es) =>
      if m.lb ≤ b ∧ keyOk P d k = true then
        match findV P d k es 0 with
        | some (some (i, _)) => some { m with B := m.B.set b (.map (es.modify i fun _ => (k, v))), hi := max m.hi (V.maxA v) }
        | some none => some { m with B := m.B.set b (.map (es ++ [(k, v)])), hi := max m.hi (V.maxA v) }
        | none => none
      else none
    | _, _ => none
  | _, _ => none
def deleteV (P : Program) (m : Mem) (t : TypeId) (x k : V) : Option Mem :=
  match P.underlying t, x with
  | some (.map kt _), .map b =>
    match P.underlying kt, m.B[b]? with
    | some d, some (.map es) =>
      if m.lb ≤ b ∧ keyOk P d k = true then
        match findV P d k es 0 with
        | some (some (i, _)) => some { m with B := m.B.set b (.map (es.eraseIdx i)) }
        | some none => some m
        | none => none
      else none
    | _, _ => none
  | _, _ => none

/-! ### Builtins -/
def lenV (P : Program) (m : Mem) (t : TypeId) (x : V) : Option V :=
  match P.underlying t, x with
  | some .string, .str s => some (.int .i64 s.size)
  | some (.array n _), _ => some (.int .i64 n)
  | some (.slice _), .nils => some (.int .i64 0)
  | some (.slice _), .ro _ n _ => some (.int .i64 n)
  | some (.slice _), .sl _ _ _ n => some (.int .i64 n)
  | some (.map _ _), .nilm => some (.int .i64 0)
  | some (.map _ _), .map b =>
    match m.B[b]? with
    | some (.map es) => some (.int .i64 es.length)
    | _ => none
  | _, _ => none
def capV (P : Program) (t : TypeId) (x : V) : Option V :=
  match P.underlying t, x with
  | some (.slice _), .nils => some (.int .i64 0)
  | some (.slice _), .ro _ n true => some (.int .i64 n)
  | _, _ => none
def maxV : V → V → Option V
  | .int k x, .int _ y => some (.int k (if y > x then y else x))
  | _, _ => none
def minV : V → V → Option V
  | .int k x, .int _ y => some (.int k (if y < x then y else x))
  | _, _ => none
def foldV (f : V → V → Option V) : V → List V → Option V
  | x, [] => some x
  | x, y :: r => (f x y).bind fun z => foldV f z r
def makeSliceV (P : Program) (m : Mem) (t : TypeId) (l c : V) : Option (V × Mem) :=
  match P.underlying t, l, c with
  | some (.slice e), .int .i64 l, .int .i64 c =>
    match P.info? e, zeroCellsV P e with
    | some i, some z =>
      if 0 ≤ l ∧ l = c ∧ l * i.bytes ≤ 140737488355328 ∧ l ≤ 140737488355328 ∧ z.length = i.size ∧ 0 < i.size ∧ i.bytes ≤ 140737488355328 then
        some (.sl m.B.length 0 0 l.toNat, { m with B := m.B ++ [.cells i.size 0 (pureL z) false (repl l.toNat z)] })
      else none
    | _, _ => none
  | _, _, _ => none
/-- append of what 'make' makes, to nil. -/
def appendMakeV (P : Program) (m : Mem) (sT : TypeId) (s x : V) : Option (V × Mem) :=
  match P.underlying sT, s, x with
  | some (.slice e), .ro [] 0 true, .int .i64 n =>
    match P.info? e, zeroCellsV P e with
    | some i, some z =>
      if 0 ≤ n ∧ n * i.bytes ≤ 140737488355328 ∧ 0 < i.bytes ∧ i.size ≠ 0 ∧ z.length = i.size then
        if n = 0 then some (.ro [] 0 true, m)
        else some (.sl m.B.length 0 0 n.toNat, { m with B := m.B ++ [.cells i.size 0 (pureL z) false (repl n.toNat z)] })
      else none
    | _, _ => none
  | _, _, _ => none
def builtinV (P : Program) (m : Mem) (b : Builtin) (ts : List TypeId) (args : List V) : Option (V × Mem) :=
  match b, ts, args with
  | .append, [t, u], [s, x] =>
    match P.underlying u with
    | some (.slice _) => appendV P m t s x
    | some .string => appendV P m t s x
    | some (.int _) => appendMakeV P m t s x
    | _ => none
  | .len, t :: _, x :: _ => (lenV P m t x).map (·, m)
  | .cap, t :: _, x :: _ => (capV P t x).map (·, m)
  | .max, _, x :: r => (foldV maxV x r).map (·, m)
  | .min, _, x :: r => (foldV minV x r).map (·, m)
  | .delete, t :: _, [x, k] => (deleteV P m t x k).map (V.tup [], ·)
  | _, _, _ => none

/-! ### Operations -/
def guardV (ops : Array Oper) (tm : List V) (o : Oper) : Option Bool :=
  match o.guard with
  | none => some true
  | some (j, want) =>
    match (ops[j]?).bind (·.dst) with
    | none => some false
    | some d =>
      match tm[d]? with
      | some (.bool b) => some (b == want)
      | some (.tup []) => some false
      | _ => none
def isAlloc (o : Oper) : Bool := match o.op with | .alloc _ => true | _ => false
/-- The block of A that the i-th operation of a region lays, counted from the region's begin. -/
def slotOf (ops : Array Oper) (i : Nat) : Nat := (ops.toList.take i).countP isAlloc
/-- The variables that a region's operations lay, all zero. -/
def preAlloc (P : Program) : List Oper → Option (List (List V))
  | [] => some []
  | o :: os =>
    match o.op with
    | .alloc t =>
      match zeroCellsV P t, preAlloc P os with
      | some z, some r => some (z :: r)
      | _, _ => none
    | _ => preAlloc P os

/-- What is no call. 'slot': the block that an 'alloc' hands out. -/
def opV (P : Program) (m : Mem) (slot : Nat) (ρ : Operand → V) : Op → Option (V × Mem)
  | .move x => some (ρ x, m)
  | .assign x => some (ρ x, m)
  | .pick c a b =>
    match ρ c with
    | .bool t => some (if t then ρ a else ρ b, m)
    | _ => none
  | .alloc _ => some (.ptr slot 0, m)
  | .box t x =>
    match P.info? t with
    | some _ => if (cellsOf (ρ x)).all V.cellLike = true then some (.ptr m.A.length 0, { m with A := m.A ++ [cellsOf (ρ x)], hi := max m.hi (maxAL (cellsOf (ρ x))) }) else none
    | none => none
  | .build t parts => (buildV P t (parts.toList.map fun (i, x) => (i, ρ x))).map (·, m)
  | .buildSlice t len parts =>
    match buildSliceCells P t len (parts.toList.map fun (i, x) => (i, ρ x)) with
    | some (sz, cs) =>
      if pureL cs then some (.ro cs len true, m)
      else some (.sl m.B.length 0 0 len, { m with B := m.B ++ [.cells sz 0 false false cs], hi := max m.hi (maxAL cs) })
    | none => none
  | .load t p => (loadV P m t (ρ p)).map (·, m)
  | .store t p x => (storeV P m t (ρ p) (ρ x)).map (V.tup [], ·)
  | .nilCheck x =>
    match ρ x with
    | .ptr i o => some (.ptr i o, m)
    | .bptr b v o => some (.bptr b v o, m)
    | .rp c o => some (.rp c o, m)
    | .fn f c => some (.fn f c, m)
    | .yld l => some (.yld l, m)
    | _ => none
  | .binOp op t x y _ => (binV P op t (isConstO x || isConstO y) (ρ x) (ρ y)).map (·, m)
  | .unOp op _ x => (unV op (ρ x)).map (·, m)
  | .convert s d x => (convV P m s d (ρ x)).map (·, m)
  | .makeInterface t x =>
    match P.underlying t with
    | some (.interface _) => none
    | some _ => some (.ifc t (ρ x), m)
    | none => none
  | .makeFunc (.func f) first cap => if first.size = 0 then some (.fn f (cap.toList.map ρ), m) else none
  | .makeMap t none => match P.underlying t with
    | some (.map _ _) => some (.map m.B.length, { m with B := m.B ++ [.map []] })
    | _ => none
  | .makeSlice t l c => makeSliceV P m t (ρ l) (ρ c)
  | .slice t x lo hi mx => (sliceV P m t (ρ x) (lo.map ρ) (hi.map ρ) (mx.map ρ)).map (·, m)
  | .fieldAddr s x f => (fieldAddrV P s (ρ x) f).map (·, m)
  | .field t x f => (fieldV P t (ρ x) f).map (·, m)
  | .indexAddr t x ix => (indexAddrV P t (ρ x) (ρ ix)).map (·, m)
  | .index t x ix => (indexV P t (ρ x) (ρ ix)).map (·, m)
  | .lookup t x k ok => (lookupV P m t (ρ x) (ρ k) ok).map (·, m)
  | .mapUpdate t x k v => (updateV P m t (ρ x) (ρ k) (ρ v)).map (V.tup [], ·)
  | .insert t x k v => (updateV P m t (ρ x) (ρ k) (ρ v)).map (V.tup [], ·)
  | .extract x i =>
    match ρ x with
    | .tup vs => (vs[i]?).map (·, m)
    | _ => none
  | _ => none

/-- In a region that draws its order a slice by its parts is one that is known whole. -/
def opQ (P : Program) (draw : Bool) (m : Mem) (slot : Nat) (ρ : Operand → V) (op : Op) : Option (V × Mem) :=
  match draw, op with
  | true, .buildSlice t len parts =>
    match buildSliceCells P t len (parts.toList.map fun (i, x) => (i, ρ x)) with
    | some (_, cs) => if pureL cs then some (.ro cs len true, m) else none
    | none => none
  | _, op => opV P m slot ρ op

abbrev Call := Tgt → List V → Mem → Option (V × Mem)

/-- A call of function f, by its mode. -/
def doCall (cfg : Cfg) (call : Call) (draw : Bool) (f : FuncId) (args : List V) (m : Mem) : Option (V × Mem) :=
  match cfg.md f with
  | .keep => if draw then none else call (.fn f) args m
  | .ext => (cfg.ext f args).bind fun v => if args.all V.pure = true ∧ V.pure v = true then some (v, m) else none
  | .pure =>
    (shutL m.B m.lb args).bind fun args' =>
      (call (.fn f) args' Mem.empty).bind fun (v, m') =>
        (shut m'.B 0 v).bind fun v' => if pureL args || scalarV v' then some (v', m) else if draw then none else some (v', { m with B := frzB (usedL args) 0 m.B })
  | .frozen =>
    (call (.fn f) args { m with la := m.A.length, lb := m.B.length }).bind fun (v, m') =>
      (shut m'.B m.B.length v).map fun v' => (v', m)
def callV (cfg : Cfg) (call : Call) (draw : Bool) (ρ : Operand → V) (m : Mem) (c : Go.Call) : Option (V × Mem) :=
  match c.callee with
  | .builtin b => builtinV cfg.P m b c.argTypes.toList (c.args.toList.map ρ)
  | .value f =>
    match ρ f with
    | .fn f caps => doCall cfg call draw f (c.args.toList.map ρ ++ caps) m
    | .yld l => if draw then none else call (.yld l) (c.args.toList.map ρ) m
    | _ => none
  | .invoke _ _ => none

def putV (tm : List V) (d : Option Tmp) (v : V) : List V :=
  match d with
  | some d => tm.set d v
  | none => tm
/-- One operation of a region. -/
def stepAt (cfg : Cfg) (call : Call) (draw : Bool) (ops : Array Oper) (base i : Nat) (st : St) : Option St :=
  match ops[i]? with
  | none => some st
  | some o =>
    match guardV ops st.tm o with
    | none => none
    | some false => some { st with tm := putV st.tm o.dst (.tup []) }
    | some true =>
      match o.op with
      | .call c => (callV cfg call draw (evalO st.tm) st.mem c).map fun (v, m) => { st with tm := putV st.tm o.dst v, mem := m }
      | .defer { callee := .builtin .delete, args, argTypes } =>
        match argTypes.toList, args.toList.map (evalO st.tm) with
        | t :: _, [x, k] => if st.rd || draw then none else some { st with tm := putV st.tm o.dst (.tup []), df := (t, x, k) :: st.df }
        | _, _ => none
      | op => (opQ cfg.P draw st.mem (base + slotOf ops i) (evalO st.tm) op).map fun (v, m) => { st with tm := putV st.tm o.dst v, mem := m }
def runOps (cfg : Cfg) (call : Call) (draw : Bool) (ops : Array Oper) (base : Nat) : List Nat → St → Option St
  | [], st => some st
  | i :: l, st => (stepAt cfg call draw ops base i st).bind (runOps cfg call draw ops base l)

/-! ### Regions that draw their order: every two operations that would not commute are ordered -/
inductive Cls where
  | pure | reads | writes
  deriving DecidableEq
def clsOf : Op → Cls
  | .move _ | .assign _ | .pick _ _ _ | .alloc _ | .build _ _ | .buildSlice _ _ _ | .nilCheck _ | .binOp _ _ _ _ _ | .unOp _ _ _ | .makeInterface _ _ | .makeFunc _ _ _ | .fieldAddr _ _ _ | .field _ _ _ | .indexAddr _ _ _ | .index _ _ _ | .extract _ _ => .pure
  | .load _ _ | .lookup _ _ _ _ | .convert _ _ _ | .slice _ _ _ _ _ => .reads
  | .call { callee := .builtin .len, .. } | .call { callee := .builtin .cap, .. } | .call { callee := .builtin .max, .. } | .call { callee := .builtin .min, .. } | .call { callee := .value _, .. } => .reads
  | _ => .writes
def namesOf (ops : Array Oper) (o : Oper) : List Tmp :=
  o.dst.toList ++ (o.op.operands.toList.filterMap fun
    | .tmp t => some t
    | _ => none) ++ (match o.guard with
    | some (j, _) => ((ops[j]?).bind (·.dst)).toList
    | none => [])
def clash (ops : Array Oper) (a b : Oper) : Bool :=
  (match a.dst with | some d => (namesOf ops b).contains d | none => false) || (match b.dst with | some d => (namesOf ops a).contains d | none => false) ||
    (clsOf a.op == .writes && !(clsOf b.op == .pure)) || (clsOf b.op == .writes && !(clsOf a.op == .pure))
/-- A number worked out before it is used. -/
def forceN {α : Type} (n : Nat) (k : Nat → α) : α :=
  match n with
  | 0 => k 0
  | m + 1 => k (m + 1)
/-- Which operations stand before one, as a number's bits. -/
def oneBef (look : Nat → Nat) (o : Oper) : Nat := o.after.toList.foldl (fun s e => if Region.binds .any e then s ||| 2 ^ e.on ||| look e.on else s) 0
def befs : List Oper → List Nat → List Nat
  | [], acc => acc
  | o :: r, acc => forceN (oneBef (fun i => acc.getD i 0) o) fun v => befs r (acc ++ [v])
def drawOk (ops : Array Oper) : Bool :=
  ops.toList.zipIdx.all fun (b, j) => (b.after.toList.all fun e => !(Region.binds .any e) || Nat.blt e.on j) &&
    ops.toList.zipIdx.all fun (a, i) => !(Nat.blt i j) || !(clash ops a b) || ((befs ops.toList []).getD j 0).testBit i

/-! ### Code -/
def resetTm : List V → List V → List V
  | e :: es, c :: cs => (match e with | .undef => .undef | .tup [] => .undef | _ => c) :: resetTm es cs
  | _, cs => cs
def maxAD : List (TypeId × V × V) → Nat
  | [] => 0
  | (_, x, k) :: r => max (max (V.maxA x) (V.maxA k)) (maxAD r)
/-- Behind a round: what was not known ahead is forgotten, and the variables of the round are struck where nothing leads to them. -/
def gcSt (st st1 : St) : St :=
  let tm := resetTm st.tm st1.tm
  { st1 with tm := tm, mem := if st1.mem.hi ≤ st.mem.A.length ∧ maxAL tm ≤ st.mem.A.length ∧ maxAD st1.df ≤ st.mem.A.length then { st1.mem with A := st1.mem.A.take st.mem.A.length } else st1.mem }
def loopN (g : St → Option (Ex × St)) : Nat → St → Option (Ex × St)
  | 0, _ => none
  | n + 1, st =>
    match g st with
    | some (.normal, st1) => loopN g n (gcSt st st1)
    | some (e, st1) => some (e, gcSt st st1)
    | none => none
open Classical in
/-- The loop's outcome, whatever its number of rounds. -/
noncomputable def loopW (g : St → Option (Ex × St)) (st : St) : Option (Ex × St) :=
  if h : ∃ r n, loopN g n st = some r then some h.choose else none
/-- Rows that a region hands on for good are closed off at its begin. -/
def tmpsOf : List Operand → List Tmp
  | [] => []
  | .tmp t :: os => t :: tmpsOf os
  | _ :: os => tmpsOf os
def shareO (cfg : Cfg) : Op → List Tmp
  | .call c =>
    match c.callee with
    | .value (.func f) => if cfg.share f then tmpsOf c.args.toList else []
    | _ => []
  | .build t ps => if cfg.shareT t then tmpsOf (ps.toList.map (·.2)) else []
  | .buildSlice t _ ps => if cfg.shareT t then tmpsOf (ps.toList.map (·.2)) else []
  | _ => []
def shareStep (cfg : Cfg) (o : Oper) (T : List Tmp) : List Tmp :=
  match o.op with
  | .move (.tmp s) =>
    match o.dst with
    | some d => if T.contains d then s :: T else T
    | none => T
  | .slice _ (.tmp s) _ _ _ =>
    match o.dst with
    | some d => if T.contains d then s :: T else T
    | none => T
  | op => shareO cfg op ++ T
def shareTs (cfg : Cfg) : List Oper → List Tmp
  | [] => []
  | o :: os => shareStep cfg o (shareTs cfg os)
def dstTs : List Oper → List Tmp
  | [] => []
  | o :: os => match o.dst with
    | some d => d :: dstTs os
    | none => dstTs os
def sealTs (cfg : Cfg) (ops : List Oper) : List Tmp := (shareTs cfg ops).filter fun t => !(dstTs ops).contains t
def sealAt (m : Mem) (ts : List Tmp) : Nat → List V → List V × List Nat
  | _, [] => ([], [])
  | i, v :: vs =>
    if ts.contains i then
      match v with
      | .sl b ver off len =>
        match shut m.B m.lb (.sl b ver off len) with
        | some v' => (v' :: (sealAt m ts (i + 1) vs).1, b :: (sealAt m ts (i + 1) vs).2)
        | none => (v :: (sealAt m ts (i + 1) vs).1, (sealAt m ts (i + 1) vs).2)
      | _ => (v :: (sealAt m ts (i + 1) vs).1, (sealAt m ts (i + 1) vs).2)
    else (v :: (sealAt m ts (i + 1) vs).1, (sealAt m ts (i + 1) vs).2)
def sealSt (ts : List Tmp) (st : St) : St :=
  if ts.isEmpty then st else { st with tm := (sealAt st.mem ts 0 st.tm).1, mem := { st.mem with B := frzB (sealAt st.mem ts 0 st.tm).2 0 st.mem.B } }
def regV (cfg : Cfg) (call : Call) (draw : Bool) (ops : Array Oper) (st : St) : Option (Ex × St) :=
    if draw && !drawOk ops then none else
    match preAlloc cfg.P ops.toList with
    | none => none
    | some zs => (runOps cfg call draw ops st.mem.A.length (List.range ops.size) { st with mem := { st.mem with A := st.mem.A ++ zs } }).map (Ex.normal, ·)
/-- The loops' meaning is handed in: by a number of rounds, or whole. -/
def exec (cfg : Cfg) (call : Call) (loop : (St → Option (Ex × St)) → St → Option (Ex × St)) : Code → St → Option (Ex × St)
  | .skip, st => some (.normal, st)
  | .label _, st => some (.normal, st)
  | .region _ ops draw, st => regV cfg call draw ops (sealSt (sealTs cfg ops.toList) st)
  | .seq a b, st =>
    match exec cfg call loop a st with
    | some (.normal, st1) => exec cfg call loop b st1
    | r => r
  | .cond c a b, st =>
    match evalO st.tm c with
    | .bool true => exec cfg call loop a st
    | .bool false => exec cfg call loop b st
    | _ => none
  | .block id c, st =>
    match exec cfg call loop c st with
    | some (.exit id', st1) => if id' = id then some (.normal, st1) else some (.exit id', st1)
    | r => r
  | .loop c, st => loop (exec cfg call loop c) st
  | .exit id, st => some (.exit id, st)
  | .ret, st => some (.ret, st)
  | .rangeFunc f ps assign body, st =>
    if st.rd then none else
    match evalO st.tm f with
    | .fn g caps =>
      match call (.fn g) (.yld st.mem.B.length :: caps) { st.mem with B := st.mem.B ++ [.loop .ready none st.tm ps.toList assign body], hi := max st.mem.hi (maxAL st.tm) } with
      | some (_, m) =>
        match m.B[st.mem.B.length]? with
        | some (.loop s pend tm ps' as' bo') =>
          if s = .busy then none else
          let st' : St := { st with mem := { m with B := m.B.set st.mem.B.length (.loop .exhausted pend tm ps' as' bo') } }
          match pend with
          | none => some (.normal, st')
          | some .ret => some (.ret, st')
          | some (.exit id) => some (.exit id, st')
          | _ => none
        | _ => none
      | none => none
    | _ => none
  | .scope _, _ => none
  | .goto _, _ => none
  | .refuse _, _ => none

/-! ### Calls -/
def resultsV (P : Program) (m : Mem) (tm : List V) : List ResultVar → Option (List V)
  | [] => some []
  | r :: rs =>
    match (match r with
      | .tmp t => some (tm.getD t .undef)
      | .cell a t => loadV P m t (tm.getD a .undef)), resultsV P m tm rs with
    | some v, some vs => some (v :: vs)
    | _, _ => none
def tupV : List V → V
  | [v] => v
  | vs => .tup vs
def runDf (P : Program) : List (TypeId × V × V) → Mem → Option Mem
  | [], m => some m
  | (t, x, k) :: ds, m => (deleteV P m t x k).bind (runDf P ds)
def truncA (n : Nat) (v : V) (m : Mem) : Mem := if m.hi ≤ n ∧ V.maxA v ≤ n ∧ n ≤ m.A.length then { m with A := m.A.take n } else m
def enterSt (fn : Func) (args : List V) (m : Mem) : St := { tm := args ++ List.replicate (fn.ntmps - args.length) (.tup []), mem := m, df := [], rd := false }
def leaveV (P : Program) (fn : Func) (n : Nat) : Ex × St → Option (V × Mem)
  | (.exit _, _) => none
  | (_, st) =>
    (runDf P st.df st.mem).bind fun m => (resultsV P m st.tm fn.results.toList).map fun vs => (tupV vs, truncA n (tupV vs) m)
def setMany : List V → List Tmp → List V → List V
  | tm, t :: ts, a :: as => setMany (tm.set t a) ts as
  | tm, _, _ => tm
def endRoundV (n l : Nat) : Ex × St → Option (V × Mem)
  | (e, st) =>
    match st.mem.B[l]? with
    | some (.loop _ _ tm ps as bo) =>
      if st.mem.lb ≤ l then
        match e with
        | .normal => some (.bool true, truncA n (.bool true) { st.mem with B := st.mem.B.set l (.loop .ready none tm ps as bo) })
        | .ret => some (.bool false, truncA n (.bool false) { st.mem with B := st.mem.B.set l (.loop .done (some .ret) tm ps as bo) })
        | .exit id => some (.bool false, truncA n (.bool false) { st.mem with B := st.mem.B.set l (.loop .done (some (.exit id)) tm ps as bo) })
      else none
    | _ => none
/-- One level of calls over another. -/
def callF (cfg : Cfg) (call : Call) (loop : (St → Option (Ex × St)) → St → Option (Ex × St)) : Call
  | .fn f, args, m =>
    match cfg.P.funcs[f]? with
    | some fn =>
      match fn.body with
      | some c => if cfg.ok f then (exec cfg call loop c (enterSt fn args m)).bind (leaveV cfg.P fn m.A.length) else none
      | none => none
    | none => none
  | .yld l, args, m =>
    match m.B[l]? with
    | some (.loop .ready _ tm ps as bo) =>
      if ps.length = args.length ∧ m.lb ≤ l then
        match exec cfg call loop as { tm := setMany tm ps args, mem := m, df := [], rd := true } with
        | some (.normal, st1) =>
          match st1.mem.B[l]? with
          | some (.loop .ready pend' tm' ps' as' bo') =>
            (exec cfg call loop bo { st1 with mem := { st1.mem with B := st1.mem.B.set l (.loop .busy pend' tm' ps' as' bo') } }).bind (endRoundV m.A.length l)
          | _ => none
        | _ => none
      else none
    | _ => none
def callN (cfg : Cfg) : Nat → Call
  | 0 => fun _ _ _ => none
  | n + 1 => callF cfg (callN cfg n) (fun g => loopN g n)
open Classical in
/-- A call's outcome, whatever the number of levels and rounds. -/
noncomputable def callW (cfg : Cfg) : Call := fun t args m => if h : ∃ r n, callN cfg n t args m = some r then some h.choose else none

end Go.Proofs.YtpdgbhjhodhkiaaGreatDoor.AI
