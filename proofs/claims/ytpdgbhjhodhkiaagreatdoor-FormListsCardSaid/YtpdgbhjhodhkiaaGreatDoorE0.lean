/- The forms' seat: what is told of the library, with unknown arguments. -/
import Derived.Test.YtpdgbhjhodhkiaaGreatDoorY0
import Derived.Lib.ItoaNum
import Derived.Lib.AtoiAll
import Derived.Lib.RuneCount
import Derived.Lib.ValidU
import Derived.Lib.SlTrimSet
import Derived.Lib.Strings
import Derived.Lib.IndexMore
set_option linter.unusedSimpArgs false
set_option linter.unnecessarySimpa false
set_option linter.unusedVariables false
namespace Go.Proofs.YtpdgbhjhodhkiaaGreatDoor.AI
open Go
def atoiOk (s : Bs) : Bool := match Lib.atoiAll s with | .ok _ => true | _ => false
def atoiVal (s : Bs) : Int := match Lib.atoiAll s with | .ok v => v | .range => Lib.atoiSat s | _ => 0
def runesN (s : Bs) : Int := Lib.runeCountL s
def ascii (s : Bs) : Bool := s.all fun b => b.toNat < 128
/-- Itoa, Atoi, RuneCountInString, ValidString, Trim, CutPrefix, Cut, TrimPrefix, Clone of forms and of ints, Index. -/
def extD {R : Type} (f : FuncId) (ws : List (W T)) (k : W T → Option R) : Option R :=
  bif Nat.beq f 82 then (match ws with | [.int .i64 n] => cnd (ok64 n) (k (.str (Lib.itoa n))) none | _ => none) else
  bif Nat.beq f 97 then (match ws with | [.str s] => cnd (decide (s.length ≤ 281474976710656)) (cnd (atoiOk s) (k (.tup [.int .i64 (atoiVal s), .nili])) (k (.tup [.int .i64 (atoiVal s), .ifc 216 .undef]))) none | _ => none) else
  bif Nat.beq f 101 then (match ws with | [.str s] => cnd (decide (s.length < 9223372036854775807)) (k (.int .i64 (runesN s))) none | _ => none) else
  bif Nat.beq f 153 then (match ws with | [.str s] => cnd (decide (s.length ≤ 9223372036854775807)) (k (.bool (Lib.validD s))) none | _ => none) else
  bif Nat.beq f 158 then (match ws with | [.str s, .str t] => cnd (decide (s.length ≤ 9223372036854775807) && (decide (t.length < 4294967281) && ascii t)) (k (.str (Lib.trimS s t))) none | _ => none) else
  bif Nat.beq f 184 then (match ws with | [.str s, .str t] => k (.tup [.str (Lib.trimPrefix s t), .bool (Lib.hasPrefix s t)]) | _ => none) else
  bif Nat.beq f 186 then (match ws with | [.str s, .str t] => cnd (decide (s.length < 4294967281)) (k (.tup [.str (Lib.cut s t).1, .str (Lib.cut s t).2.1, .bool (Lib.cut s t).2.2])) none | _ => none) else
  bif Nat.beq f 187 then (match ws with | [.str s, .str t] => k (.str (Lib.trimPrefix s t)) | _ => none) else
  bif Nat.beq f 106 then (match ws with | [.row 3 l _] => cnd (decide (l.length * 64 ≤ 140737488355328)) (k (.row 3 l false)) none | [.nilsl] => k (.row 3 ([] : List Form) false) | _ => none) else
  bif Nat.beq f 176 then (match ws with | [.row 0 l _] => cnd (decide (l.length * 8 ≤ 140737488355328)) (k (.row 0 l false)) none | [.nilsl] => k (.row 0 ([] : List Int) false) | _ => none) else
  bif Nat.beq f 222 then (match ws with | [.str s, .str t] => cnd (decide (s.length < 4294967281)) (k (.int .i64 (Lib.index s t))) none | _ => none) else
  none
end Go.Proofs.YtpdgbhjhodhkiaaGreatDoor.AI
