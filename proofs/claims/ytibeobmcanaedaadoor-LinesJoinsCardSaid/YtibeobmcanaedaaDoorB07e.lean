/- Chapter 07: further functions of the library's, told. -/
import Derived.Test.YtibeobmcanaedaaDoorB07d
import Derived.Lib.IndexAny
import Derived.Lib.Repeat
namespace Go.Abs
open Go
/-- strings.ContainsAny on ASCII. -/
def f22 (s chars : List UInt8) (r : Bool) : Prop := Short s ∧ Short chars ∧ Ascii s ∧ Ascii chars ∧ r = Lib.containsAny s chars
/-- strings.Repeat. -/
def f25 (s : List UInt8) (c : Int) (r : List UInt8) : Prop := ∃ n : Nat, c = n ∧ n ≤ 1000000 ∧ s.length * n ≤ 140737488355328 ∧ r = Lib.repeatL s n
end Go.Abs
