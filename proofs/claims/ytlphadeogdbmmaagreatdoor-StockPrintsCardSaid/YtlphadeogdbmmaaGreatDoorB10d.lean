/- Chapter 10: numbers' texts, and trimmed texts: what the library's functions come to. -/
import Derived.Test.YtlphadeogdbmmaaGreatDoorBSd
import Derived.Lib.SlTrimSet
import Derived.Lib.AtoiAll
import Derived.Lib.ItoaNum
namespace Go.Abs
open Go
/-- strconv.Itoa. -/
def strconv_Itoa (n : Int) (r : List UInt8) : Prop := -9223372036854775808 ≤ n ∧ n ≤ 9223372036854775807 ∧ r = Lib.itoa n
/-- strconv.Atoi: the number, and whether there is an error. -/
def strconv_Atoi (s : List UInt8) (r : Int × Bool) : Prop := s.length ≤ 281474976710656 ∧ r = (match Lib.atoiAll s with | .ok v => (v, false) | .range => (Lib.atoiSat s, true) | _ => (0, true))
/-- strings.Trim: of signs that are ASCII. -/
def strings_Trim (s cs : List UInt8) (r : List UInt8) : Prop := Short s ∧ Short cs ∧ Ascii cs ∧ r = Lib.trimS s cs
/-- strings.TrimLeft. -/
def strings_TrimLeft (s cs : List UInt8) (r : List UInt8) : Prop := Short s ∧ Short cs ∧ Ascii cs ∧ r = Lib.trimLeftS s cs
/-- What the document fixes: it is so. -/
def offcutlaw10_awake (r : Bool) : Prop := r = true
end Go.Abs
