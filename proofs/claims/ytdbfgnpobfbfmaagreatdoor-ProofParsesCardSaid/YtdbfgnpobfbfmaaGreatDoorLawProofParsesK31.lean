/- Part of a proof, in few files: BCd BNd. -/
import Derived.Test.YtdbfgnpobfbfmaaGreatDoorLawProofParsesK22
import Derived.Lib.Strings
import Derived.Test.YtdbfgnpobfbfmaaGreatDoorLawProofParsesK19
import Derived.Test.YtdbfgnpobfbfmaaGreatDoorLawProofParsesK30

section
/- Further functions of the library's on texts, told. -/
namespace Go.Abs
open Go
/-- strings.CutPrefix. -/
def strings_CutPrefix (s p : List UInt8) (r : List UInt8 × Bool) : Prop := r = (Lib.trimPrefix s p, Lib.hasPrefix s p)
end Go.Abs
end

section
/- What the library's functions on a number's words come to. -/
namespace Go.Abs
/-- slices.Clone. -/
def slices_Clone_nat_Nat_uint32 (l r : List Int) : Prop := Fits l.length 4 ∧ r = l
end Go.Abs
end
