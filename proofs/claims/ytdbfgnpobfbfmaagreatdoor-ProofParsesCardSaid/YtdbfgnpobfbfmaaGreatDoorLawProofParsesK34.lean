/- Part of a proof, in few files: B13n BDd. -/
import Derived.Test.YtdbfgnpobfbfmaaGreatDoorLawProofParsesK19
import Derived.Test.YtdbfgnpobfbfmaaGreatDoorLawProofParsesK31
import Derived.Lib.IndexMore
import Derived.Test.YtdbfgnpobfbfmaaGreatDoorLawProofParsesK33

section
/- What awake of chapter 13 answers. -/
namespace Go.Abs
def offcutlaw13_awake (r : Bool) : Prop := r = true
end Go.Abs
end

section
/- Further functions of the library's on texts, told: CutSuffix, Contains. -/
namespace Go.Abs
open Go
/-- strings.CutSuffix. -/
def strings_CutSuffix (s p : List UInt8) (r : List UInt8 × Bool) : Prop := s.length ≤ 9223372036854775807 ∧ r = (Lib.trimSuffix s p, Lib.hasSuffix s p)
/-- strings.Contains. -/
def strings_Contains (s p : List UInt8) (r : Bool) : Prop := Short s ∧ r = Lib.contains s p
end Go.Abs
end
