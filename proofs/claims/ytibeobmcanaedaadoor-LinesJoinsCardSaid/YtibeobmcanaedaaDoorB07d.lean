/- Chapter 07: what the library's functions come to (told out of the kit's contracts). -/
import Derived.Test.YtibeobmcanaedaaDoorGW
import Derived.Test.YtibeobmcanaedaaDoorT29
import Derived.Lib.SlicesS
namespace Go.Abs
open Go
/-- Texts that the library's searches take. -/
def Short (s : List UInt8) : Prop := s.length < 4294967281
def Ascii (s : List UInt8) : Prop := ∀ b, b ∈ s → b.toNat < 128
/-- strings.Split at one byte. -/
def f28 (s sep : List UInt8) (r : List (List UInt8)) : Prop := Short s ∧ ∃ c, sep = [c] ∧ r = splitC c s
/-- strings.Cut at one byte. -/
def f29 (s sep : List UInt8) (r : List UInt8 × List UInt8 × Bool) : Prop := Short s ∧ ∃ c, sep = [c] ∧ r = Lib.cut s [c]
/-- strings.Fields of ASCII. -/
def f30 (s : List UInt8) (r : List (List UInt8)) : Prop := Short s ∧ Ascii s ∧ r = Lib.fields s
/-- strings.Join. -/
def f13 (l : List (List UInt8)) (sep : List UInt8) (r : List UInt8) : Prop := l.length ≤ 140737488355328 ∧ (Lib.join l sep).length ≤ 140737488355328 ∧ r = Lib.join l sep
/-- strings.Count of one byte. -/
def f16 (s sub : List UInt8) (r : Int) : Prop := ∃ c, sub = [c] ∧ r = (s.count c : Nat)
/-- slices.Index of strings. -/
def f48 (l : List (List UInt8)) (x : List UInt8) (r : Int) : Prop := l.length ≤ 140737488355328 ∧ r = Lib.idxOfS (l.map fun s => (⟨s.toArray⟩ : ByteArray)) ⟨x.toArray⟩
end Go.Abs

/- Chapter 07: conditions told by hand. -/
namespace Go.Abs
/-- What the document fixes of two lines: it is so. -/
def f9 (r : Bool) : Prop := r = true
end Go.Abs
