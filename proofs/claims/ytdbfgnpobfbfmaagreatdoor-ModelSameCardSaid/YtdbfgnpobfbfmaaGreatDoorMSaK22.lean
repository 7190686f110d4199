/- Part of a proof, in few files: BSd. -/
import Derived.Test.YtdbfgnpobfbfmaaGreatDoorMSaK19
import Derived.Test.YtdbfgnpobfbfmaaGreatDoorMSaK21
import Derived.Lib.SlicesS

section
/- What the library's functions on texts come to (told out of the kit's contracts). -/
namespace Go.Abs
open Go
/-- Texts that the library's searches take. -/
def Short (s : List UInt8) : Prop := s.length < 4294967281
def Ascii (s : List UInt8) : Prop := ∀ b, b ∈ s → b.toNat < 128
/-- strings.Split at one byte. -/
def strings_Split (s sep : List UInt8) (r : List (List UInt8)) : Prop := Short s ∧ ∃ c, sep = [c] ∧ r = splitC c s
/-- strings.Cut at one byte. -/
def strings_Cut (s sep : List UInt8) (r : List UInt8 × List UInt8 × Bool) : Prop := Short s ∧ ∃ c, sep = [c] ∧ r = Lib.cut s [c]
/-- strings.Fields of ASCII. -/
def strings_Fields (s : List UInt8) (r : List (List UInt8)) : Prop := Short s ∧ Ascii s ∧ r = Lib.fields s
/-- strings.Join. -/
def strings_Join (l : List (List UInt8)) (sep : List UInt8) (r : List UInt8) : Prop := l.length ≤ 140737488355328 ∧ (Lib.join l sep).length ≤ 140737488355328 ∧ r = Lib.join l sep
/-- slices.Index of strings. -/
def slices_Index_string_string (l : List (List UInt8)) (x : List UInt8) (r : Int) : Prop := l.length ≤ 140737488355328 ∧ r = Lib.idxOfS (l.map fun s => (⟨s.toArray⟩ : ByteArray)) ⟨x.toArray⟩
end Go.Abs
end
