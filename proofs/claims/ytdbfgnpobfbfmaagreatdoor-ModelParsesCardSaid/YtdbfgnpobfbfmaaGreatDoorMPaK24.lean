/- Part of a proof, in few files: GT. -/
import Derived.Test.YtdbfgnpobfbfmaaGreatDoorMPaK23
import Derived.Lib.Fields

section
namespace Go.Abs
abbrev Tp := Int × Unit
def gtT (m : Tp) : Tabs := fun g => match g with
  | 0 => some (Lib.asciiSpaceTab.map (PD.int .u8))
  | 2 => some [PD.int .i64 m.1]
  | _ => none
end Go.Abs
end
