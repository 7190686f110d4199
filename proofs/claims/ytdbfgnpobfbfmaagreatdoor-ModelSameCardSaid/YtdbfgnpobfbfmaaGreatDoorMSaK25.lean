/- Part of a proof, in few files: GT. -/
import Derived.Test.YtdbfgnpobfbfmaaGreatDoorMSaK24
import Derived.Lib.Fields

section
/- The package-level variables that the walks look at. -/
namespace Go.Abs
/-- What MaxLen holds. -/
abbrev Tp := Int × Unit
def gtT (m : Tp) : Tabs := fun g => match g with
  | 0 => some (Lib.asciiSpaceTab.map (PD.int .u8))
  | 2 => some [PD.int .i64 m.1]
  | _ => none
end Go.Abs
end
