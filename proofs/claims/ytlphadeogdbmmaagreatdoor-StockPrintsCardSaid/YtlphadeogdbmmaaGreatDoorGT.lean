/- The package-level variables that the walks look at. -/
import Derived.Test.YtlphadeogdbmmaaGreatDoorAbs29
import Derived.Lib.Fields
import Derived.Lib.ItoaNum
namespace Go.Abs
/-- What MaxLen holds; whether ErrSyntax, ErrRange are other than nil. -/
abbrev Tp := Int × Bool × Bool
def gtT (m : Tp) : Tabs := fun g => match g with
  | 0 => some (Lib.asciiSpaceTab.map (PD.int .u8))
  | 2 => some [PD.int .i64 m.1]
  | 3 => some (Lib.pow10Tab.map (PD.int .u64))
  | 4 => some [PD.err m.2.1]
  | 5 => some [PD.err m.2.2]
  | _ => none
end Go.Abs
