/- Printed by gen.py: what functions come to, as conditions over numbers and lists. -/
import Derived.Test.YtdbfgnpobfbfmaaDoorGW
import Derived.Test.YtdbfgnpobfbfmaaDoorDStr
import Derived.Test.YtdbfgnpobfbfmaaDoorB07n
namespace Go.Abs
set_option linter.unusedVariables false
set_option linter.unusedSimpArgs false
set_option linter.unnecessarySimpa false

/-- offcut lines.Number -/
def lines_Number (p0 : List UInt8) (r : Bool × (List Int) × (List Int) × Bool) : Prop :=
  ∃ (x1 : Bool) (x2 : List Int) (x3 : List Int) (x4 : Int), rat_Parse p0 (x1, x2, x3, x4) ∧
  IfB (x4 != (0 : Int))
    (∃ (x6 : Bool) (x7 : List Int) (x8 : List Int), rat_Int (0 : Int) (x6, x7, x8) ∧
    r = (x6, x7, x8, false))
    (r = (x1, x2, x3, true))

/-- offcut offcutlaw07.LinesNumbers -/
def offcutlaw07_LinesNumbers (p0 : List UInt8) (r : Bool) : Prop :=
  IfB (decide ((p0.length : Int) > (500 : Int)))
    (∃ (x1 : Bool), offcutlaw07_awake x1 ∧
    IfB x1
      (r = true)
      (r = false))
    (∃ (x3 : Bool) (x4 : List Int) (x5 : List Int) (x6 : Bool), lines_Number p0 (x3, x4, x5, x6) ∧
    IfB x6
      (∃ (x8 : Bool) (x9 : List Int) (x10 : List Int) (x11 : Int), rat_Parse p0 (x8, x9, x10, x11) ∧
      IfB (x11 != (0 : Int))
        (r = false)
        (∃ (x13 : List UInt8) (x14 : List UInt8), offcutlaw03_Of x8 x9 x10 (x13, x14) ∧
        ∃ (x16 : Bool), offcutlaw03_Is x3 x4 x5 x13 x14 x16 ∧
        IfB x16
          (∃ (x18 : Bool), offcutlaw07_awake x18 ∧
          IfB x18
            (r = true)
            (r = false))
          (r = false)))
      (∃ (x20 : Bool) (x21 : List Int) (x22 : List Int) (x23 : Int), rat_Parse p0 (x20, x21, x22, x23) ∧
      IfB (x23 != (0 : Int))
        (∃ (x25 : Int), rat_Sign x3 x4 x5 x25 ∧
        IfB (x25 == (0 : Int))
          (∃ (x27 : Bool), offcutlaw07_awake x27 ∧
          IfB x27
            (r = true)
            (r = false))
          (r = false))
        (r = false)))

end Go.Abs
