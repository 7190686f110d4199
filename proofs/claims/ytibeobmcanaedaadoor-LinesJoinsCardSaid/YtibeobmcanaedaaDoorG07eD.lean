/- Printed by gen.py: what functions come to, as conditions over numbers and lists. -/
import Derived.Test.YtibeobmcanaedaaDoorGW
import Derived.Test.YtibeobmcanaedaaDoorG07aD
import Derived.Test.YtibeobmcanaedaaDoorB07k
namespace Go.Abs
set_option linter.unusedVariables false
set_option linter.unusedSimpArgs false
set_option linter.unnecessarySimpa false

def f7_L2 (p0 : List (List UInt8)) (p1 : List UInt8) (r : Bool) (X2 : (Int × Int) → Prop) (s : Int × Int) : Prop := match s with
  | (s200, s201) =>
  IfB (decide (s201 ≥ (0 : Int)))
    (∃ (x19 : List UInt8), Idx p0 s201 x19 ∧
    IfB (x19 == p1)
      (X2 (s201, (IntKind.i64.wrap (s201 - 1))))
      (X2 (s200, (IntKind.i64.wrap (s201 - 1)))))
    (∃ (x21 : List UInt8), f23 p0 x21 ∧
    ∃ (x23 : List (Int × (List (List UInt8)))) (x24 : Int), f10 x21 (x23, x24) ∧
    ∃ (x26 : Int), f24 p0 p1 x26 ∧
    IfB (x26 != s200)
      (r = false)
      (IfB (x24 != (0 : Int))
        (r = false)
        (IfB ((p0.length : Int) == (0 : Int))
          (IfB ((x23.length : Int) == (0 : Int))
            (∃ (x28 : Bool), f9 x28 ∧
            IfB x28
              (r = true)
              (r = false))
            (r = false))
          (IfB ((x23.length : Int) == (1 : Int))
            (∃ (x30 : Int) (x31 : List (List UInt8)), Idx x23 (0 : Int) (x30, x31) ∧
            IfB (x30 == (1 : Int))
              (∃ (x33 : Int) (x34 : List (List UInt8)), Idx x23 (0 : Int) (x33, x34) ∧
              ∃ (x36 : List UInt8), f13 x34 ([32] : List UInt8) x36 ∧
              ∃ (x38 : List UInt8), f13 p0 ([32] : List UInt8) x38 ∧
              IfB (x36 == x38)
                (∃ (x40 : Bool), f9 x40 ∧
                IfB x40
                  (r = true)
                  (r = false))
                (r = false))
              (r = false))
            (r = false)))))

def f7_L1 (p0 : List (List UInt8)) (p1 : List UInt8) (r : Bool) (X1 : Int → Prop) (s : Int) : Prop := match s with
  | s100 =>
  IfB (decide (s100 < (p0.length : Int)))
    (∃ (x5 : List UInt8), Idx p0 s100 x5 ∧
    IfB (decide ((x5.length : Int) > (40 : Int)))
      (∃ (x7 : Bool), f9 x7 ∧
      IfB x7
        (r = true)
        (r = false))
      (IfB (x5 == ([] : List UInt8))
        (∃ (x9 : Bool), f9 x9 ∧
        IfB x9
          (r = true)
          (r = false))
        (∃ (x11 : Bool), f22a x5 ([32, 35, 10] : List UInt8) x11 ∧
        IfB x11
          (∃ (x13 : Bool), f9 x13 ∧
          IfB x13
            (r = true)
            (r = false))
          (∃ (x15 : Bool), f11 x5 x15 ∧
          IfB x15
            (X1 (IntKind.i64.wrap (s100 + 1)))
            (∃ (x17 : Bool), f9 x17 ∧
            IfB x17
              (r = true)
              (r = false))))))
    (LoopP (f7_L2 p0 p1 r) ((-1 : Int), (IntKind.i64.wrap ((p0.length : Int) - 1))))

/-- offcut offcutlaw07.LinesJoins -/
def f7 (p0 : List (List UInt8)) (p1 : List UInt8) (r : Bool) : Prop :=
  IfB (decide ((p0.length : Int) > (50 : Int)))
    (∃ (x1 : Bool), f9 x1 ∧
    IfB x1
      (r = true)
      (r = false))
    (IfB (decide ((p1.length : Int) > (40 : Int)))
      (∃ (x3 : Bool), f9 x3 ∧
      IfB x3
        (r = true)
        (r = false))
      (LoopP (f7_L1 p0 p1 r) (0 : Int)))

end Go.Abs
