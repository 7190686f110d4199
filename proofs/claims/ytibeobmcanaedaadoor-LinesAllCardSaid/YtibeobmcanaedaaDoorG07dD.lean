/- Printed by gen.py: what functions come to, as conditions over numbers and lists. -/
import Derived.Test.YtibeobmcanaedaaDoorGW
import Derived.Test.YtibeobmcanaedaaDoorG07aD
import Derived.Test.YtibeobmcanaedaaDoorG07cD
namespace Go.Abs
set_option linter.unusedVariables false
set_option linter.unusedSimpArgs false
set_option linter.unnecessarySimpa false

def f3_L1 (x3 : List (Int × (List (List UInt8)))) (x10 : List (Int × (List (List UInt8)))) (r : Bool) (X1 : Int → Prop) (s : Int) : Prop := match s with
  | s100 =>
  IfB (decide (s100 < (x3.length : Int)))
    (∃ (x12 : Int) (x13 : List (List UInt8)), Idx x3 s100 (x12, x13) ∧
    ∃ (x15 : Int) (x16 : List (List UInt8)), Idx x10 s100 (x15, x16) ∧
    IfB (x12 != x15)
      (r = false)
      (∃ (x18 : Int) (x19 : List (List UInt8)), Idx x3 s100 (x18, x19) ∧
      ∃ (x21 : List UInt8), f13 x19 ([32] : List UInt8) x21 ∧
      ∃ (x23 : Int) (x24 : List (List UInt8)), Idx x10 s100 (x23, x24) ∧
      ∃ (x26 : List UInt8), f13 x24 ([32] : List UInt8) x26 ∧
      IfB (!(x21 == x26))
        (r = false)
        (∃ (x28 : Int) (x29 : List (List UInt8)), Idx x3 s100 (x28, x29) ∧
        ∃ (x31 : Int) (x32 : List (List UInt8)), Idx x10 s100 (x31, x32) ∧
        IfB ((x29.length : Int) != (x32.length : Int))
          (r = false)
          (X1 (IntKind.i64.wrap (s100 + 1))))))
    (∃ (x34 : Bool), f9 x34 ∧
    IfB x34
      (r = true)
      (r = false))

def f3_L2 (x38 : List (Int × (List (List UInt8)))) (x45 : List (Int × (List (List UInt8)))) (r : Bool) (X2 : Int → Prop) (s : Int) : Prop := match s with
  | s200 =>
  IfB (decide (s200 < (x38.length : Int)))
    (∃ (x47 : Int) (x48 : List (List UInt8)), Idx x38 s200 (x47, x48) ∧
    ∃ (x50 : Int) (x51 : List (List UInt8)), Idx x45 s200 (x50, x51) ∧
    IfB (x47 != x50)
      (r = false)
      (∃ (x53 : Int) (x54 : List (List UInt8)), Idx x38 s200 (x53, x54) ∧
      ∃ (x56 : List UInt8), f13 x54 ([32] : List UInt8) x56 ∧
      ∃ (x58 : Int) (x59 : List (List UInt8)), Idx x45 s200 (x58, x59) ∧
      ∃ (x61 : List UInt8), f13 x59 ([32] : List UInt8) x61 ∧
      IfB (!(x56 == x61))
        (r = false)
        (∃ (x63 : Int) (x64 : List (List UInt8)), Idx x38 s200 (x63, x64) ∧
        ∃ (x66 : Int) (x67 : List (List UInt8)), Idx x45 s200 (x66, x67) ∧
        IfB ((x64.length : Int) != (x67.length : Int))
          (r = false)
          (X2 (IntKind.i64.wrap (s200 + 1))))))
    (∃ (x69 : Bool), f9 x69 ∧
    IfB x69
      (r = true)
      (r = false))

/-- offcut offcutlaw07.LinesAll -/
def f3 (p0 : List UInt8) (r : Bool) : Prop :=
  IfB (decide ((p0.length : Int) > (2000 : Int)))
    (IfB (decide ((p0.length : Int) ≤ (65536 : Int)))
      (∃ (x1 : Bool), f9 x1 ∧
      IfB x1
        (r = true)
        (r = false))
      (∃ (x3 : List (Int × (List (List UInt8)))) (x4 : Int), f10 p0 (x3, x4) ∧
      IfB (decide ((p0.length : Int) > (65536 : Int)))
        (IfB ((x3.length : Int) == (0 : Int))
          (IfB (x4 == (4 : Int))
            (∃ (x6 : Bool), f9 x6 ∧
            IfB x6
              (r = true)
              (r = false))
            (r = false))
          (r = false))
        (∃ (x8 : Bool), f11 p0 x8 ∧
        IfB x8
          (∃ (x10 : List (Int × (List (List UInt8)))), f12 p0 x10 ∧
          IfB ((x3.length : Int) != (x10.length : Int))
            (r = false)
            (IfB (x4 != (0 : Int))
              (r = false)
              (LoopP (f3_L1 x3 x10 r) (0 : Int))))
          (IfB ((x3.length : Int) == (0 : Int))
            (IfB (x4 == (2 : Int))
              (∃ (x36 : Bool), f9 x36 ∧
              IfB x36
                (r = true)
                (r = false))
              (r = false))
            (r = false)))))
    (∃ (x38 : List (Int × (List (List UInt8)))) (x39 : Int), f10 p0 (x38, x39) ∧
    IfB (decide ((p0.length : Int) > (65536 : Int)))
      (IfB ((x38.length : Int) == (0 : Int))
        (IfB (x39 == (4 : Int))
          (∃ (x41 : Bool), f9 x41 ∧
          IfB x41
            (r = true)
            (r = false))
          (r = false))
        (r = false))
      (∃ (x43 : Bool), f11 p0 x43 ∧
      IfB x43
        (∃ (x45 : List (Int × (List (List UInt8)))), f12 p0 x45 ∧
        IfB ((x38.length : Int) != (x45.length : Int))
          (r = false)
          (IfB (x39 != (0 : Int))
            (r = false)
            (LoopP (f3_L2 x38 x45 r) (0 : Int))))
        (IfB ((x38.length : Int) == (0 : Int))
          (IfB (x39 == (2 : Int))
            (∃ (x71 : Bool), f9 x71 ∧
            IfB x71
              (r = true)
              (r = false))
            (r = false))
          (r = false))))

end Go.Abs
