/- Printed by gen.py: what functions come to, as conditions over numbers and lists. -/
import Derived.Test.YtibeobmcanaedaaDoorGW
import Derived.Test.YtibeobmcanaedaaDoorG07aD
import Derived.Test.YtibeobmcanaedaaDoorB07e
namespace Go.Abs
set_option linter.unusedVariables false
set_option linter.unusedSimpArgs false
set_option linter.unnecessarySimpa false

/-- offcut offcutlaw07.LinesBlank -/
def f8 (p0 : List UInt8) (p1 : Int) (p2 : List UInt8) (r : Bool) : Prop :=
  IfB (decide ((p0.length : Int) > (500 : Int)))
    (∃ (x1 : Bool), f9 x1 ∧
    IfB x1
      (r = true)
      (r = false))
    (IfB (decide ((p2.length : Int) > (100 : Int)))
      (∃ (x3 : Bool), f9 x3 ∧
      IfB x3
        (r = true)
        (r = false))
      (Fits (p0.length + p2.length) 1 ∧
      ∃ (x6 : Bool), f11 (p0 ++ p2) x6 ∧
      IfB x6
        (Fits (p0.length + p2.length) 1 ∧
        ∃ (x9 : Bool), f22 (p0 ++ p2) ([10, 35] : List UInt8) x9 ∧
        IfB x9
          (∃ (x11 : Bool), f9 x11 ∧
          IfB x11
            (r = true)
            (r = false))
          (∃ (x13 : List UInt8), f25 ([32] : List UInt8) (Int.tmod (IntKind.i64.wrap p1) (20 : Int)) x13 ∧
          ∃ (x15 : List (Int × (List (List UInt8)))) (x16 : Int), f10 p0 (x15, x16) ∧
          Fits (x13.length + p0.length) 1 ∧
          Fits ((x13 ++ p0).length + x13.length) 1 ∧
          Fits (((x13 ++ p0) ++ x13).length + ([32, 35] : List UInt8).length) 1 ∧
          Fits ((((x13 ++ p0) ++ x13) ++ ([32, 35] : List UInt8)).length + p2.length) 1 ∧
          ∃ (x22 : List (Int × (List (List UInt8)))) (x23 : Int), f10 ((((x13 ++ p0) ++ x13) ++ ([32, 35] : List UInt8)) ++ p2) (x22, x23) ∧
          IfB (x16 != (0 : Int))
            (r = false)
            (IfB (x23 != (0 : Int))
              (r = false)
              (IfB ((x15.length : Int) != (x22.length : Int))
                (r = false)
                (IfB (decide ((x15.length : Int) > (1 : Int)))
                  (r = false)
                  (IfB ((x15.length : Int) == (0 : Int))
                    (∃ (x25 : Bool), f9 x25 ∧
                    IfB x25
                      (r = true)
                      (r = false))
                    (∃ (x27 : Int) (x28 : List (List UInt8)), Idx x15 (0 : Int) (x27, x28) ∧
                    ∃ (x30 : List UInt8), f13 x28 ([32] : List UInt8) x30 ∧
                    ∃ (x32 : Int) (x33 : List (List UInt8)), Idx x22 (0 : Int) (x32, x33) ∧
                    ∃ (x35 : List UInt8), f13 x33 ([32] : List UInt8) x35 ∧
                    IfB (x30 == x35)
                      (∃ (x37 : Bool), f9 x37 ∧
                      IfB x37
                        (r = true)
                        (r = false))
                      (r = false))))))))
        (∃ (x39 : Bool), f9 x39 ∧
        IfB x39
          (r = true)
          (r = false))))

end Go.Abs
