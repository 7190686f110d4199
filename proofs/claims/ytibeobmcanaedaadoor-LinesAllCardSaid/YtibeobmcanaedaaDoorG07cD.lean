/- Printed by gen.py: what functions come to, as conditions over numbers and lists. -/
import Derived.Test.YtibeobmcanaedaaDoorGW
import Derived.Test.YtibeobmcanaedaaDoorB07d
namespace Go.Abs
set_option linter.unusedVariables false
set_option linter.unusedSimpArgs false
set_option linter.unnecessarySimpa false

def f12_L1 (p0 : List UInt8) (r : (List (Int × (List (List UInt8))))) (X1 : ((List UInt8) × Bool × Int × Int × (List (Int × (List (List UInt8)))) × (List (List UInt8))) → Prop) (s : (List UInt8) × Bool × Int × Int × (List (Int × (List (List UInt8)))) × (List (List UInt8))) : Prop := match s with
  | (s100, s101, s102, s103, s151, s152) =>
  IfB s101
    (IfB (decide (s102 ≤ (p0.length : Int)))
      (IfB (s102 == (p0.length : Int))
        (IfB (!(s100 == ([] : List UInt8)))
          (Fits (s152.length + [s100].length) 16 ∧
          IfB (decide (((s152 ++ [s100]).length : Int) > (0 : Int)))
            (Fits (s151.length + [(s103, (s152 ++ [s100]))].length) 32 ∧
            X1 (([] : List UInt8), false, (IntKind.i64.wrap (s102 + 1)), (IntKind.i64.wrap (s103 + 1)), (s151 ++ [(s103, (s152 ++ [s100]))]), ([] : List (List UInt8))))
            (X1 (([] : List UInt8), false, (IntKind.i64.wrap (s102 + 1)), (IntKind.i64.wrap (s103 + 1)), s151, ([] : List (List UInt8)))))
          (IfB (decide ((s152.length : Int) > (0 : Int)))
            (Fits (s151.length + [(s103, s152)].length) 32 ∧
            X1 (([] : List UInt8), false, (IntKind.i64.wrap (s102 + 1)), (IntKind.i64.wrap (s103 + 1)), (s151 ++ [(s103, s152)]), ([] : List (List UInt8))))
            (X1 (([] : List UInt8), false, (IntKind.i64.wrap (s102 + 1)), (IntKind.i64.wrap (s103 + 1)), s151, ([] : List (List UInt8))))))
        (∃ (c4 : UInt8), Idx p0 s102 c4 ∧
        IfB (((c4.toNat : Nat) : Int) == (10 : Int))
          (IfB (!(s100 == ([] : List UInt8)))
            (Fits (s152.length + [s100].length) 16 ∧
            IfB (decide (((s152 ++ [s100]).length : Int) > (0 : Int)))
              (Fits (s151.length + [(s103, (s152 ++ [s100]))].length) 32 ∧
              X1 (([] : List UInt8), false, (IntKind.i64.wrap (s102 + 1)), (IntKind.i64.wrap (s103 + 1)), (s151 ++ [(s103, (s152 ++ [s100]))]), ([] : List (List UInt8))))
              (X1 (([] : List UInt8), false, (IntKind.i64.wrap (s102 + 1)), (IntKind.i64.wrap (s103 + 1)), s151, ([] : List (List UInt8)))))
            (IfB (decide ((s152.length : Int) > (0 : Int)))
              (Fits (s151.length + [(s103, s152)].length) 32 ∧
              X1 (([] : List UInt8), false, (IntKind.i64.wrap (s102 + 1)), (IntKind.i64.wrap (s103 + 1)), (s151 ++ [(s103, s152)]), ([] : List (List UInt8))))
              (X1 (([] : List UInt8), false, (IntKind.i64.wrap (s102 + 1)), (IntKind.i64.wrap (s103 + 1)), s151, ([] : List (List UInt8))))))
          (∃ (c9 : UInt8), Idx p0 s102 c9 ∧
          IfB (((c9.toNat : Nat) : Int) == (35 : Int))
            (IfB (!(s100 == ([] : List UInt8)))
              (Fits (s152.length + [s100].length) 16 ∧
              X1 (([] : List UInt8), true, (IntKind.i64.wrap (s102 + 1)), s103, s151, (s152 ++ [s100])))
              (X1 (([] : List UInt8), true, (IntKind.i64.wrap (s102 + 1)), s103, s151, s152)))
            (IfB (!(s100 == ([] : List UInt8)))
              (Fits (s152.length + [s100].length) 16 ∧
              X1 (([] : List UInt8), true, (IntKind.i64.wrap (s102 + 1)), s103, s151, (s152 ++ [s100])))
              (X1 (([] : List UInt8), true, (IntKind.i64.wrap (s102 + 1)), s103, s151, s152))))))
      (r = s151))
    (IfB (decide (s102 ≤ (p0.length : Int)))
      (IfB (s102 == (p0.length : Int))
        (IfB (!(s100 == ([] : List UInt8)))
          (Fits (s152.length + [s100].length) 16 ∧
          IfB (decide (((s152 ++ [s100]).length : Int) > (0 : Int)))
            (Fits (s151.length + [(s103, (s152 ++ [s100]))].length) 32 ∧
            X1 (([] : List UInt8), false, (IntKind.i64.wrap (s102 + 1)), (IntKind.i64.wrap (s103 + 1)), (s151 ++ [(s103, (s152 ++ [s100]))]), ([] : List (List UInt8))))
            (X1 (([] : List UInt8), false, (IntKind.i64.wrap (s102 + 1)), (IntKind.i64.wrap (s103 + 1)), s151, ([] : List (List UInt8)))))
          (IfB (decide ((s152.length : Int) > (0 : Int)))
            (Fits (s151.length + [(s103, s152)].length) 32 ∧
            X1 (([] : List UInt8), false, (IntKind.i64.wrap (s102 + 1)), (IntKind.i64.wrap (s103 + 1)), (s151 ++ [(s103, s152)]), ([] : List (List UInt8))))
            (X1 (([] : List UInt8), false, (IntKind.i64.wrap (s102 + 1)), (IntKind.i64.wrap (s103 + 1)), s151, ([] : List (List UInt8))))))
        (∃ (c16 : UInt8), Idx p0 s102 c16 ∧
        IfB (((c16.toNat : Nat) : Int) == (10 : Int))
          (IfB (!(s100 == ([] : List UInt8)))
            (Fits (s152.length + [s100].length) 16 ∧
            IfB (decide (((s152 ++ [s100]).length : Int) > (0 : Int)))
              (Fits (s151.length + [(s103, (s152 ++ [s100]))].length) 32 ∧
              X1 (([] : List UInt8), false, (IntKind.i64.wrap (s102 + 1)), (IntKind.i64.wrap (s103 + 1)), (s151 ++ [(s103, (s152 ++ [s100]))]), ([] : List (List UInt8))))
              (X1 (([] : List UInt8), false, (IntKind.i64.wrap (s102 + 1)), (IntKind.i64.wrap (s103 + 1)), s151, ([] : List (List UInt8)))))
            (IfB (decide ((s152.length : Int) > (0 : Int)))
              (Fits (s151.length + [(s103, s152)].length) 32 ∧
              X1 (([] : List UInt8), false, (IntKind.i64.wrap (s102 + 1)), (IntKind.i64.wrap (s103 + 1)), (s151 ++ [(s103, s152)]), ([] : List (List UInt8))))
              (X1 (([] : List UInt8), false, (IntKind.i64.wrap (s102 + 1)), (IntKind.i64.wrap (s103 + 1)), s151, ([] : List (List UInt8))))))
          (∃ (c21 : UInt8), Idx p0 s102 c21 ∧
          IfB (((c21.toNat : Nat) : Int) == (35 : Int))
            (IfB (!(s100 == ([] : List UInt8)))
              (Fits (s152.length + [s100].length) 16 ∧
              X1 (([] : List UInt8), true, (IntKind.i64.wrap (s102 + 1)), s103, s151, (s152 ++ [s100])))
              (X1 (([] : List UInt8), true, (IntKind.i64.wrap (s102 + 1)), s103, s151, s152)))
            (∃ (c24 : UInt8), Idx p0 s102 c24 ∧
            IfB (((c24.toNat : Nat) : Int) == (32 : Int))
              (IfB (!(s100 == ([] : List UInt8)))
                (Fits (s152.length + [s100].length) 16 ∧
                X1 (([] : List UInt8), false, (IntKind.i64.wrap (s102 + 1)), s103, s151, (s152 ++ [s100])))
                (X1 (([] : List UInt8), false, (IntKind.i64.wrap (s102 + 1)), s103, s151, s152)))
              (SubOk p0 s102 (IntKind.i64.wrap (s102 + 1)) ∧
              Fits (s100.length + (sub p0 s102 (IntKind.i64.wrap (s102 + 1))).length) 1 ∧
              X1 ((s100 ++ (sub p0 s102 (IntKind.i64.wrap (s102 + 1)))), false, (IntKind.i64.wrap (s102 + 1)), s103, s151, s152))))))
      (r = s151))

/-- offcut offcutref07.All -/
def f12 (p0 : List UInt8) (r : (List (Int × (List (List UInt8))))) : Prop :=
  LoopP (f12_L1 p0 r) (([] : List UInt8), false, (0 : Int), (1 : Int), ([] : List (Int × (List (List UInt8)))), ([] : List (List UInt8)))

end Go.Abs
