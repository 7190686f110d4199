/- Part of a proof, in few files: DLin. -/
import Derived.Test.YtdbfgnpobfbfmaaGreatDoorLawProofParsesK19
import Derived.Test.YtdbfgnpobfbfmaaGreatDoorLawProofParsesK22
import Derived.Test.YtdbfgnpobfbfmaaGreatDoorLawProofParsesK32

section
/- Printed by gen.py: what functions come to, as conditions over numbers and lists. -/
namespace Go.Abs
set_option linter.unusedVariables false
set_option linter.unusedSimpArgs false
set_option linter.unnecessarySimpa false

/-- offcut lines.may -/
def lines_may (p0 : Int) (r : Bool) : Prop :=
  IfB (p0 == (10 : Int))
    (r = true)
    (IfB (decide (p0 ≥ (32 : Int)))
      (IfB (decide (p0 ≤ (126 : Int)))
        (r = true)
        (r = false))
      (r = false))

def lines_All_L2 (x4 : List (List UInt8)) (r : (List (Int × (List (List UInt8)))) × Int) (X2 : (Int × (List (Int × (List (List UInt8))))) → Prop) (s : Int × (List (Int × (List (List UInt8))))) : Prop := match s with
  | (s200, s252) =>
  IfB (decide (s200 < (x4.length : Int)))
    (∃ (x6 : List UInt8), Idx x4 s200 x6 ∧
    ∃ (x8 : List UInt8) (x9 : List UInt8) (x10 : Bool), strings_Cut x6 ([35] : List UInt8) (x8, x9, x10) ∧
    IfB x10
      (∃ (x12 : List (List UInt8)), strings_Fields x8 x12 ∧
      IfB (decide ((x12.length : Int) > (0 : Int)))
        (Fits (s252.length + [((IntKind.i64.wrap (s200 + 1)), x12)].length) 32 ∧
        X2 ((IntKind.i64.wrap (s200 + 1)), (s252 ++ [((IntKind.i64.wrap (s200 + 1)), x12)])))
        (X2 ((IntKind.i64.wrap (s200 + 1)), s252)))
      (∃ (x15 : List (List UInt8)), strings_Fields x8 x15 ∧
      IfB (decide ((x15.length : Int) > (0 : Int)))
        (Fits (s252.length + [((IntKind.i64.wrap (s200 + 1)), x15)].length) 32 ∧
        X2 ((IntKind.i64.wrap (s200 + 1)), (s252 ++ [((IntKind.i64.wrap (s200 + 1)), x15)])))
        (X2 ((IntKind.i64.wrap (s200 + 1)), s252))))
    (r = (s252, 0))

def lines_All_L1 (p0 : List UInt8) (r : (List (Int × (List (List UInt8)))) × Int) (X1 : Nat → Prop) (s : Nat) : Prop := match s with
  | s151 =>
  IfB (decide (s151 < p0.length))
    (∃ (x2 : Bool), lines_may (runeAt p0 s151) x2 ∧
    IfB x2
      (X1 (s151 + runeLen p0 s151))
      (r = (([] : List (Int × (List (List UInt8)))), 2)))
    (∃ (x4 : List (List UInt8)), strings_Split p0 ([10] : List UInt8) x4 ∧
    LoopP (lines_All_L2 x4 r) ((0 : Int), ([] : List (Int × (List (List UInt8))))))

/-- offcut lines.All -/
def lines_All (p0 : List UInt8) (r : (List (Int × (List (List UInt8)))) × Int) : Prop :=
  IfB (decide ((p0.length : Int) > (65536 : Int)))
    (r = (([] : List (Int × (List (List UInt8)))), 4))
    (LoopP (lines_All_L1 p0 r) 0)

def offcutref07_Right_L1 (p0 : List UInt8) (r : Bool) (X1 : Int → Prop) (s : Int) : Prop := match s with
  | s100 =>
  IfB (decide (s100 < (p0.length : Int)))
    (∃ (c1 : UInt8), Idx p0 s100 c1 ∧
    IfB (((c1.toNat : Nat) : Int) != (10 : Int))
      (∃ (c3 : UInt8), Idx p0 s100 c3 ∧
      IfB (decide (((c3.toNat : Nat) : Int) < (32 : Int)))
        (r = false)
        (∃ (c5 : UInt8), Idx p0 s100 c5 ∧
        IfB (decide (((c5.toNat : Nat) : Int) > (126 : Int)))
          (r = false)
          (X1 (IntKind.i64.wrap (s100 + 1)))))
      (X1 (IntKind.i64.wrap (s100 + 1))))
    (r = true)

/-- offcut offcutref07.Right -/
def offcutref07_Right (p0 : List UInt8) (r : Bool) : Prop :=
  LoopP (offcutref07_Right_L1 p0 r) (0 : Int)

def offcutref07_All_L1 (p0 : List UInt8) (r : (List (Int × (List (List UInt8))))) (X1 : ((List UInt8) × Bool × Int × Int × (List (Int × (List (List UInt8)))) × (List (List UInt8))) → Prop) (s : (List UInt8) × Bool × Int × Int × (List (Int × (List (List UInt8)))) × (List (List UInt8))) : Prop := match s with
  | (s100, s101, s102, s103, s151, s152) =>
  IfB s101
    (IfB (decide (s102 ≤ (p0.length : Int)))
      (IfB (s102 == (p0.length : Int))
        (IfB (!(s100 == ([] : List UInt8)))
          (Fits (s152.length + [s100].length) 16 ∧
          IfB (decide (((s152 ++ [s100]).length : Int) > (0 : Int)))
            (Fits (s151.length + [(s103, (s152 ++ [s100]))].length) 32 ∧
            X1 (([] : List UInt8), false, (IntKind.i64.wrap (s102 + 1)), (IntKind.i64.wrap (s103 + 1)), (s151 ++ [(s103, (s152 ++ [s100]))]), ([] : List (List UInt8))))
            (X1 (([] : List UInt8), false, (IntKind.i64.wrap (s102 + 1)), (IntKind.i64.wrap (s103 + 1)), s151, ([] : List (List UInt8)))))
          (IfB (decide ((s152.length : Int) > (0 : Int)))
            (Fits (s151.length + [(s103, s152)].length) 32 ∧
            X1 (([] : List UInt8), false, (IntKind.i64.wrap (s102 + 1)), (IntKind.i64.wrap (s103 + 1)), (s151 ++ [(s103, s152)]), ([] : List (List UInt8))))
            (X1 (([] : List UInt8), false, (IntKind.i64.wrap (s102 + 1)), (IntKind.i64.wrap (s103 + 1)), s151, ([] : List (List UInt8))))))
        (∃ (c4 : UInt8), Idx p0 s102 c4 ∧
        IfB (((c4.toNat : Nat) : Int) == (10 : Int))
          (IfB (!(s100 == ([] : List UInt8)))
            (Fits (s152.length + [s100].length) 16 ∧
            IfB (decide (((s152 ++ [s100]).length : Int) > (0 : Int)))
              (Fits (s151.length + [(s103, (s152 ++ [s100]))].length) 32 ∧
              X1 (([] : List UInt8), false, (IntKind.i64.wrap (s102 + 1)), (IntKind.i64.wrap (s103 + 1)), (s151 ++ [(s103, (s152 ++ [s100]))]), ([] : List (List UInt8))))
              (X1 (([] : List UInt8), false, (IntKind.i64.wrap (s102 + 1)), (IntKind.i64.wrap (s103 + 1)), s151, ([] : List (List UInt8)))))
            (IfB (decide ((s152.length : Int) > (0 : Int)))
              (Fits (s151.length + [(s103, s152)].length) 32 ∧
              X1 (([] : List UInt8), false, (IntKind.i64.wrap (s102 + 1)), (IntKind.i64.wrap (s103 + 1)), (s151 ++ [(s103, s152)]), ([] : List (List UInt8))))
              (X1 (([] : List UInt8), false, (IntKind.i64.wrap (s102 + 1)), (IntKind.i64.wrap (s103 + 1)), s151, ([] : List (List UInt8))))))
          (∃ (c9 : UInt8), Idx p0 s102 c9 ∧
          IfB (((c9.toNat : Nat) : Int) == (35 : Int))
            (IfB (!(s100 == ([] : List UInt8)))
              (Fits (s152.length + [s100].length) 16 ∧
              X1 (([] : List UInt8), true, (IntKind.i64.wrap (s102 + 1)), s103, s151, (s152 ++ [s100])))
              (X1 (([] : List UInt8), true, (IntKind.i64.wrap (s102 + 1)), s103, s151, s152)))
            (IfB (!(s100 == ([] : List UInt8)))
              (Fits (s152.length + [s100].length) 16 ∧
              X1 (([] : List UInt8), true, (IntKind.i64.wrap (s102 + 1)), s103, s151, (s152 ++ [s100])))
              (X1 (([] : List UInt8), true, (IntKind.i64.wrap (s102 + 1)), s103, s151, s152))))))
      (r = s151))
    (IfB (decide (s102 ≤ (p0.length : Int)))
      (IfB (s102 == (p0.length : Int))
        (IfB (!(s100 == ([] : List UInt8)))
          (Fits (s152.length + [s100].length) 16 ∧
          IfB (decide (((s152 ++ [s100]).length : Int) > (0 : Int)))
            (Fits (s151.length + [(s103, (s152 ++ [s100]))].length) 32 ∧
            X1 (([] : List UInt8), false, (IntKind.i64.wrap (s102 + 1)), (IntKind.i64.wrap (s103 + 1)), (s151 ++ [(s103, (s152 ++ [s100]))]), ([] : List (List UInt8))))
            (X1 (([] : List UInt8), false, (IntKind.i64.wrap (s102 + 1)), (IntKind.i64.wrap (s103 + 1)), s151, ([] : List (List UInt8)))))
          (IfB (decide ((s152.length : Int) > (0 : Int)))
            (Fits (s151.length + [(s103, s152)].length) 32 ∧
            X1 (([] : List UInt8), false, (IntKind.i64.wrap (s102 + 1)), (IntKind.i64.wrap (s103 + 1)), (s151 ++ [(s103, s152)]), ([] : List (List UInt8))))
            (X1 (([] : List UInt8), false, (IntKind.i64.wrap (s102 + 1)), (IntKind.i64.wrap (s103 + 1)), s151, ([] : List (List UInt8))))))
        (∃ (c16 : UInt8), Idx p0 s102 c16 ∧
        IfB (((c16.toNat : Nat) : Int) == (10 : Int))
          (IfB (!(s100 == ([] : List UInt8)))
            (Fits (s152.length + [s100].length) 16 ∧
            IfB (decide (((s152 ++ [s100]).length : Int) > (0 : Int)))
              (Fits (s151.length + [(s103, (s152 ++ [s100]))].length) 32 ∧
              X1 (([] : List UInt8), false, (IntKind.i64.wrap (s102 + 1)), (IntKind.i64.wrap (s103 + 1)), (s151 ++ [(s103, (s152 ++ [s100]))]), ([] : List (List UInt8))))
              (X1 (([] : List UInt8), false, (IntKind.i64.wrap (s102 + 1)), (IntKind.i64.wrap (s103 + 1)), s151, ([] : List (List UInt8)))))
            (IfB (decide ((s152.length : Int) > (0 : Int)))
              (Fits (s151.length + [(s103, s152)].length) 32 ∧
              X1 (([] : List UInt8), false, (IntKind.i64.wrap (s102 + 1)), (IntKind.i64.wrap (s103 + 1)), (s151 ++ [(s103, s152)]), ([] : List (List UInt8))))
              (X1 (([] : List UInt8), false, (IntKind.i64.wrap (s102 + 1)), (IntKind.i64.wrap (s103 + 1)), s151, ([] : List (List UInt8))))))
          (∃ (c21 : UInt8), Idx p0 s102 c21 ∧
          IfB (((c21.toNat : Nat) : Int) == (35 : Int))
            (IfB (!(s100 == ([] : List UInt8)))
              (Fits (s152.length + [s100].length) 16 ∧
              X1 (([] : List UInt8), true, (IntKind.i64.wrap (s102 + 1)), s103, s151, (s152 ++ [s100])))
              (X1 (([] : List UInt8), true, (IntKind.i64.wrap (s102 + 1)), s103, s151, s152)))
            (∃ (c24 : UInt8), Idx p0 s102 c24 ∧
            IfB (((c24.toNat : Nat) : Int) == (32 : Int))
              (IfB (!(s100 == ([] : List UInt8)))
                (Fits (s152.length + [s100].length) 16 ∧
                X1 (([] : List UInt8), false, (IntKind.i64.wrap (s102 + 1)), s103, s151, (s152 ++ [s100])))
                (X1 (([] : List UInt8), false, (IntKind.i64.wrap (s102 + 1)), s103, s151, s152)))
              (SubOk p0 s102 (IntKind.i64.wrap (s102 + 1)) ∧
              Fits (s100.length + (sub p0 s102 (IntKind.i64.wrap (s102 + 1))).length) 1 ∧
              X1 ((s100 ++ (sub p0 s102 (IntKind.i64.wrap (s102 + 1)))), false, (IntKind.i64.wrap (s102 + 1)), s103, s151, s152))))))
      (r = s151))

/-- offcut offcutref07.All -/
def offcutref07_All (p0 : List UInt8) (r : (List (Int × (List (List UInt8))))) : Prop :=
  LoopP (offcutref07_All_L1 p0 r) (([] : List UInt8), false, (0 : Int), (1 : Int), ([] : List (Int × (List (List UInt8)))), ([] : List (List UInt8)))

end Go.Abs
end
