/- Part of a proof, in few files: DLin B13n BDd D13p D13c B08n B08m D08b B09n D09 GLinW DClo GCloW BNw. -/
import Derived.Test.YtojdnnogpffhpaaGreatDoorNOrK11
import Derived.Test.YtojdnnogpffhpaaGreatDoorNOrK14
import Derived.Lib.IndexMore
import Derived.Test.YtojdnnogpffhpaaGreatDoorNOrK5
import Derived.Test.YtojdnnogpffhpaaGreatDoorNOrK13
import Derived.Test.YtojdnnogpffhpaaGreatDoorProg
import Derived.WalkKit
import Derived.WalkSpells
import Derived.WalkLawsBesides
import Derived.Shelf.Slices.Clone

section
namespace Go.Abs
set_option linter.unusedVariables false
set_option linter.unusedSimpArgs false
set_option linter.unnecessarySimpa false
def lines_may (p0 : Int) (r : Bool) : Prop :=
  IfB (p0 == 10)
    (r = true)
    (IfB (decide (p0 ≥ 32))
      (IfB (decide (p0 ≤ 126))
        (r = true)
        (r = false))
      (r = false))
def lines_All_L2 (x4 : List (List UInt8)) (r : (List (Int × (List (List UInt8)))) × Int) (X2 : (Int × (List (Int × (List (List UInt8))))) → Prop) (s : Int × (List (Int × (List (List UInt8))))) : Prop := match s with
  | (s200, s252) =>
  IfB (decide (s200 < (x4.length : Int)))
    (∃ x6, Idx x4 s200 x6 ∧
    ∃ x8 x9 x10, strings_Cut x6 ([35] : List UInt8) (x8, x9, x10) ∧
    IfB x10
      (∃ x12, strings_Fields x8 x12 ∧
      IfB (decide ((x12.length : Int) > 0))
        (Fits (s252.length + [((IntKind.i64.wrap (s200 + 1)), x12)].length) 32 ∧
        X2 ((IntKind.i64.wrap (s200 + 1)), (s252 ++ [((IntKind.i64.wrap (s200 + 1)), x12)])))
        (X2 ((IntKind.i64.wrap (s200 + 1)), s252)))
      (∃ x15, strings_Fields x8 x15 ∧
      IfB (decide ((x15.length : Int) > 0))
        (Fits (s252.length + [((IntKind.i64.wrap (s200 + 1)), x15)].length) 32 ∧
        X2 ((IntKind.i64.wrap (s200 + 1)), (s252 ++ [((IntKind.i64.wrap (s200 + 1)), x15)])))
        (X2 ((IntKind.i64.wrap (s200 + 1)), s252))))
    (r = (s252, 0))
def lines_All_L1 (p0 : List UInt8) (r : (List (Int × (List (List UInt8)))) × Int) (X1 : Nat → Prop) (s : Nat) : Prop := match s with
  | s151 =>
  IfB (decide (s151 < p0.length))
    (∃ x2, lines_may (runeAt p0 s151) x2 ∧
    IfB x2
      (X1 (s151 + runeLen p0 s151))
      (r = ([], 2)))
    (∃ x4, strings_Split p0 ([10] : List UInt8) x4 ∧
    LoopP (lines_All_L2 x4 r) ((0 : Int), []))
def lines_All (p0 : List UInt8) (r : (List (Int × (List (List UInt8)))) × Int) : Prop :=
  IfB (decide ((p0.length : Int) > 65536))
    (r = ([], 4))
    (LoopP (lines_All_L1 p0 r) 0)
def lines_Join (p0 : List (List UInt8)) (r : (List UInt8)) : Prop :=
  ∃ x1, strings_Join p0 ([32] : List UInt8) x1 ∧
  r = x1
def lines_Name_L1 (p0 : List UInt8) (r : Bool) (X1 : Nat → Prop) (s : Nat) : Prop := match s with
  | s150 =>
  IfB (decide (s150 < p0.length))
    (IfB (decide ((runeAt p0 s150) ≥ 97))
      (IfB (decide ((runeAt p0 s150) ≤ 122))
        (X1 (s150 + runeLen p0 s150))
        (IfB (((s150 : Nat) : Int) == 0)
          (r = false)
          (IfB ((runeAt p0 s150) != 95)
            (IfB (decide ((runeAt p0 s150) < 48))
              (r = false)
              (IfB (decide ((runeAt p0 s150) > 57))
                (r = false)
                (X1 (s150 + runeLen p0 s150))))
            (X1 (s150 + runeLen p0 s150)))))
      (IfB (((s150 : Nat) : Int) == 0)
        (r = false)
        (IfB ((runeAt p0 s150) != 95)
          (IfB (decide ((runeAt p0 s150) < 48))
            (r = false)
            (IfB (decide ((runeAt p0 s150) > 57))
              (r = false)
              (X1 (s150 + runeLen p0 s150))))
          (X1 (s150 + runeLen p0 s150)))))
    (IfB (decide ((p0.length : Int) ≥ 1))
      (IfB (decide ((p0.length : Int) ≤ 16))
        (r = true)
        (r = false))
      (r = false))
def lines_Name (p0 : List UInt8) (r : Bool) : Prop :=
  LoopP (lines_Name_L1 p0 r) 0
def lines_Index (p0 : List (List UInt8)) (p1 : List UInt8) (r : Int) : Prop :=
  ∃ x1, slices_Index_string_string p0 p1 x1 ∧
  r = x1
end Go.Abs
end

section
namespace Go.Abs
end Go.Abs
end

section
namespace Go.Abs
open Go
end Go.Abs
end

section
namespace Go.Abs
set_option linter.unusedVariables false
set_option linter.unusedSimpArgs false
set_option linter.unnecessarySimpa false
def offcutlaw05_Few_L1 (p0 : List (Bool × (List Int) × (List Int))) (r : Bool) (X1 : Int → Prop) (s : Int) : Prop := match s with
  | s100 =>
  IfB (decide (s100 < (p0.length : Int)))
   (IfB (decide (s100 ≤ 8))
   (∃ x3 x4 x5, Idx p0 s100 (x3, x4, x5) ∧
   IfB (decide ((x4.length : Int) > 3))
   (r = false)
   (∃ x8 x9 x10, Idx p0 s100 (x8, x9, x10) ∧
   IfB (decide ((x10.length : Int) > 3))
   (r = false)
   (X1 (IntKind.i64.wrap (s100 + 1)))))
   (IfB (decide ((p0.length : Int) ≤ 8))
   (r = true)
   (r = false)))
   (IfB (decide ((p0.length : Int) ≤ 8))
   (r = true)
   (r = false))
def offcutlaw05_Few (p0 : List (Bool × (List Int) × (List Int))) (r : Bool) : Prop :=
  LoopP (offcutlaw05_Few_L1 p0 r) (0 : Int)
end Go.Abs
end

section
namespace Go.Abs
set_option linter.unusedVariables false
set_option linter.unusedSimpArgs false
set_option linter.unnecessarySimpa false
end Go.Abs
end

section
namespace Go.Abs
end Go.Abs
end

section
namespace Go.Abs
end Go.Abs
end

section
namespace Go.Abs
set_option linter.unusedVariables false
set_option linter.unusedSimpArgs false
set_option linter.unnecessarySimpa false
def model_names_L1 (p0 : List (List UInt8)) (r : Bool) (X1 : Int → Prop) (s : Int) : Prop := match s with
  | s100 =>
  IfB (decide (s100 < (p0.length : Int)))
   (∃ x2, Idx p0 s100 x2 ∧
   ∃ x4, lines_Name x2 x4 ∧
   IfB x4
   (∃ x6, lines_Index p0 x2 x6 ∧
   IfB (x6 != s100)
   (r = false)
   (X1 (IntKind.i64.wrap (s100 + 1))))
   (r = false))
   (r = true)
def model_names (p0 : List (List UInt8)) (r : Bool) : Prop :=
  LoopP (model_names_L1 p0 r) (0 : Int)
def model_Right_L2 (p0 : List (List UInt8)) (p2 : List ((List UInt8) × (List (Bool × (List Int) × (List Int))) × Int × Bool × (List Int) × (List Int))) (r : Bool) (X2 : Int → Prop) (s : Int) : Prop := match s with
  | s200 =>
  IfB (decide (s200 < (p2.length : Int)))
   (∃ x18 x19 x20 x21 x22 x23, Idx p2 s200 (x18, x19, x20, x21, x22, x23) ∧
   IfB ((x19.length : Int) != (p0.length : Int))
   (IfB (decide (s200 ≥ 0))
   (r = false)
   (r = true))
   (IfB (decide (x20 < (-1)))
   (IfB (decide (s200 ≥ 0))
   (r = false)
   (r = true))
   (IfB (decide (x20 > 1))
   (IfB (decide (s200 ≥ 0))
   (r = false)
   (r = true))
   (X2 (IntKind.i64.wrap (s200 + 1))))))
   (r = true)
def model_Right_L1 (p0 : List (List UInt8)) (p2 : List ((List UInt8) × (List (Bool × (List Int) × (List Int))) × Int × Bool × (List Int) × (List Int))) (r : Bool) (X1 : (Int × (List (List UInt8))) → Prop) (s : Int × (List (List UInt8))) : Prop := match s with
  | (s100, s153) =>
  IfB (decide (s100 < (p2.length : Int)))
   (∃ x7 x8 x9 x10 x11 x12, Idx p2 s100 (x7, x8, x9, x10, x11, x12) ∧
   Fits (s153.length + [x7].length) 16 ∧
   X1 ((IntKind.i64.wrap (s100 + 1)), (s153 ++ [x7])))
   (∃ x15, model_names s153 x15 ∧
   IfB x15
   (LoopP (model_Right_L2 p0 p2 r) (0 : Int))
   (r = false))
def model_Right (p0 : List (List UInt8)) (p1 : List (Bool × (List Int) × (List Int))) (p2 : List ((List UInt8) × (List (Bool × (List Int) × (List Int))) × Int × Bool × (List Int) × (List Int))) (r : Bool) : Prop :=
  IfB (decide ((p0.length : Int) ≤ 60))
   (IfB ((p1.length : Int) == (p0.length : Int))
   (IfB (decide ((p2.length : Int) ≤ 60))
   (∃ x4, model_names p0 x4 ∧
   IfB x4
   (LoopP (model_Right_L1 p0 p2 r) ((0 : Int), []))
   (r = false))
   (r = false))
   (r = false))
   (r = false)
def offcutlaw08_Few_L2 (p0 : List (List UInt8)) (p1 : List (Bool × (List Int) × (List Int))) (p2 : List ((List UInt8) × (List (Bool × (List Int) × (List Int))) × Int × Bool × (List Int) × (List Int))) (r : Bool) (X2 : Int → Prop) (s : Int) : Prop := match s with
  | s200 =>
  IfB (decide (s200 < (p2.length : Int)))
   (IfB (decide (s200 ≤ 6))
   (∃ x8 x9 x10 x11 x12 x13, Idx p2 s200 (x8, x9, x10, x11, x12, x13) ∧
   IfB (decide ((x8.length : Int) > 20))
   (r = false)
   (∃ x16 x17 x18 x19 x20 x21, Idx p2 s200 (x16, x17, x18, x19, x20, x21) ∧
   ∃ x23, offcutlaw05_Few x17 x23 ∧
   IfB x23
   (∃ x25 x26 x27 x28 x29 x30, Idx p2 s200 (x25, x26, x27, x28, x29, x30) ∧
   ∃ x32, offcutlaw05_Few [(x28, x29, x30)] x32 ∧
   IfB x32
   (X2 (IntKind.i64.wrap (s200 + 1)))
   (r = false))
   (r = false)))
   (IfB (decide ((p0.length : Int) ≤ 8))
   (IfB (decide ((p2.length : Int) ≤ 6))
   (∃ x36, offcutlaw05_Few p1 x36 ∧
   IfB x36
   (r = true)
   (r = false))
   (r = false))
   (r = false)))
   (IfB (decide ((p0.length : Int) ≤ 8))
   (IfB (decide ((p2.length : Int) ≤ 6))
   (∃ x40, offcutlaw05_Few p1 x40 ∧
   IfB x40
   (r = true)
   (r = false))
   (r = false))
   (r = false))
def offcutlaw08_Few_L3 (p0 : List (List UInt8)) (p1 : List (Bool × (List Int) × (List Int))) (p2 : List ((List UInt8) × (List (Bool × (List Int) × (List Int))) × Int × Bool × (List Int) × (List Int))) (r : Bool) (X3 : Int → Prop) (s : Int) : Prop := match s with
  | s300 =>
  IfB (decide (s300 < (p2.length : Int)))
   (IfB (decide (s300 ≤ 6))
   (∃ x44 x45 x46 x47 x48 x49, Idx p2 s300 (x44, x45, x46, x47, x48, x49) ∧
   IfB (decide ((x44.length : Int) > 20))
   (r = false)
   (∃ x52 x53 x54 x55 x56 x57, Idx p2 s300 (x52, x53, x54, x55, x56, x57) ∧
   ∃ x59, offcutlaw05_Few x53 x59 ∧
   IfB x59
   (∃ x61 x62 x63 x64 x65 x66, Idx p2 s300 (x61, x62, x63, x64, x65, x66) ∧
   ∃ x68, offcutlaw05_Few [(x64, x65, x66)] x68 ∧
   IfB x68
   (X3 (IntKind.i64.wrap (s300 + 1)))
   (r = false))
   (r = false)))
   (IfB (decide ((p0.length : Int) ≤ 8))
   (IfB (decide ((p2.length : Int) ≤ 6))
   (∃ x72, offcutlaw05_Few p1 x72 ∧
   IfB x72
   (r = true)
   (r = false))
   (r = false))
   (r = false)))
   (IfB (decide ((p0.length : Int) ≤ 8))
   (IfB (decide ((p2.length : Int) ≤ 6))
   (∃ x76, offcutlaw05_Few p1 x76 ∧
   IfB x76
   (r = true)
   (r = false))
   (r = false))
   (r = false))
def offcutlaw08_Few_L1 (p0 : List (List UInt8)) (p1 : List (Bool × (List Int) × (List Int))) (p2 : List ((List UInt8) × (List (Bool × (List Int) × (List Int))) × Int × Bool × (List Int) × (List Int))) (r : Bool) (X1 : Int → Prop) (s : Int) : Prop := match s with
  | s100 =>
  IfB (decide (s100 < (p0.length : Int)))
   (IfB (decide (s100 ≤ 8))
   (∃ x3, Idx p0 s100 x3 ∧
   IfB (decide ((x3.length : Int) > 20))
   (r = false)
   (X1 (IntKind.i64.wrap (s100 + 1))))
   (LoopP (offcutlaw08_Few_L2 p0 p1 p2 r) (0 : Int)))
   (LoopP (offcutlaw08_Few_L3 p0 p1 p2 r) (0 : Int))
def offcutlaw08_Few (p0 : List (List UInt8)) (p1 : List (Bool × (List Int) × (List Int))) (p2 : List ((List UInt8) × (List (Bool × (List Int) × (List Int))) × Int × Bool × (List Int) × (List Int))) (r : Bool) : Prop :=
  LoopP (offcutlaw08_Few_L1 p0 p1 p2 r) (0 : Int)
end Go.Abs
end

section
namespace Go.Abs
def offcutlaw09_awake (r : Bool) : Prop := r = true
end Go.Abs
end

section
namespace Go.Abs
set_option linter.unusedVariables false
set_option linter.unusedSimpArgs false
set_option linter.unnecessarySimpa false
def cmp_isNaN_int (p0 : Int) (r : Bool) : Prop :=
  IfB (p0 != p0)
   (r = true)
   (r = false)
def cmp_Less_int (p0 : Int) (p1 : Int) (r : Bool) : Prop :=
  ∃ x1, cmp_isNaN_int p0 x1 ∧
  IfB x1
   (∃ x3, cmp_isNaN_int p1 x3 ∧
   IfB x3
   (IfB (decide (p0 < p1))
   (r = true)
   (r = false))
   (r = true))
   (IfB (decide (p0 < p1))
   (r = true)
   (r = false))
def slices_IsSorted_int_int_L1 (p0 : List Int) (r : Bool) (X1 : Int → Prop) (s : Int) : Prop := match s with
  | s100 =>
  IfB (decide (s100 > 0))
   (∃ x2, Idx p0 s100 x2 ∧
   ∃ x4, Idx p0 (IntKind.i64.wrap (s100 - 1)) x4 ∧
   ∃ x6, cmp_Less_int x2 x4 x6 ∧
   IfB x6
   (r = false)
   (X1 (IntKind.i64.wrap (s100 - 1))))
   (r = true)
def slices_IsSorted_int_int (p0 : List Int) (r : Bool) : Prop :=
  LoopP (slices_IsSorted_int_int_L1 p0 r) (IntKind.i64.wrap ((p0.length : Int) - 1))
def notes_Right_L3 (p3 : List (List Int)) (r : Bool) (X3 : (Int × Int) → Prop) (s : Int × Int) : Prop := match s with
  | (s300, s301) =>
  IfB (decide (s301 < (p3.length : Int)))
   (∃ x12, Idx p3 s301 x12 ∧
   IfB ((x12.length : Int) == 0)
   (r = false)
   (∃ x15, Idx x12 0 x15 ∧
   IfB (decide (x15 ≤ s300))
   (r = false)
   (∃ x18, slices_IsSorted_int_int x12 x18 ∧
   IfB x18
   (∃ x20, Idx x12 0 x20 ∧
   X3 (x20, (IntKind.i64.wrap (s301 + 1))))
   (r = false))))
   (r = false)
def notes_Right_L4 (p3 : List (List Int)) (r : Bool) (X4 : (Int × Int) → Prop) (s : Int × Int) : Prop := match s with
  | (s400, s401) =>
  IfB (decide (s401 < (p3.length : Int)))
   (∃ x24, Idx p3 s401 x24 ∧
   IfB ((x24.length : Int) == 0)
   (r = false)
   (∃ x27, Idx x24 0 x27 ∧
   IfB (decide (x27 ≤ s400))
   (r = false)
   (∃ x30, slices_IsSorted_int_int x24 x30 ∧
   IfB x30
   (∃ x32, Idx x24 0 x32 ∧
   X4 (x32, (IntKind.i64.wrap (s401 + 1))))
   (r = false))))
   (r = false)
def notes_Right_L5 (p3 : List (List Int)) (r : Bool) (X5 : (Int × Int) → Prop) (s : Int × Int) : Prop := match s with
  | (s500, s501) =>
  IfB (decide (s501 < (p3.length : Int)))
   (∃ x35, Idx p3 s501 x35 ∧
   IfB ((x35.length : Int) == 0)
   (r = false)
   (∃ x38, Idx x35 0 x38 ∧
   IfB (decide (x38 ≤ s500))
   (r = false)
   (∃ x41, slices_IsSorted_int_int x35 x41 ∧
   IfB x41
   (∃ x43, Idx x35 0 x43 ∧
   X5 (x43, (IntKind.i64.wrap (s501 + 1))))
   (r = false))))
   (r = false)
def notes_Right_L6 (p3 : List (List Int)) (r : Bool) (X6 : (Int × Int) → Prop) (s : Int × Int) : Prop := match s with
  | (s600, s601) =>
  IfB (decide (s601 < (p3.length : Int)))
   (∃ x47, Idx p3 s601 x47 ∧
   IfB ((x47.length : Int) == 0)
   (r = false)
   (∃ x50, Idx x47 0 x50 ∧
   IfB (decide (x50 ≤ s600))
   (r = false)
   (∃ x53, slices_IsSorted_int_int x47 x53 ∧
   IfB x53
   (∃ x55, Idx x47 0 x55 ∧
   X6 (x55, (IntKind.i64.wrap (s601 + 1))))
   (r = false))))
   (r = false)
def notes_Right_L7 (p3 : List (List Int)) (r : Bool) (X7 : (Int × Int) → Prop) (s : Int × Int) : Prop := match s with
  | (s700, s701) =>
  IfB (decide (s701 < (p3.length : Int)))
   (∃ x59, Idx p3 s701 x59 ∧
   IfB ((x59.length : Int) == 0)
   (r = false)
   (∃ x62, Idx x59 0 x62 ∧
   IfB (decide (x62 ≤ s700))
   (r = false)
   (∃ x65, slices_IsSorted_int_int x59 x65 ∧
   IfB x65
   (∃ x67, Idx x59 0 x67 ∧
   X7 (x67, (IntKind.i64.wrap (s701 + 1))))
   (r = false))))
   (r = false)
def notes_Right_L2 (p0 : List (List UInt8)) (p3 : List (List Int)) (s100 : Int) (X1 : (Int × (List (Int × Int))) → Prop) (x2 : List Int) (r : Bool) (X2 : (Int × (List (Int × Int))) → Prop) (s : Int × (List (Int × Int))) : Prop := match s with
  | (s200, s254) =>
  IfB (decide (s200 < (x2.length : Int)))
   (∃ x5, Idx x2 s200 x5 ∧
   ∃ x7 x8, mGet s254 x5 = (x7, x8) ∧
   IfB x8
   (IfB (decide (x5 < 0))
   (LoopP (notes_Right_L3 p3 r) ((-1 : Int), (0 : Int)))
   (IfB (decide (x5 ≥ (p0.length : Int)))
   (LoopP (notes_Right_L4 p3 r) ((-1 : Int), (0 : Int)))
   (LoopP (notes_Right_L5 p3 r) ((-1 : Int), (0 : Int)))))
   (IfB (decide (x5 < 0))
   (LoopP (notes_Right_L6 p3 r) ((-1 : Int), (0 : Int)))
   (IfB (decide (x5 ≥ (p0.length : Int)))
   (LoopP (notes_Right_L7 p3 r) ((-1 : Int), (0 : Int)))
   ((mGet s254 x5).2 = false ∧
   X2 ((IntKind.i64.wrap (s200 + 1)), (s254 ++ [(x5, s100)]))))))
   (X1 ((IntKind.i64.wrap (s100 + 1)), s254))
def notes_Right_L8 (p0 : List (List UInt8)) (p1 : List (Bool × (List Int) × (List Int))) (p2 : List ((List UInt8) × (List (Bool × (List Int) × (List Int))) × Int × Bool × (List Int) × (List Int))) (p3 : List (List Int)) (r : Bool) (X8 : (Int × Int) → Prop) (s : Int × Int) : Prop := match s with
  | (s800, s801) =>
  IfB (decide (s801 < (p3.length : Int)))
   (∃ x71, Idx p3 s801 x71 ∧
   IfB ((x71.length : Int) == 0)
   (r = false)
   (∃ x74, Idx x71 0 x74 ∧
   IfB (decide (x74 ≤ s800))
   (r = false)
   (∃ x77, slices_IsSorted_int_int x71 x77 ∧
   IfB x77
   (∃ x79, Idx x71 0 x79 ∧
   X8 (x79, (IntKind.i64.wrap (s801 + 1))))
   (r = false))))
   (∃ x81, model_Right p0 p1 p2 x81 ∧
   IfB x81
   (r = true)
   (r = false))
def notes_Right_L1 (p0 : List (List UInt8)) (p1 : List (Bool × (List Int) × (List Int))) (p2 : List ((List UInt8) × (List (Bool × (List Int) × (List Int))) × Int × Bool × (List Int) × (List Int))) (p3 : List (List Int)) (r : Bool) (X1 : (Int × (List (Int × Int))) → Prop) (s : Int × (List (Int × Int))) : Prop := match s with
  | (s100, s154) =>
  IfB (decide (s100 < (p3.length : Int)))
   (∃ x2, Idx p3 s100 x2 ∧
   LoopP (notes_Right_L2 p0 p3 s100 X1 x2 r) ((0 : Int), s154))
   (LoopP (notes_Right_L8 p0 p1 p2 p3 r) ((-1 : Int), (0 : Int)))
def notes_Right (p0 : List (List UInt8)) (p1 : List (Bool × (List Int) × (List Int))) (p2 : List ((List UInt8) × (List (Bool × (List Int) × (List Int))) × Int × Bool × (List Int) × (List Int))) (p3 : List (List Int)) (r : Bool) : Prop :=
  LoopP (notes_Right_L1 p0 p1 p2 p3 r) ((0 : Int), [])
def math_bits_Mul64 (p0 : Int) (p1 : Int) (r : Int × Int) : Prop :=
  r = ((IntKind.u64.wrap ((IntKind.u64.wrap ((IntKind.u64.wrap ((Int.fdiv p0 (2 ^ (min (Int.toNat (32 : Int)) (IntKind.bits .u64)))) * (Int.fdiv p1 (2 ^ (min (Int.toNat (32 : Int)) (IntKind.bits .u64)))))) + (Int.fdiv (IntKind.u64.wrap ((IntKind.u64.wrap ((Int.fdiv p0 (2 ^ (min (Int.toNat (32 : Int)) (IntKind.bits .u64)))) * (bitA .u64 p1 4294967295))) + (Int.fdiv (IntKind.u64.wrap ((bitA .u64 p0 4294967295) * (bitA .u64 p1 4294967295))) (2 ^ (min (Int.toNat (32 : Int)) (IntKind.bits .u64)))))) (2 ^ (min (Int.toNat (32 : Int)) (IntKind.bits .u64)))))) + (Int.fdiv (IntKind.u64.wrap ((bitA .u64 (IntKind.u64.wrap ((IntKind.u64.wrap ((Int.fdiv p0 (2 ^ (min (Int.toNat (32 : Int)) (IntKind.bits .u64)))) * (bitA .u64 p1 4294967295))) + (Int.fdiv (IntKind.u64.wrap ((bitA .u64 p0 4294967295) * (bitA .u64 p1 4294967295))) (2 ^ (min (Int.toNat (32 : Int)) (IntKind.bits .u64)))))) 4294967295) + (IntKind.u64.wrap ((bitA .u64 p0 4294967295) * (Int.fdiv p1 (2 ^ (min (Int.toNat (32 : Int)) (IntKind.bits .u64)))))))) (2 ^ (min (Int.toNat (32 : Int)) (IntKind.bits .u64)))))), (IntKind.u64.wrap (p0 * p1)))
def math_bits_Mul (p0 : Int) (p1 : Int) (r : Int × Int) : Prop :=
  ∃ x1 x2, math_bits_Mul64 p0 p1 (x1, x2) ∧
  r = (x1, x2)
def notes_Home_L3 (p0 : List (List UInt8)) (s200 : Int) (X2 : (Int × (List (Int × Int))) → Prop) (x16 : List Int) (X3 : (Int × (List (Int × Int))) → Prop) (s : Int × (List (Int × Int))) : Prop := match s with
  | (s300, s355) =>
  IfB (decide (s300 < (x16.length : Int)))
   (∃ x19, Idx x16 s300 x19 ∧
   ∃ x21 x22, mGet s355 x19 = (x21, x22) ∧
   IfB x22
   (IfB (decide (x19 < 0))
   (False)
   (IfB (decide (x19 ≥ (p0.length : Int)))
   (False)
   (False)))
   (IfB (decide (x19 < 0))
   (False)
   (IfB (decide (x19 ≥ (p0.length : Int)))
   (False)
   ((mGet s355 x19).2 = false ∧
   X3 ((IntKind.i64.wrap (s300 + 1)), (s355 ++ [(x19, s200)]))))))
   (X2 ((IntKind.i64.wrap (s200 + 1)), s355))
def notes_Home_L4 (s255 : List (Int × Int)) (r : (List Int)) (X4 : ((List Nat) × (List Int)) → Prop) (s : (List Nat) × (List Int)) : Prop := match s with
  | (s456, s452) =>
  (∀ (j29 : Nat) (x30 x31 : Int), j29 ∉ s456 → s255[j29]? = some (x30, x31) →
   (∃ x35, Idx s452 x30 x35 ∧
   X4 ((s456 ++ [j29]), (s452.set (Int.toNat x30) x31)))) ∧
  ((∀ j, j < s255.length → j ∈ s456) →
   (r = s452))
def notes_Home_L2 (p0 : List (List UInt8)) (p3 : List (List Int)) (s152 : List Int) (r : (List Int)) (X2 : (Int × (List (Int × Int))) → Prop) (s : Int × (List (Int × Int))) : Prop := match s with
  | (s200, s255) =>
  IfB (decide (s200 < (p3.length : Int)))
   (∃ x16, Idx p3 s200 x16 ∧
   LoopP (notes_Home_L3 p0 s200 X2 x16) ((0 : Int), s255))
   (LoopP (notes_Home_L4 s255 r) ([], s152))
def notes_Home_L1 (p0 : List (List UInt8)) (p3 : List (List Int)) (r : (List Int)) (X1 : (Int × (List Int)) → Prop) (s : Int × (List Int)) : Prop := match s with
  | (s100, s152) =>
  IfB (decide (s100 < (s152.length : Int)))
   ((0 < s100 ∧ s100 ≤ (s152.length : Int)) ∧
   (0 ≤ s100 ∧ s100 ≤ (s152.length : Int)) ∧
   X1 ((IntKind.i64.wrap (s100 + (((Nat.min (s152.take (Int.toNat s100)).length (s152.length - Int.toNat s100)) : Nat) : Int))), (s152.take (Int.toNat s100) ++ (s152.take (Int.toNat s100)).take (Nat.min (s152.take (Int.toNat s100)).length (s152.length - Int.toNat s100)) ++ s152.drop (Int.toNat s100 + (Nat.min (s152.take (Int.toNat s100)).length (s152.length - Int.toNat s100))))))
   (LoopP (notes_Home_L2 p0 p3 s152 r) ((0 : Int), []))
def notes_Home (p0 : List (List UInt8)) (p1 : List (Bool × (List Int) × (List Int))) (p2 : List ((List UInt8) × (List (Bool × (List Int) × (List Int))) × Int × Bool × (List Int) × (List Int))) (p3 : List (List Int)) (r : (List Int)) : Prop :=
  ∃ x1, notes_Right p0 p1 p2 p3 x1 ∧
  IfB x1
   (IfB (decide ((p0.length : Int) < 0))
   (False)
   (∃ x4 x5, math_bits_Mul (IntKind.u64.wrap ([(-1 : Int)].length : Int)) (IntKind.u64.wrap (p0.length : Int)) (x4, x5) ∧
   IfB (decide (x4 > 0))
   (False)
   (IfB (decide (x5 > 9223372036854775807))
   (False)
   ((0 ≤ (IntKind.i64.wrap x5) ∧ Fits (Int.toNat (IntKind.i64.wrap x5)) 8 ∧ Fits (Int.toNat (IntKind.i64.wrap x5)) 1) ∧
   LoopP (notes_Home_L1 p0 p3 r) ((((Nat.min [(-1 : Int)].length (List.replicate (Int.toNat (IntKind.i64.wrap x5)) (0 : Int)).length) : Nat) : Int), ([(-1 : Int)].take (Nat.min [(-1 : Int)].length (List.replicate (Int.toNat (IntKind.i64.wrap x5)) (0 : Int)).length) ++ (List.replicate (Int.toNat (IntKind.i64.wrap x5)) (0 : Int)).drop (Nat.min [(-1 : Int)].length (List.replicate (Int.toNat (IntKind.i64.wrap x5)) (0 : Int)).length)))))))
   (r = [])
def notes_Parse_1 (p0 : List Int) (p1 : List Int) (r : Int) : Prop :=
  ∃ x1, Idx p0 0 x1 ∧
  ∃ x3, Idx p1 0 x3 ∧
  r = (IntKind.i64.wrap (x1 - x3))
def math_bits_Len64 (p0 : Int) (r : Int) : Prop :=
  IfB (decide (p0 ≥ 4294967296))
   (IfB (decide ((Int.fdiv p0 (2 ^ (min (Int.toNat (32 : Int)) (IntKind.bits .u64)))) ≥ 65536))
   (IfB (decide ((Int.fdiv (Int.fdiv p0 (2 ^ (min (Int.toNat (32 : Int)) (IntKind.bits .u64)))) (2 ^ (min (Int.toNat (16 : Int)) (IntKind.bits .u64)))) ≥ 256))
   (∃ c4, Idx ([0, 1, 2, 2, 3, 3, 3, 3, 4, 4, 4, 4, 4, 4, 4, 4, 5, 5, 5, 5, 5, 5, 5, 5, 5, 5, 5, 5, 5, 5, 5, 5, 6, 6, 6, 6, 6, 6, 6, 6, 6, 6, 6, 6, 6, 6, 6, 6, 6, 6, 6, 6, 6, 6, 6, 6, 6, 6, 6, 6, 6, 6, 6, 6, 7, 7, 7, 7, 7, 7, 7, 7, 7, 7, 7, 7, 7, 7, 7, 7, 7, 7, 7, 7, 7, 7, 7, 7, 7, 7, 7, 7, 7, 7, 7, 7, 7, 7, 7, 7, 7, 7, 7, 7, 7, 7, 7, 7, 7, 7, 7, 7, 7, 7, 7, 7, 7, 7, 7, 7, 7, 7, 7, 7, 7, 7, 7, 7, 8, 8, 8, 8, 8, 8, 8, 8, 8, 8, 8, 8, 8, 8, 8, 8, 8, 8, 8, 8, 8, 8, 8, 8, 8, 8, 8, 8, 8, 8, 8, 8, 8, 8, 8, 8, 8, 8, 8, 8, 8, 8, 8, 8, 8, 8, 8, 8, 8, 8, 8, 8, 8, 8, 8, 8, 8, 8, 8, 8, 8, 8, 8, 8, 8, 8, 8, 8, 8, 8, 8, 8, 8, 8, 8, 8, 8, 8, 8, 8, 8, 8, 8, 8, 8, 8, 8, 8, 8, 8, 8, 8, 8, 8, 8, 8, 8, 8, 8, 8, 8, 8, 8, 8, 8, 8, 8, 8, 8, 8, 8, 8, 8, 8, 8, 8, 8, 8, 8, 8, 8, 8, 8, 8, 8, 8, 8, 8] : List UInt8) (IntKind.u8.wrap (Int.fdiv (Int.fdiv (Int.fdiv p0 (2 ^ (min (Int.toNat (32 : Int)) (IntKind.bits .u64)))) (2 ^ (min (Int.toNat (16 : Int)) (IntKind.bits .u64)))) (2 ^ (min (Int.toNat (8 : Int)) (IntKind.bits .u64))))) c4 ∧
   r = (IntKind.i64.wrap (56 + (IntKind.i64.wrap ((c4.toNat : Nat) : Int)))))
   (∃ c6, Idx ([0, 1, 2, 2, 3, 3, 3, 3, 4, 4, 4, 4, 4, 4, 4, 4, 5, 5, 5, 5, 5, 5, 5, 5, 5, 5, 5, 5, 5, 5, 5, 5, 6, 6, 6, 6, 6, 6, 6, 6, 6, 6, 6, 6, 6, 6, 6, 6, 6, 6, 6, 6, 6, 6, 6, 6, 6, 6, 6, 6, 6, 6, 6, 6, 7, 7, 7, 7, 7, 7, 7, 7, 7, 7, 7, 7, 7, 7, 7, 7, 7, 7, 7, 7, 7, 7, 7, 7, 7, 7, 7, 7, 7, 7, 7, 7, 7, 7, 7, 7, 7, 7, 7, 7, 7, 7, 7, 7, 7, 7, 7, 7, 7, 7, 7, 7, 7, 7, 7, 7, 7, 7, 7, 7, 7, 7, 7, 7, 8, 8, 8, 8, 8, 8, 8, 8, 8, 8, 8, 8, 8, 8, 8, 8, 8, 8, 8, 8, 8, 8, 8, 8, 8, 8, 8, 8, 8, 8, 8, 8, 8, 8, 8, 8, 8, 8, 8, 8, 8, 8, 8, 8, 8, 8, 8, 8, 8, 8, 8, 8, 8, 8, 8, 8, 8, 8, 8, 8, 8, 8, 8, 8, 8, 8, 8, 8, 8, 8, 8, 8, 8, 8, 8, 8, 8, 8, 8, 8, 8, 8, 8, 8, 8, 8, 8, 8, 8, 8, 8, 8, 8, 8, 8, 8, 8, 8, 8, 8, 8, 8, 8, 8, 8, 8, 8, 8, 8, 8, 8, 8, 8, 8, 8, 8, 8, 8, 8, 8, 8, 8, 8, 8, 8, 8, 8, 8] : List UInt8) (IntKind.u8.wrap (Int.fdiv (Int.fdiv p0 (2 ^ (min (Int.toNat (32 : Int)) (IntKind.bits .u64)))) (2 ^ (min (Int.toNat (16 : Int)) (IntKind.bits .u64))))) c6 ∧
   r = (IntKind.i64.wrap (48 + (IntKind.i64.wrap ((c6.toNat : Nat) : Int))))))
   (IfB (decide ((Int.fdiv p0 (2 ^ (min (Int.toNat (32 : Int)) (IntKind.bits .u64)))) ≥ 256))
   (∃ c9, Idx ([0, 1, 2, 2, 3, 3, 3, 3, 4, 4, 4, 4, 4, 4, 4, 4, 5, 5, 5, 5, 5, 5, 5, 5, 5, 5, 5, 5, 5, 5, 5, 5, 6, 6, 6, 6, 6, 6, 6, 6, 6, 6, 6, 6, 6, 6, 6, 6, 6, 6, 6, 6, 6, 6, 6, 6, 6, 6, 6, 6, 6, 6, 6, 6, 7, 7, 7, 7, 7, 7, 7, 7, 7, 7, 7, 7, 7, 7, 7, 7, 7, 7, 7, 7, 7, 7, 7, 7, 7, 7, 7, 7, 7, 7, 7, 7, 7, 7, 7, 7, 7, 7, 7, 7, 7, 7, 7, 7, 7, 7, 7, 7, 7, 7, 7, 7, 7, 7, 7, 7, 7, 7, 7, 7, 7, 7, 7, 7, 8, 8, 8, 8, 8, 8, 8, 8, 8, 8, 8, 8, 8, 8, 8, 8, 8, 8, 8, 8, 8, 8, 8, 8, 8, 8, 8, 8, 8, 8, 8, 8, 8, 8, 8, 8, 8, 8, 8, 8, 8, 8, 8, 8, 8, 8, 8, 8, 8, 8, 8, 8, 8, 8, 8, 8, 8, 8, 8, 8, 8, 8, 8, 8, 8, 8, 8, 8, 8, 8, 8, 8, 8, 8, 8, 8, 8, 8, 8, 8, 8, 8, 8, 8, 8, 8, 8, 8, 8, 8, 8, 8, 8, 8, 8, 8, 8, 8, 8, 8, 8, 8, 8, 8, 8, 8, 8, 8, 8, 8, 8, 8, 8, 8, 8, 8, 8, 8, 8, 8, 8, 8, 8, 8, 8, 8, 8, 8] : List UInt8) (IntKind.u8.wrap (Int.fdiv (Int.fdiv p0 (2 ^ (min (Int.toNat (32 : Int)) (IntKind.bits .u64)))) (2 ^ (min (Int.toNat (8 : Int)) (IntKind.bits .u64))))) c9 ∧
   r = (IntKind.i64.wrap (40 + (IntKind.i64.wrap ((c9.toNat : Nat) : Int)))))
   (∃ c11, Idx ([0, 1, 2, 2, 3, 3, 3, 3, 4, 4, 4, 4, 4, 4, 4, 4, 5, 5, 5, 5, 5, 5, 5, 5, 5, 5, 5, 5, 5, 5, 5, 5, 6, 6, 6, 6, 6, 6, 6, 6, 6, 6, 6, 6, 6, 6, 6, 6, 6, 6, 6, 6, 6, 6, 6, 6, 6, 6, 6, 6, 6, 6, 6, 6, 7, 7, 7, 7, 7, 7, 7, 7, 7, 7, 7, 7, 7, 7, 7, 7, 7, 7, 7, 7, 7, 7, 7, 7, 7, 7, 7, 7, 7, 7, 7, 7, 7, 7, 7, 7, 7, 7, 7, 7, 7, 7, 7, 7, 7, 7, 7, 7, 7, 7, 7, 7, 7, 7, 7, 7, 7, 7, 7, 7, 7, 7, 7, 7, 8, 8, 8, 8, 8, 8, 8, 8, 8, 8, 8, 8, 8, 8, 8, 8, 8, 8, 8, 8, 8, 8, 8, 8, 8, 8, 8, 8, 8, 8, 8, 8, 8, 8, 8, 8, 8, 8, 8, 8, 8, 8, 8, 8, 8, 8, 8, 8, 8, 8, 8, 8, 8, 8, 8, 8, 8, 8, 8, 8, 8, 8, 8, 8, 8, 8, 8, 8, 8, 8, 8, 8, 8, 8, 8, 8, 8, 8, 8, 8, 8, 8, 8, 8, 8, 8, 8, 8, 8, 8, 8, 8, 8, 8, 8, 8, 8, 8, 8, 8, 8, 8, 8, 8, 8, 8, 8, 8, 8, 8, 8, 8, 8, 8, 8, 8, 8, 8, 8, 8, 8, 8, 8, 8, 8, 8, 8, 8] : List UInt8) (IntKind.u8.wrap (Int.fdiv p0 (2 ^ (min (Int.toNat (32 : Int)) (IntKind.bits .u64))))) c11 ∧
   r = (IntKind.i64.wrap (32 + (IntKind.i64.wrap ((c11.toNat : Nat) : Int)))))))
   (IfB (decide (p0 ≥ 65536))
   (IfB (decide ((Int.fdiv p0 (2 ^ (min (Int.toNat (16 : Int)) (IntKind.bits .u64)))) ≥ 256))
   (∃ c15, Idx ([0, 1, 2, 2, 3, 3, 3, 3, 4, 4, 4, 4, 4, 4, 4, 4, 5, 5, 5, 5, 5, 5, 5, 5, 5, 5, 5, 5, 5, 5, 5, 5, 6, 6, 6, 6, 6, 6, 6, 6, 6, 6, 6, 6, 6, 6, 6, 6, 6, 6, 6, 6, 6, 6, 6, 6, 6, 6, 6, 6, 6, 6, 6, 6, 7, 7, 7, 7, 7, 7, 7, 7, 7, 7, 7, 7, 7, 7, 7, 7, 7, 7, 7, 7, 7, 7, 7, 7, 7, 7, 7, 7, 7, 7, 7, 7, 7, 7, 7, 7, 7, 7, 7, 7, 7, 7, 7, 7, 7, 7, 7, 7, 7, 7, 7, 7, 7, 7, 7, 7, 7, 7, 7, 7, 7, 7, 7, 7, 8, 8, 8, 8, 8, 8, 8, 8, 8, 8, 8, 8, 8, 8, 8, 8, 8, 8, 8, 8, 8, 8, 8, 8, 8, 8, 8, 8, 8, 8, 8, 8, 8, 8, 8, 8, 8, 8, 8, 8, 8, 8, 8, 8, 8, 8, 8, 8, 8, 8, 8, 8, 8, 8, 8, 8, 8, 8, 8, 8, 8, 8, 8, 8, 8, 8, 8, 8, 8, 8, 8, 8, 8, 8, 8, 8, 8, 8, 8, 8, 8, 8, 8, 8, 8, 8, 8, 8, 8, 8, 8, 8, 8, 8, 8, 8, 8, 8, 8, 8, 8, 8, 8, 8, 8, 8, 8, 8, 8, 8, 8, 8, 8, 8, 8, 8, 8, 8, 8, 8, 8, 8, 8, 8, 8, 8, 8, 8] : List UInt8) (IntKind.u8.wrap (Int.fdiv (Int.fdiv p0 (2 ^ (min (Int.toNat (16 : Int)) (IntKind.bits .u64)))) (2 ^ (min (Int.toNat (8 : Int)) (IntKind.bits .u64))))) c15 ∧
   r = (IntKind.i64.wrap (24 + (IntKind.i64.wrap ((c15.toNat : Nat) : Int)))))
   (∃ c17, Idx ([0, 1, 2, 2, 3, 3, 3, 3, 4, 4, 4, 4, 4, 4, 4, 4, 5, 5, 5, 5, 5, 5, 5, 5, 5, 5, 5, 5, 5, 5, 5, 5, 6, 6, 6, 6, 6, 6, 6, 6, 6, 6, 6, 6, 6, 6, 6, 6, 6, 6, 6, 6, 6, 6, 6, 6, 6, 6, 6, 6, 6, 6, 6, 6, 7, 7, 7, 7, 7, 7, 7, 7, 7, 7, 7, 7, 7, 7, 7, 7, 7, 7, 7, 7, 7, 7, 7, 7, 7, 7, 7, 7, 7, 7, 7, 7, 7, 7, 7, 7, 7, 7, 7, 7, 7, 7, 7, 7, 7, 7, 7, 7, 7, 7, 7, 7, 7, 7, 7, 7, 7, 7, 7, 7, 7, 7, 7, 7, 8, 8, 8, 8, 8, 8, 8, 8, 8, 8, 8, 8, 8, 8, 8, 8, 8, 8, 8, 8, 8, 8, 8, 8, 8, 8, 8, 8, 8, 8, 8, 8, 8, 8, 8, 8, 8, 8, 8, 8, 8, 8, 8, 8, 8, 8, 8, 8, 8, 8, 8, 8, 8, 8, 8, 8, 8, 8, 8, 8, 8, 8, 8, 8, 8, 8, 8, 8, 8, 8, 8, 8, 8, 8, 8, 8, 8, 8, 8, 8, 8, 8, 8, 8, 8, 8, 8, 8, 8, 8, 8, 8, 8, 8, 8, 8, 8, 8, 8, 8, 8, 8, 8, 8, 8, 8, 8, 8, 8, 8, 8, 8, 8, 8, 8, 8, 8, 8, 8, 8, 8, 8, 8, 8, 8, 8, 8, 8] : List UInt8) (IntKind.u8.wrap (Int.fdiv p0 (2 ^ (min (Int.toNat (16 : Int)) (IntKind.bits .u64))))) c17 ∧
   r = (IntKind.i64.wrap (16 + (IntKind.i64.wrap ((c17.toNat : Nat) : Int))))))
   (IfB (decide (p0 ≥ 256))
   (∃ c20, Idx ([0, 1, 2, 2, 3, 3, 3, 3, 4, 4, 4, 4, 4, 4, 4, 4, 5, 5, 5, 5, 5, 5, 5, 5, 5, 5, 5, 5, 5, 5, 5, 5, 6, 6, 6, 6, 6, 6, 6, 6, 6, 6, 6, 6, 6, 6, 6, 6, 6, 6, 6, 6, 6, 6, 6, 6, 6, 6, 6, 6, 6, 6, 6, 6, 7, 7, 7, 7, 7, 7, 7, 7, 7, 7, 7, 7, 7, 7, 7, 7, 7, 7, 7, 7, 7, 7, 7, 7, 7, 7, 7, 7, 7, 7, 7, 7, 7, 7, 7, 7, 7, 7, 7, 7, 7, 7, 7, 7, 7, 7, 7, 7, 7, 7, 7, 7, 7, 7, 7, 7, 7, 7, 7, 7, 7, 7, 7, 7, 8, 8, 8, 8, 8, 8, 8, 8, 8, 8, 8, 8, 8, 8, 8, 8, 8, 8, 8, 8, 8, 8, 8, 8, 8, 8, 8, 8, 8, 8, 8, 8, 8, 8, 8, 8, 8, 8, 8, 8, 8, 8, 8, 8, 8, 8, 8, 8, 8, 8, 8, 8, 8, 8, 8, 8, 8, 8, 8, 8, 8, 8, 8, 8, 8, 8, 8, 8, 8, 8, 8, 8, 8, 8, 8, 8, 8, 8, 8, 8, 8, 8, 8, 8, 8, 8, 8, 8, 8, 8, 8, 8, 8, 8, 8, 8, 8, 8, 8, 8, 8, 8, 8, 8, 8, 8, 8, 8, 8, 8, 8, 8, 8, 8, 8, 8, 8, 8, 8, 8, 8, 8, 8, 8, 8, 8, 8, 8] : List UInt8) (IntKind.u8.wrap (Int.fdiv p0 (2 ^ (min (Int.toNat (8 : Int)) (IntKind.bits .u64))))) c20 ∧
   r = (IntKind.i64.wrap (8 + (IntKind.i64.wrap ((c20.toNat : Nat) : Int)))))
   (∃ c22, Idx ([0, 1, 2, 2, 3, 3, 3, 3, 4, 4, 4, 4, 4, 4, 4, 4, 5, 5, 5, 5, 5, 5, 5, 5, 5, 5, 5, 5, 5, 5, 5, 5, 6, 6, 6, 6, 6, 6, 6, 6, 6, 6, 6, 6, 6, 6, 6, 6, 6, 6, 6, 6, 6, 6, 6, 6, 6, 6, 6, 6, 6, 6, 6, 6, 7, 7, 7, 7, 7, 7, 7, 7, 7, 7, 7, 7, 7, 7, 7, 7, 7, 7, 7, 7, 7, 7, 7, 7, 7, 7, 7, 7, 7, 7, 7, 7, 7, 7, 7, 7, 7, 7, 7, 7, 7, 7, 7, 7, 7, 7, 7, 7, 7, 7, 7, 7, 7, 7, 7, 7, 7, 7, 7, 7, 7, 7, 7, 7, 8, 8, 8, 8, 8, 8, 8, 8, 8, 8, 8, 8, 8, 8, 8, 8, 8, 8, 8, 8, 8, 8, 8, 8, 8, 8, 8, 8, 8, 8, 8, 8, 8, 8, 8, 8, 8, 8, 8, 8, 8, 8, 8, 8, 8, 8, 8, 8, 8, 8, 8, 8, 8, 8, 8, 8, 8, 8, 8, 8, 8, 8, 8, 8, 8, 8, 8, 8, 8, 8, 8, 8, 8, 8, 8, 8, 8, 8, 8, 8, 8, 8, 8, 8, 8, 8, 8, 8, 8, 8, 8, 8, 8, 8, 8, 8, 8, 8, 8, 8, 8, 8, 8, 8, 8, 8, 8, 8, 8, 8, 8, 8, 8, 8, 8, 8, 8, 8, 8, 8, 8, 8, 8, 8, 8, 8, 8, 8] : List UInt8) (IntKind.u8.wrap p0) c22 ∧
   r = (IntKind.i64.wrap (0 + (IntKind.i64.wrap ((c22.toNat : Nat) : Int)))))))
def math_bits_Len (p0 : Int) (r : Int) : Prop :=
  ∃ x1, math_bits_Len64 p0 x1 ∧
  r = x1
def notes_Parse_L5 (s400 : Int) (X4 : (Int × (List Int)) → Prop) (X5 : (Int × (List Int)) → Prop) (s : Int × (List Int)) : Prop := match s with
  | (s500, s558) =>
  IfB (decide (s500 > 0))
   (∃ x32, Idx s558 s500 x32 ∧
   ∃ x34, Idx s558 (IntKind.i64.wrap (s500 - 1)) x34 ∧
   ∃ x36, cmp_Less_int x32 x34 x36 ∧
   IfB x36
   (∃ x38, Idx s558 (IntKind.i64.wrap (s500 - 1)) x38 ∧
   ∃ x40, Idx s558 s500 x40 ∧
   ∃ x42, Idx s558 s500 x42 ∧
   ∃ x44, Idx (s558.set (Int.toNat s500) x38) (IntKind.i64.wrap (s500 - 1)) x44 ∧
   X5 ((IntKind.i64.wrap (s500 - 1)), ((s558.set (Int.toNat s500) x38).set (Int.toNat (IntKind.i64.wrap (s500 - 1))) x40)))
   (X4 ((IntKind.i64.wrap (s400 + 1)), s558)))
   (X4 ((IntKind.i64.wrap (s400 + 1)), s558))
def notes_Parse_L4 (s100 : Int) (s152 : List (List Int)) (X1 : (Int × (List (Int × Int)) × (List (List Int))) → Prop) (s254 : List (Int × Int)) (s258 : List Int) (X4 : (Int × (List Int)) → Prop) (s : Int × (List Int)) : Prop := match s with
  | (s400, s458) =>
  IfB (decide (s400 < (s258.length : Int)))
   (LoopP (notes_Parse_L5 s400 X4) (s400, s458))
   (Fits (s152.length + [s458].length) 24 ∧
   X1 ((IntKind.i64.wrap (s100 + 1)), s254, (s152 ++ [s458])))
def notes_Parse_L3 (s100 : Int) (s152 : List (List Int)) (X1 : (Int × (List (Int × Int)) × (List (List Int))) → Prop) (s254 : List (Int × Int)) (s258 : List Int) (x27 : Int) (X3 : Unit → Prop) (s : Unit) : Prop := match s with
  | () =>
  IfB (decide ((IntKind.i64.wrap ((s258.length : Int) - 0)) ≤ 12))
   (LoopP (notes_Parse_L4 s100 s152 X1 s254 s258) ((1 : Int), s258))
   (IfB (x27 == 0)
   (False)
   (False))
def notes_Parse_L2 (p0 : List (List UInt8)) (s100 : Int) (s152 : List (List Int)) (X1 : (Int × (List (Int × Int)) × (List (List Int))) → Prop) (x8 : Int) (x9 : List (List UInt8)) (r : (List (List Int)) × Int × Int) (X2 : (Int × (List (Int × Int)) × (List Int)) → Prop) (s : Int × (List (Int × Int)) × (List Int)) : Prop := match s with
  | (s200, s254, s258) =>
  IfB (decide (s200 < ((sub x9 1 x9.length).length : Int)))
   (∃ x16, Idx (sub x9 1 x9.length) s200 x16 ∧
   ∃ x18, lines_Index p0 x16 x18 ∧
   IfB (decide (x18 < 0))
   (r = ([], x8, 3))
   (∃ x21 x22 b24, (mGet s254 x18 = (x21, x22) ∧ b24 = (x21 != 0)) ∧
   IfB b24
   (r = ([], x8, 3))
   ((mGet s254 x18).2 = false ∧
   Fits (s258.length + [x18].length) 8 ∧
   X2 ((IntKind.i64.wrap (s200 + 1)), (s254 ++ [(x18, 1)]), (s258 ++ [x18])))))
   (∃ x27, math_bits_Len (IntKind.u64.wrap (s258.length : Int)) x27 ∧
   LoopP (notes_Parse_L3 s100 s152 X1 s254 s258 x27) ())
def notes_Parse_L8 (s700 : Int) (X7 : (Int × (List (List Int))) → Prop) (X8 : (Int × (List (List Int))) → Prop) (s : Int × (List (List Int))) : Prop := match s with
  | (s800, s852) =>
  IfB (decide (s800 > 0))
   (∃ x53, Idx s852 s800 x53 ∧
   ∃ x55, Idx s852 (IntKind.i64.wrap (s800 - 1)) x55 ∧
   ∃ x57, notes_Parse_1 x53 x55 x57 ∧
   IfB (decide (x57 < 0))
   (∃ x60, Idx s852 (IntKind.i64.wrap (s800 - 1)) x60 ∧
   ∃ x62, Idx s852 s800 x62 ∧
   ∃ x64, Idx s852 s800 x64 ∧
   ∃ x66, Idx (s852.set (Int.toNat s800) x60) (IntKind.i64.wrap (s800 - 1)) x66 ∧
   X8 ((IntKind.i64.wrap (s800 - 1)), ((s852.set (Int.toNat s800) x60).set (Int.toNat (IntKind.i64.wrap (s800 - 1))) x62)))
   (X7 ((IntKind.i64.wrap (s700 + 1)), s852)))
   (X7 ((IntKind.i64.wrap (s700 + 1)), s852))
def notes_Parse_L7 (s152 : List (List Int)) (r : (List (List Int)) × Int × Int) (X7 : (Int × (List (List Int))) → Prop) (s : Int × (List (List Int))) : Prop := match s with
  | (s700, s752) =>
  IfB (decide (s700 < (s152.length : Int)))
   (LoopP (notes_Parse_L8 s700 X7) (s700, s752))
   (r = (s752, 0, 0))
def notes_Parse_L6 (s152 : List (List Int)) (x48 : Int) (r : (List (List Int)) × Int × Int) (X6 : Unit → Prop) (s : Unit) : Prop := match s with
  | () =>
  IfB (decide ((IntKind.i64.wrap ((s152.length : Int) - 0)) ≤ 12))
   (LoopP (notes_Parse_L7 s152 r) ((1 : Int), s152))
   (IfB (x48 == 0)
   (False)
   (False))
def notes_Parse_L1 (p0 : List (List UInt8)) (x3 : List (Int × (List (List UInt8)))) (r : (List (List Int)) × Int × Int) (X1 : (Int × (List (Int × Int)) × (List (List Int))) → Prop) (s : Int × (List (Int × Int)) × (List (List Int))) : Prop := match s with
  | (s100, s154, s152) =>
  IfB (decide (s100 < (x3.length : Int)))
   (∃ x8 x9, Idx x3 s100 (x8, x9) ∧
   ∃ x11, Idx x9 0 x11 ∧
   IfB (!(x11 == ([98, 108, 111, 99, 107] : List UInt8)))
   (r = ([], x8, 2))
   (IfB (decide ((x9.length : Int) < 2))
   (r = ([], x8, 2))
   (SubOk x9 1 x9.length ∧
   LoopP (notes_Parse_L2 p0 s100 s152 X1 x8 x9 r) ((0 : Int), s154, []))))
   (∃ x48, math_bits_Len (IntKind.u64.wrap (s152.length : Int)) x48 ∧
   LoopP (notes_Parse_L6 s152 x48 r) ())
def notes_Parse (p0 : List (List UInt8)) (p1 : List (Bool × (List Int) × (List Int))) (p2 : List ((List UInt8) × (List (Bool × (List Int) × (List Int))) × Int × Bool × (List Int) × (List Int))) (p3 : List UInt8) (r : (List (List Int)) × Int × Int) : Prop :=
  ∃ x1, model_Right p0 p1 p2 x1 ∧
  IfB x1
   (∃ x3 x4, lines_All p3 (x3, x4) ∧
   IfB (x4 != 0)
   (r = ([], 0, x4))
   (LoopP (notes_Parse_L1 p0 x3 r) ((0 : Int), [], [])))
   (r = ([], 0, 1))
def notes_Print_L2 (p0 : List (List UInt8)) (s100 : List UInt8) (s101 : Int) (X1 : ((List UInt8) × Int) → Prop) (x4 : List Int) (X2 : (Int × (List (List UInt8))) → Prop) (s : Int × (List (List UInt8))) : Prop := match s with
  | (s200, s252) =>
  IfB (decide (s200 < (x4.length : Int)))
   (∃ x7, Idx x4 s200 x7 ∧
   ∃ x9, Idx p0 x7 x9 ∧
   Fits (s252.length + ([x9] : List (List UInt8)).length) 16 ∧
   X2 ((IntKind.i64.wrap (s200 + 1)), (s252 ++ ([x9] : List (List UInt8)))))
   (∃ x12, lines_Join s252 x12 ∧
   Fits (x12.length + ([10] : List UInt8).length) 1 ∧
   Fits (s100.length + (x12 ++ ([10] : List UInt8)).length) 1 ∧
   X1 ((s100 ++ (x12 ++ ([10] : List UInt8))), (IntKind.i64.wrap (s101 + 1))))
def notes_Print_L1 (p0 : List (List UInt8)) (p3 : List (List Int)) (r : (List UInt8) × Int) (X1 : ((List UInt8) × Int) → Prop) (s : (List UInt8) × Int) : Prop := match s with
  | (s100, s101) =>
  IfB (decide (s101 < (p3.length : Int)))
   (∃ x4, Idx p3 s101 x4 ∧
   LoopP (notes_Print_L2 p0 s100 s101 X1 x4) ((0 : Int), ([([98, 108, 111, 99, 107] : List UInt8)] : List (List UInt8))))
   (r = (s100, 0))
def notes_Print (p0 : List (List UInt8)) (p1 : List (Bool × (List Int) × (List Int))) (p2 : List ((List UInt8) × (List (Bool × (List Int) × (List Int))) × Int × Bool × (List Int) × (List Int))) (p3 : List (List Int)) (r : (List UInt8) × Int) : Prop :=
  ∃ x1, notes_Right p0 p1 p2 p3 x1 ∧
  IfB x1
   (LoopP (notes_Print_L1 p0 p3 r) ([], (0 : Int)))
   (r = ([], 1))
def offcutlaw09_same_L2 (p0 : List (List Int)) (p1 : List (List Int)) (s100 : Int) (X1 : Int → Prop) (x8 : List Int) (r : Bool) (X2 : Int → Prop) (s : Int) : Prop := match s with
  | s200 =>
  IfB (decide (s200 < (x8.length : Int)))
   (∃ x11, Idx p0 s100 x11 ∧
   ∃ x13, Idx x11 s200 x13 ∧
   ∃ x15, Idx p1 s100 x15 ∧
   ∃ x17, Idx x15 s200 x17 ∧
   IfB (x13 != x17)
   (r = false)
   (X2 (IntKind.i64.wrap (s200 + 1))))
   (X1 (IntKind.i64.wrap (s100 + 1)))
def offcutlaw09_same_L1 (p0 : List (List Int)) (p1 : List (List Int)) (r : Bool) (X1 : Int → Prop) (s : Int) : Prop := match s with
  | s100 =>
  IfB (decide (s100 < (p0.length : Int)))
   (∃ x3, Idx p0 s100 x3 ∧
   ∃ x5, Idx p1 s100 x5 ∧
   IfB ((x3.length : Int) != (x5.length : Int))
   (r = false)
   (∃ x8, Idx p0 s100 x8 ∧
   LoopP (offcutlaw09_same_L2 p0 p1 s100 X1 x8 r) (0 : Int)))
   (r = true)
def offcutlaw09_same (p0 : List (List Int)) (p1 : List (List Int)) (r : Bool) : Prop :=
  IfB ((p0.length : Int) != (p1.length : Int))
   (r = false)
   (LoopP (offcutlaw09_same_L1 p0 p1 r) (0 : Int))
def offcutlaw09_few_L1 (p0 : List (List Int)) (r : Bool) (X1 : Int → Prop) (s : Int) : Prop := match s with
  | s100 =>
  IfB (decide (s100 < (p0.length : Int)))
   (IfB (decide (s100 ≤ 10))
   (∃ x3, Idx p0 s100 x3 ∧
   IfB (decide ((x3.length : Int) > 10))
   (r = false)
   (X1 (IntKind.i64.wrap (s100 + 1))))
   (IfB (decide ((p0.length : Int) ≤ 10))
   (r = true)
   (r = false)))
   (IfB (decide ((p0.length : Int) ≤ 10))
   (r = true)
   (r = false))
def offcutlaw09_few (p0 : List (List Int)) (r : Bool) : Prop :=
  LoopP (offcutlaw09_few_L1 p0 r) (0 : Int)
def offcutlaw09_right_L2 (s101 : Int) (X1 : (Int × Int × (List Bool)) → Prop) (x5 : List Int) (x11 : Int) (r : Bool) (X2 : (Int × (List Bool)) → Prop) (s : Int × (List Bool)) : Prop := match s with
  | (s200, s252) =>
  IfB (decide (s200 < (x5.length : Int)))
   (∃ x14, Idx x5 s200 x14 ∧
   IfB (decide (x14 < 0))
   (r = false)
   (IfB (decide (x14 ≥ (s252.length : Int)))
   (r = false)
   (∃ x18, Idx s252 x14 x18 ∧
   IfB x18
   (r = false)
   (IfB (decide (s200 > 0))
   (∃ x21, Idx x5 (IntKind.i64.wrap (s200 - 1)) x21 ∧
   IfB (decide (x21 ≥ x14))
   (r = false)
   (∃ x24, Idx s252 x14 x24 ∧
   X2 ((IntKind.i64.wrap (s200 + 1)), (s252.set (Int.toNat x14) true))))
   (∃ x26, Idx s252 x14 x26 ∧
   X2 ((IntKind.i64.wrap (s200 + 1)), (s252.set (Int.toNat x14) true)))))))
   (X1 (x11, (IntKind.i64.wrap (s101 + 1)), s252))
def offcutlaw09_right_L1 (p0 : List (List UInt8)) (p1 : List (Bool × (List Int) × (List Int))) (p2 : List ((List UInt8) × (List (Bool × (List Int) × (List Int))) × Int × Bool × (List Int) × (List Int))) (p3 : List (List Int)) (r : Bool) (X1 : (Int × Int × (List Bool)) → Prop) (s : Int × Int × (List Bool)) : Prop := match s with
  | (s100, s101, s152) =>
  IfB (decide (s101 < (p3.length : Int)))
   (∃ x5, Idx p3 s101 x5 ∧
   IfB ((x5.length : Int) == 0)
   (r = false)
   (∃ x8, Idx x5 0 x8 ∧
   IfB (decide (x8 ≤ s100))
   (r = false)
   (∃ x11, Idx x5 0 x11 ∧
   LoopP (offcutlaw09_right_L2 s101 X1 x5 x11 r) ((0 : Int), s152))))
   (∃ x28, model_Right p0 p1 p2 x28 ∧
   IfB x28
   (r = true)
   (r = false))
def offcutlaw09_right (p0 : List (List UInt8)) (p1 : List (Bool × (List Int) × (List Int))) (p2 : List ((List UInt8) × (List (Bool × (List Int) × (List Int))) × Int × Bool × (List Int) × (List Int))) (p3 : List (List Int)) (r : Bool) : Prop :=
  (0 ≤ (p0.length : Int) ∧ Fits (Int.toNat (p0.length : Int)) 1 ∧ Fits (Int.toNat (p0.length : Int)) 1) ∧
  LoopP (offcutlaw09_right_L1 p0 p1 p2 p3 r) ((-1 : Int), (0 : Int), (List.replicate (Int.toNat (p0.length : Int)) false))
def offcutlaw09_NotesOrder_L2 (p0 : List (List UInt8)) (s101 : Int) (X1 : ((List UInt8) × Int) → Prop) (x15 : List Int) (X2 : ((List UInt8) × Int) → Prop) (s : (List UInt8) × Int) : Prop := match s with
  | (s200, s201) =>
  IfB (decide (s201 ≥ 0))
   (∃ x19, Idx x15 s201 x19 ∧
   ∃ x21, Idx p0 x19 x21 ∧
   Fits (([32] : List UInt8).length + x21.length) 1 ∧
   Fits (s200.length + (([32] : List UInt8) ++ x21).length) 1 ∧
   X2 ((s200 ++ (([32] : List UInt8) ++ x21)), (IntKind.i64.wrap (s201 - 1))))
   (Fits (s200.length + ([10] : List UInt8).length) 1 ∧
   X1 ((s200 ++ ([10] : List UInt8)), (IntKind.i64.wrap (s101 + 1))))
def offcutlaw09_NotesOrder_L1 (p0 : List (List UInt8)) (p1 : List (Bool × (List Int) × (List Int))) (p2 : List ((List UInt8) × (List (Bool × (List Int) × (List Int))) × Int × Bool × (List Int) × (List Int))) (p3 : List (List Int)) (p4 : Int) (r : Bool) (X1 : ((List UInt8) × Int) → Prop) (s : (List UInt8) × Int) : Prop := match s with
  | (s100, s101) =>
  IfB (decide (s101 < (p3.length : Int)))
   ((p3.length : Int) ≠ 0 ∧
   ∃ x15, Idx p3 (Int.tmod (IntKind.i64.wrap (s101 + p4)) (p3.length : Int)) x15 ∧
   Fits (s100.length + ([98, 108, 111, 99, 107] : List UInt8).length) 1 ∧
   LoopP (offcutlaw09_NotesOrder_L2 p0 s101 X1 x15) ((s100 ++ ([98, 108, 111, 99, 107] : List UInt8)), (IntKind.i64.wrap ((x15.length : Int) - 1))))
   (∃ x26 x27 x28, notes_Parse p0 p1 p2 s100 (x26, x27, x28) ∧
   IfB (x28 == 0)
   (IfB (x27 == 0)
   (∃ x32, offcutlaw09_same x26 p3 x32 ∧
   IfB x32
   (∃ x34, offcutlaw09_awake x34 ∧
   IfB x34
   (r = true)
   (r = false))
   (r = false))
   (r = false))
   (r = false))
def offcutlaw09_NotesOrder (p0 : List (List UInt8)) (p1 : List (Bool × (List Int) × (List Int))) (p2 : List ((List UInt8) × (List (Bool × (List Int) × (List Int))) × Int × Bool × (List Int) × (List Int))) (p3 : List (List Int)) (p4 : Int) (r : Bool) : Prop :=
  ∃ x1, offcutlaw08_Few p0 p1 p2 x1 ∧
  IfB x1
   (∃ x3, offcutlaw09_few p3 x3 ∧
   IfB x3
   (∃ x5, offcutlaw09_right p0 p1 p2 p3 x5 ∧
   IfB x5
   (IfB (decide (p4 < 0))
   (∃ x8, offcutlaw09_awake x8 ∧
   IfB x8
   (r = true)
   (r = false))
   (IfB (decide (p4 ≥ (p3.length : Int)))
   (∃ x11, offcutlaw09_awake x11 ∧
   IfB x11
   (r = true)
   (r = false))
   (LoopP (offcutlaw09_NotesOrder_L1 p0 p1 p2 p3 p4 r) ([], (0 : Int)))))
   (∃ x36, offcutlaw09_awake x36 ∧
   IfB x36
   (r = true)
   (r = false)))
   (∃ x38, offcutlaw09_awake x38 ∧
   IfB x38
   (r = true)
   (r = false)))
   (∃ x40, offcutlaw09_awake x40 ∧
   IfB x40
   (r = true)
   (r = false))
end Go.Abs
end

section
namespace Go.Abs
open Go.Proofs
set_option maxRecDepth 20000
set_option linter.unusedVariables false
set_option linter.unusedSimpArgs false
set_option linter.unnecessarySimpa false
def lvS (x : List UInt8) : List PD := [.str x]
def elS (x : List UInt8) : PD := .str x
theorem okS : LVok lvS 1 := fun _ => ⟨rfl, rfl⟩
theorem leS : ELok elS lvS := fun _ => rfl
theorem lgS : ELg elS lvS 1 := fun _ => rfl
def lvQ2 (x : Int × (List (List UInt8))) : List PD := [.int .i64 x.1, .sl (x.2.map elS)]
def elQ2 (x : Int × (List (List UInt8))) : PD := .agg [.int .i64 x.1, .sl (x.2.map elS)]
theorem okQ2 : LVok lvQ2 2 := fun _ => ⟨rfl, rfl⟩
theorem leQ2 : ELok elQ2 lvQ2 := fun _ => rfl
theorem lgQ2 : ELg elQ2 lvQ2 2 := fun _ => rfl
theorem lines_may_ok (m : Tp) (p0 : Int) {r : Bool} (h : lines_may p0 r) : ASpec Tryz.prog (gtT m) 44 [.pd (.int .i32 p0)] (· = .pd (.bool r)) := by
 refine ASpec_tree Tryz.f44 mixedT (askO [9, 10, 11] false [73, 75]) (by kernel_rfl) ?_
 unfold lines_may at h
 refine QB h (fun h => ?_) (fun h => ?_)
 ·subst r; exact QE .ret
 ·refine QB h (fun h => ?_) (fun h => ?_)
  ·refine QB h (fun h => ?_) (fun h => ?_)
   ·subst r; exact QE .ret
   ·subst r; exact QE .ret
  ·subst r; exact QE .ret
theorem lines_All_ok (m : Tp) (p0 : List UInt8) {r : (List (Int × (List (List UInt8)))) × Int} (h : lines_All p0 r) : ASpec Tryz.prog (gtT m) 25 [.pd (.str p0)] (· = .tup [.pd (.sl (r.1.map elQ2)), .pd (.int .i64 r.2)]) := by
 refine ASpec_tree Tryz.f25 mixedT (askO [9, 10, 11] true [73, 75]) (by kernel_rfl) ?_
 unfold lines_All at h
 let o1 : Ob := rowV lvQ2 2 ([] : List (Int × (List (List UInt8)))) 0 false
 refine QK 1 ?_
 refine QB h (fun h => ?_) (fun h => ?_)
 ·subst r; exact QX .ret (.tup [.own 1 (([] : List (Int × (List (List UInt8)))).length) 0, .pd (.int .i64 4)]) [o1, o1] (pure_tup (pl_cons (pure_1to2 (po okQ2 lgQ2 1 ([] : List (Int × (List (List UInt8)))) 0 ([] : List (Int × (List (List UInt8)))).length rfl) rfl) (pl_cons rfl pl_nil)))
 refine H_loopP (F := lines_All_L1 p0 r) (s0 := 0) h () 49 2
  (fun s151 () => [(0, .pd (.str p0)), (14, .it 1)])
  (fun s151 () => [o1, .iter p0 s151]) (fun s151 () => True) trivial [] mixedT (askO [9, 10, 11] true [73, 75])
  (by kernel_rfl) (by kernel_rfl) (by kernel_rfl) (by kernel_rfl) (by kernel_rfl) (fun _ _ => rfl) ?_
 rintro X1 s151 ⟨⟩ - h
 dsimp only [lines_All_L1] at h
 cases hx1 : (decide (s151 < p0.length))
 ·replace h := h.f hx1
  refine QZ (ask_next0 (M := [o1, .iter p0 s151]) (b := 1) (s := p0) (pos := s151) (by kernel_rfl) hx1) ?_
  refine QR (.exit 0) ?_
  obtain ⟨x4, hx5, h⟩ := h
  refine QV (strings_Split_ok m _ _ hx5) ?_
  refine QL [o1, .iter p0 s151, o1] 22 9 elS x4 ?_
  refine H_loopP (F := lines_All_L2 x4 r) (s0 := ((0 : Int), ([] : List (Int × (List (List UInt8)))))) h (0, (([] : List (Int × (List (List UInt8)))).length)) 49 3
   (fun (s200, s252) (v202, n202) => [(6, .own 2 n202 v202), (22, .pd (.sl (x4.map elS))), (23, .pd (.int .i64 (x4.length : Int))), (24, .pd (.int .i64 s200))])
   (fun (s200, s252) (v202, n202) => [o1, .iter p0 s151, rowV lvQ2 2 s252 v202 false]) (fun (s200, s252) (v202, n202) => n202 = s252.length) rfl [] mixedT (askO [9, 10, 11] true [73, 75])
   (by kernel_rfl) (by kernel_rfl) (by kernel_rfl) (by kernel_rfl) (by kernel_rfl) (fun _ _ => rfl) ?_
  rintro X2 ⟨s200, s252⟩ ⟨v202, n202⟩ hn202 h
  dsimp only [lines_All_L2] at h
  refine QB h (fun h => ?_) (fun h => ?_)
  ·obtain ⟨x6, hx7, h⟩ := h
   let o2 : Ob := rowV lvQ2 2 s252 v202 false
   refine QI [o1, .iter p0 s151, o2] 22 9 .i64 okS leS hx7 ?_
   refine QK 1 ?_
   obtain ⟨x8, x9, x10, hx11, h⟩ := h
   refine QV (strings_Cut_ok m _ _ hx11) ?_
   cases x10
   ·replace h := h.f rfl
    obtain ⟨x15, hx16, h⟩ := h
    refine QV (strings_Fields_ok m _ hx16) ?_
    refine QL [o1, .iter p0 s151, o2] 22 9 elS x15 ?_
    refine QB h (fun h => ?_) (fun h => ?_)
    ·refine QK 1 ?_
     obtain ⟨hx17, h⟩ := h
     refine QA [o1, .iter p0 s151, o2] 2 s252 [((IntKind.i64.wrap (s200 + 1)), x15)] v202 59 59 32 okQ2 (src_fixed okQ2 leQ2) hn202 hx17 ?_
     exact QG ((vnext s252 [((IntKind.i64.wrap (s200 + 1)), x15)] v202), ((s252 ++ [((IntKind.i64.wrap (s200 + 1)), x15)]).length)) h rfl
    exact QG (v202, n202) h hn202
   replace h := h.t rfl
   obtain ⟨x12, hx13, h⟩ := h
   refine QV (strings_Fields_ok m _ hx13) ?_
   refine QL [o1, .iter p0 s151, o2] 22 9 elS x12 ?_
   refine QB h (fun h => ?_) (fun h => ?_)
   ·refine QK 1 ?_
    obtain ⟨hx14, h⟩ := h
    refine QA [o1, .iter p0 s151, o2] 2 s252 [((IntKind.i64.wrap (s200 + 1)), x12)] v202 59 59 32 okQ2 (src_fixed okQ2 leQ2) hn202 hx14 ?_
    exact QG ((vnext s252 [((IntKind.i64.wrap (s200 + 1)), x12)] v202), ((s252 ++ [((IntKind.i64.wrap (s200 + 1)), x12)]).length)) h rfl
   exact QG (v202, n202) h hn202
  refine QR (.exit 2) ?_
  let o3 : Ob := rowV lvQ2 2 s252 v202 false
  subst r; exact QX .ret (.tup [.own 2 n202 v202, .pd (.int .i64 0)]) [o1, .iter p0 s151, o3] (pure_tup (pl_cons (pure_1to2 (po okQ2 lgQ2 2 s252 v202 n202 hn202) rfl) (pl_cons rfl pl_nil)))
 replace h := h.t hx1
 refine QZ (ask_next (M := [o1, .iter p0 s151]) (b := 1) (s := p0) (pos := s151) (by kernel_rfl) hx1) ?_
 obtain ⟨x2, hx3, h⟩ := h
 let o4 : Ob := .iter p0 (s151 + runeLen p0 s151)
 refine QV (lines_may_ok m _ hx3) ?_
 cases x2
 ·replace h := h.f rfl
  refine QR .ret ?_
  subst r; exact QX .ret (.tup [.own 2 (([] : List (Int × (List (List UInt8)))).length) 0, .pd (.int .i64 2)]) [o1, o4, o1] (pure_tup (pl_cons (pure_1to2 (po okQ2 lgQ2 2 ([] : List (Int × (List (List UInt8)))) 0 ([] : List (Int × (List (List UInt8)))).length rfl) rfl) (pl_cons rfl pl_nil)))
 replace h := h.t rfl
 exact QG () h trivial
theorem lines_Name_ok (m : Tp) (p0 : List UInt8) {r : Bool} (h : lines_Name p0 r) : ASpec Tryz.prog (gtT m) 52 [.pd (.str p0)] (· = .pd (.bool r)) := by
 refine ASpec_tree Tryz.f52 mixedT (askO [9, 10, 11] false [73, 75]) (by kernel_rfl) ?_
 unfold lines_Name at h
 refine H_loopP (F := lines_Name_L1 p0 r) (s0 := 0) h () 44 1
  (fun s150 () => [(0, .pd (.str p0)), (7, .it 0)])
  (fun s150 () => [.iter p0 s150]) (fun s150 () => True) trivial [] mixedT (askO [9, 10, 11] false [73, 75])
  (by kernel_rfl) (by kernel_rfl) (by kernel_rfl) (by kernel_rfl) (by kernel_rfl) (fun _ _ => rfl) ?_
 rintro X1 s150 ⟨⟩ - h
 dsimp only [lines_Name_L1] at h
 cases hx1 : (decide (s150 < p0.length))
 ·replace h := h.f hx1
  refine QZ (ask_next0 (M := [.iter p0 s150]) (b := 0) (s := p0) (pos := s150) (by kernel_rfl) hx1) ?_
  refine QR (.exit 0) ?_
  refine QK 1 ?_
  refine QB h (fun h => ?_) (fun h => ?_)
  ·refine QK 1 ?_
   refine QB h (fun h => ?_) (fun h => ?_)
   ·subst r; exact QE .ret
   ·subst r; exact QE .ret
  ·subst r; exact QE .ret
 ·replace h := h.t hx1
  refine QZ (ask_next (M := [.iter p0 s150]) (b := 0) (s := p0) (pos := s150) (by kernel_rfl) hx1) ?_
  refine QB h (fun h => ?_) (fun h => ?_)
  ·refine QB h (fun h => ?_) (fun h => ?_)
   ·exact QG () h trivial
   ·refine QB h (fun h => ?_) (fun h => ?_)
    ·refine QR .ret ?_
     subst r; exact QE .ret
    ·refine QB h (fun h => ?_) (fun h => ?_)
     ·refine QB h (fun h => ?_) (fun h => ?_)
      ·refine QR .ret ?_
       subst r; exact QE .ret
      ·refine QB h (fun h => ?_) (fun h => ?_)
       ·refine QR .ret ?_
        subst r; exact QE .ret
       ·exact QG () h trivial
     ·exact QG () h trivial
  ·refine QB h (fun h => ?_) (fun h => ?_)
   ·refine QR .ret ?_
    subst r; exact QE .ret
   ·refine QB h (fun h => ?_) (fun h => ?_)
    ·refine QB h (fun h => ?_) (fun h => ?_)
     ·refine QR .ret ?_
      subst r; exact QE .ret
     ·refine QB h (fun h => ?_) (fun h => ?_)
      ·refine QR .ret ?_
       subst r; exact QE .ret
      ·exact QG () h trivial
    ·exact QG () h trivial
theorem lines_Join_ok (m : Tp) (p0 : List (List UInt8)) {r : (List UInt8)} (h : lines_Join p0 r) : ASpec Tryz.prog (gtT m) 42 [.pd (.sl (p0.map elS))] (· = .pd (.str r)) := by
 refine ASpec_tree Tryz.f42 mixedT (askO [9, 10, 11] false [73, 75]) (by kernel_rfl) ?_
 unfold lines_Join at h
 obtain ⟨x1, hx2, h⟩ := h
 refine QV (strings_Join_ok m _ _ hx2) ?_
 subst r; exact QE .ret
end Go.Abs
end

section
namespace Go.Abs
set_option linter.unusedVariables false
set_option linter.unusedSimpArgs false
set_option linter.unnecessarySimpa false
def slices_Clone_nat_Nat_uint32_cons (y0 : Int) (q0 : List Int) (r : (List Int)) : Prop :=
  IfB (y0 :: q0).isEmpty
    (r = [])
    (Fits (([] : List Int).length + (y0 :: q0).length) 4 ∧
    r = (([] : List Int) ++ (y0 :: q0)))
end Go.Abs
end

section
namespace Go.Abs
open Go.Proofs
set_option maxRecDepth 20000
set_option linter.unusedVariables false
set_option linter.unusedSimpArgs false
set_option linter.unnecessarySimpa false
def lvU32 (x : Int) : List PD := [.int .u32 x]
def elU32 (x : Int) : PD := .int .u32 x
theorem okU32 : LVok lvU32 1 := fun _ => ⟨rfl, rfl⟩
theorem leU32 : ELok elU32 lvU32 := fun _ => rfl
theorem lgU32 : ELg elU32 lvU32 1 := fun _ => rfl
theorem slices_Clone_nat_Nat_uint32_cons_ok (m : Tp) (y0 : Int) (q0 : List Int) {r : (List Int)} (h : slices_Clone_nat_Nat_uint32_cons y0 q0 r) : ASpec Tryz.prog (gtT m) 112 [.pd (.sl ((y0 :: q0).map elU32))] (· = .pd (.sl (r.map elU32))) := by
 refine ASpec_tree Tryz.f112 mixedT (askG [9, 10, 11] false) (by kernel_rfl) ?_
 unfold slices_Clone_nat_Nat_uint32_cons at h
 refine QK 1 ?_
 cases hx1 : ((y0 :: q0)).isEmpty
 ·replace h := h.f hx1
  obtain ⟨hx2, h⟩ := h
  refine QZ (ask_appF (P := Tryz.prog) (M := []) (lv := lvU32) (s := 1) (e := ([] : List Int)) (e2 := (y0 :: q0)) (sT := 47) (xT := 47) (by_ := 4) okU32 leU32 (by kernel_rfl) (src_pd (M := []) okU32 leU32) (ne_of_isEmpty hx1) hx2) ?_
  subst r; exact QX .ret (.own 0 ((([] : List Int) ++ (y0 :: q0)).length) 0) [.cells (rowC lvU32 (([] : List Int) ++ (y0 :: q0))) 1 0 false] (pure_2to3 (pure_1to2 (pure1_own okU32 (by decide) lgU32 (M := [.cells (rowC lvU32 (([] : List Int) ++ (y0 :: q0))) 1 0 false]) (b := 0) (o := .cells (rowC lvU32 (([] : List Int) ++ (y0 :: q0))) 1 0 false) (by kernel_rfl) (rowIs_c (lv := lvU32) (s := 1) (e := (([] : List Int) ++ (y0 :: q0))) (ver := 0) (z := false)) (n := (([] : List Int) ++ (y0 :: q0)).length) rfl) rfl) rfl)
 ·replace h := h.t hx1
  refine QZ (ask_app0 (P := Tryz.prog) (M := []) (lv := lvU32) (s := 1) (e := ([] : List Int)) (e2 := (y0 :: q0)) (sT := 47) (xT := 47) (by_ := 4) okU32 leU32 (by kernel_rfl) (src_pd (M := []) okU32 leU32) hx1) ?_
  subst r; exact QE .ret
end Go.Abs
end

section
namespace Go.Abs
open Go.RowKit Go.Proofs Go.Lib
theorem clone_nil (n c : Nat) (w : World) : Calls Tryz.prog 112 #[.slice none n c] w fun e w' => e = .returned (.slice none 0 0) ∧ w' = w := by
  have q37 : ∀ (w : World) (a : Option Addr) (n c n' c' : Nat), (binOp .eql 47 (.slice a n c) (.slice none n' c')).run Tryz.prog w = .ok (.bool a.isNone) w := fun w a n c n' c' => Lib.run_eql_slice_nil w _ _ a n c n' c' Tryz.underlying47
  go_enter Tryz.func112, Tryz.ntmps112
  go_wp2
  go_ret
  exact ⟨rfl, rfl⟩
theorem iU32 : (Tryz.prog.info? 121).map (fun i => (i.zero, i.size, i.bytes)) = some (some (Value.int .u32 0), 1, 4) := by kernel_rfl
set_option maxHeartbeats 2000000 in
set_option maxRecDepth 100000 in
theorem clone_zero (a : Addr) (c : Nat) (w : World) : Calls Tryz.prog 112 #[.slice (some a) 0 c] w fun e w' => ∃ v', e = .returned v' ∧ w'.ownsRow w.heap.size 121 1 v' 0 [] ∧ v' ≠ .slice none 0 0 ∧ Below w.heap.size w w' := by
  obtain ⟨i0, hi, hz0, hz1, hz2⟩ := info_parts iU32
  have q37 : ∀ (w : World) (a : Option Addr) (n c n' c' : Nat), (binOp .eql 47 (.slice a n c) (.slice none n' c')).run Tryz.prog w = .ok (.bool a.isNone) w := fun w a n c n' c' => Lib.run_eql_slice_nil w _ _ a n c n' c' Tryz.underlying47
  have u37 : ∀ w, Sem.run Tryz.prog (underlying 47) w = .ok (TypeDesc.slice 121) w := run_underlying Tryz.underlying47
  go_enter Tryz.func112, Tryz.ntmps112
  go_wp2_with (at_builtin; refine wpList_append_own _ rfl _ _ 47 rfl w.heap.size 121 i0 (.int .u32 0) 1 4 Tryz.underlying47 hi hz0 hz1 hz2 rfl (by decide) _ _ _ rfl (World.ownsRow_made w #[] 0 (Nat.le_refl _) (Nat.zero_le _) rfl) a 0 c [] rfl rfl (by intro j u hj; simp at hj) (by intro u hu; cases hu) (by unfold maxLen; omega) (by omega) (by simp) ?_)
  intro v' w1 hown hgrow hnil
  go_wp2
  go_ret
  refine ⟨v', rfl, by simpa using hown, ?_, ?_⟩
  · first | exact hnil | (intro e; exact absurd (hnil.1 e).1 (by simp))
  · exact ((Below.refl _ w).alloc (Nat.le_refl _) _).grown hgrow (by simp) (by intro k hk; simp [Value.ownBlock] at hk; omega)
theorem clone_spec {GT : Tabs} : ASpec Tryz.prog GT 112 [.pd (.sl [])] (· = .pd (.sl [])) := by
  refine ASpec.of_calls _ (by simp [AV.pure]) fun cx w vs hA hG hlt => ?_
  obtain ⟨v0, h0, r0⟩ := args_at hA 0 rfl
  rw [vs1 hA.1 h0]
  cases r0 with
  | pd v x h =>
  cases h with
  | nil =>
    refine (clone_nil 0 0 w).mono ?_
    rintro e w' ⟨rfl, rfl⟩
    exact ⟨_, rfl, Below.refl _ _, .pd _ _ .nil⟩
  | sl a n cap sz l f hsp hn hcap hI hsz hc hr =>
    simp at hn
    subst hn
    refine (clone_zero a cap w).mono ?_
    rintro e w' ⟨v', rfl, hown, _, hb⟩
    refine ⟨_, rfl, hb, .pd _ _ ?_⟩
    rcases hown.2 with ⟨rfl, _⟩ | ⟨g, cap', cur, rfl, _, _, _⟩
    · exact .nil
    · exact .sl _ 0 cap' 0 [] (fun _ _ => .nilIface) (fun h => by omega) rfl (Nat.zero_le _) (fun h => by omega) (by simp) (by simp) (by simp)
theorem slices_Clone_nat_Nat_uint32_ok (m : Tp) (l : List Int) {r : List Int} (h : slices_Clone_nat_Nat_uint32 l r) : ASpec Tryz.prog (gtT m) 112 [.pd (.sl (l.map elU32))] (· = .pd (.sl (r.map elU32))) := by
  obtain ⟨hf, rfl⟩ := h
  cases r with
  | nil => exact clone_spec
  | cons x l =>
    refine slices_Clone_nat_Nat_uint32_cons_ok m x l ?_
    unfold slices_Clone_nat_Nat_uint32_cons
    exact IfB_false.2 ⟨by simpa using hf, rfl⟩
end Go.Abs
end
