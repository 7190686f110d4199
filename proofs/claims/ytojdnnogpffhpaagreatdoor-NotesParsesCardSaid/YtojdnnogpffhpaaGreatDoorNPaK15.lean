/- Part of a proof, in few files: D13c B08n B08m D08b B09n D09 D09b D09p Abs31 QW. -/
import Derived.Test.YtojdnnogpffhpaaGreatDoorNPaK11
import Derived.Test.YtojdnnogpffhpaaGreatDoorNPaK14
import Derived.Test.YtojdnnogpffhpaaGreatDoorNPaK5
import Derived.Test.YtojdnnogpffhpaaGreatDoorNPaK13

section
namespace Go.Abs
set_option linter.unusedVariables false
set_option linter.unusedSimpArgs false
set_option linter.unnecessarySimpa false
end Go.Abs
end

section
namespace Go.Abs
end Go.Abs
end

section
namespace Go.Abs
end Go.Abs
end

section
namespace Go.Abs
set_option linter.unusedVariables false
set_option linter.unusedSimpArgs false
set_option linter.unnecessarySimpa false
def model_names_L1 (p0 : List (List UInt8)) (r : Bool) (X1 : Int → Prop) (s : Int) : Prop := match s with
  | s100 =>
  IfB (decide (s100 < (p0.length : Int)))
   (∃ x2, Idx p0 s100 x2 ∧
   ∃ x4, lines_Name x2 x4 ∧
   IfB x4
   (∃ x6, lines_Index p0 x2 x6 ∧
   IfB (x6 != s100)
   (r = false)
   (X1 (IntKind.i64.wrap (s100 + 1))))
   (r = false))
   (r = true)
def model_names (p0 : List (List UInt8)) (r : Bool) : Prop :=
  LoopP (model_names_L1 p0 r) (0 : Int)
def model_Right_L2 (p0 : List (List UInt8)) (p2 : List ((List UInt8) × (List (Bool × (List Int) × (List Int))) × Int × Bool × (List Int) × (List Int))) (r : Bool) (X2 : Int → Prop) (s : Int) : Prop := match s with
  | s200 =>
  IfB (decide (s200 < (p2.length : Int)))
   (∃ x18 x19 x20 x21 x22 x23, Idx p2 s200 (x18, x19, x20, x21, x22, x23) ∧
   IfB ((x19.length : Int) != (p0.length : Int))
   (IfB (decide (s200 ≥ 0))
   (r = false)
   (r = true))
   (IfB (decide (x20 < (-1)))
   (IfB (decide (s200 ≥ 0))
   (r = false)
   (r = true))
   (IfB (decide (x20 > 1))
   (IfB (decide (s200 ≥ 0))
   (r = false)
   (r = true))
   (X2 (IntKind.i64.wrap (s200 + 1))))))
   (r = true)
def model_Right_L1 (p0 : List (List UInt8)) (p2 : List ((List UInt8) × (List (Bool × (List Int) × (List Int))) × Int × Bool × (List Int) × (List Int))) (r : Bool) (X1 : (Int × (List (List UInt8))) → Prop) (s : Int × (List (List UInt8))) : Prop := match s with
  | (s100, s153) =>
  IfB (decide (s100 < (p2.length : Int)))
   (∃ x7 x8 x9 x10 x11 x12, Idx p2 s100 (x7, x8, x9, x10, x11, x12) ∧
   Fits (s153.length + [x7].length) 16 ∧
   X1 ((IntKind.i64.wrap (s100 + 1)), (s153 ++ [x7])))
   (∃ x15, model_names s153 x15 ∧
   IfB x15
   (LoopP (model_Right_L2 p0 p2 r) (0 : Int))
   (r = false))
def model_Right (p0 : List (List UInt8)) (p1 : List (Bool × (List Int) × (List Int))) (p2 : List ((List UInt8) × (List (Bool × (List Int) × (List Int))) × Int × Bool × (List Int) × (List Int))) (r : Bool) : Prop :=
  IfB (decide ((p0.length : Int) ≤ 60))
   (IfB ((p1.length : Int) == (p0.length : Int))
   (IfB (decide ((p2.length : Int) ≤ 60))
   (∃ x4, model_names p0 x4 ∧
   IfB x4
   (LoopP (model_Right_L1 p0 p2 r) ((0 : Int), []))
   (r = false))
   (r = false))
   (r = false))
   (r = false)
def offcutlaw08_Few_L2 (p0 : List (List UInt8)) (p1 : List (Bool × (List Int) × (List Int))) (p2 : List ((List UInt8) × (List (Bool × (List Int) × (List Int))) × Int × Bool × (List Int) × (List Int))) (r : Bool) (X2 : Int → Prop) (s : Int) : Prop := match s with
  | s200 =>
  IfB (decide (s200 < (p2.length : Int)))
   (IfB (decide (s200 ≤ 6))
   (∃ x8 x9 x10 x11 x12 x13, Idx p2 s200 (x8, x9, x10, x11, x12, x13) ∧
   IfB (decide ((x8.length : Int) > 20))
   (r = false)
   (∃ x16 x17 x18 x19 x20 x21, Idx p2 s200 (x16, x17, x18, x19, x20, x21) ∧
   ∃ x23, offcutlaw05_Few x17 x23 ∧
   IfB x23
   (∃ x25 x26 x27 x28 x29 x30, Idx p2 s200 (x25, x26, x27, x28, x29, x30) ∧
   ∃ x32, offcutlaw05_Few [(x28, x29, x30)] x32 ∧
   IfB x32
   (X2 (IntKind.i64.wrap (s200 + 1)))
   (r = false))
   (r = false)))
   (IfB (decide ((p0.length : Int) ≤ 8))
   (IfB (decide ((p2.length : Int) ≤ 6))
   (∃ x36, offcutlaw05_Few p1 x36 ∧
   IfB x36
   (r = true)
   (r = false))
   (r = false))
   (r = false)))
   (IfB (decide ((p0.length : Int) ≤ 8))
   (IfB (decide ((p2.length : Int) ≤ 6))
   (∃ x40, offcutlaw05_Few p1 x40 ∧
   IfB x40
   (r = true)
   (r = false))
   (r = false))
   (r = false))
def offcutlaw08_Few_L3 (p0 : List (List UInt8)) (p1 : List (Bool × (List Int) × (List Int))) (p2 : List ((List UInt8) × (List (Bool × (List Int) × (List Int))) × Int × Bool × (List Int) × (List Int))) (r : Bool) (X3 : Int → Prop) (s : Int) : Prop := match s with
  | s300 =>
  IfB (decide (s300 < (p2.length : Int)))
   (IfB (decide (s300 ≤ 6))
   (∃ x44 x45 x46 x47 x48 x49, Idx p2 s300 (x44, x45, x46, x47, x48, x49) ∧
   IfB (decide ((x44.length : Int) > 20))
   (r = false)
   (∃ x52 x53 x54 x55 x56 x57, Idx p2 s300 (x52, x53, x54, x55, x56, x57) ∧
   ∃ x59, offcutlaw05_Few x53 x59 ∧
   IfB x59
   (∃ x61 x62 x63 x64 x65 x66, Idx p2 s300 (x61, x62, x63, x64, x65, x66) ∧
   ∃ x68, offcutlaw05_Few [(x64, x65, x66)] x68 ∧
   IfB x68
   (X3 (IntKind.i64.wrap (s300 + 1)))
   (r = false))
   (r = false)))
   (IfB (decide ((p0.length : Int) ≤ 8))
   (IfB (decide ((p2.length : Int) ≤ 6))
   (∃ x72, offcutlaw05_Few p1 x72 ∧
   IfB x72
   (r = true)
   (r = false))
   (r = false))
   (r = false)))
   (IfB (decide ((p0.length : Int) ≤ 8))
   (IfB (decide ((p2.length : Int) ≤ 6))
   (∃ x76, offcutlaw05_Few p1 x76 ∧
   IfB x76
   (r = true)
   (r = false))
   (r = false))
   (r = false))
def offcutlaw08_Few_L1 (p0 : List (List UInt8)) (p1 : List (Bool × (List Int) × (List Int))) (p2 : List ((List UInt8) × (List (Bool × (List Int) × (List Int))) × Int × Bool × (List Int) × (List Int))) (r : Bool) (X1 : Int → Prop) (s : Int) : Prop := match s with
  | s100 =>
  IfB (decide (s100 < (p0.length : Int)))
   (IfB (decide (s100 ≤ 8))
   (∃ x3, Idx p0 s100 x3 ∧
   IfB (decide ((x3.length : Int) > 20))
   (r = false)
   (X1 (IntKind.i64.wrap (s100 + 1))))
   (LoopP (offcutlaw08_Few_L2 p0 p1 p2 r) (0 : Int)))
   (LoopP (offcutlaw08_Few_L3 p0 p1 p2 r) (0 : Int))
def offcutlaw08_Few (p0 : List (List UInt8)) (p1 : List (Bool × (List Int) × (List Int))) (p2 : List ((List UInt8) × (List (Bool × (List Int) × (List Int))) × Int × Bool × (List Int) × (List Int))) (r : Bool) : Prop :=
  LoopP (offcutlaw08_Few_L1 p0 p1 p2 r) (0 : Int)
end Go.Abs
end

section
namespace Go.Abs
def offcutlaw09_awake (r : Bool) : Prop := r = true
end Go.Abs
end

section
namespace Go.Abs
set_option linter.unusedVariables false
set_option linter.unusedSimpArgs false
set_option linter.unnecessarySimpa false
def cmp_isNaN_int (p0 : Int) (r : Bool) : Prop :=
  IfB (p0 != p0)
   (r = true)
   (r = false)
def cmp_Less_int (p0 : Int) (p1 : Int) (r : Bool) : Prop :=
  ∃ x1, cmp_isNaN_int p0 x1 ∧
  IfB x1
   (∃ x3, cmp_isNaN_int p1 x3 ∧
   IfB x3
   (IfB (decide (p0 < p1))
   (r = true)
   (r = false))
   (r = true))
   (IfB (decide (p0 < p1))
   (r = true)
   (r = false))
def slices_IsSorted_int_int_L1 (p0 : List Int) (r : Bool) (X1 : Int → Prop) (s : Int) : Prop := match s with
  | s100 =>
  IfB (decide (s100 > 0))
   (∃ x2, Idx p0 s100 x2 ∧
   ∃ x4, Idx p0 (IntKind.i64.wrap (s100 - 1)) x4 ∧
   ∃ x6, cmp_Less_int x2 x4 x6 ∧
   IfB x6
   (r = false)
   (X1 (IntKind.i64.wrap (s100 - 1))))
   (r = true)
def slices_IsSorted_int_int (p0 : List Int) (r : Bool) : Prop :=
  LoopP (slices_IsSorted_int_int_L1 p0 r) (IntKind.i64.wrap ((p0.length : Int) - 1))
def notes_Right_L3 (p3 : List (List Int)) (r : Bool) (X3 : (Int × Int) → Prop) (s : Int × Int) : Prop := match s with
  | (s300, s301) =>
  IfB (decide (s301 < (p3.length : Int)))
   (∃ x12, Idx p3 s301 x12 ∧
   IfB ((x12.length : Int) == 0)
   (r = false)
   (∃ x15, Idx x12 0 x15 ∧
   IfB (decide (x15 ≤ s300))
   (r = false)
   (∃ x18, slices_IsSorted_int_int x12 x18 ∧
   IfB x18
   (∃ x20, Idx x12 0 x20 ∧
   X3 (x20, (IntKind.i64.wrap (s301 + 1))))
   (r = false))))
   (r = false)
def notes_Right_L4 (p3 : List (List Int)) (r : Bool) (X4 : (Int × Int) → Prop) (s : Int × Int) : Prop := match s with
  | (s400, s401) =>
  IfB (decide (s401 < (p3.length : Int)))
   (∃ x24, Idx p3 s401 x24 ∧
   IfB ((x24.length : Int) == 0)
   (r = false)
   (∃ x27, Idx x24 0 x27 ∧
   IfB (decide (x27 ≤ s400))
   (r = false)
   (∃ x30, slices_IsSorted_int_int x24 x30 ∧
   IfB x30
   (∃ x32, Idx x24 0 x32 ∧
   X4 (x32, (IntKind.i64.wrap (s401 + 1))))
   (r = false))))
   (r = false)
def notes_Right_L5 (p3 : List (List Int)) (r : Bool) (X5 : (Int × Int) → Prop) (s : Int × Int) : Prop := match s with
  | (s500, s501) =>
  IfB (decide (s501 < (p3.length : Int)))
   (∃ x35, Idx p3 s501 x35 ∧
   IfB ((x35.length : Int) == 0)
   (r = false)
   (∃ x38, Idx x35 0 x38 ∧
   IfB (decide (x38 ≤ s500))
   (r = false)
   (∃ x41, slices_IsSorted_int_int x35 x41 ∧
   IfB x41
   (∃ x43, Idx x35 0 x43 ∧
   X5 (x43, (IntKind.i64.wrap (s501 + 1))))
   (r = false))))
   (r = false)
def notes_Right_L6 (p3 : List (List Int)) (r : Bool) (X6 : (Int × Int) → Prop) (s : Int × Int) : Prop := match s with
  | (s600, s601) =>
  IfB (decide (s601 < (p3.length : Int)))
   (∃ x47, Idx p3 s601 x47 ∧
   IfB ((x47.length : Int) == 0)
   (r = false)
   (∃ x50, Idx x47 0 x50 ∧
   IfB (decide (x50 ≤ s600))
   (r = false)
   (∃ x53, slices_IsSorted_int_int x47 x53 ∧
   IfB x53
   (∃ x55, Idx x47 0 x55 ∧
   X6 (x55, (IntKind.i64.wrap (s601 + 1))))
   (r = false))))
   (r = false)
def notes_Right_L7 (p3 : List (List Int)) (r : Bool) (X7 : (Int × Int) → Prop) (s : Int × Int) : Prop := match s with
  | (s700, s701) =>
  IfB (decide (s701 < (p3.length : Int)))
   (∃ x59, Idx p3 s701 x59 ∧
   IfB ((x59.length : Int) == 0)
   (r = false)
   (∃ x62, Idx x59 0 x62 ∧
   IfB (decide (x62 ≤ s700))
   (r = false)
   (∃ x65, slices_IsSorted_int_int x59 x65 ∧
   IfB x65
   (∃ x67, Idx x59 0 x67 ∧
   X7 (x67, (IntKind.i64.wrap (s701 + 1))))
   (r = false))))
   (r = false)
def notes_Right_L2 (p0 : List (List UInt8)) (p3 : List (List Int)) (s100 : Int) (X1 : (Int × (List (Int × Int))) → Prop) (x2 : List Int) (r : Bool) (X2 : (Int × (List (Int × Int))) → Prop) (s : Int × (List (Int × Int))) : Prop := match s with
  | (s200, s254) =>
  IfB (decide (s200 < (x2.length : Int)))
   (∃ x5, Idx x2 s200 x5 ∧
   ∃ x7 x8, mGet s254 x5 = (x7, x8) ∧
   IfB x8
   (IfB (decide (x5 < 0))
   (LoopP (notes_Right_L3 p3 r) ((-1 : Int), (0 : Int)))
   (IfB (decide (x5 ≥ (p0.length : Int)))
   (LoopP (notes_Right_L4 p3 r) ((-1 : Int), (0 : Int)))
   (LoopP (notes_Right_L5 p3 r) ((-1 : Int), (0 : Int)))))
   (IfB (decide (x5 < 0))
   (LoopP (notes_Right_L6 p3 r) ((-1 : Int), (0 : Int)))
   (IfB (decide (x5 ≥ (p0.length : Int)))
   (LoopP (notes_Right_L7 p3 r) ((-1 : Int), (0 : Int)))
   ((mGet s254 x5).2 = false ∧
   X2 ((IntKind.i64.wrap (s200 + 1)), (s254 ++ [(x5, s100)]))))))
   (X1 ((IntKind.i64.wrap (s100 + 1)), s254))
def notes_Right_L8 (p0 : List (List UInt8)) (p1 : List (Bool × (List Int) × (List Int))) (p2 : List ((List UInt8) × (List (Bool × (List Int) × (List Int))) × Int × Bool × (List Int) × (List Int))) (p3 : List (List Int)) (r : Bool) (X8 : (Int × Int) → Prop) (s : Int × Int) : Prop := match s with
  | (s800, s801) =>
  IfB (decide (s801 < (p3.length : Int)))
   (∃ x71, Idx p3 s801 x71 ∧
   IfB ((x71.length : Int) == 0)
   (r = false)
   (∃ x74, Idx x71 0 x74 ∧
   IfB (decide (x74 ≤ s800))
   (r = false)
   (∃ x77, slices_IsSorted_int_int x71 x77 ∧
   IfB x77
   (∃ x79, Idx x71 0 x79 ∧
   X8 (x79, (IntKind.i64.wrap (s801 + 1))))
   (r = false))))
   (∃ x81, model_Right p0 p1 p2 x81 ∧
   IfB x81
   (r = true)
   (r = false))
def notes_Right_L1 (p0 : List (List UInt8)) (p1 : List (Bool × (List Int) × (List Int))) (p2 : List ((List UInt8) × (List (Bool × (List Int) × (List Int))) × Int × Bool × (List Int) × (List Int))) (p3 : List (List Int)) (r : Bool) (X1 : (Int × (List (Int × Int))) → Prop) (s : Int × (List (Int × Int))) : Prop := match s with
  | (s100, s154) =>
  IfB (decide (s100 < (p3.length : Int)))
   (∃ x2, Idx p3 s100 x2 ∧
   LoopP (notes_Right_L2 p0 p3 s100 X1 x2 r) ((0 : Int), s154))
   (LoopP (notes_Right_L8 p0 p1 p2 p3 r) ((-1 : Int), (0 : Int)))
def notes_Right (p0 : List (List UInt8)) (p1 : List (Bool × (List Int) × (List Int))) (p2 : List ((List UInt8) × (List (Bool × (List Int) × (List Int))) × Int × Bool × (List Int) × (List Int))) (p3 : List (List Int)) (r : Bool) : Prop :=
  LoopP (notes_Right_L1 p0 p1 p2 p3 r) ((0 : Int), [])
def math_bits_Mul64 (p0 : Int) (p1 : Int) (r : Int × Int) : Prop :=
  r = ((IntKind.u64.wrap ((IntKind.u64.wrap ((IntKind.u64.wrap ((Int.fdiv p0 (2 ^ (min (Int.toNat (32 : Int)) (IntKind.bits .u64)))) * (Int.fdiv p1 (2 ^ (min (Int.toNat (32 : Int)) (IntKind.bits .u64)))))) + (Int.fdiv (IntKind.u64.wrap ((IntKind.u64.wrap ((Int.fdiv p0 (2 ^ (min (Int.toNat (32 : Int)) (IntKind.bits .u64)))) * (bitA .u64 p1 4294967295))) + (Int.fdiv (IntKind.u64.wrap ((bitA .u64 p0 4294967295) * (bitA .u64 p1 4294967295))) (2 ^ (min (Int.toNat (32 : Int)) (IntKind.bits .u64)))))) (2 ^ (min (Int.toNat (32 : Int)) (IntKind.bits .u64)))))) + (Int.fdiv (IntKind.u64.wrap ((bitA .u64 (IntKind.u64.wrap ((IntKind.u64.wrap ((Int.fdiv p0 (2 ^ (min (Int.toNat (32 : Int)) (IntKind.bits .u64)))) * (bitA .u64 p1 4294967295))) + (Int.fdiv (IntKind.u64.wrap ((bitA .u64 p0 4294967295) * (bitA .u64 p1 4294967295))) (2 ^ (min (Int.toNat (32 : Int)) (IntKind.bits .u64)))))) 4294967295) + (IntKind.u64.wrap ((bitA .u64 p0 4294967295) * (Int.fdiv p1 (2 ^ (min (Int.toNat (32 : Int)) (IntKind.bits .u64)))))))) (2 ^ (min (Int.toNat (32 : Int)) (IntKind.bits .u64)))))), (IntKind.u64.wrap (p0 * p1)))
def math_bits_Mul (p0 : Int) (p1 : Int) (r : Int × Int) : Prop :=
  ∃ x1 x2, math_bits_Mul64 p0 p1 (x1, x2) ∧
  r = (x1, x2)
def notes_Home_L3 (p0 : List (List UInt8)) (s200 : Int) (X2 : (Int × (List (Int × Int))) → Prop) (x16 : List Int) (X3 : (Int × (List (Int × Int))) → Prop) (s : Int × (List (Int × Int))) : Prop := match s with
  | (s300, s355) =>
  IfB (decide (s300 < (x16.length : Int)))
   (∃ x19, Idx x16 s300 x19 ∧
   ∃ x21 x22, mGet s355 x19 = (x21, x22) ∧
   IfB x22
   (IfB (decide (x19 < 0))
   (False)
   (IfB (decide (x19 ≥ (p0.length : Int)))
   (False)
   (False)))
   (IfB (decide (x19 < 0))
   (False)
   (IfB (decide (x19 ≥ (p0.length : Int)))
   (False)
   ((mGet s355 x19).2 = false ∧
   X3 ((IntKind.i64.wrap (s300 + 1)), (s355 ++ [(x19, s200)]))))))
   (X2 ((IntKind.i64.wrap (s200 + 1)), s355))
def notes_Home_L4 (s255 : List (Int × Int)) (r : (List Int)) (X4 : ((List Nat) × (List Int)) → Prop) (s : (List Nat) × (List Int)) : Prop := match s with
  | (s456, s452) =>
  (∀ (j29 : Nat) (x30 x31 : Int), j29 ∉ s456 → s255[j29]? = some (x30, x31) →
   (∃ x35, Idx s452 x30 x35 ∧
   X4 ((s456 ++ [j29]), (s452.set (Int.toNat x30) x31)))) ∧
  ((∀ j, j < s255.length → j ∈ s456) →
   (r = s452))
def notes_Home_L2 (p0 : List (List UInt8)) (p3 : List (List Int)) (s152 : List Int) (r : (List Int)) (X2 : (Int × (List (Int × Int))) → Prop) (s : Int × (List (Int × Int))) : Prop := match s with
  | (s200, s255) =>
  IfB (decide (s200 < (p3.length : Int)))
   (∃ x16, Idx p3 s200 x16 ∧
   LoopP (notes_Home_L3 p0 s200 X2 x16) ((0 : Int), s255))
   (LoopP (notes_Home_L4 s255 r) ([], s152))
def notes_Home_L1 (p0 : List (List UInt8)) (p3 : List (List Int)) (r : (List Int)) (X1 : (Int × (List Int)) → Prop) (s : Int × (List Int)) : Prop := match s with
  | (s100, s152) =>
  IfB (decide (s100 < (s152.length : Int)))
   ((0 < s100 ∧ s100 ≤ (s152.length : Int)) ∧
   (0 ≤ s100 ∧ s100 ≤ (s152.length : Int)) ∧
   X1 ((IntKind.i64.wrap (s100 + (((Nat.min (s152.take (Int.toNat s100)).length (s152.length - Int.toNat s100)) : Nat) : Int))), (s152.take (Int.toNat s100) ++ (s152.take (Int.toNat s100)).take (Nat.min (s152.take (Int.toNat s100)).length (s152.length - Int.toNat s100)) ++ s152.drop (Int.toNat s100 + (Nat.min (s152.take (Int.toNat s100)).length (s152.length - Int.toNat s100))))))
   (LoopP (notes_Home_L2 p0 p3 s152 r) ((0 : Int), []))
def notes_Home (p0 : List (List UInt8)) (p1 : List (Bool × (List Int) × (List Int))) (p2 : List ((List UInt8) × (List (Bool × (List Int) × (List Int))) × Int × Bool × (List Int) × (List Int))) (p3 : List (List Int)) (r : (List Int)) : Prop :=
  ∃ x1, notes_Right p0 p1 p2 p3 x1 ∧
  IfB x1
   (IfB (decide ((p0.length : Int) < 0))
   (False)
   (∃ x4 x5, math_bits_Mul (IntKind.u64.wrap ([(-1 : Int)].length : Int)) (IntKind.u64.wrap (p0.length : Int)) (x4, x5) ∧
   IfB (decide (x4 > 0))
   (False)
   (IfB (decide (x5 > 9223372036854775807))
   (False)
   ((0 ≤ (IntKind.i64.wrap x5) ∧ Fits (Int.toNat (IntKind.i64.wrap x5)) 8 ∧ Fits (Int.toNat (IntKind.i64.wrap x5)) 1) ∧
   LoopP (notes_Home_L1 p0 p3 r) ((((Nat.min [(-1 : Int)].length (List.replicate (Int.toNat (IntKind.i64.wrap x5)) (0 : Int)).length) : Nat) : Int), ([(-1 : Int)].take (Nat.min [(-1 : Int)].length (List.replicate (Int.toNat (IntKind.i64.wrap x5)) (0 : Int)).length) ++ (List.replicate (Int.toNat (IntKind.i64.wrap x5)) (0 : Int)).drop (Nat.min [(-1 : Int)].length (List.replicate (Int.toNat (IntKind.i64.wrap x5)) (0 : Int)).length)))))))
   (r = [])
def notes_Parse_1 (p0 : List Int) (p1 : List Int) (r : Int) : Prop :=
  ∃ x1, Idx p0 0 x1 ∧
  ∃ x3, Idx p1 0 x3 ∧
  r = (IntKind.i64.wrap (x1 - x3))
def math_bits_Len64 (p0 : Int) (r : Int) : Prop :=
  IfB (decide (p0 ≥ 4294967296))
   (IfB (decide ((Int.fdiv p0 (2 ^ (min (Int.toNat (32 : Int)) (IntKind.bits .u64)))) ≥ 65536))
   (IfB (decide ((Int.fdiv (Int.fdiv p0 (2 ^ (min (Int.toNat (32 : Int)) (IntKind.bits .u64)))) (2 ^ (min (Int.toNat (16 : Int)) (IntKind.bits .u64)))) ≥ 256))
   (∃ c4, Idx ([0, 1, 2, 2, 3, 3, 3, 3, 4, 4, 4, 4, 4, 4, 4, 4, 5, 5, 5, 5, 5, 5, 5, 5, 5, 5, 5, 5, 5, 5, 5, 5, 6, 6, 6, 6, 6, 6, 6, 6, 6, 6, 6, 6, 6, 6, 6, 6, 6, 6, 6, 6, 6, 6, 6, 6, 6, 6, 6, 6, 6, 6, 6, 6, 7, 7, 7, 7, 7, 7, 7, 7, 7, 7, 7, 7, 7, 7, 7, 7, 7, 7, 7, 7, 7, 7, 7, 7, 7, 7, 7, 7, 7, 7, 7, 7, 7, 7, 7, 7, 7, 7, 7, 7, 7, 7, 7, 7, 7, 7, 7, 7, 7, 7, 7, 7, 7, 7, 7, 7, 7, 7, 7, 7, 7, 7, 7, 7, 8, 8, 8, 8, 8, 8, 8, 8, 8, 8, 8, 8, 8, 8, 8, 8, 8, 8, 8, 8, 8, 8, 8, 8, 8, 8, 8, 8, 8, 8, 8, 8, 8, 8, 8, 8, 8, 8, 8, 8, 8, 8, 8, 8, 8, 8, 8, 8, 8, 8, 8, 8, 8, 8, 8, 8, 8, 8, 8, 8, 8, 8, 8, 8, 8, 8, 8, 8, 8, 8, 8, 8, 8, 8, 8, 8, 8, 8, 8, 8, 8, 8, 8, 8, 8, 8, 8, 8, 8, 8, 8, 8, 8, 8, 8, 8, 8, 8, 8, 8, 8, 8, 8, 8, 8, 8, 8, 8, 8, 8, 8, 8, 8, 8, 8, 8, 8, 8, 8, 8, 8, 8, 8, 8, 8, 8, 8, 8] : List UInt8) (IntKind.u8.wrap (Int.fdiv (Int.fdiv (Int.fdiv p0 (2 ^ (min (Int.toNat (32 : Int)) (IntKind.bits .u64)))) (2 ^ (min (Int.toNat (16 : Int)) (IntKind.bits .u64)))) (2 ^ (min (Int.toNat (8 : Int)) (IntKind.bits .u64))))) c4 ∧
   r = (IntKind.i64.wrap (56 + (IntKind.i64.wrap ((c4.toNat : Nat) : Int)))))
   (∃ c6, Idx ([0, 1, 2, 2, 3, 3, 3, 3, 4, 4, 4, 4, 4, 4, 4, 4, 5, 5, 5, 5, 5, 5, 5, 5, 5, 5, 5, 5, 5, 5, 5, 5, 6, 6, 6, 6, 6, 6, 6, 6, 6, 6, 6, 6, 6, 6, 6, 6, 6, 6, 6, 6, 6, 6, 6, 6, 6, 6, 6, 6, 6, 6, 6, 6, 7, 7, 7, 7, 7, 7, 7, 7, 7, 7, 7, 7, 7, 7, 7, 7, 7, 7, 7, 7, 7, 7, 7, 7, 7, 7, 7, 7, 7, 7, 7, 7, 7, 7, 7, 7, 7, 7, 7, 7, 7, 7, 7, 7, 7, 7, 7, 7, 7, 7, 7, 7, 7, 7, 7, 7, 7, 7, 7, 7, 7, 7, 7, 7, 8, 8, 8, 8, 8, 8, 8, 8, 8, 8, 8, 8, 8, 8, 8, 8, 8, 8, 8, 8, 8, 8, 8, 8, 8, 8, 8, 8, 8, 8, 8, 8, 8, 8, 8, 8, 8, 8, 8, 8, 8, 8, 8, 8, 8, 8, 8, 8, 8, 8, 8, 8, 8, 8, 8, 8, 8, 8, 8, 8, 8, 8, 8, 8, 8, 8, 8, 8, 8, 8, 8, 8, 8, 8, 8, 8, 8, 8, 8, 8, 8, 8, 8, 8, 8, 8, 8, 8, 8, 8, 8, 8, 8, 8, 8, 8, 8, 8, 8, 8, 8, 8, 8, 8, 8, 8, 8, 8, 8, 8, 8, 8, 8, 8, 8, 8, 8, 8, 8, 8, 8, 8, 8, 8, 8, 8, 8, 8] : List UInt8) (IntKind.u8.wrap (Int.fdiv (Int.fdiv p0 (2 ^ (min (Int.toNat (32 : Int)) (IntKind.bits .u64)))) (2 ^ (min (Int.toNat (16 : Int)) (IntKind.bits .u64))))) c6 ∧
   r = (IntKind.i64.wrap (48 + (IntKind.i64.wrap ((c6.toNat : Nat) : Int))))))
   (IfB (decide ((Int.fdiv p0 (2 ^ (min (Int.toNat (32 : Int)) (IntKind.bits .u64)))) ≥ 256))
   (∃ c9, Idx ([0, 1, 2, 2, 3, 3, 3, 3, 4, 4, 4, 4, 4, 4, 4, 4, 5, 5, 5, 5, 5, 5, 5, 5, 5, 5, 5, 5, 5, 5, 5, 5, 6, 6, 6, 6, 6, 6, 6, 6, 6, 6, 6, 6, 6, 6, 6, 6, 6, 6, 6, 6, 6, 6, 6, 6, 6, 6, 6, 6, 6, 6, 6, 6, 7, 7, 7, 7, 7, 7, 7, 7, 7, 7, 7, 7, 7, 7, 7, 7, 7, 7, 7, 7, 7, 7, 7, 7, 7, 7, 7, 7, 7, 7, 7, 7, 7, 7, 7, 7, 7, 7, 7, 7, 7, 7, 7, 7, 7, 7, 7, 7, 7, 7, 7, 7, 7, 7, 7, 7, 7, 7, 7, 7, 7, 7, 7, 7, 8, 8, 8, 8, 8, 8, 8, 8, 8, 8, 8, 8, 8, 8, 8, 8, 8, 8, 8, 8, 8, 8, 8, 8, 8, 8, 8, 8, 8, 8, 8, 8, 8, 8, 8, 8, 8, 8, 8, 8, 8, 8, 8, 8, 8, 8, 8, 8, 8, 8, 8, 8, 8, 8, 8, 8, 8, 8, 8, 8, 8, 8, 8, 8, 8, 8, 8, 8, 8, 8, 8, 8, 8, 8, 8, 8, 8, 8, 8, 8, 8, 8, 8, 8, 8, 8, 8, 8, 8, 8, 8, 8, 8, 8, 8, 8, 8, 8, 8, 8, 8, 8, 8, 8, 8, 8, 8, 8, 8, 8, 8, 8, 8, 8, 8, 8, 8, 8, 8, 8, 8, 8, 8, 8, 8, 8, 8, 8] : List UInt8) (IntKind.u8.wrap (Int.fdiv (Int.fdiv p0 (2 ^ (min (Int.toNat (32 : Int)) (IntKind.bits .u64)))) (2 ^ (min (Int.toNat (8 : Int)) (IntKind.bits .u64))))) c9 ∧
   r = (IntKind.i64.wrap (40 + (IntKind.i64.wrap ((c9.toNat : Nat) : Int)))))
   (∃ c11, Idx ([0, 1, 2, 2, 3, 3, 3, 3, 4, 4, 4, 4, 4, 4, 4, 4, 5, 5, 5, 5, 5, 5, 5, 5, 5, 5, 5, 5, 5, 5, 5, 5, 6, 6, 6, 6, 6, 6, 6, 6, 6, 6, 6, 6, 6, 6, 6, 6, 6, 6, 6, 6, 6, 6, 6, 6, 6, 6, 6, 6, 6, 6, 6, 6, 7, 7, 7, 7, 7, 7, 7, 7, 7, 7, 7, 7, 7, 7, 7, 7, 7, 7, 7, 7, 7, 7, 7, 7, 7, 7, 7, 7, 7, 7, 7, 7, 7, 7, 7, 7, 7, 7, 7, 7, 7, 7, 7, 7, 7, 7, 7, 7, 7, 7, 7, 7, 7, 7, 7, 7, 7, 7, 7, 7, 7, 7, 7, 7, 8, 8, 8, 8, 8, 8, 8, 8, 8, 8, 8, 8, 8, 8, 8, 8, 8, 8, 8, 8, 8, 8, 8, 8, 8, 8, 8, 8, 8, 8, 8, 8, 8, 8, 8, 8, 8, 8, 8, 8, 8, 8, 8, 8, 8, 8, 8, 8, 8, 8, 8, 8, 8, 8, 8, 8, 8, 8, 8, 8, 8, 8, 8, 8, 8, 8, 8, 8, 8, 8, 8, 8, 8, 8, 8, 8, 8, 8, 8, 8, 8, 8, 8, 8, 8, 8, 8, 8, 8, 8, 8, 8, 8, 8, 8, 8, 8, 8, 8, 8, 8, 8, 8, 8, 8, 8, 8, 8, 8, 8, 8, 8, 8, 8, 8, 8, 8, 8, 8, 8, 8, 8, 8, 8, 8, 8, 8, 8] : List UInt8) (IntKind.u8.wrap (Int.fdiv p0 (2 ^ (min (Int.toNat (32 : Int)) (IntKind.bits .u64))))) c11 ∧
   r = (IntKind.i64.wrap (32 + (IntKind.i64.wrap ((c11.toNat : Nat) : Int)))))))
   (IfB (decide (p0 ≥ 65536))
   (IfB (decide ((Int.fdiv p0 (2 ^ (min (Int.toNat (16 : Int)) (IntKind.bits .u64)))) ≥ 256))
   (∃ c15, Idx ([0, 1, 2, 2, 3, 3, 3, 3, 4, 4, 4, 4, 4, 4, 4, 4, 5, 5, 5, 5, 5, 5, 5, 5, 5, 5, 5, 5, 5, 5, 5, 5, 6, 6, 6, 6, 6, 6, 6, 6, 6, 6, 6, 6, 6, 6, 6, 6, 6, 6, 6, 6, 6, 6, 6, 6, 6, 6, 6, 6, 6, 6, 6, 6, 7, 7, 7, 7, 7, 7, 7, 7, 7, 7, 7, 7, 7, 7, 7, 7, 7, 7, 7, 7, 7, 7, 7, 7, 7, 7, 7, 7, 7, 7, 7, 7, 7, 7, 7, 7, 7, 7, 7, 7, 7, 7, 7, 7, 7, 7, 7, 7, 7, 7, 7, 7, 7, 7, 7, 7, 7, 7, 7, 7, 7, 7, 7, 7, 8, 8, 8, 8, 8, 8, 8, 8, 8, 8, 8, 8, 8, 8, 8, 8, 8, 8, 8, 8, 8, 8, 8, 8, 8, 8, 8, 8, 8, 8, 8, 8, 8, 8, 8, 8, 8, 8, 8, 8, 8, 8, 8, 8, 8, 8, 8, 8, 8, 8, 8, 8, 8, 8, 8, 8, 8, 8, 8, 8, 8, 8, 8, 8, 8, 8, 8, 8, 8, 8, 8, 8, 8, 8, 8, 8, 8, 8, 8, 8, 8, 8, 8, 8, 8, 8, 8, 8, 8, 8, 8, 8, 8, 8, 8, 8, 8, 8, 8, 8, 8, 8, 8, 8, 8, 8, 8, 8, 8, 8, 8, 8, 8, 8, 8, 8, 8, 8, 8, 8, 8, 8, 8, 8, 8, 8, 8, 8] : List UInt8) (IntKind.u8.wrap (Int.fdiv (Int.fdiv p0 (2 ^ (min (Int.toNat (16 : Int)) (IntKind.bits .u64)))) (2 ^ (min (Int.toNat (8 : Int)) (IntKind.bits .u64))))) c15 ∧
   r = (IntKind.i64.wrap (24 + (IntKind.i64.wrap ((c15.toNat : Nat) : Int)))))
   (∃ c17, Idx ([0, 1, 2, 2, 3, 3, 3, 3, 4, 4, 4, 4, 4, 4, 4, 4, 5, 5, 5, 5, 5, 5, 5, 5, 5, 5, 5, 5, 5, 5, 5, 5, 6, 6, 6, 6, 6, 6, 6, 6, 6, 6, 6, 6, 6, 6, 6, 6, 6, 6, 6, 6, 6, 6, 6, 6, 6, 6, 6, 6, 6, 6, 6, 6, 7, 7, 7, 7, 7, 7, 7, 7, 7, 7, 7, 7, 7, 7, 7, 7, 7, 7, 7, 7, 7, 7, 7, 7, 7, 7, 7, 7, 7, 7, 7, 7, 7, 7, 7, 7, 7, 7, 7, 7, 7, 7, 7, 7, 7, 7, 7, 7, 7, 7, 7, 7, 7, 7, 7, 7, 7, 7, 7, 7, 7, 7, 7, 7, 8, 8, 8, 8, 8, 8, 8, 8, 8, 8, 8, 8, 8, 8, 8, 8, 8, 8, 8, 8, 8, 8, 8, 8, 8, 8, 8, 8, 8, 8, 8, 8, 8, 8, 8, 8, 8, 8, 8, 8, 8, 8, 8, 8, 8, 8, 8, 8, 8, 8, 8, 8, 8, 8, 8, 8, 8, 8, 8, 8, 8, 8, 8, 8, 8, 8, 8, 8, 8, 8, 8, 8, 8, 8, 8, 8, 8, 8, 8, 8, 8, 8, 8, 8, 8, 8, 8, 8, 8, 8, 8, 8, 8, 8, 8, 8, 8, 8, 8, 8, 8, 8, 8, 8, 8, 8, 8, 8, 8, 8, 8, 8, 8, 8, 8, 8, 8, 8, 8, 8, 8, 8, 8, 8, 8, 8, 8, 8] : List UInt8) (IntKind.u8.wrap (Int.fdiv p0 (2 ^ (min (Int.toNat (16 : Int)) (IntKind.bits .u64))))) c17 ∧
   r = (IntKind.i64.wrap (16 + (IntKind.i64.wrap ((c17.toNat : Nat) : Int))))))
   (IfB (decide (p0 ≥ 256))
   (∃ c20, Idx ([0, 1, 2, 2, 3, 3, 3, 3, 4, 4, 4, 4, 4, 4, 4, 4, 5, 5, 5, 5, 5, 5, 5, 5, 5, 5, 5, 5, 5, 5, 5, 5, 6, 6, 6, 6, 6, 6, 6, 6, 6, 6, 6, 6, 6, 6, 6, 6, 6, 6, 6, 6, 6, 6, 6, 6, 6, 6, 6, 6, 6, 6, 6, 6, 7, 7, 7, 7, 7, 7, 7, 7, 7, 7, 7, 7, 7, 7, 7, 7, 7, 7, 7, 7, 7, 7, 7, 7, 7, 7, 7, 7, 7, 7, 7, 7, 7, 7, 7, 7, 7, 7, 7, 7, 7, 7, 7, 7, 7, 7, 7, 7, 7, 7, 7, 7, 7, 7, 7, 7, 7, 7, 7, 7, 7, 7, 7, 7, 8, 8, 8, 8, 8, 8, 8, 8, 8, 8, 8, 8, 8, 8, 8, 8, 8, 8, 8, 8, 8, 8, 8, 8, 8, 8, 8, 8, 8, 8, 8, 8, 8, 8, 8, 8, 8, 8, 8, 8, 8, 8, 8, 8, 8, 8, 8, 8, 8, 8, 8, 8, 8, 8, 8, 8, 8, 8, 8, 8, 8, 8, 8, 8, 8, 8, 8, 8, 8, 8, 8, 8, 8, 8, 8, 8, 8, 8, 8, 8, 8, 8, 8, 8, 8, 8, 8, 8, 8, 8, 8, 8, 8, 8, 8, 8, 8, 8, 8, 8, 8, 8, 8, 8, 8, 8, 8, 8, 8, 8, 8, 8, 8, 8, 8, 8, 8, 8, 8, 8, 8, 8, 8, 8, 8, 8, 8, 8] : List UInt8) (IntKind.u8.wrap (Int.fdiv p0 (2 ^ (min (Int.toNat (8 : Int)) (IntKind.bits .u64))))) c20 ∧
   r = (IntKind.i64.wrap (8 + (IntKind.i64.wrap ((c20.toNat : Nat) : Int)))))
   (∃ c22, Idx ([0, 1, 2, 2, 3, 3, 3, 3, 4, 4, 4, 4, 4, 4, 4, 4, 5, 5, 5, 5, 5, 5, 5, 5, 5, 5, 5, 5, 5, 5, 5, 5, 6, 6, 6, 6, 6, 6, 6, 6, 6, 6, 6, 6, 6, 6, 6, 6, 6, 6, 6, 6, 6, 6, 6, 6, 6, 6, 6, 6, 6, 6, 6, 6, 7, 7, 7, 7, 7, 7, 7, 7, 7, 7, 7, 7, 7, 7, 7, 7, 7, 7, 7, 7, 7, 7, 7, 7, 7, 7, 7, 7, 7, 7, 7, 7, 7, 7, 7, 7, 7, 7, 7, 7, 7, 7, 7, 7, 7, 7, 7, 7, 7, 7, 7, 7, 7, 7, 7, 7, 7, 7, 7, 7, 7, 7, 7, 7, 8, 8, 8, 8, 8, 8, 8, 8, 8, 8, 8, 8, 8, 8, 8, 8, 8, 8, 8, 8, 8, 8, 8, 8, 8, 8, 8, 8, 8, 8, 8, 8, 8, 8, 8, 8, 8, 8, 8, 8, 8, 8, 8, 8, 8, 8, 8, 8, 8, 8, 8, 8, 8, 8, 8, 8, 8, 8, 8, 8, 8, 8, 8, 8, 8, 8, 8, 8, 8, 8, 8, 8, 8, 8, 8, 8, 8, 8, 8, 8, 8, 8, 8, 8, 8, 8, 8, 8, 8, 8, 8, 8, 8, 8, 8, 8, 8, 8, 8, 8, 8, 8, 8, 8, 8, 8, 8, 8, 8, 8, 8, 8, 8, 8, 8, 8, 8, 8, 8, 8, 8, 8, 8, 8, 8, 8, 8, 8] : List UInt8) (IntKind.u8.wrap p0) c22 ∧
   r = (IntKind.i64.wrap (0 + (IntKind.i64.wrap ((c22.toNat : Nat) : Int)))))))
def math_bits_Len (p0 : Int) (r : Int) : Prop :=
  ∃ x1, math_bits_Len64 p0 x1 ∧
  r = x1
def notes_Parse_L5 (s400 : Int) (X4 : (Int × (List Int)) → Prop) (X5 : (Int × (List Int)) → Prop) (s : Int × (List Int)) : Prop := match s with
  | (s500, s558) =>
  IfB (decide (s500 > 0))
   (∃ x32, Idx s558 s500 x32 ∧
   ∃ x34, Idx s558 (IntKind.i64.wrap (s500 - 1)) x34 ∧
   ∃ x36, cmp_Less_int x32 x34 x36 ∧
   IfB x36
   (∃ x38, Idx s558 (IntKind.i64.wrap (s500 - 1)) x38 ∧
   ∃ x40, Idx s558 s500 x40 ∧
   ∃ x42, Idx s558 s500 x42 ∧
   ∃ x44, Idx (s558.set (Int.toNat s500) x38) (IntKind.i64.wrap (s500 - 1)) x44 ∧
   X5 ((IntKind.i64.wrap (s500 - 1)), ((s558.set (Int.toNat s500) x38).set (Int.toNat (IntKind.i64.wrap (s500 - 1))) x40)))
   (X4 ((IntKind.i64.wrap (s400 + 1)), s558)))
   (X4 ((IntKind.i64.wrap (s400 + 1)), s558))
def notes_Parse_L4 (s100 : Int) (s152 : List (List Int)) (X1 : (Int × (List (Int × Int)) × (List (List Int))) → Prop) (s254 : List (Int × Int)) (s258 : List Int) (X4 : (Int × (List Int)) → Prop) (s : Int × (List Int)) : Prop := match s with
  | (s400, s458) =>
  IfB (decide (s400 < (s258.length : Int)))
   (LoopP (notes_Parse_L5 s400 X4) (s400, s458))
   (Fits (s152.length + [s458].length) 24 ∧
   X1 ((IntKind.i64.wrap (s100 + 1)), s254, (s152 ++ [s458])))
def notes_Parse_L3 (s100 : Int) (s152 : List (List Int)) (X1 : (Int × (List (Int × Int)) × (List (List Int))) → Prop) (s254 : List (Int × Int)) (s258 : List Int) (x27 : Int) (X3 : Unit → Prop) (s : Unit) : Prop := match s with
  | () =>
  IfB (decide ((IntKind.i64.wrap ((s258.length : Int) - 0)) ≤ 12))
   (LoopP (notes_Parse_L4 s100 s152 X1 s254 s258) ((1 : Int), s258))
   (IfB (x27 == 0)
   (False)
   (False))
def notes_Parse_L2 (p0 : List (List UInt8)) (s100 : Int) (s152 : List (List Int)) (X1 : (Int × (List (Int × Int)) × (List (List Int))) → Prop) (x8 : Int) (x9 : List (List UInt8)) (r : (List (List Int)) × Int × Int) (X2 : (Int × (List (Int × Int)) × (List Int)) → Prop) (s : Int × (List (Int × Int)) × (List Int)) : Prop := match s with
  | (s200, s254, s258) =>
  IfB (decide (s200 < ((sub x9 1 x9.length).length : Int)))
   (∃ x16, Idx (sub x9 1 x9.length) s200 x16 ∧
   ∃ x18, lines_Index p0 x16 x18 ∧
   IfB (decide (x18 < 0))
   (r = ([], x8, 3))
   (∃ x21 x22 b24, (mGet s254 x18 = (x21, x22) ∧ b24 = (x21 != 0)) ∧
   IfB b24
   (r = ([], x8, 3))
   ((mGet s254 x18).2 = false ∧
   Fits (s258.length + [x18].length) 8 ∧
   X2 ((IntKind.i64.wrap (s200 + 1)), (s254 ++ [(x18, 1)]), (s258 ++ [x18])))))
   (∃ x27, math_bits_Len (IntKind.u64.wrap (s258.length : Int)) x27 ∧
   LoopP (notes_Parse_L3 s100 s152 X1 s254 s258 x27) ())
def notes_Parse_L8 (s700 : Int) (X7 : (Int × (List (List Int))) → Prop) (X8 : (Int × (List (List Int))) → Prop) (s : Int × (List (List Int))) : Prop := match s with
  | (s800, s852) =>
  IfB (decide (s800 > 0))
   (∃ x53, Idx s852 s800 x53 ∧
   ∃ x55, Idx s852 (IntKind.i64.wrap (s800 - 1)) x55 ∧
   ∃ x57, notes_Parse_1 x53 x55 x57 ∧
   IfB (decide (x57 < 0))
   (∃ x60, Idx s852 (IntKind.i64.wrap (s800 - 1)) x60 ∧
   ∃ x62, Idx s852 s800 x62 ∧
   ∃ x64, Idx s852 s800 x64 ∧
   ∃ x66, Idx (s852.set (Int.toNat s800) x60) (IntKind.i64.wrap (s800 - 1)) x66 ∧
   X8 ((IntKind.i64.wrap (s800 - 1)), ((s852.set (Int.toNat s800) x60).set (Int.toNat (IntKind.i64.wrap (s800 - 1))) x62)))
   (X7 ((IntKind.i64.wrap (s700 + 1)), s852)))
   (X7 ((IntKind.i64.wrap (s700 + 1)), s852))
def notes_Parse_L7 (s152 : List (List Int)) (r : (List (List Int)) × Int × Int) (X7 : (Int × (List (List Int))) → Prop) (s : Int × (List (List Int))) : Prop := match s with
  | (s700, s752) =>
  IfB (decide (s700 < (s152.length : Int)))
   (LoopP (notes_Parse_L8 s700 X7) (s700, s752))
   (r = (s752, 0, 0))
def notes_Parse_L6 (s152 : List (List Int)) (x48 : Int) (r : (List (List Int)) × Int × Int) (X6 : Unit → Prop) (s : Unit) : Prop := match s with
  | () =>
  IfB (decide ((IntKind.i64.wrap ((s152.length : Int) - 0)) ≤ 12))
   (LoopP (notes_Parse_L7 s152 r) ((1 : Int), s152))
   (IfB (x48 == 0)
   (False)
   (False))
def notes_Parse_L1 (p0 : List (List UInt8)) (x3 : List (Int × (List (List UInt8)))) (r : (List (List Int)) × Int × Int) (X1 : (Int × (List (Int × Int)) × (List (List Int))) → Prop) (s : Int × (List (Int × Int)) × (List (List Int))) : Prop := match s with
  | (s100, s154, s152) =>
  IfB (decide (s100 < (x3.length : Int)))
   (∃ x8 x9, Idx x3 s100 (x8, x9) ∧
   ∃ x11, Idx x9 0 x11 ∧
   IfB (!(x11 == ([98, 108, 111, 99, 107] : List UInt8)))
   (r = ([], x8, 2))
   (IfB (decide ((x9.length : Int) < 2))
   (r = ([], x8, 2))
   (SubOk x9 1 x9.length ∧
   LoopP (notes_Parse_L2 p0 s100 s152 X1 x8 x9 r) ((0 : Int), s154, []))))
   (∃ x48, math_bits_Len (IntKind.u64.wrap (s152.length : Int)) x48 ∧
   LoopP (notes_Parse_L6 s152 x48 r) ())
def notes_Parse (p0 : List (List UInt8)) (p1 : List (Bool × (List Int) × (List Int))) (p2 : List ((List UInt8) × (List (Bool × (List Int) × (List Int))) × Int × Bool × (List Int) × (List Int))) (p3 : List UInt8) (r : (List (List Int)) × Int × Int) : Prop :=
  ∃ x1, model_Right p0 p1 p2 x1 ∧
  IfB x1
   (∃ x3 x4, lines_All p3 (x3, x4) ∧
   IfB (x4 != 0)
   (r = ([], 0, x4))
   (LoopP (notes_Parse_L1 p0 x3 r) ((0 : Int), [], [])))
   (r = ([], 0, 1))
def notes_Print_L2 (p0 : List (List UInt8)) (s100 : List UInt8) (s101 : Int) (X1 : ((List UInt8) × Int) → Prop) (x4 : List Int) (X2 : (Int × (List (List UInt8))) → Prop) (s : Int × (List (List UInt8))) : Prop := match s with
  | (s200, s252) =>
  IfB (decide (s200 < (x4.length : Int)))
   (∃ x7, Idx x4 s200 x7 ∧
   ∃ x9, Idx p0 x7 x9 ∧
   Fits (s252.length + ([x9] : List (List UInt8)).length) 16 ∧
   X2 ((IntKind.i64.wrap (s200 + 1)), (s252 ++ ([x9] : List (List UInt8)))))
   (∃ x12, lines_Join s252 x12 ∧
   Fits (x12.length + ([10] : List UInt8).length) 1 ∧
   Fits (s100.length + (x12 ++ ([10] : List UInt8)).length) 1 ∧
   X1 ((s100 ++ (x12 ++ ([10] : List UInt8))), (IntKind.i64.wrap (s101 + 1))))
def notes_Print_L1 (p0 : List (List UInt8)) (p3 : List (List Int)) (r : (List UInt8) × Int) (X1 : ((List UInt8) × Int) → Prop) (s : (List UInt8) × Int) : Prop := match s with
  | (s100, s101) =>
  IfB (decide (s101 < (p3.length : Int)))
   (∃ x4, Idx p3 s101 x4 ∧
   LoopP (notes_Print_L2 p0 s100 s101 X1 x4) ((0 : Int), ([([98, 108, 111, 99, 107] : List UInt8)] : List (List UInt8))))
   (r = (s100, 0))
def notes_Print (p0 : List (List UInt8)) (p1 : List (Bool × (List Int) × (List Int))) (p2 : List ((List UInt8) × (List (Bool × (List Int) × (List Int))) × Int × Bool × (List Int) × (List Int))) (p3 : List (List Int)) (r : (List UInt8) × Int) : Prop :=
  ∃ x1, notes_Right p0 p1 p2 p3 x1 ∧
  IfB x1
   (LoopP (notes_Print_L1 p0 p3 r) ([], (0 : Int)))
   (r = ([], 1))
def offcutlaw09_same_L2 (p0 : List (List Int)) (p1 : List (List Int)) (s100 : Int) (X1 : Int → Prop) (x8 : List Int) (r : Bool) (X2 : Int → Prop) (s : Int) : Prop := match s with
  | s200 =>
  IfB (decide (s200 < (x8.length : Int)))
   (∃ x11, Idx p0 s100 x11 ∧
   ∃ x13, Idx x11 s200 x13 ∧
   ∃ x15, Idx p1 s100 x15 ∧
   ∃ x17, Idx x15 s200 x17 ∧
   IfB (x13 != x17)
   (r = false)
   (X2 (IntKind.i64.wrap (s200 + 1))))
   (X1 (IntKind.i64.wrap (s100 + 1)))
def offcutlaw09_same_L1 (p0 : List (List Int)) (p1 : List (List Int)) (r : Bool) (X1 : Int → Prop) (s : Int) : Prop := match s with
  | s100 =>
  IfB (decide (s100 < (p0.length : Int)))
   (∃ x3, Idx p0 s100 x3 ∧
   ∃ x5, Idx p1 s100 x5 ∧
   IfB ((x3.length : Int) != (x5.length : Int))
   (r = false)
   (∃ x8, Idx p0 s100 x8 ∧
   LoopP (offcutlaw09_same_L2 p0 p1 s100 X1 x8 r) (0 : Int)))
   (r = true)
def offcutlaw09_same (p0 : List (List Int)) (p1 : List (List Int)) (r : Bool) : Prop :=
  IfB ((p0.length : Int) != (p1.length : Int))
   (r = false)
   (LoopP (offcutlaw09_same_L1 p0 p1 r) (0 : Int))
end Go.Abs
end

section
namespace Go.Abs
set_option linter.unusedVariables false
set_option linter.unusedSimpArgs false
set_option linter.unnecessarySimpa false
def offcutref09_Blocks_L2 (p0 : List Int) (s100 : Int) (s151 : List (List Int)) (s152 : List Int) (X1 : (Int × (List (List Int)) × (List Int)) → Prop) (X2 : (Int × Int) → Prop) (s : Int × Int) : Prop := match s with
  | (s200, s201) =>
  IfB (decide (s201 < (s152.length : Int)))
   (∃ (x6 : Int), Idx s152 s201 x6 ∧
   ∃ (x8 : Int), Idx p0 s100 x8 ∧
   IfB (x6 == x8)
   (X2 (s201, (IntKind.i64.wrap (s201 + 1))))
   (X2 (s200, (IntKind.i64.wrap (s201 + 1)))))
   (IfB (decide (s200 < (0 : Int)))
   (∃ (x12 : Int), Idx p0 s100 x12 ∧
   Fits (s152.length + [x12].length) 8 ∧
   Fits (s151.length + [[s100]].length) 24 ∧
   X1 ((IntKind.i64.wrap (s100 + 1)), (s151 ++ [[s100]]), (s152 ++ [x12])))
   (∃ (x16 : List Int), Idx s151 s200 x16 ∧
   Fits (x16.length + [s100].length) 8 ∧
   X1 ((IntKind.i64.wrap (s100 + 1)), (s151.set s200.toNat (x16 ++ [s100])), s152)))
def offcutref09_Blocks_L1 (p0 : List Int) (r : (List (List Int))) (X1 : (Int × (List (List Int)) × (List Int)) → Prop) (s : Int × (List (List Int)) × (List Int)) : Prop := match s with
  | (s100, s151, s152) =>
  IfB (decide (s100 < (p0.length : Int)))
   (∃ (x2 : Int), Idx p0 s100 x2 ∧
   IfB (decide (x2 < (0 : Int)))
   (X1 ((IntKind.i64.wrap (s100 + 1)), s151, s152))
   (LoopP (offcutref09_Blocks_L2 p0 s100 s151 s152 X1) ((-1 : Int), (0 : Int))))
   (r = s151)
def offcutref09_Blocks (p0 : List Int) (r : (List (List Int))) : Prop :=
  LoopP (offcutref09_Blocks_L1 p0 r) ((0 : Int), ([] : List (List Int)), ([] : List Int))
end Go.Abs
end

section
namespace Go.Abs
set_option linter.unusedVariables false
set_option linter.unusedSimpArgs false
set_option linter.unnecessarySimpa false
def offcutref09_Find_L1 (p0 : List (List UInt8)) (p1 : List UInt8) (r : Int) (X1 : Int → Prop) (s : Int) : Prop := match s with
  | s100 =>
  IfB (decide (s100 < (p0.length : Int)))
   (∃ x2, Idx p0 s100 x2 ∧
   IfB (x2 == p1)
   (r = s100)
   (X1 (IntKind.i64.wrap (s100 + 1))))
   (r = (-1))
def offcutref09_Find (p0 : List (List UInt8)) (p1 : List UInt8) (r : Int) : Prop :=
  LoopP (offcutref09_Find_L1 p0 p1 r) (0 : Int)
def offcutref09_Parse_L3 (p0 : List (List UInt8)) (x7 : List (Int × (List (List UInt8)))) (s200 : Int) (X2 : (Int × (List Int)) → Prop) (x11 : List (List UInt8)) (r : (List (List Int)) × Int × Int) (X3 : (Int × (List Int)) → Prop) (s : Int × (List Int)) : Prop := match s with
  | (s300, s351) =>
  IfB (decide (s300 < (x11.length : Int)))
   (∃ x23, Idx x11 s300 x23 ∧
   ∃ x25, offcutref09_Find p0 x23 x25 ∧
   IfB (decide (x25 < 0))
   (∃ x28 x29, Idx x7 s200 (x28, x29) ∧
   r = ([], x28, 3))
   (∃ x31, Idx s351 x25 x31 ∧
   IfB (decide (x31 ≥ 0))
   (∃ x34 x35, Idx x7 s200 (x34, x35) ∧
   r = ([], x34, 3))
   (∃ x37, Idx s351 x25 x37 ∧
   X3 ((IntKind.i64.wrap (s300 + 1)), (s351.set (Int.toNat x25) s200)))))
   (X2 ((IntKind.i64.wrap (s200 + 1)), s351))
def offcutref09_Parse_L2 (p0 : List (List UInt8)) (x7 : List (Int × (List (List UInt8)))) (r : (List (List Int)) × Int × Int) (X2 : (Int × (List Int)) → Prop) (s : Int × (List Int)) : Prop := match s with
  | (s200, s251) =>
  IfB (decide (s200 < (x7.length : Int)))
   (∃ x10 x11, Idx x7 s200 (x10, x11) ∧
   ∃ x13, Idx x11 0 x13 ∧
   IfB (!(x13 == ([98, 108, 111, 99, 107] : List UInt8)))
   (∃ x15 x16, Idx x7 s200 (x15, x16) ∧
   r = ([], x15, 2))
   (IfB (decide ((x11.length : Int) < 2))
   (∃ x19 x20, Idx x7 s200 (x19, x20) ∧
   r = ([], x19, 2))
   (LoopP (offcutref09_Parse_L3 p0 x7 s200 X2 x11 r) ((1 : Int), s251))))
   (∃ x39, offcutref09_Blocks s251 x39 ∧
   r = (x39, 0, 0))
def offcutref09_Parse_L1 (p0 : List (List UInt8)) (p1 : List UInt8) (r : (List (List Int)) × Int × Int) (X1 : (Int × (List Int)) → Prop) (s : Int × (List Int)) : Prop := match s with
  | (s100, s151) =>
  IfB (decide (s100 < (s151.length : Int)))
   (∃ x5, Idx s151 s100 x5 ∧
   X1 ((IntKind.i64.wrap (s100 + 1)), (s151.set (Int.toNat s100) (-1 : Int))))
   (∃ x7, offcutref07_All p1 x7 ∧
   LoopP (offcutref09_Parse_L2 p0 x7 r) ((0 : Int), s151))
def offcutref09_Parse (p0 : List (List UInt8)) (p1 : List UInt8) (r : (List (List Int)) × Int × Int) : Prop :=
  (0 ≤ (p0.length : Int) ∧ Fits (Int.toNat (p0.length : Int)) 8 ∧ Fits (Int.toNat (p0.length : Int)) 1) ∧
  LoopP (offcutref09_Parse_L1 p0 p1 r) ((0 : Int), (List.replicate (Int.toNat (p0.length : Int)) (0 : Int)))
def offcutlaw09_NotesParses (p0 : List (List UInt8)) (p1 : List (Bool × (List Int) × (List Int))) (p2 : List ((List UInt8) × (List (Bool × (List Int) × (List Int))) × Int × Bool × (List Int) × (List Int))) (p3 : List UInt8) (r : Bool) : Prop :=
  ∃ x1, offcutlaw08_Few p0 p1 p2 x1 ∧
  IfB x1
   (IfB (decide ((p3.length : Int) > 1000))
   (∃ x4, offcutlaw09_awake x4 ∧
   IfB x4
   (r = true)
   (r = false))
   (∃ x6 x7 x8, notes_Parse p0 p1 p2 p3 (x6, x7, x8) ∧
   ∃ x10, model_Right p0 p1 p2 x10 ∧
   IfB x10
   (∃ x12, offcutref07_Right p3 x12 ∧
   IfB x12
   (∃ x14 x15 x16, offcutref09_Parse p0 p3 (x14, x15, x16) ∧
   ∃ x18, offcutlaw09_same x6 x14 x18 ∧
   IfB x18
   (IfB (x7 == x15)
   (IfB (x8 == x16)
   (IfB (x16 != 0)
   (∃ x23, offcutlaw09_awake x23 ∧
   IfB x23
   (r = true)
   (r = false))
   (∃ x25, notes_Right p0 p1 p2 x6 x25 ∧
   IfB x25
   (∃ x27, offcutlaw09_awake x27 ∧
   IfB x27
   (r = true)
   (r = false))
   (r = false)))
   (r = false))
   (r = false))
   (r = false))
   (IfB ((x6.length : Int) == 0)
   (IfB (x7 == 0)
   (IfB (x8 == 2)
   (∃ x32, offcutlaw09_awake x32 ∧
   IfB x32
   (r = true)
   (r = false))
   (r = false))
   (r = false))
   (r = false)))
   (IfB ((x6.length : Int) == 0)
   (IfB (x7 == 0)
   (IfB (x8 == 1)
   (∃ x37, offcutlaw09_awake x37 ∧
   IfB x37
   (r = true)
   (r = false))
   (r = false))
   (r = false))
   (r = false))))
   (∃ x39, offcutlaw09_awake x39 ∧
   IfB x39
   (r = true)
   (r = false))
end Go.Abs
end

section
namespace Go.Abs
open Go.RowKit
set_option linter.unusedVariables false
set_option linter.unusedSimpArgs false
variable {P : Program} {GT : Tabs} {ro : Option Nat} {Q : Exit → S → Prop}
def aBuildRow (P : Program) (M : Mem) (t : TypeId) (n : Nat) (parts : List (Nat × AV)) : Option (AV × Mem) :=
  match elemT P t with
  | some e =>
    match szOf P e, aggT P e, (zeroOf P e).bind AV.cells with
    | some s, some ag, some zs =>
      if n * s ≤ 16777216 ∧ zs.length = s ∧ 0 < s ∧ (ag = true ∨ s = 1) ∧ zs.all (·.okCell M) = true then
        (afill M (fun i => some (i * s, s)) (repCells zs n) parts).map fun l => (.own M.length n 0, M ++ [.cells l s 0 false])
      else none
    | _, _, _ => none
  | none => none
theorem aBuildRow_ok {B : Nat} {I0 : Nat → Prop} {c : Ctx} {M M' : Mem} {w : World} {t : TypeId} {n : Nat} {ps : Array (Nat × Value)} {xs : List (Nat × AV)} {y : AV} (hS : Sim B I0 c M w) (hp : PartsRep c M w ps.toList xs) (h : aBuildRow P M t n xs = some (y, M')) :
    Out P B I0 c M w (Instr.buildSlice t n ps) y M' := by
  unfold aBuildRow at h
  split at h
  case h_2 => cases h
  rename_i e he
  split at h
  case h_2 => cases h
  rename_i s ag zs hs hag hzs
  split at h
  case isFalse => cases h
  rename_i hcond
  obtain ⟨q1, q2, q3, q4, q5⟩ := hcond
  rw [Option.bind_eq_some_iff] at hzs
  rw [Option.map_eq_some_iff] at h
  obtain ⟨l, hl, h⟩ := h
  cases h
  obtain ⟨z, hz, hzc⟩ := hzs
  obtain ⟨v, h1, h2⟩ := zeroOf_ok hz w
  have h3 := (zAV_ok (c := c) (M := M) (w := w) h2).1
  have hc0 : Cells c M w v.cells zs := h3.cells hzc q5
  have hc1 := hc0.rep n (by omega)
  rw [q2] at hc1
  obtain ⟨cs', g1, g2⟩ := afill_ok (place := fun i => some (i * s, s)) hp hc1 hl
  have ht := elemT_some he
  have hlen : l.length = n * s := by
    have : ∀ (xs : List (Nat × AV)) (a b : List AV), afill M (fun i => some (i * s, s)) a xs = some b → b.length = a.length := by
      intro xs
      induction xs with
      | nil => intro a b h; simp [afill] at h; rw [h]
      | cons p xs ih =>
        intro a b h
        simp only [afill] at h
        split at h
        · split at h
          · rw [ih _ _ h, setAt_length]
          · cases h
        · cases h
    rw [this _ _ _ hl]; simp [repCells, q2]
  have hcs : cs'.size = n * s := by rw [g2.1, hlen]
  have hrun : (Instr.buildSlice t n ps).run P w = .ok (.slice (some ⟨w.heap.size, 0, none⟩) n n) (w.alloc (.cells cs' e)) := by
    by_cases hn : n * s = 0
    · have hn0 : n = 0 := by rcases Nat.mul_eq_zero.1 hn with h | h <;> omega
      subst hn0
      have hg1 : Instr.fill (fun i => some (i * s, s)) #[] ps.toList = some cs' := by
        have : (Array.range (0 * s)).map (v.cells[· % v.cells.size]!) = #[] := by simp
        rw [← this]; exact g1
      have hr0 : (Array.range 0 : Array Nat) = #[] := rfl
      simp [Instr.buildSlice, run_underlying ht, run_sizeOf hs, hr0, hg1, newRow]
    · have hle : ¬ (16777216 < n * s) := by omega
      simp [Instr.buildSlice, run_underlying ht, run_sizeOf hs, hle, h1, g1, newRow]
      intro h; exact absurd h hn
  have he' : Ext c M (c.push M w.heap.size cs'.size) (M ++ [.cells l s 0 false]) := Ext.push c M _ _ _
  have hst : Stp B c w (c.push M w.heap.size cs'.size) (w.alloc (.cells cs' e)) := Stp.alloc hS.hB hS.immlt _ _ _
  have hS' := hS.push (.cells cs' e) cs'.size (.cells l s 0 false) (by
    refine ⟨cs', e, ?_, (upd_self _ _ _).symm, by omega, fun j x hj => ?_⟩
    · show (w.alloc _).heap[upd c.blk M.length w.heap.size M.length]? = _
      rw [upd_self]; exact World.alloc_heap_new _ _
    · have hlt := (List.getElem?_eq_some_iff.1 hj).1
      refine ⟨cs'[j]'(by omega), Array.getElem?_eq_getElem (by omega), ?_⟩
      exact (g2.2 j _ x (Array.getElem?_eq_getElem (by omega)) hj).mono he' hst)
  refine ⟨_, _, _, hrun, ?_, hS', he', hst⟩
  refine .own _ _ _ _ (by simp) (Nat.zero_le _) fun _ => .inl ⟨n, l, s, false, by simp, ?_, Nat.le_refl _, ?_, by omega⟩
  · show _ = Value.slice (some ⟨upd c.blk M.length w.heap.size M.length, 0, none⟩) n n
    rw [upd_self]
  · show n * s ≤ upd c.rsz M.length cs'.size M.length
    rw [upd_self]; omega
theorem H_bldRow {w : W} {t : TypeId} {n : Nat} {parts : List (Nat × AV)} {M0 : Mem} (x : AV) (M1 : Mem) (hv : w.view = .bld true t n parts M0) (hx : aBuildRow P M0 t n parts = some (x, M1)) (h : (w.back x M1).holds P GT Q) : w.holds P GT Q :=
  H_bld x M1 hv (fun B I0 c w ps hS hp => aBuildRow_ok hS hp hx) h
end Go.Abs
end

section
namespace Go.Abs
open Go.RowKit Go.Proofs
variable {P : Program} {GT : Tabs} {w : W} {Q : Exit → S → Prop} {α : Type}
def W.adv : Nat → W → W
  | 0, w => w
  | n + 1, .ask (some (x, M)) k => W.adv n (k x M)
  | _ + 1, _ => .fail
theorem QK (n : Nat) (h : (w.adv n).holds P GT Q) : w.holds P GT Q := by
  induction n generalizing w with
  | zero => exact h
  | succ n ih =>
    cases w with
    | ask t k =>
      cases t with
      | none => exact (fail_holds (Q := Q) h).elim
      | some z =>
        obtain ⟨x, M⟩ := z
        have e : W.holds P GT Q ((W.ask (some (x, M)) k).back x M) = W.holds P GT Q (k x M) := by kernel_rfl
        exact H_ask x M (by kernel_rfl) rfl (e ▸ ih (w := k x M) h)
    | _ => exact (fail_holds (Q := Q) h).elim
theorem QP (b : Bool) (h1 : b = true → (w.br true).holds P GT Q) (h2 : b = false → (w.br false).holds P GT Q) (hv : w.view = .split b := by kernel_rfl) : w.holds P GT Q := H_split b hv h1 h2
theorem QL (M : Mem) (t et : TypeId) (el : α → PD) (e : List α) (h : (w.back (.pd (.int .i64 (e.length : Int))) M).holds P GT Q) (hv : w.view = .ask ((aLen P M t (.pd (.sl (e.map el)))).map (·, M)) := by kernel_rfl) (hu : P.underlying t = some (.slice et) := by kernel_rfl) : w.holds P GT Q := H_ask _ _ hv (ask_len hu) h
theorem QI (M : Mem) (t et : TypeId) (k : IntKind) {el : α → PD} {lv : α → List PD} {s : Nat} (h1 : LVok lv s) (h2 : ELok el lv) {e : List α} {z : Int} {x : α} (h : Idx e z x) (hh : (w.back (.rd (lv x)) M).holds P GT Q) (hv : w.view = .ask ((aIndexAddr P M t (.pd (.sl (e.map el))) (.pd (.int k z))).map (·, M)) := by kernel_rfl) (hu : P.underlying t = some (.slice et) := by kernel_rfl) (hz : szOf P et = some s := by kernel_rfl) : w.holds P GT Q := H_ask _ _ hv (ask_idx h1 h2 hu hz h) hh
theorem QS (M : Mem) (t et : TypeId) (lo hi : Option Int) {el : α → PD} {lv : α → List PD} {s : Nat} (h1 : LVok lv s) (h2 : ELok el lv) {e : List α} (h : SubOk e (loOf lo) (hiOf e.length hi)) (hh : (w.back (.pd (.sl ((sub e (loOf lo) (hiOf e.length hi)).map el))) M).holds P GT Q) (hv : w.view = .ask ((aSlice P M t (.pd (.sl (e.map el))) (lo.map fun z => .pd (.int .i64 z)) (hi.map fun z => .pd (.int .i64 z)) none).map (·, M)) := by kernel_rfl) (hu : P.underlying t = some (.slice et) := by kernel_rfl) (hz : szOf P et = some s := by kernel_rfl) : w.holds P GT Q := H_ask _ _ hv (ask_sub h1 h2 hu hz h) hh
theorem QA (M : Mem) (b : Nat) (e e2 : List α) (ver sT xT by_ : Nat) {lv : α → List PD} {s n : Nat} {x : AV} (h1 : LVok lv s) (hs : Src M s x lv e2) (hn : n = e.length) (hf : Fits (e.length + e2.length) by_) (hh : (w.back (.own b (e ++ e2).length (vnext e e2 ver)) (M.set b (rowV lv s (e ++ e2) (vnext e e2 ver) false))).holds P GT Q) (hv : w.view = .ask (aAppend P M sT xT (.own b n ver) x) := by kernel_rfl) (hi : RowInfoOk P sT xT s by_ = true := by kernel_rfl) (hM : M[b]? = some (rowV lv s e ver false) := by kernel_rfl) : w.holds P GT Q := H_ask _ _ hv (ask_appV h1 hi hs hM hn hf) hh
def cellsAt (M : Mem) (b : Nat) : List AV := match M[b]? with | some (.cells l _ _ _) => l | _ => []
theorem QC (M : Mem) (t : TypeId) (b off v n s : Nat) (xs : List AV) (x : AV) (hok : xs.all (·.okCell M) = true) (hh : (w.back .junk (M.set b (.cells ((cellsAt M b).take off ++ xs ++ (cellsAt M b).drop (off + n)) s v false))).holds P GT Q) (hv : w.view = .ask ((aStore P M t (.ptr b off v) x).map (AV.junk, ·)) := by kernel_rfl) (hb : M[b]? = some (.cells (cellsAt M b) s v false) := by kernel_rfl) (hn : szOf P t = some n := by kernel_rfl) (hx : x.cells = some xs := by kernel_rfl) (hl : (Nat.beq xs.length n && Nat.ble (off + n) (cellsAt M b).length) = true := by kernel_rfl) : w.holds P GT Q := H_ask _ _ hv (ask_storeC hb hn hx hl hok rfl) hh
def W.cM : W → Mem | .call _ _ M _ => M | .dcall _ _ M _ => M | _ => []
theorem QV {g : FuncId} {args : List AV} {x : AV} (hc : ASpec Tryz.prog GT g args (· = x)) (h : (w.back x w.cM).holds Tryz.prog GT Q) (hv : w.view = .call g args w.cM := by kernel_rfl) (hk : args.map wk = args := by kernel_rfl) (hp : args.all pur2 = true := by kernel_rfl) (he : hasBody Tryz.prog g = true := by kernel_rfl) : w.holds Tryz.prog GT Q := H_valW x (.inl hv) hk hc hp (hasT g he) h
theorem QVd {g : FuncId} {args : List AV} {x : AV} (hc : ASpec Tryz.prog GT g args (· = x)) (h : (w.back x w.cM).holds Tryz.prog GT Q) (hv : w.view = .dcall g args w.cM := by kernel_rfl) (hk : args.map wk = args := by kernel_rfl) (hp : args.all pur2 = true := by kernel_rfl) (he : hasBody Tryz.prog g = true := by kernel_rfl) : w.holds Tryz.prog GT Q := H_valW x (.inr hv) hk hc hp (hasT g he) h
theorem QO (M : Mem) (t et : TypeId) (lv : α → List PD) (s b : Nat) (e : List α) (ver : Nat) {n : Nat} (hn : n = e.length) (h : (w.back (.pd (.int .i64 (e.length : Int))) M).holds P GT Q) (hv : w.view = .ask ((aLen P M t (.own b n ver)).map (·, M)) := by kernel_rfl) (hu : P.underlying t = some (.slice et) := by kernel_rfl) (hM : M[b]? = some (rowV lv s e ver false) := by kernel_rfl) : w.holds P GT Q := H_ask _ _ hv (ask_olen hu hM (rowIs_v' (z := false)) hn) h
theorem QOc (M : Mem) (t et : TypeId) (lv : α → List PD) (s b : Nat) (e : List α) (ver : Nat) {n : Nat} (hn : n = e.length) (h : (w.back (.pd (.int .i64 (e.length : Int))) M).holds P GT Q) (hv : w.view = .ask ((aLen P M t (.own b n ver)).map (·, M)) := by kernel_rfl) (hu : P.underlying t = some (.slice et) := by kernel_rfl) (hM : M[b]? = some (.cells (rowC lv e) s ver false) := by kernel_rfl) : w.holds P GT Q := H_ask _ _ hv (ask_olen hu hM (rowIs_c (z := false)) hn) h
theorem QJ (M : Mem) (t et : TypeId) (k : IntKind) (lv : α → List PD) (s b : Nat) (e : List α) (ver : Nat) {n : Nat} {i : Int} {x : α} (hn : n = e.length) (hx : Idx e i x) (h : (w.back (.ptr b (i.toNat * s) ver) M).holds P GT Q) (hv : w.view = .ask ((aIndexAddr P M t (.own b n ver) (.pd (.int k i))).map (·, M)) := by kernel_rfl) (hu : P.underlying t = some (.slice et) := by kernel_rfl) (hz : szOf P et = some s := by kernel_rfl) (hM : M[b]? = some (rowV lv s e ver false) := by kernel_rfl) : w.holds P GT Q := H_ask _ _ hv (ask_oidx hu hz hM (rowIs_v' (z := false)) hn hx) h
theorem QJc (M : Mem) (t et : TypeId) (k : IntKind) (lv : α → List PD) (s b : Nat) (e : List α) (ver : Nat) {n : Nat} {i : Int} {x : α} (hn : n = e.length) (hx : Idx e i x) (h : (w.back (.ptr b (i.toNat * s) ver) M).holds P GT Q) (hv : w.view = .ask ((aIndexAddr P M t (.own b n ver) (.pd (.int k i))).map (·, M)) := by kernel_rfl) (hu : P.underlying t = some (.slice et) := by kernel_rfl) (hz : szOf P et = some s := by kernel_rfl) (hM : M[b]? = some (.cells (rowC lv e) s ver false) := by kernel_rfl) : w.holds P GT Q := H_ask _ _ hv (ask_oidx hu hz hM (rowIs_c (z := false)) hn hx) h
theorem QZ {t : Option (AV × Mem)} {x : AV} {M : Mem} (ht : t = some (x, M)) (h : (w.back x M).holds P GT Q) (hv : w.view = .ask t := by kernel_rfl) : w.holds P GT Q := H_ask x M hv ht h
theorem QB {b : Bool} {A B : Prop} (hi : IfB b A B) (h1 : A → (w.br true).holds P GT Q) (h2 : B → (w.br false).holds P GT Q) (hv : w.view = .split b := by kernel_rfl) : w.holds P GT Q := H_split b hv (fun e => h1 (hi.t e)) (fun e => h2 (hi.f e))
theorem QBp {b : Bool} {A B : Prop} (hi : IfB b A B) (h1 : b = true → A → (w.br true).holds P GT Q) (h2 : b = false → B → (w.br false).holds P GT Q) (hv : w.view = .split b := by kernel_rfl) : w.holds P GT Q := H_split b hv (fun e => h1 e (hi.t e)) (fun e => h2 e (hi.f e))
theorem QE {fn : Func} {x : AV} (e : Exit) (hv : w.view = .done e := by kernel_rfl) (he : endOk e = true := by kernel_rfl) (hr : endVal P fn w.stS = some x := by kernel_rfl) : w.holds P GT (EndQ P fn (· = x)) := H_end e x hv he hr rfl
theorem QX {fn : Func} {x : AV} (e : Exit) (rv : AV) (M : Mem) (hp : pure3 M rv = some x) (hv : w.view = .done e := by kernel_rfl) (he : endOk e = true := by kernel_rfl) (hr : resOf P fn w.stS.T (shut w.stS.M w.stS.D) = some rv := by kernel_rfl) (hM : shut w.stS.M w.stS.D = M := by kernel_rfl) : w.holds P GT (EndQ P fn (· = x)) := H_endX e rv x M hv he hr hM hp rfl
variable {σ γ : Type} {w0 : W} {n m : Nat} {st : σ → γ → List (Nat × AV)} {mm : σ → γ → Mem} {I : σ → γ → Prop} {D : List Nat} {X : σ → Prop}
theorem QG {a : σ} (g : γ) (hX : X a) (hI : I a g) (hv : w.view = .done .normal := by kernel_rfl) (hn : w.stS.T.length = n := by kernel_rfl) (hT : pickW w.stS.T ((st a g).map (·.1)) = ((st a g).map fun p => some p.2) := by kernel_rfl) (hM : w.stS.M = mm a g := by kernel_rfl) (hD : w.stS.D = D := by kernel_rfl) : w.holds P GT (RndP P GT Q w0 n m st mm I D X) := H_againP a g hX hI hv hn hT hM hD
theorem QGC {a : σ} (g : γ) (hX : X a) (hI : I a g) (hb : (mm a g).all (belO m) = true) (hv : w.view = .done .normal := by kernel_rfl) (hn : w.stS.T.length = n := by kernel_rfl) (hT : pickW w.stS.T ((st a g).map (·.1)) = ((st a g).map fun p => some p.2) := by kernel_rfl) (hD : w.stS.D = D := by kernel_rfl) (hl : Nat.ble m w.stS.M.length = true := by kernel_rfl) (hM : w.stS.M.take m = mm a g := by kernel_rfl) (hs : (st a g).all (fun p => bel3 m p.2) = true := by kernel_rfl) (hd : D.all (fun d => Nat.blt d m) = true := by kernel_rfl) : w.holds P GT (RndP P GT Q w0 n m st mm I D X) := H_againC a g hX hI hv hn hT hD hl hM hb hs hd
def noN : Exit → Bool | .normal => false | _ => true
theorem QR (e : Exit) (h : (w0.go e w.stS).holds P GT Q) (hv : w.view = .done e := by kernel_rfl) (hne : noN e = true := by kernel_rfl) : w.holds P GT (RndP P GT Q w0 n m st mm I D X) := by
  cases e <;> first | exact H_leaveP _ hv rfl h | cases hne
theorem QD (h : w.on.holds P GT Q) (hv : w.view = .draw true := by kernel_rfl) : w.holds P GT Q := H_draw hv h
theorem po {M : Mem} {el : α → PD} {lv : α → List PD} {s : Nat} (h1 : LVok lv s) (hg : ELg el lv s) (b : Nat) (e : List α) (ver n : Nat) (hn : n = e.length) (hs : Nat.blt 0 s = true := by kernel_rfl) (hM : M[b]? = some (rowV lv s e ver false) := by kernel_rfl) : pure1 M (.own b n ver) = some (.pd (.sl (e.map el))) := pure1_own h1 (Nat.le_of_ble_eq_true hs) hg hM rowIs_v' hn
def Pre (M0 M : Mem) : Prop := ∃ RR : Mem, M = M0 ++ RR
end Go.Abs
end
