/- Part of a proof, in few files: BCd BNd DNat DLin B13n BDd D13p D13c B08n B08m. -/
import Derived.Test.YtdbfgnpobfbfmaaGreatDoorMSaK22
import Derived.Lib.Strings
import Derived.Test.YtdbfgnpobfbfmaaGreatDoorMSaK19
import Derived.Lib.IndexMore
import Derived.Test.YtdbfgnpobfbfmaaGreatDoorMSaK8

section
/- Further functions of the library's on texts, told. -/
namespace Go.Abs
open Go
/-- strings.CutPrefix. -/
def strings_CutPrefix (s p : List UInt8) (r : List UInt8 × Bool) : Prop := r = (Lib.trimPrefix s p, Lib.hasPrefix s p)
end Go.Abs
end

section
/- What the library's functions on a number's words come to. -/
namespace Go.Abs
/-- slices.Clone. -/
def slices_Clone_nat_Nat_uint32 (l r : List Int) : Prop := Fits l.length 4 ∧ r = l
end Go.Abs
end

section
/- Printed by gen.py: what functions come to, as conditions over numbers and lists. -/
namespace Go.Abs
set_option linter.unusedVariables false
set_option linter.unusedSimpArgs false
set_option linter.unnecessarySimpa false

/-- math bits.Len32 -/
def math_bits_Len32 (p0 : Int) (r : Int) : Prop :=
  IfB (decide (p0 ≥ (65536 : Int)))
    (IfB (decide ((Int.fdiv p0 (2 ^ (min (Int.toNat (16 : Int)) (IntKind.bits .u32)))) ≥ (256 : Int)))
      (∃ (c1 : UInt8), Idx ([0, 1, 2, 2, 3, 3, 3, 3, 4, 4, 4, 4, 4, 4, 4, 4, 5, 5, 5, 5, 5, 5, 5, 5, 5, 5, 5, 5, 5, 5, 5, 5, 6, 6, 6, 6, 6, 6, 6, 6, 6, 6, 6, 6, 6, 6, 6, 6, 6, 6, 6, 6, 6, 6, 6, 6, 6, 6, 6, 6, 6, 6, 6, 6, 7, 7, 7, 7, 7, 7, 7, 7, 7, 7, 7, 7, 7, 7, 7, 7, 7, 7, 7, 7, 7, 7, 7, 7, 7, 7, 7, 7, 7, 7, 7, 7, 7, 7, 7, 7, 7, 7, 7, 7, 7, 7, 7, 7, 7, 7, 7, 7, 7, 7, 7, 7, 7, 7, 7, 7, 7, 7, 7, 7, 7, 7, 7, 7, 8, 8, 8, 8, 8, 8, 8, 8, 8, 8, 8, 8, 8, 8, 8, 8, 8, 8, 8, 8, 8, 8, 8, 8, 8, 8, 8, 8, 8, 8, 8, 8, 8, 8, 8, 8, 8, 8, 8, 8, 8, 8, 8, 8, 8, 8, 8, 8, 8, 8, 8, 8, 8, 8, 8, 8, 8, 8, 8, 8, 8, 8, 8, 8, 8, 8, 8, 8, 8, 8, 8, 8, 8, 8, 8, 8, 8, 8, 8, 8, 8, 8, 8, 8, 8, 8, 8, 8, 8, 8, 8, 8, 8, 8, 8, 8, 8, 8, 8, 8, 8, 8, 8, 8, 8, 8, 8, 8, 8, 8, 8, 8, 8, 8, 8, 8, 8, 8, 8, 8, 8, 8, 8, 8, 8, 8, 8, 8] : List UInt8) (IntKind.u8.wrap (Int.fdiv (Int.fdiv p0 (2 ^ (min (Int.toNat (16 : Int)) (IntKind.bits .u32)))) (2 ^ (min (Int.toNat (8 : Int)) (IntKind.bits .u32))))) c1 ∧
      r = (IntKind.i64.wrap (24 + (IntKind.i64.wrap ((c1.toNat : Nat) : Int)))))
      (∃ (c3 : UInt8), Idx ([0, 1, 2, 2, 3, 3, 3, 3, 4, 4, 4, 4, 4, 4, 4, 4, 5, 5, 5, 5, 5, 5, 5, 5, 5, 5, 5, 5, 5, 5, 5, 5, 6, 6, 6, 6, 6, 6, 6, 6, 6, 6, 6, 6, 6, 6, 6, 6, 6, 6, 6, 6, 6, 6, 6, 6, 6, 6, 6, 6, 6, 6, 6, 6, 7, 7, 7, 7, 7, 7, 7, 7, 7, 7, 7, 7, 7, 7, 7, 7, 7, 7, 7, 7, 7, 7, 7, 7, 7, 7, 7, 7, 7, 7, 7, 7, 7, 7, 7, 7, 7, 7, 7, 7, 7, 7, 7, 7, 7, 7, 7, 7, 7, 7, 7, 7, 7, 7, 7, 7, 7, 7, 7, 7, 7, 7, 7, 7, 8, 8, 8, 8, 8, 8, 8, 8, 8, 8, 8, 8, 8, 8, 8, 8, 8, 8, 8, 8, 8, 8, 8, 8, 8, 8, 8, 8, 8, 8, 8, 8, 8, 8, 8, 8, 8, 8, 8, 8, 8, 8, 8, 8, 8, 8, 8, 8, 8, 8, 8, 8, 8, 8, 8, 8, 8, 8, 8, 8, 8, 8, 8, 8, 8, 8, 8, 8, 8, 8, 8, 8, 8, 8, 8, 8, 8, 8, 8, 8, 8, 8, 8, 8, 8, 8, 8, 8, 8, 8, 8, 8, 8, 8, 8, 8, 8, 8, 8, 8, 8, 8, 8, 8, 8, 8, 8, 8, 8, 8, 8, 8, 8, 8, 8, 8, 8, 8, 8, 8, 8, 8, 8, 8, 8, 8, 8, 8] : List UInt8) (IntKind.u8.wrap (Int.fdiv p0 (2 ^ (min (Int.toNat (16 : Int)) (IntKind.bits .u32))))) c3 ∧
      r = (IntKind.i64.wrap (16 + (IntKind.i64.wrap ((c3.toNat : Nat) : Int))))))
    (IfB (decide (p0 ≥ (256 : Int)))
      (∃ (c5 : UInt8), Idx ([0, 1, 2, 2, 3, 3, 3, 3, 4, 4, 4, 4, 4, 4, 4, 4, 5, 5, 5, 5, 5, 5, 5, 5, 5, 5, 5, 5, 5, 5, 5, 5, 6, 6, 6, 6, 6, 6, 6, 6, 6, 6, 6, 6, 6, 6, 6, 6, 6, 6, 6, 6, 6, 6, 6, 6, 6, 6, 6, 6, 6, 6, 6, 6, 7, 7, 7, 7, 7, 7, 7, 7, 7, 7, 7, 7, 7, 7, 7, 7, 7, 7, 7, 7, 7, 7, 7, 7, 7, 7, 7, 7, 7, 7, 7, 7, 7, 7, 7, 7, 7, 7, 7, 7, 7, 7, 7, 7, 7, 7, 7, 7, 7, 7, 7, 7, 7, 7, 7, 7, 7, 7, 7, 7, 7, 7, 7, 7, 8, 8, 8, 8, 8, 8, 8, 8, 8, 8, 8, 8, 8, 8, 8, 8, 8, 8, 8, 8, 8, 8, 8, 8, 8, 8, 8, 8, 8, 8, 8, 8, 8, 8, 8, 8, 8, 8, 8, 8, 8, 8, 8, 8, 8, 8, 8, 8, 8, 8, 8, 8, 8, 8, 8, 8, 8, 8, 8, 8, 8, 8, 8, 8, 8, 8, 8, 8, 8, 8, 8, 8, 8, 8, 8, 8, 8, 8, 8, 8, 8, 8, 8, 8, 8, 8, 8, 8, 8, 8, 8, 8, 8, 8, 8, 8, 8, 8, 8, 8, 8, 8, 8, 8, 8, 8, 8, 8, 8, 8, 8, 8, 8, 8, 8, 8, 8, 8, 8, 8, 8, 8, 8, 8, 8, 8, 8, 8] : List UInt8) (IntKind.u8.wrap (Int.fdiv p0 (2 ^ (min (Int.toNat (8 : Int)) (IntKind.bits .u32))))) c5 ∧
      r = (IntKind.i64.wrap (8 + (IntKind.i64.wrap ((c5.toNat : Nat) : Int)))))
      (∃ (c7 : UInt8), Idx ([0, 1, 2, 2, 3, 3, 3, 3, 4, 4, 4, 4, 4, 4, 4, 4, 5, 5, 5, 5, 5, 5, 5, 5, 5, 5, 5, 5, 5, 5, 5, 5, 6, 6, 6, 6, 6, 6, 6, 6, 6, 6, 6, 6, 6, 6, 6, 6, 6, 6, 6, 6, 6, 6, 6, 6, 6, 6, 6, 6, 6, 6, 6, 6, 7, 7, 7, 7, 7, 7, 7, 7, 7, 7, 7, 7, 7, 7, 7, 7, 7, 7, 7, 7, 7, 7, 7, 7, 7, 7, 7, 7, 7, 7, 7, 7, 7, 7, 7, 7, 7, 7, 7, 7, 7, 7, 7, 7, 7, 7, 7, 7, 7, 7, 7, 7, 7, 7, 7, 7, 7, 7, 7, 7, 7, 7, 7, 7, 8, 8, 8, 8, 8, 8, 8, 8, 8, 8, 8, 8, 8, 8, 8, 8, 8, 8, 8, 8, 8, 8, 8, 8, 8, 8, 8, 8, 8, 8, 8, 8, 8, 8, 8, 8, 8, 8, 8, 8, 8, 8, 8, 8, 8, 8, 8, 8, 8, 8, 8, 8, 8, 8, 8, 8, 8, 8, 8, 8, 8, 8, 8, 8, 8, 8, 8, 8, 8, 8, 8, 8, 8, 8, 8, 8, 8, 8, 8, 8, 8, 8, 8, 8, 8, 8, 8, 8, 8, 8, 8, 8, 8, 8, 8, 8, 8, 8, 8, 8, 8, 8, 8, 8, 8, 8, 8, 8, 8, 8, 8, 8, 8, 8, 8, 8, 8, 8, 8, 8, 8, 8, 8, 8, 8, 8, 8, 8] : List UInt8) (IntKind.u8.wrap p0) c7 ∧
      r = (IntKind.i64.wrap (0 + (IntKind.i64.wrap ((c7.toNat : Nat) : Int))))))

def nat_trim_L1 (p0 : List Int) (r : (List Int)) (X1 : Int → Prop) (s : Int) : Prop := match s with
  | s100 =>
  IfB (decide (s100 > (0 : Int)))
    (∃ (x1 : Int), Idx p0 (IntKind.i64.wrap (s100 - 1)) x1 ∧
    IfB (x1 == (0 : Int))
      (X1 (IntKind.i64.wrap (s100 - 1)))
      (SubOk p0 0 s100 ∧
      ∃ (x4 : List Int), slices_Clone_nat_Nat_uint32 (sub p0 0 s100) x4 ∧
      r = x4))
    (SubOk p0 0 s100 ∧
    ∃ (x7 : List Int), slices_Clone_nat_Nat_uint32 (sub p0 0 s100) x7 ∧
    r = x7)

/-- offcut nat.trim -/
def nat_trim (p0 : List Int) (r : (List Int)) : Prop :=
  LoopP (nat_trim_L1 p0 r) (p0.length : Int)

/-- offcut nat.Of -/
def nat_Of (p0 : Int) (r : (List Int)) : Prop :=
  ∃ (x1 : List Int), nat_trim [(IntKind.u32.wrap p0), (IntKind.u32.wrap (Int.fdiv p0 (2 ^ (min (Int.toNat (32 : Int)) (IntKind.bits .u64)))))] x1 ∧
  r = x1

def nat_Small_L1 (x1 : List Int) (r : Int × Bool) (X1 : (Int × Int) → Prop) (s : Int × Int) : Prop := match s with
  | (s100, s101) =>
  IfB (decide (s100 ≥ (0 : Int)))
    (∃ (x3 : Int), Idx x1 s100 x3 ∧
    X1 ((IntKind.i64.wrap (s100 - 1)), (bitO .u64 (IntKind.u64.wrap (s101 * 2 ^ (min (Int.toNat (32 : Int)) (IntKind.bits .u64)))) (IntKind.u64.wrap x3))))
    (r = (s101, true))

/-- offcut nat.Small -/
def nat_Small (p0 : List Int) (r : Int × Bool) : Prop :=
  ∃ (x1 : List Int), nat_trim p0 x1 ∧
  IfB (decide ((x1.length : Int) > (2 : Int)))
    (r = (0, false))
    (LoopP (nat_Small_L1 x1 r) ((IntKind.i64.wrap ((x1.length : Int) - 1)), (0 : Int)))

def nat_Compare_L1 (x1 : List Int) (x3 : List Int) (r : Int) (X1 : Int → Prop) (s : Int) : Prop := match s with
  | s100 =>
  IfB (decide (s100 ≥ (0 : Int)))
    (∃ (x5 : Int), Idx x1 s100 x5 ∧
    ∃ (x7 : Int), Idx x3 s100 x7 ∧
    IfB (decide (x5 < x7))
      (r = (-1))
      (∃ (x9 : Int), Idx x3 s100 x9 ∧
      IfB (decide (x5 > x9))
        (r = 1)
        (X1 (IntKind.i64.wrap (s100 - 1)))))
    (r = 0)

/-- offcut nat.Compare -/
def nat_Compare (p0 : List Int) (p1 : List Int) (r : Int) : Prop :=
  ∃ (x1 : List Int), nat_trim p0 x1 ∧
  ∃ (x3 : List Int), nat_trim p1 x3 ∧
  IfB ((x1.length : Int) != (x3.length : Int))
    (r = (if (1 : Int) < (if (-1 : Int) > (IntKind.i64.wrap ((x1.length : Int) - (x3.length : Int))) then (-1) else (IntKind.i64.wrap ((x1.length : Int) - (x3.length : Int)))) then 1 else (if (-1 : Int) > (IntKind.i64.wrap ((x1.length : Int) - (x3.length : Int))) then (-1) else (IntKind.i64.wrap ((x1.length : Int) - (x3.length : Int))))))
    (LoopP (nat_Compare_L1 x1 x3 r) (IntKind.i64.wrap ((x1.length : Int) - 1)))

/-- offcut nat.at -/
def nat_at (p0 : List Int) (p1 : Int) (r : Int) : Prop :=
  IfB (decide (p1 < (p0.length : Int)))
    (∃ (x1 : Int), Idx p0 p1 x1 ∧
    r = (IntKind.u64.wrap x1))
    (r = 0)

def nat_Add_L1 (p0 : List Int) (p1 : List Int) (r : (List Int)) (X1 : (Int × Int × (List Int)) → Prop) (s : Int × Int × (List Int)) : Prop := match s with
  | (s100, s101, s150) =>
  IfB (decide (s101 < ((List.replicate (Int.toNat (IntKind.i64.wrap ((if (p1.length : Int) > (p0.length : Int) then (p1.length : Int) else (p0.length : Int)) + 1))) (0 : Int)).length : Int)))
    (∃ (x4 : Int), nat_at p0 s101 x4 ∧
    ∃ (x6 : Int), nat_at p1 s101 x6 ∧
    ∃ (x8 : Int), Idx s150 s101 x8 ∧
    X1 ((Int.fdiv (IntKind.u64.wrap (s100 + (IntKind.u64.wrap (x4 + x6)))) (2 ^ (min (Int.toNat (32 : Int)) (IntKind.bits .u64)))), (IntKind.i64.wrap (s101 + 1)), (s150.set (Int.toNat s101) (IntKind.u32.wrap (IntKind.u64.wrap (s100 + (IntKind.u64.wrap (x4 + x6))))))))
    (∃ (x10 : List Int), nat_trim s150 x10 ∧
    r = x10)

/-- offcut nat.Add -/
def nat_Add (p0 : List Int) (p1 : List Int) (r : (List Int)) : Prop :=
  (0 ≤ (IntKind.i64.wrap ((if (p1.length : Int) > (p0.length : Int) then (p1.length : Int) else (p0.length : Int)) + 1)) ∧ Fits (Int.toNat (IntKind.i64.wrap ((if (p1.length : Int) > (p0.length : Int) then (p1.length : Int) else (p0.length : Int)) + 1))) 4 ∧ Fits (Int.toNat (IntKind.i64.wrap ((if (p1.length : Int) > (p0.length : Int) then (p1.length : Int) else (p0.length : Int)) + 1))) 1) ∧
  LoopP (nat_Add_L1 p0 p1 r) ((0 : Int), (0 : Int), (List.replicate (Int.toNat (IntKind.i64.wrap ((if (p1.length : Int) > (p0.length : Int) then (p1.length : Int) else (p0.length : Int)) + 1))) (0 : Int)))

def nat_Sub_L1 (p0 : List Int) (p1 : List Int) (r : (List Int) × Bool) (X1 : (Int × Int × (List Int)) → Prop) (s : Int × Int × (List Int)) : Prop := match s with
  | (s100, s101, s150) =>
  IfB (decide (s101 < ((List.replicate (Int.toNat (p0.length : Int)) (0 : Int)).length : Int)))
    (∃ (x6 : Int), nat_at p0 s101 x6 ∧
    ∃ (x8 : Int), nat_at p1 s101 x8 ∧
    ∃ (x10 : Int), Idx s150 s101 x10 ∧
    X1 ((Int.fdiv (IntKind.u64.wrap ((IntKind.u64.wrap (x6 - x8)) - s100)) (2 ^ (min (Int.toNat (63 : Int)) (IntKind.bits .u64)))), (IntKind.i64.wrap (s101 + 1)), (s150.set (Int.toNat s101) (IntKind.u32.wrap (IntKind.u64.wrap ((IntKind.u64.wrap (x6 - x8)) - s100))))))
    (∃ (x12 : List Int), nat_trim s150 x12 ∧
    r = (x12, true))

/-- offcut nat.Sub -/
def nat_Sub (p0 : List Int) (p1 : List Int) (r : (List Int) × Bool) : Prop :=
  ∃ (x1 : Int), nat_Compare p0 p1 x1 ∧
  IfB (decide (x1 < (0 : Int)))
    (r = (([] : List Int), false))
    ((0 ≤ (p0.length : Int) ∧ Fits (Int.toNat (p0.length : Int)) 4 ∧ Fits (Int.toNat (p0.length : Int)) 1) ∧
    LoopP (nat_Sub_L1 p0 p1 r) ((0 : Int), (0 : Int), (List.replicate (Int.toNat (p0.length : Int)) (0 : Int))))

def nat_Mul_L2 (p1 : List Int) (s100 : Int) (X1 : (Int × (List Int)) → Prop) (x4 : Int) (X2 : (Int × Int × (List Int)) → Prop) (s : Int × Int × (List Int)) : Prop := match s with
  | (s200, s201, s250) =>
  IfB (decide (s201 < (p1.length : Int)))
    (∃ (x6 : Int), Idx p1 s201 x6 ∧
    ∃ (x8 : Int), Idx s250 (IntKind.i64.wrap (s100 + s201)) x8 ∧
    ∃ (x10 : Int), Idx s250 (IntKind.i64.wrap (s100 + s201)) x10 ∧
    X2 ((Int.fdiv (IntKind.u64.wrap (s200 + (IntKind.u64.wrap ((IntKind.u64.wrap ((IntKind.u64.wrap x4) * (IntKind.u64.wrap x6))) + (IntKind.u64.wrap x8))))) (2 ^ (min (Int.toNat (32 : Int)) (IntKind.bits .u64)))), (IntKind.i64.wrap (s201 + 1)), (s250.set (Int.toNat (IntKind.i64.wrap (s100 + s201))) (IntKind.u32.wrap (IntKind.u64.wrap (s200 + (IntKind.u64.wrap ((IntKind.u64.wrap ((IntKind.u64.wrap x4) * (IntKind.u64.wrap x6))) + (IntKind.u64.wrap x8)))))))))
    (∃ (x12 : Int), Idx s250 (IntKind.i64.wrap (s100 + (p1.length : Int))) x12 ∧
    X1 ((IntKind.i64.wrap (s100 + 1)), (s250.set (Int.toNat (IntKind.i64.wrap (s100 + (p1.length : Int)))) (IntKind.u32.wrap s200))))

def nat_Mul_L1 (p0 : List Int) (p1 : List Int) (r : (List Int)) (X1 : (Int × (List Int)) → Prop) (s : Int × (List Int)) : Prop := match s with
  | (s100, s150) =>
  IfB (decide (s100 < (p0.length : Int)))
    (∃ (x4 : Int), Idx p0 s100 x4 ∧
    LoopP (nat_Mul_L2 p1 s100 X1 x4) ((0 : Int), (0 : Int), s150))
    (∃ (x14 : List Int), nat_trim s150 x14 ∧
    r = x14)

/-- offcut nat.Mul -/
def nat_Mul (p0 : List Int) (p1 : List Int) (r : (List Int)) : Prop :=
  (0 ≤ (IntKind.i64.wrap ((p0.length : Int) + (p1.length : Int))) ∧ Fits (Int.toNat (IntKind.i64.wrap ((p0.length : Int) + (p1.length : Int)))) 4 ∧ Fits (Int.toNat (IntKind.i64.wrap ((p0.length : Int) + (p1.length : Int)))) 1) ∧
  LoopP (nat_Mul_L1 p0 p1 r) ((0 : Int), (List.replicate (Int.toNat (IntKind.i64.wrap ((p0.length : Int) + (p1.length : Int)))) (0 : Int)))

/-- offcut nat.Bits -/
def nat_Bits (p0 : List Int) (r : Int) : Prop :=
  ∃ (x1 : List Int), nat_trim p0 x1 ∧
  IfB ((x1.length : Int) == (0 : Int))
    (r = 0)
    (∃ (x3 : Int), Idx x1 (IntKind.i64.wrap ((x1.length : Int) - 1)) x3 ∧
    ∃ (x5 : Int), math_bits_Len32 x3 x5 ∧
    r = (IntKind.i64.wrap ((IntKind.i64.wrap (32 * (IntKind.i64.wrap ((x1.length : Int) - 1)))) + x5)))

def nat_Shift_L1 (p0 : List Int) (p1 : Int) (r : (List Int)) (X1 : (Int × (List Int)) → Prop) (s : Int × (List Int)) : Prop := match s with
  | (s100, s150) =>
  IfB (decide (s100 < (p0.length : Int)))
    (∃ (x8 : Int), Idx p0 s100 x8 ∧
    0 ≤ (Int.tmod p1 (32 : Int)) ∧
    ∃ (x11 : Int), Idx s150 (IntKind.i64.wrap (s100 + (IntKind.i64.wrap (Int.tdiv p1 (32 : Int))))) x11 ∧
    ∃ (x13 : Int), Idx s150 (IntKind.i64.wrap (s100 + (IntKind.i64.wrap (Int.tdiv p1 (32 : Int))))) x13 ∧
    ∃ (x15 : Int), Idx (s150.set (Int.toNat (IntKind.i64.wrap (s100 + (IntKind.i64.wrap (Int.tdiv p1 (32 : Int)))))) (bitO .u32 x11 (IntKind.u32.wrap (IntKind.u64.wrap ((IntKind.u64.wrap x8) * 2 ^ (min (Int.toNat (Int.tmod p1 (32 : Int))) (IntKind.bits .u64))))))) (IntKind.i64.wrap ((IntKind.i64.wrap (s100 + (IntKind.i64.wrap (Int.tdiv p1 (32 : Int))))) + 1)) x15 ∧
    ∃ (x17 : Int), Idx (s150.set (Int.toNat (IntKind.i64.wrap (s100 + (IntKind.i64.wrap (Int.tdiv p1 (32 : Int)))))) (bitO .u32 x11 (IntKind.u32.wrap (IntKind.u64.wrap ((IntKind.u64.wrap x8) * 2 ^ (min (Int.toNat (Int.tmod p1 (32 : Int))) (IntKind.bits .u64))))))) (IntKind.i64.wrap ((IntKind.i64.wrap (s100 + (IntKind.i64.wrap (Int.tdiv p1 (32 : Int))))) + 1)) x17 ∧
    X1 ((IntKind.i64.wrap (s100 + 1)), ((s150.set (Int.toNat (IntKind.i64.wrap (s100 + (IntKind.i64.wrap (Int.tdiv p1 (32 : Int)))))) (bitO .u32 x11 (IntKind.u32.wrap (IntKind.u64.wrap ((IntKind.u64.wrap x8) * 2 ^ (min (Int.toNat (Int.tmod p1 (32 : Int))) (IntKind.bits .u64))))))).set (Int.toNat (IntKind.i64.wrap ((IntKind.i64.wrap (s100 + (IntKind.i64.wrap (Int.tdiv p1 (32 : Int))))) + 1))) (bitO .u32 x15 (IntKind.u32.wrap (Int.fdiv (IntKind.u64.wrap ((IntKind.u64.wrap x8) * 2 ^ (min (Int.toNat (Int.tmod p1 (32 : Int))) (IntKind.bits .u64)))) (2 ^ (min (Int.toNat (32 : Int)) (IntKind.bits .u64)))))))))
    (∃ (x19 : List Int), nat_trim s150 x19 ∧
    r = x19)

/-- offcut nat.Shift -/
def nat_Shift (p0 : List Int) (p1 : Int) (r : (List Int)) : Prop :=
  IfB (decide (p1 < (0 : Int)))
    (∃ (x1 : List Int), nat_trim p0 x1 ∧
    r = x1)
    (IfB (decide (p1 > (65536 : Int)))
      (∃ (x3 : List Int), nat_trim p0 x3 ∧
      r = x3)
      ((0 ≤ (IntKind.i64.wrap ((IntKind.i64.wrap ((p0.length : Int) + (IntKind.i64.wrap (Int.tdiv p1 (32 : Int))))) + 1)) ∧ Fits (Int.toNat (IntKind.i64.wrap ((IntKind.i64.wrap ((p0.length : Int) + (IntKind.i64.wrap (Int.tdiv p1 (32 : Int))))) + 1))) 4 ∧ Fits (Int.toNat (IntKind.i64.wrap ((IntKind.i64.wrap ((p0.length : Int) + (IntKind.i64.wrap (Int.tdiv p1 (32 : Int))))) + 1))) 1) ∧
      LoopP (nat_Shift_L1 p0 p1 r) ((0 : Int), (List.replicate (Int.toNat (IntKind.i64.wrap ((IntKind.i64.wrap ((p0.length : Int) + (IntKind.i64.wrap (Int.tdiv p1 (32 : Int))))) + 1))) (0 : Int)))))

def nat_digit_L1 (p1 : List Int) (r : Int × (List Int)) (X1 : ((List Int) × Int × Int) → Prop) (s : (List Int) × Int × Int) : Prop := match s with
  | (s100, s101, s102) =>
  IfB (decide (s102 ≥ (0 : Int)))
    (∃ (x1 : List Int), nat_Shift p1 s102 x1 ∧
    ∃ (x3 : List Int) (x4 : Bool), nat_Sub s100 x1 (x3, x4) ∧
    IfB x4
      (0 ≤ s102 ∧
      X1 (x3, (bitO .u32 s101 (IntKind.u32.wrap ((1 : Int) * 2 ^ (min (Int.toNat s102) (IntKind.bits .u32))))), (IntKind.i64.wrap (s102 - 1))))
      (X1 (s100, s101, (IntKind.i64.wrap (s102 - 1)))))
    (r = (s101, s100))

/-- offcut nat.digit -/
def nat_digit (p0 : List Int) (p1 : List Int) (r : Int × (List Int)) : Prop :=
  LoopP (nat_digit_L1 p1 r) (p0, (0 : Int), (31 : Int))

def nat_DivMod_L1 (x1 : List Int) (x3 : List Int) (r : (List Int) × (List Int) × Int) (X1 : (Int × (List Int) × (List Int)) → Prop) (s : Int × (List Int) × (List Int)) : Prop := match s with
  | (s100, s101, s151) =>
  IfB (decide (s100 ≥ (0 : Int)))
    (∃ (x8 : Int), Idx x1 s100 x8 ∧
    IfB s101.isEmpty
      (∃ (x11 : List Int), nat_trim [x8] x11 ∧
      IfB ((x3.length : Int) == (1 : Int))
        (∃ (x13 : Int) (x14 : Bool), nat_Small x11 (x13, x14) ∧
        IfB x14
          (∃ (x16 : Int), Idx x3 (0 : Int) x16 ∧
          (IntKind.u64.wrap x16) ≠ 0 ∧
          ∃ (x19 : Int), Idx s151 s100 x19 ∧
          ∃ (x21 : Int), Idx x3 (0 : Int) x21 ∧
          (IntKind.u64.wrap x21) ≠ 0 ∧
          ∃ (x24 : List Int), nat_Of (Int.tmod x13 (IntKind.u64.wrap x21)) x24 ∧
          X1 ((IntKind.i64.wrap (s100 - 1)), x24, (s151.set (Int.toNat s100) (IntKind.u32.wrap (IntKind.u64.wrap (Int.tdiv x13 (IntKind.u64.wrap x16)))))))
          (∃ (x26 : Int), Idx x3 (0 : Int) x26 ∧
          (IntKind.u64.wrap x26) ≠ 0 ∧
          ∃ (x29 : Int), Idx s151 s100 x29 ∧
          ∃ (x31 : Int), Idx x3 (0 : Int) x31 ∧
          (IntKind.u64.wrap x31) ≠ 0 ∧
          ∃ (x34 : List Int), nat_Of (Int.tmod x13 (IntKind.u64.wrap x31)) x34 ∧
          X1 ((IntKind.i64.wrap (s100 - 1)), x34, (s151.set (Int.toNat s100) (IntKind.u32.wrap (IntKind.u64.wrap (Int.tdiv x13 (IntKind.u64.wrap x26))))))))
        (∃ (x36 : Int) (x37 : List Int), nat_digit x11 x3 (x36, x37) ∧
        ∃ (x39 : Int), Idx s151 s100 x39 ∧
        X1 ((IntKind.i64.wrap (s100 - 1)), x37, (s151.set (Int.toNat s100) x36))))
      (Fits ([x8].length + s101.length) 4 ∧
      ∃ (x42 : List Int), nat_trim ([x8] ++ s101) x42 ∧
      IfB ((x3.length : Int) == (1 : Int))
        (∃ (x44 : Int) (x45 : Bool), nat_Small x42 (x44, x45) ∧
        IfB x45
          (∃ (x47 : Int), Idx x3 (0 : Int) x47 ∧
          (IntKind.u64.wrap x47) ≠ 0 ∧
          ∃ (x50 : Int), Idx s151 s100 x50 ∧
          ∃ (x52 : Int), Idx x3 (0 : Int) x52 ∧
          (IntKind.u64.wrap x52) ≠ 0 ∧
          ∃ (x55 : List Int), nat_Of (Int.tmod x44 (IntKind.u64.wrap x52)) x55 ∧
          X1 ((IntKind.i64.wrap (s100 - 1)), x55, (s151.set (Int.toNat s100) (IntKind.u32.wrap (IntKind.u64.wrap (Int.tdiv x44 (IntKind.u64.wrap x47)))))))
          (∃ (x57 : Int), Idx x3 (0 : Int) x57 ∧
          (IntKind.u64.wrap x57) ≠ 0 ∧
          ∃ (x60 : Int), Idx s151 s100 x60 ∧
          ∃ (x62 : Int), Idx x3 (0 : Int) x62 ∧
          (IntKind.u64.wrap x62) ≠ 0 ∧
          ∃ (x65 : List Int), nat_Of (Int.tmod x44 (IntKind.u64.wrap x62)) x65 ∧
          X1 ((IntKind.i64.wrap (s100 - 1)), x65, (s151.set (Int.toNat s100) (IntKind.u32.wrap (IntKind.u64.wrap (Int.tdiv x44 (IntKind.u64.wrap x57))))))))
        (∃ (x67 : Int) (x68 : List Int), nat_digit x42 x3 (x67, x68) ∧
        ∃ (x70 : Int), Idx s151 s100 x70 ∧
        X1 ((IntKind.i64.wrap (s100 - 1)), x68, (s151.set (Int.toNat s100) x67)))))
    (∃ (x72 : List Int), nat_trim s151 x72 ∧
    r = (x72, s101, 0))

/-- offcut nat.DivMod -/
def nat_DivMod (p0 : List Int) (p1 : List Int) (r : (List Int) × (List Int) × Int) : Prop :=
  ∃ (x1 : List Int), nat_trim p0 x1 ∧
  ∃ (x3 : List Int), nat_trim p1 x3 ∧
  IfB ((x3.length : Int) == (0 : Int))
    (r = (([] : List Int), ([] : List Int), 5))
    ((0 ≤ (x1.length : Int) ∧ Fits (Int.toNat (x1.length : Int)) 4 ∧ Fits (Int.toNat (x1.length : Int)) 1) ∧
    LoopP (nat_DivMod_L1 x1 x3 r) ((IntKind.i64.wrap ((x1.length : Int) - 1)), ([] : List Int), (List.replicate (Int.toNat (x1.length : Int)) (0 : Int))))

def nat_Gcd_L1 (r : (List Int)) (X1 : ((List Int) × (List Int)) → Prop) (s : (List Int) × (List Int)) : Prop := match s with
  | (s100, s101) =>
  IfB (decide ((s101.length : Int) > (0 : Int)))
    (∃ (x5 : List Int) (x6 : List Int) (x7 : Int), nat_DivMod s100 s101 (x5, x6, x7) ∧
    X1 (s101, x6))
    (r = s100)

/-- offcut nat.Gcd -/
def nat_Gcd (p0 : List Int) (p1 : List Int) (r : (List Int)) : Prop :=
  ∃ (x1 : List Int), nat_trim p0 x1 ∧
  ∃ (x3 : List Int), nat_trim p1 x3 ∧
  LoopP (nat_Gcd_L1 r) (x1, x3)

/-- offcut whole.Make -/
def whole_Make (p0 : Bool) (p1 : List Int) (r : Bool × (List Int)) : Prop :=
  IfB p0
    (∃ (x1 : List Int), nat_Shift p1 (0 : Int) x1 ∧
    IfB (decide ((x1.length : Int) > (0 : Int)))
      (r = (true, x1))
      (r = (false, x1)))
    (∃ (x3 : List Int), nat_Shift p1 (0 : Int) x3 ∧
    r = (false, x3))

/-- offcut whole.Sign -/
def whole_Sign (p0 : Bool) (p1 : List Int) (r : Int) : Prop :=
  ∃ (x1 : Bool) (x2 : List Int), whole_Make p0 p1 (x1, x2) ∧
  IfB x1
    (IfB ((x2.length : Int) == (0 : Int))
      (r = 0)
      (r = (-1)))
    (IfB ((x2.length : Int) == (0 : Int))
      (r = 0)
      (r = 1))

/-- offcut whole.Compare -/
def whole_Compare (p0 : Bool) (p1 : List Int) (p2 : Bool) (p3 : List Int) (r : Int) : Prop :=
  ∃ (x1 : Int), whole_Sign p0 p1 x1 ∧
  ∃ (x3 : Int), whole_Sign p2 p3 x3 ∧
  IfB (x1 != x3)
    (r = (if (1 : Int) < (if (-1 : Int) > (IntKind.i64.wrap (x1 - x3)) then (-1) else (IntKind.i64.wrap (x1 - x3))) then 1 else (if (-1 : Int) > (IntKind.i64.wrap (x1 - x3)) then (-1) else (IntKind.i64.wrap (x1 - x3)))))
    (IfB (decide (x1 < (0 : Int)))
      (∃ (x5 : Int), nat_Compare p3 p1 x5 ∧
      r = x5)
      (∃ (x7 : Int), nat_Compare p1 p3 x7 ∧
      r = x7))

/-- offcut whole.Add -/
def whole_Add (p0 : Bool) (p1 : List Int) (p2 : Bool) (p3 : List Int) (r : Bool × (List Int)) : Prop :=
  ∃ (x1 : Int), whole_Sign p0 p1 x1 ∧
  IfB (decide (x1 < (0 : Int)))
    (∃ (x3 : Int), whole_Sign p2 p3 x3 ∧
    IfB (decide (x3 < (0 : Int)))
      (∃ (x5 : Int), whole_Sign p0 p1 x5 ∧
      IfB (decide (x5 < (0 : Int)))
        (∃ (x7 : List Int), nat_Add p1 p3 x7 ∧
        ∃ (x9 : Bool) (x10 : List Int), whole_Make true x7 (x9, x10) ∧
        r = (x9, x10))
        (∃ (x12 : List Int), nat_Add p1 p3 x12 ∧
        ∃ (x14 : Bool) (x15 : List Int), whole_Make false x12 (x14, x15) ∧
        r = (x14, x15)))
      (∃ (x17 : List Int) (x18 : Bool), nat_Sub p1 p3 (x17, x18) ∧
      IfB x18
        (∃ (x20 : Int), whole_Sign p0 p1 x20 ∧
        IfB (decide (x20 < (0 : Int)))
          (∃ (x22 : Bool) (x23 : List Int), whole_Make true x17 (x22, x23) ∧
          r = (x22, x23))
          (∃ (x25 : Bool) (x26 : List Int), whole_Make false x17 (x25, x26) ∧
          r = (x25, x26)))
        (∃ (x28 : List Int) (x29 : Bool), nat_Sub p3 p1 (x28, x29) ∧
        IfB x29
          (∃ (x31 : Int), whole_Sign p2 p3 x31 ∧
          IfB (decide (x31 < (0 : Int)))
            (∃ (x33 : Bool) (x34 : List Int), whole_Make true x28 (x33, x34) ∧
            r = (x33, x34))
            (∃ (x36 : Bool) (x37 : List Int), whole_Make false x28 (x36, x37) ∧
            r = (x36, x37)))
          (∃ (x39 : Int), whole_Sign p2 p3 x39 ∧
          IfB (decide (x39 < (0 : Int)))
            (∃ (x41 : Bool) (x42 : List Int), whole_Make true x28 (x41, x42) ∧
            r = (x41, x42))
            (∃ (x44 : Bool) (x45 : List Int), whole_Make false x28 (x44, x45) ∧
            r = (x44, x45))))))
    (∃ (x47 : Int), whole_Sign p2 p3 x47 ∧
    IfB (decide (x47 < (0 : Int)))
      (∃ (x49 : List Int) (x50 : Bool), nat_Sub p1 p3 (x49, x50) ∧
      IfB x50
        (∃ (x52 : Int), whole_Sign p0 p1 x52 ∧
        IfB (decide (x52 < (0 : Int)))
          (∃ (x54 : Bool) (x55 : List Int), whole_Make true x49 (x54, x55) ∧
          r = (x54, x55))
          (∃ (x57 : Bool) (x58 : List Int), whole_Make false x49 (x57, x58) ∧
          r = (x57, x58)))
        (∃ (x60 : List Int) (x61 : Bool), nat_Sub p3 p1 (x60, x61) ∧
        IfB x61
          (∃ (x63 : Int), whole_Sign p2 p3 x63 ∧
          IfB (decide (x63 < (0 : Int)))
            (∃ (x65 : Bool) (x66 : List Int), whole_Make true x60 (x65, x66) ∧
            r = (x65, x66))
            (∃ (x68 : Bool) (x69 : List Int), whole_Make false x60 (x68, x69) ∧
            r = (x68, x69)))
          (∃ (x71 : Int), whole_Sign p2 p3 x71 ∧
          IfB (decide (x71 < (0 : Int)))
            (∃ (x73 : Bool) (x74 : List Int), whole_Make true x60 (x73, x74) ∧
            r = (x73, x74))
            (∃ (x76 : Bool) (x77 : List Int), whole_Make false x60 (x76, x77) ∧
            r = (x76, x77)))))
      (∃ (x79 : Int), whole_Sign p0 p1 x79 ∧
      IfB (decide (x79 < (0 : Int)))
        (∃ (x81 : List Int), nat_Add p1 p3 x81 ∧
        ∃ (x83 : Bool) (x84 : List Int), whole_Make true x81 (x83, x84) ∧
        r = (x83, x84))
        (∃ (x86 : List Int), nat_Add p1 p3 x86 ∧
        ∃ (x88 : Bool) (x89 : List Int), whole_Make false x86 (x88, x89) ∧
        r = (x88, x89))))

/-- offcut whole.Mul -/
def whole_Mul (p0 : Bool) (p1 : List Int) (p2 : Bool) (p3 : List Int) (r : Bool × (List Int)) : Prop :=
  ∃ (x1 : Int), whole_Sign p0 p1 x1 ∧
  ∃ (x3 : Int), whole_Sign p2 p3 x3 ∧
  IfB (decide ((IntKind.i64.wrap (x1 * x3)) < (0 : Int)))
    (∃ (x5 : List Int), nat_Mul p1 p3 x5 ∧
    ∃ (x7 : Bool) (x8 : List Int), whole_Make true x5 (x7, x8) ∧
    r = (x7, x8))
    (∃ (x10 : List Int), nat_Mul p1 p3 x10 ∧
    ∃ (x12 : Bool) (x13 : List Int), whole_Make false x10 (x12, x13) ∧
    r = (x12, x13))

/-- offcut rat.den -/
def rat_den (p0 : Bool) (p1 : List Int) (p2 : List Int) (r : (List Int)) : Prop :=
  ∃ (x1 : Int), nat_Bits p2 x1 ∧
  IfB (x1 == (0 : Int))
    (∃ (x3 : List Int), nat_Of (1 : Int) x3 ∧
    r = x3)
    (r = p2)

/-- offcut rat.Make -/
def rat_Make (p0 : Bool) (p1 : List Int) (p2 : List Int) (r : Bool × (List Int) × (List Int)) : Prop :=
  ∃ (x1 : List Int), rat_den false ([] : List Int) p2 x1 ∧
  ∃ (x3 : List Int), nat_Gcd p1 x1 x3 ∧
  ∃ (x5 : List Int) (x6 : List Int) (x7 : Int), nat_DivMod p1 x3 (x5, x6, x7) ∧
  ∃ (x9 : List Int) (x10 : List Int) (x11 : Int), nat_DivMod x1 x3 (x9, x10, x11) ∧
  ∃ (x13 : Bool) (x14 : List Int), whole_Make p0 x5 (x13, x14) ∧
  r = (x13, x14, x9)

/-- offcut rat.Sign -/
def rat_Sign (p0 : Bool) (p1 : List Int) (p2 : List Int) (r : Int) : Prop :=
  ∃ (x1 : Int), whole_Sign p0 p1 x1 ∧
  r = x1

/-- offcut rat.over -/
def rat_over (p0 : Bool) (p1 : List Int) (p2 : List Int) (p3 : Bool) (p4 : List Int) (p5 : List Int) (r : Bool × (List Int)) : Prop :=
  ∃ (x1 : List Int), rat_den p3 p4 p5 x1 ∧
  ∃ (x3 : Bool) (x4 : List Int), whole_Make false x1 (x3, x4) ∧
  ∃ (x6 : Bool) (x7 : List Int), whole_Mul p0 p1 x3 x4 (x6, x7) ∧
  r = (x6, x7)

/-- offcut rat.Compare -/
def rat_Compare (p0 : Bool) (p1 : List Int) (p2 : List Int) (p3 : Bool) (p4 : List Int) (p5 : List Int) (r : Int) : Prop :=
  ∃ (x1 : Bool) (x2 : List Int), rat_over p0 p1 p2 p3 p4 p5 (x1, x2) ∧
  ∃ (x4 : Bool) (x5 : List Int), rat_over p3 p4 p5 p0 p1 p2 (x4, x5) ∧
  ∃ (x7 : Int), whole_Compare x1 x2 x4 x5 x7 ∧
  r = x7

/-- offcut rat.Add -/
def rat_Add (p0 : Bool) (p1 : List Int) (p2 : List Int) (p3 : Bool) (p4 : List Int) (p5 : List Int) (r : Bool × (List Int) × (List Int)) : Prop :=
  ∃ (x1 : Bool) (x2 : List Int), rat_over p0 p1 p2 p3 p4 p5 (x1, x2) ∧
  ∃ (x4 : Bool) (x5 : List Int), rat_over p3 p4 p5 p0 p1 p2 (x4, x5) ∧
  ∃ (x7 : Bool) (x8 : List Int), whole_Add x1 x2 x4 x5 (x7, x8) ∧
  ∃ (x10 : List Int), rat_den p0 p1 p2 x10 ∧
  ∃ (x12 : List Int), rat_den p3 p4 p5 x12 ∧
  ∃ (x14 : List Int), nat_Mul x10 x12 x14 ∧
  ∃ (x16 : Bool) (x17 : List Int) (x18 : List Int), rat_Make x7 x8 x14 (x16, x17, x18) ∧
  r = (x16, x17, x18)

/-- offcut rat.Mul -/
def rat_Mul (p0 : Bool) (p1 : List Int) (p2 : List Int) (p3 : Bool) (p4 : List Int) (p5 : List Int) (r : Bool × (List Int) × (List Int)) : Prop :=
  ∃ (x1 : Bool) (x2 : List Int), whole_Mul p0 p1 p3 p4 (x1, x2) ∧
  ∃ (x4 : List Int), rat_den p0 p1 p2 x4 ∧
  ∃ (x6 : List Int), rat_den p3 p4 p5 x6 ∧
  ∃ (x8 : List Int), nat_Mul x4 x6 x8 ∧
  ∃ (x10 : Bool) (x11 : List Int) (x12 : List Int), rat_Make x1 x2 x8 (x10, x11, x12) ∧
  r = (x10, x11, x12)

end Go.Abs
end

section
/- Printed by gen.py: what functions come to, as conditions over numbers and lists. -/
namespace Go.Abs
set_option linter.unusedVariables false
set_option linter.unusedSimpArgs false
set_option linter.unnecessarySimpa false

end Go.Abs
end

section
/- What awake of chapter 13 answers. -/
namespace Go.Abs
end Go.Abs
end

section
/- Further functions of the library's on texts, told: CutSuffix, Contains. -/
namespace Go.Abs
open Go
/-- strings.CutSuffix. -/
def strings_CutSuffix (s p : List UInt8) (r : List UInt8 × Bool) : Prop := s.length ≤ 9223372036854775807 ∧ r = (Lib.trimSuffix s p, Lib.hasSuffix s p)
/-- strings.Contains. -/
def strings_Contains (s p : List UInt8) (r : Bool) : Prop := Short s ∧ r = Lib.contains s p
end Go.Abs
end

section
/- Printed by gen.py: what functions come to, as conditions over numbers and lists. -/
namespace Go.Abs
set_option linter.unusedVariables false
set_option linter.unusedSimpArgs false
set_option linter.unnecessarySimpa false

def offcutlaw05_Few_L1 (p0 : List (Bool × (List Int) × (List Int))) (r : Bool) (X1 : Int → Prop) (s : Int) : Prop := match s with
  | s100 =>
  IfB (decide (s100 < (p0.length : Int)))
   (IfB (decide (s100 ≤ (8 : Int)))
   (∃ (x3 : Bool) (x4 : List Int) (x5 : List Int), Idx p0 s100 (x3, x4, x5) ∧
   IfB (decide ((x4.length : Int) > (3 : Int)))
   (r = false)
   (∃ (x8 : Bool) (x9 : List Int) (x10 : List Int), Idx p0 s100 (x8, x9, x10) ∧
   IfB (decide ((x10.length : Int) > (3 : Int)))
   (r = false)
   (X1 (IntKind.i64.wrap (s100 + 1)))))
   (IfB (decide ((p0.length : Int) ≤ (8 : Int)))
   (r = true)
   (r = false)))
   (IfB (decide ((p0.length : Int) ≤ (8 : Int)))
   (r = true)
   (r = false))

/-- offcut offcutlaw05.Few -/
def offcutlaw05_Few (p0 : List (Bool × (List Int) × (List Int))) (r : Bool) : Prop :=
  LoopP (offcutlaw05_Few_L1 p0 r) (0 : Int)

/-- offcut vec.Same 1 -/
def vec_Same_1 (p0 : Bool) (p1 : List Int) (p2 : List Int) (p3 : Bool) (p4 : List Int) (p5 : List Int) (r : Bool) : Prop :=
  ∃ (x1 : Int), rat_Compare p0 p1 p2 p3 p4 p5 x1 ∧
  IfB (x1 == (0 : Int))
   (r = true)
   (r = false)

def vec_Same_L1 (p0 : List (Bool × (List Int) × (List Int))) (p1 : List (Bool × (List Int) × (List Int))) (r : Bool) (X1 : Int → Prop) (s : Int) : Prop := match s with
  | s100 =>
  IfB (decide (s100 < (p0.length : Int)))
   (∃ (x3 : Bool) (x4 : List Int) (x5 : List Int), Idx p0 s100 (x3, x4, x5) ∧
   ∃ (x7 : Bool) (x8 : List Int) (x9 : List Int), Idx p1 s100 (x7, x8, x9) ∧
   ∃ (x11 : Bool), vec_Same_1 x3 x4 x5 x7 x8 x9 x11 ∧
   IfB x11
   (X1 (IntKind.i64.wrap (s100 + 1)))
   (r = false))
   (r = true)

/-- offcut vec.Same -/
def vec_Same (p0 : List (Bool × (List Int) × (List Int))) (p1 : List (Bool × (List Int) × (List Int))) (r : Bool) : Prop :=
  IfB ((p0.length : Int) != (p1.length : Int))
   (r = false)
   (LoopP (vec_Same_L1 p0 p1 r) (0 : Int))

end Go.Abs
end

section
/- Printed by gen.py: what functions come to, as conditions over numbers and lists. -/
namespace Go.Abs
set_option linter.unusedVariables false
set_option linter.unusedSimpArgs false
set_option linter.unnecessarySimpa false

end Go.Abs
end

section
/- What awake of chapter 08 answers. -/
namespace Go.Abs
def offcutlaw08_awake (r : Bool) : Prop := r = true
end Go.Abs
end

section
/- What awake of chapter 08 answers, and the map of relations. -/
namespace Go.Abs
def relsL : List (List UInt8 × Int) := [([60, 61], -1), ([61], 0), ([62, 61], 1)]
def model_rels (r : List (List UInt8 × Int)) : Prop := r = relsL
end Go.Abs
end
