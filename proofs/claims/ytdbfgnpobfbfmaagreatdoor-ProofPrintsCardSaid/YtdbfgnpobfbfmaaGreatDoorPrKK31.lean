/- Part of a proof, in few files: BCd BNd DNat DLin B13n BDd D13p. -/
import Derived.Test.YtdbfgnpobfbfmaaGreatDoorPrKK22
import Derived.Lib.Strings
import Derived.Test.YtdbfgnpobfbfmaaGreatDoorPrKK19
import Derived.Lib.IndexMore

section
/- Further functions of the library's on texts, told. -/
namespace Go.Abs
open Go
/-- strings.CutPrefix. -/
def strings_CutPrefix (s p : List UInt8) (r : List UInt8 × Bool) : Prop := r = (Lib.trimPrefix s p, Lib.hasPrefix s p)
end Go.Abs
end

section
/- What the library's functions on a number's words come to. -/
namespace Go.Abs
/-- slices.Clone. -/
def slices_Clone_nat_Nat_uint32 (l r : List Int) : Prop := Fits l.length 4 ∧ r = l
end Go.Abs
end

section
/- Printed by gen.py: what functions come to, as conditions over numbers and lists. -/
namespace Go.Abs
set_option linter.unusedVariables false
set_option linter.unusedSimpArgs false
set_option linter.unnecessarySimpa false

/-- math bits.Len32 -/
def math_bits_Len32 (p0 : Int) (r : Int) : Prop :=
  IfB (decide (p0 ≥ (65536 : Int)))
    (IfB (decide ((Int.fdiv p0 (2 ^ (min (Int.toNat (16 : Int)) (IntKind.bits .u32)))) ≥ (256 : Int)))
      (∃ (c1 : UInt8), Idx ([0, 1, 2, 2, 3, 3, 3, 3, 4, 4, 4, 4, 4, 4, 4, 4, 5, 5, 5, 5, 5, 5, 5, 5, 5, 5, 5, 5, 5, 5, 5, 5, 6, 6, 6, 6, 6, 6, 6, 6, 6, 6, 6, 6, 6, 6, 6, 6, 6, 6, 6, 6, 6, 6, 6, 6, 6, 6, 6, 6, 6, 6, 6, 6, 7, 7, 7, 7, 7, 7, 7, 7, 7, 7, 7, 7, 7, 7, 7, 7, 7, 7, 7, 7, 7, 7, 7, 7, 7, 7, 7, 7, 7, 7, 7, 7, 7, 7, 7, 7, 7, 7, 7, 7, 7, 7, 7, 7, 7, 7, 7, 7, 7, 7, 7, 7, 7, 7, 7, 7, 7, 7, 7, 7, 7, 7, 7, 7, 8, 8, 8, 8, 8, 8, 8, 8, 8, 8, 8, 8, 8, 8, 8, 8, 8, 8, 8, 8, 8, 8, 8, 8, 8, 8, 8, 8, 8, 8, 8, 8, 8, 8, 8, 8, 8, 8, 8, 8, 8, 8, 8, 8, 8, 8, 8, 8, 8, 8, 8, 8, 8, 8, 8, 8, 8, 8, 8, 8, 8, 8, 8, 8, 8, 8, 8, 8, 8, 8, 8, 8, 8, 8, 8, 8, 8, 8, 8, 8, 8, 8, 8, 8, 8, 8, 8, 8, 8, 8, 8, 8, 8, 8, 8, 8, 8, 8, 8, 8, 8, 8, 8, 8, 8, 8, 8, 8, 8, 8, 8, 8, 8, 8, 8, 8, 8, 8, 8, 8, 8, 8, 8, 8, 8, 8, 8, 8] : List UInt8) (IntKind.u8.wrap (Int.fdiv (Int.fdiv p0 (2 ^ (min (Int.toNat (16 : Int)) (IntKind.bits .u32)))) (2 ^ (min (Int.toNat (8 : Int)) (IntKind.bits .u32))))) c1 ∧
      r = (IntKind.i64.wrap (24 + (IntKind.i64.wrap ((c1.toNat : Nat) : Int)))))
      (∃ (c3 : UInt8), Idx ([0, 1, 2, 2, 3, 3, 3, 3, 4, 4, 4, 4, 4, 4, 4, 4, 5, 5, 5, 5, 5, 5, 5, 5, 5, 5, 5, 5, 5, 5, 5, 5, 6, 6, 6, 6, 6, 6, 6, 6, 6, 6, 6, 6, 6, 6, 6, 6, 6, 6, 6, 6, 6, 6, 6, 6, 6, 6, 6, 6, 6, 6, 6, 6, 7, 7, 7, 7, 7, 7, 7, 7, 7, 7, 7, 7, 7, 7, 7, 7, 7, 7, 7, 7, 7, 7, 7, 7, 7, 7, 7, 7, 7, 7, 7, 7, 7, 7, 7, 7, 7, 7, 7, 7, 7, 7, 7, 7, 7, 7, 7, 7, 7, 7, 7, 7, 7, 7, 7, 7, 7, 7, 7, 7, 7, 7, 7, 7, 8, 8, 8, 8, 8, 8, 8, 8, 8, 8, 8, 8, 8, 8, 8, 8, 8, 8, 8, 8, 8, 8, 8, 8, 8, 8, 8, 8, 8, 8, 8, 8, 8, 8, 8, 8, 8, 8, 8, 8, 8, 8, 8, 8, 8, 8, 8, 8, 8, 8, 8, 8, 8, 8, 8, 8, 8, 8, 8, 8, 8, 8, 8, 8, 8, 8, 8, 8, 8, 8, 8, 8, 8, 8, 8, 8, 8, 8, 8, 8, 8, 8, 8, 8, 8, 8, 8, 8, 8, 8, 8, 8, 8, 8, 8, 8, 8, 8, 8, 8, 8, 8, 8, 8, 8, 8, 8, 8, 8, 8, 8, 8, 8, 8, 8, 8, 8, 8, 8, 8, 8, 8, 8, 8, 8, 8, 8, 8] : List UInt8) (IntKind.u8.wrap (Int.fdiv p0 (2 ^ (min (Int.toNat (16 : Int)) (IntKind.bits .u32))))) c3 ∧
      r = (IntKind.i64.wrap (16 + (IntKind.i64.wrap ((c3.toNat : Nat) : Int))))))
    (IfB (decide (p0 ≥ (256 : Int)))
      (∃ (c5 : UInt8), Idx ([0, 1, 2, 2, 3, 3, 3, 3, 4, 4, 4, 4, 4, 4, 4, 4, 5, 5, 5, 5, 5, 5, 5, 5, 5, 5, 5, 5, 5, 5, 5, 5, 6, 6, 6, 6, 6, 6, 6, 6, 6, 6, 6, 6, 6, 6, 6, 6, 6, 6, 6, 6, 6, 6, 6, 6, 6, 6, 6, 6, 6, 6, 6, 6, 7, 7, 7, 7, 7, 7, 7, 7, 7, 7, 7, 7, 7, 7, 7, 7, 7, 7, 7, 7, 7, 7, 7, 7, 7, 7, 7, 7, 7, 7, 7, 7, 7, 7, 7, 7, 7, 7, 7, 7, 7, 7, 7, 7, 7, 7, 7, 7, 7, 7, 7, 7, 7, 7, 7, 7, 7, 7, 7, 7, 7, 7, 7, 7, 8, 8, 8, 8, 8, 8, 8, 8, 8, 8, 8, 8, 8, 8, 8, 8, 8, 8, 8, 8, 8, 8, 8, 8, 8, 8, 8, 8, 8, 8, 8, 8, 8, 8, 8, 8, 8, 8, 8, 8, 8, 8, 8, 8, 8, 8, 8, 8, 8, 8, 8, 8, 8, 8, 8, 8, 8, 8, 8, 8, 8, 8, 8, 8, 8, 8, 8, 8, 8, 8, 8, 8, 8, 8, 8, 8, 8, 8, 8, 8, 8, 8, 8, 8, 8, 8, 8, 8, 8, 8, 8, 8, 8, 8, 8, 8, 8, 8, 8, 8, 8, 8, 8, 8, 8, 8, 8, 8, 8, 8, 8, 8, 8, 8, 8, 8, 8, 8, 8, 8, 8, 8, 8, 8, 8, 8, 8, 8] : List UInt8) (IntKind.u8.wrap (Int.fdiv p0 (2 ^ (min (Int.toNat (8 : Int)) (IntKind.bits .u32))))) c5 ∧
      r = (IntKind.i64.wrap (8 + (IntKind.i64.wrap ((c5.toNat : Nat) : Int)))))
      (∃ (c7 : UInt8), Idx ([0, 1, 2, 2, 3, 3, 3, 3, 4, 4, 4, 4, 4, 4, 4, 4, 5, 5, 5, 5, 5, 5, 5, 5, 5, 5, 5, 5, 5, 5, 5, 5, 6, 6, 6, 6, 6, 6, 6, 6, 6, 6, 6, 6, 6, 6, 6, 6, 6, 6, 6, 6, 6, 6, 6, 6, 6, 6, 6, 6, 6, 6, 6, 6, 7, 7, 7, 7, 7, 7, 7, 7, 7, 7, 7, 7, 7, 7, 7, 7, 7, 7, 7, 7, 7, 7, 7, 7, 7, 7, 7, 7, 7, 7, 7, 7, 7, 7, 7, 7, 7, 7, 7, 7, 7, 7, 7, 7, 7, 7, 7, 7, 7, 7, 7, 7, 7, 7, 7, 7, 7, 7, 7, 7, 7, 7, 7, 7, 8, 8, 8, 8, 8, 8, 8, 8, 8, 8, 8, 8, 8, 8, 8, 8, 8, 8, 8, 8, 8, 8, 8, 8, 8, 8, 8, 8, 8, 8, 8, 8, 8, 8, 8, 8, 8, 8, 8, 8, 8, 8, 8, 8, 8, 8, 8, 8, 8, 8, 8, 8, 8, 8, 8, 8, 8, 8, 8, 8, 8, 8, 8, 8, 8, 8, 8, 8, 8, 8, 8, 8, 8, 8, 8, 8, 8, 8, 8, 8, 8, 8, 8, 8, 8, 8, 8, 8, 8, 8, 8, 8, 8, 8, 8, 8, 8, 8, 8, 8, 8, 8, 8, 8, 8, 8, 8, 8, 8, 8, 8, 8, 8, 8, 8, 8, 8, 8, 8, 8, 8, 8, 8, 8, 8, 8, 8, 8] : List UInt8) (IntKind.u8.wrap p0) c7 ∧
      r = (IntKind.i64.wrap (0 + (IntKind.i64.wrap ((c7.toNat : Nat) : Int))))))

def nat_trim_L1 (p0 : List Int) (r : (List Int)) (X1 : Int → Prop) (s : Int) : Prop := match s with
  | s100 =>
  IfB (decide (s100 > (0 : Int)))
    (∃ (x1 : Int), Idx p0 (IntKind.i64.wrap (s100 - 1)) x1 ∧
    IfB (x1 == (0 : Int))
      (X1 (IntKind.i64.wrap (s100 - 1)))
      (SubOk p0 0 s100 ∧
      ∃ (x4 : List Int), slices_Clone_nat_Nat_uint32 (sub p0 0 s100) x4 ∧
      r = x4))
    (SubOk p0 0 s100 ∧
    ∃ (x7 : List Int), slices_Clone_nat_Nat_uint32 (sub p0 0 s100) x7 ∧
    r = x7)

/-- offcut nat.trim -/
def nat_trim (p0 : List Int) (r : (List Int)) : Prop :=
  LoopP (nat_trim_L1 p0 r) (p0.length : Int)

/-- offcut nat.Of -/
def nat_Of (p0 : Int) (r : (List Int)) : Prop :=
  ∃ (x1 : List Int), nat_trim [(IntKind.u32.wrap p0), (IntKind.u32.wrap (Int.fdiv p0 (2 ^ (min (Int.toNat (32 : Int)) (IntKind.bits .u64)))))] x1 ∧
  r = x1

def nat_Small_L1 (x1 : List Int) (r : Int × Bool) (X1 : (Int × Int) → Prop) (s : Int × Int) : Prop := match s with
  | (s100, s101) =>
  IfB (decide (s100 ≥ (0 : Int)))
    (∃ (x3 : Int), Idx x1 s100 x3 ∧
    X1 ((IntKind.i64.wrap (s100 - 1)), (bitO .u64 (IntKind.u64.wrap (s101 * 2 ^ (min (Int.toNat (32 : Int)) (IntKind.bits .u64)))) (IntKind.u64.wrap x3))))
    (r = (s101, true))

/-- offcut nat.Small -/
def nat_Small (p0 : List Int) (r : Int × Bool) : Prop :=
  ∃ (x1 : List Int), nat_trim p0 x1 ∧
  IfB (decide ((x1.length : Int) > (2 : Int)))
    (r = (0, false))
    (LoopP (nat_Small_L1 x1 r) ((IntKind.i64.wrap ((x1.length : Int) - 1)), (0 : Int)))

def nat_Compare_L1 (x1 : List Int) (x3 : List Int) (r : Int) (X1 : Int → Prop) (s : Int) : Prop := match s with
  | s100 =>
  IfB (decide (s100 ≥ (0 : Int)))
    (∃ (x5 : Int), Idx x1 s100 x5 ∧
    ∃ (x7 : Int), Idx x3 s100 x7 ∧
    IfB (decide (x5 < x7))
      (r = (-1))
      (∃ (x9 : Int), Idx x3 s100 x9 ∧
      IfB (decide (x5 > x9))
        (r = 1)
        (X1 (IntKind.i64.wrap (s100 - 1)))))
    (r = 0)

/-- offcut nat.Compare -/
def nat_Compare (p0 : List Int) (p1 : List Int) (r : Int) : Prop :=
  ∃ (x1 : List Int), nat_trim p0 x1 ∧
  ∃ (x3 : List Int), nat_trim p1 x3 ∧
  IfB ((x1.length : Int) != (x3.length : Int))
    (r = (if (1 : Int) < (if (-1 : Int) > (IntKind.i64.wrap ((x1.length : Int) - (x3.length : Int))) then (-1) else (IntKind.i64.wrap ((x1.length : Int) - (x3.length : Int)))) then 1 else (if (-1 : Int) > (IntKind.i64.wrap ((x1.length : Int) - (x3.length : Int))) then (-1) else (IntKind.i64.wrap ((x1.length : Int) - (x3.length : Int))))))
    (LoopP (nat_Compare_L1 x1 x3 r) (IntKind.i64.wrap ((x1.length : Int) - 1)))

/-- offcut nat.at -/
def nat_at (p0 : List Int) (p1 : Int) (r : Int) : Prop :=
  IfB (decide (p1 < (p0.length : Int)))
    (∃ (x1 : Int), Idx p0 p1 x1 ∧
    r = (IntKind.u64.wrap x1))
    (r = 0)

def nat_Add_L1 (p0 : List Int) (p1 : List Int) (r : (List Int)) (X1 : (Int × Int × (List Int)) → Prop) (s : Int × Int × (List Int)) : Prop := match s with
  | (s100, s101, s150) =>
  IfB (decide (s101 < ((List.replicate (Int.toNat (IntKind.i64.wrap ((if (p1.length : Int) > (p0.length : Int) then (p1.length : Int) else (p0.length : Int)) + 1))) (0 : Int)).length : Int)))
    (∃ (x4 : Int), nat_at p0 s101 x4 ∧
    ∃ (x6 : Int), nat_at p1 s101 x6 ∧
    ∃ (x8 : Int), Idx s150 s101 x8 ∧
    X1 ((Int.fdiv (IntKind.u64.wrap (s100 + (IntKind.u64.wrap (x4 + x6)))) (2 ^ (min (Int.toNat (32 : Int)) (IntKind.bits .u64)))), (IntKind.i64.wrap (s101 + 1)), (s150.set (Int.toNat s101) (IntKind.u32.wrap (IntKind.u64.wrap (s100 + (IntKind.u64.wrap (x4 + x6))))))))
    (∃ (x10 : List Int), nat_trim s150 x10 ∧
    r = x10)

/-- offcut nat.Add -/
def nat_Add (p0 : List Int) (p1 : List Int) (r : (List Int)) : Prop :=
  (0 ≤ (IntKind.i64.wrap ((if (p1.length : Int) > (p0.length : Int) then (p1.length : Int) else (p0.length : Int)) + 1)) ∧ Fits (Int.toNat (IntKind.i64.wrap ((if (p1.length : Int) > (p0.length : Int) then (p1.length : Int) else (p0.length : Int)) + 1))) 4 ∧ Fits (Int.toNat (IntKind.i64.wrap ((if (p1.length : Int) > (p0.length : Int) then (p1.length : Int) else (p0.length : Int)) + 1))) 1) ∧
  LoopP (nat_Add_L1 p0 p1 r) ((0 : Int), (0 : Int), (List.replicate (Int.toNat (IntKind.i64.wrap ((if (p1.length : Int) > (p0.length : Int) then (p1.length : Int) else (p0.length : Int)) + 1))) (0 : Int)))

def nat_Sub_L1 (p0 : List Int) (p1 : List Int) (r : (List Int) × Bool) (X1 : (Int × Int × (List Int)) → Prop) (s : Int × Int × (List Int)) : Prop := match s with
  | (s100, s101, s150) =>
  IfB (decide (s101 < ((List.replicate (Int.toNat (p0.length : Int)) (0 : Int)).length : Int)))
    (∃ (x6 : Int), nat_at p0 s101 x6 ∧
    ∃ (x8 : Int), nat_at p1 s101 x8 ∧
    ∃ (x10 : Int), Idx s150 s101 x10 ∧
    X1 ((Int.fdiv (IntKind.u64.wrap ((IntKind.u64.wrap (x6 - x8)) - s100)) (2 ^ (min (Int.toNat (63 : Int)) (IntKind.bits .u64)))), (IntKind.i64.wrap (s101 + 1)), (s150.set (Int.toNat s101) (IntKind.u32.wrap (IntKind.u64.wrap ((IntKind.u64.wrap (x6 - x8)) - s100))))))
    (∃ (x12 : List Int), nat_trim s150 x12 ∧
    r = (x12, true))

/-- offcut nat.Sub -/
def nat_Sub (p0 : List Int) (p1 : List Int) (r : (List Int) × Bool) : Prop :=
  ∃ (x1 : Int), nat_Compare p0 p1 x1 ∧
  IfB (decide (x1 < (0 : Int)))
    (r = (([] : List Int), false))
    ((0 ≤ (p0.length : Int) ∧ Fits (Int.toNat (p0.length : Int)) 4 ∧ Fits (Int.toNat (p0.length : Int)) 1) ∧
    LoopP (nat_Sub_L1 p0 p1 r) ((0 : Int), (0 : Int), (List.replicate (Int.toNat (p0.length : Int)) (0 : Int))))

def nat_Mul_L2 (p1 : List Int) (s100 : Int) (X1 : (Int × (List Int)) → Prop) (x4 : Int) (X2 : (Int × Int × (List Int)) → Prop) (s : Int × Int × (List Int)) : Prop := match s with
  | (s200, s201, s250) =>
  IfB (decide (s201 < (p1.length : Int)))
    (∃ (x6 : Int), Idx p1 s201 x6 ∧
    ∃ (x8 : Int), Idx s250 (IntKind.i64.wrap (s100 + s201)) x8 ∧
    ∃ (x10 : Int), Idx s250 (IntKind.i64.wrap (s100 + s201)) x10 ∧
    X2 ((Int.fdiv (IntKind.u64.wrap (s200 + (IntKind.u64.wrap ((IntKind.u64.wrap ((IntKind.u64.wrap x4) * (IntKind.u64.wrap x6))) + (IntKind.u64.wrap x8))))) (2 ^ (min (Int.toNat (32 : Int)) (IntKind.bits .u64)))), (IntKind.i64.wrap (s201 + 1)), (s250.set (Int.toNat (IntKind.i64.wrap (s100 + s201))) (IntKind.u32.wrap (IntKind.u64.wrap (s200 + (IntKind.u64.wrap ((IntKind.u64.wrap ((IntKind.u64.wrap x4) * (IntKind.u64.wrap x6))) + (IntKind.u64.wrap x8)))))))))
    (∃ (x12 : Int), Idx s250 (IntKind.i64.wrap (s100 + (p1.length : Int))) x12 ∧
    X1 ((IntKind.i64.wrap (s100 + 1)), (s250.set (Int.toNat (IntKind.i64.wrap (s100 + (p1.length : Int)))) (IntKind.u32.wrap s200))))

def nat_Mul_L1 (p0 : List Int) (p1 : List Int) (r : (List Int)) (X1 : (Int × (List Int)) → Prop) (s : Int × (List Int)) : Prop := match s with
  | (s100, s150) =>
  IfB (decide (s100 < (p0.length : Int)))
    (∃ (x4 : Int), Idx p0 s100 x4 ∧
    LoopP (nat_Mul_L2 p1 s100 X1 x4) ((0 : Int), (0 : Int), s150))
    (∃ (x14 : List Int), nat_trim s150 x14 ∧
    r = x14)

/-- offcut nat.Mul -/
def nat_Mul (p0 : List Int) (p1 : List Int) (r : (List Int)) : Prop :=
  (0 ≤ (IntKind.i64.wrap ((p0.length : Int) + (p1.length : Int))) ∧ Fits (Int.toNat (IntKind.i64.wrap ((p0.length : Int) + (p1.length : Int)))) 4 ∧ Fits (Int.toNat (IntKind.i64.wrap ((p0.length : Int) + (p1.length : Int)))) 1) ∧
  LoopP (nat_Mul_L1 p0 p1 r) ((0 : Int), (List.replicate (Int.toNat (IntKind.i64.wrap ((p0.length : Int) + (p1.length : Int)))) (0 : Int)))

/-- offcut nat.Bits -/
def nat_Bits (p0 : List Int) (r : Int) : Prop :=
  ∃ (x1 : List Int), nat_trim p0 x1 ∧
  IfB ((x1.length : Int) == (0 : Int))
    (r = 0)
    (∃ (x3 : Int), Idx x1 (IntKind.i64.wrap ((x1.length : Int) - 1)) x3 ∧
    ∃ (x5 : Int), math_bits_Len32 x3 x5 ∧
    r = (IntKind.i64.wrap ((IntKind.i64.wrap (32 * (IntKind.i64.wrap ((x1.length : Int) - 1)))) + x5)))

def nat_Shift_L1 (p0 : List Int) (p1 : Int) (r : (List Int)) (X1 : (Int × (List Int)) → Prop) (s : Int × (List Int)) : Prop := match s with
  | (s100, s150) =>
  IfB (decide (s100 < (p0.length : Int)))
    (∃ (x8 : Int), Idx p0 s100 x8 ∧
    0 ≤ (Int.tmod p1 (32 : Int)) ∧
    ∃ (x11 : Int), Idx s150 (IntKind.i64.wrap (s100 + (IntKind.i64.wrap (Int.tdiv p1 (32 : Int))))) x11 ∧
    ∃ (x13 : Int), Idx s150 (IntKind.i64.wrap (s100 + (IntKind.i64.wrap (Int.tdiv p1 (32 : Int))))) x13 ∧
    ∃ (x15 : Int), Idx (s150.set (Int.toNat (IntKind.i64.wrap (s100 + (IntKind.i64.wrap (Int.tdiv p1 (32 : Int)))))) (bitO .u32 x11 (IntKind.u32.wrap (IntKind.u64.wrap ((IntKind.u64.wrap x8) * 2 ^ (min (Int.toNat (Int.tmod p1 (32 : Int))) (IntKind.bits .u64))))))) (IntKind.i64.wrap ((IntKind.i64.wrap (s100 + (IntKind.i64.wrap (Int.tdiv p1 (32 : Int))))) + 1)) x15 ∧
    ∃ (x17 : Int), Idx (s150.set (Int.toNat (IntKind.i64.wrap (s100 + (IntKind.i64.wrap (Int.tdiv p1 (32 : Int)))))) (bitO .u32 x11 (IntKind.u32.wrap (IntKind.u64.wrap ((IntKind.u64.wrap x8) * 2 ^ (min (Int.toNat (Int.tmod p1 (32 : Int))) (IntKind.bits .u64))))))) (IntKind.i64.wrap ((IntKind.i64.wrap (s100 + (IntKind.i64.wrap (Int.tdiv p1 (32 : Int))))) + 1)) x17 ∧
    X1 ((IntKind.i64.wrap (s100 + 1)), ((s150.set (Int.toNat (IntKind.i64.wrap (s100 + (IntKind.i64.wrap (Int.tdiv p1 (32 : Int)))))) (bitO .u32 x11 (IntKind.u32.wrap (IntKind.u64.wrap ((IntKind.u64.wrap x8) * 2 ^ (min (Int.toNat (Int.tmod p1 (32 : Int))) (IntKind.bits .u64))))))).set (Int.toNat (IntKind.i64.wrap ((IntKind.i64.wrap (s100 + (IntKind.i64.wrap (Int.tdiv p1 (32 : Int))))) + 1))) (bitO .u32 x15 (IntKind.u32.wrap (Int.fdiv (IntKind.u64.wrap ((IntKind.u64.wrap x8) * 2 ^ (min (Int.toNat (Int.tmod p1 (32 : Int))) (IntKind.bits .u64)))) (2 ^ (min (Int.toNat (32 : Int)) (IntKind.bits .u64)))))))))
    (∃ (x19 : List Int), nat_trim s150 x19 ∧
    r = x19)

/-- offcut nat.Shift -/
def nat_Shift (p0 : List Int) (p1 : Int) (r : (List Int)) : Prop :=
  IfB (decide (p1 < (0 : Int)))
    (∃ (x1 : List Int), nat_trim p0 x1 ∧
    r = x1)
    (IfB (decide (p1 > (65536 : Int)))
      (∃ (x3 : List Int), nat_trim p0 x3 ∧
      r = x3)
      ((0 ≤ (IntKind.i64.wrap ((IntKind.i64.wrap ((p0.length : Int) + (IntKind.i64.wrap (Int.tdiv p1 (32 : Int))))) + 1)) ∧ Fits (Int.toNat (IntKind.i64.wrap ((IntKind.i64.wrap ((p0.length : Int) + (IntKind.i64.wrap (Int.tdiv p1 (32 : Int))))) + 1))) 4 ∧ Fits (Int.toNat (IntKind.i64.wrap ((IntKind.i64.wrap ((p0.length : Int) + (IntKind.i64.wrap (Int.tdiv p1 (32 : Int))))) + 1))) 1) ∧
      LoopP (nat_Shift_L1 p0 p1 r) ((0 : Int), (List.replicate (Int.toNat (IntKind.i64.wrap ((IntKind.i64.wrap ((p0.length : Int) + (IntKind.i64.wrap (Int.tdiv p1 (32 : Int))))) + 1))) (0 : Int)))))

def nat_digit_L1 (p1 : List Int) (r : Int × (List Int)) (X1 : ((List Int) × Int × Int) → Prop) (s : (List Int) × Int × Int) : Prop := match s with
  | (s100, s101, s102) =>
  IfB (decide (s102 ≥ (0 : Int)))
    (∃ (x1 : List Int), nat_Shift p1 s102 x1 ∧
    ∃ (x3 : List Int) (x4 : Bool), nat_Sub s100 x1 (x3, x4) ∧
    IfB x4
      (0 ≤ s102 ∧
      X1 (x3, (bitO .u32 s101 (IntKind.u32.wrap ((1 : Int) * 2 ^ (min (Int.toNat s102) (IntKind.bits .u32))))), (IntKind.i64.wrap (s102 - 1))))
      (X1 (s100, s101, (IntKind.i64.wrap (s102 - 1)))))
    (r = (s101, s100))

/-- offcut nat.digit -/
def nat_digit (p0 : List Int) (p1 : List Int) (r : Int × (List Int)) : Prop :=
  LoopP (nat_digit_L1 p1 r) (p0, (0 : Int), (31 : Int))

def nat_DivMod_L1 (x1 : List Int) (x3 : List Int) (r : (List Int) × (List Int) × Int) (X1 : (Int × (List Int) × (List Int)) → Prop) (s : Int × (List Int) × (List Int)) : Prop := match s with
  | (s100, s101, s151) =>
  IfB (decide (s100 ≥ (0 : Int)))
    (∃ (x8 : Int), Idx x1 s100 x8 ∧
    IfB s101.isEmpty
      (∃ (x11 : List Int), nat_trim [x8] x11 ∧
      IfB ((x3.length : Int) == (1 : Int))
        (∃ (x13 : Int) (x14 : Bool), nat_Small x11 (x13, x14) ∧
        IfB x14
          (∃ (x16 : Int), Idx x3 (0 : Int) x16 ∧
          (IntKind.u64.wrap x16) ≠ 0 ∧
          ∃ (x19 : Int), Idx s151 s100 x19 ∧
          ∃ (x21 : Int), Idx x3 (0 : Int) x21 ∧
          (IntKind.u64.wrap x21) ≠ 0 ∧
          ∃ (x24 : List Int), nat_Of (Int.tmod x13 (IntKind.u64.wrap x21)) x24 ∧
          X1 ((IntKind.i64.wrap (s100 - 1)), x24, (s151.set (Int.toNat s100) (IntKind.u32.wrap (IntKind.u64.wrap (Int.tdiv x13 (IntKind.u64.wrap x16)))))))
          (∃ (x26 : Int), Idx x3 (0 : Int) x26 ∧
          (IntKind.u64.wrap x26) ≠ 0 ∧
          ∃ (x29 : Int), Idx s151 s100 x29 ∧
          ∃ (x31 : Int), Idx x3 (0 : Int) x31 ∧
          (IntKind.u64.wrap x31) ≠ 0 ∧
          ∃ (x34 : List Int), nat_Of (Int.tmod x13 (IntKind.u64.wrap x31)) x34 ∧
          X1 ((IntKind.i64.wrap (s100 - 1)), x34, (s151.set (Int.toNat s100) (IntKind.u32.wrap (IntKind.u64.wrap (Int.tdiv x13 (IntKind.u64.wrap x26))))))))
        (∃ (x36 : Int) (x37 : List Int), nat_digit x11 x3 (x36, x37) ∧
        ∃ (x39 : Int), Idx s151 s100 x39 ∧
        X1 ((IntKind.i64.wrap (s100 - 1)), x37, (s151.set (Int.toNat s100) x36))))
      (Fits ([x8].length + s101.length) 4 ∧
      ∃ (x42 : List Int), nat_trim ([x8] ++ s101) x42 ∧
      IfB ((x3.length : Int) == (1 : Int))
        (∃ (x44 : Int) (x45 : Bool), nat_Small x42 (x44, x45) ∧
        IfB x45
          (∃ (x47 : Int), Idx x3 (0 : Int) x47 ∧
          (IntKind.u64.wrap x47) ≠ 0 ∧
          ∃ (x50 : Int), Idx s151 s100 x50 ∧
          ∃ (x52 : Int), Idx x3 (0 : Int) x52 ∧
          (IntKind.u64.wrap x52) ≠ 0 ∧
          ∃ (x55 : List Int), nat_Of (Int.tmod x44 (IntKind.u64.wrap x52)) x55 ∧
          X1 ((IntKind.i64.wrap (s100 - 1)), x55, (s151.set (Int.toNat s100) (IntKind.u32.wrap (IntKind.u64.wrap (Int.tdiv x44 (IntKind.u64.wrap x47)))))))
          (∃ (x57 : Int), Idx x3 (0 : Int) x57 ∧
          (IntKind.u64.wrap x57) ≠ 0 ∧
          ∃ (x60 : Int), Idx s151 s100 x60 ∧
          ∃ (x62 : Int), Idx x3 (0 : Int) x62 ∧
          (IntKind.u64.wrap x62) ≠ 0 ∧
          ∃ (x65 : List Int), nat_Of (Int.tmod x44 (IntKind.u64.wrap x62)) x65 ∧
          X1 ((IntKind.i64.wrap (s100 - 1)), x65, (s151.set (Int.toNat s100) (IntKind.u32.wrap (IntKind.u64.wrap (Int.tdiv x44 (IntKind.u64.wrap x57))))))))
        (∃ (x67 : Int) (x68 : List Int), nat_digit x42 x3 (x67, x68) ∧
        ∃ (x70 : Int), Idx s151 s100 x70 ∧
        X1 ((IntKind.i64.wrap (s100 - 1)), x68, (s151.set (Int.toNat s100) x67)))))
    (∃ (x72 : List Int), nat_trim s151 x72 ∧
    r = (x72, s101, 0))

/-- offcut nat.DivMod -/
def nat_DivMod (p0 : List Int) (p1 : List Int) (r : (List Int) × (List Int) × Int) : Prop :=
  ∃ (x1 : List Int), nat_trim p0 x1 ∧
  ∃ (x3 : List Int), nat_trim p1 x3 ∧
  IfB ((x3.length : Int) == (0 : Int))
    (r = (([] : List Int), ([] : List Int), 5))
    ((0 ≤ (x1.length : Int) ∧ Fits (Int.toNat (x1.length : Int)) 4 ∧ Fits (Int.toNat (x1.length : Int)) 1) ∧
    LoopP (nat_DivMod_L1 x1 x3 r) ((IntKind.i64.wrap ((x1.length : Int) - 1)), ([] : List Int), (List.replicate (Int.toNat (x1.length : Int)) (0 : Int))))

def nat_Gcd_L1 (r : (List Int)) (X1 : ((List Int) × (List Int)) → Prop) (s : (List Int) × (List Int)) : Prop := match s with
  | (s100, s101) =>
  IfB (decide ((s101.length : Int) > (0 : Int)))
    (∃ (x5 : List Int) (x6 : List Int) (x7 : Int), nat_DivMod s100 s101 (x5, x6, x7) ∧
    X1 (s101, x6))
    (r = s100)

/-- offcut nat.Gcd -/
def nat_Gcd (p0 : List Int) (p1 : List Int) (r : (List Int)) : Prop :=
  ∃ (x1 : List Int), nat_trim p0 x1 ∧
  ∃ (x3 : List Int), nat_trim p1 x3 ∧
  LoopP (nat_Gcd_L1 r) (x1, x3)

def nat_Text_L2 (X1 : ((List Int) × (List Int)) → Prop) (x5 : List Int) (X2 : (Int × Int × (List Int)) → Prop) (s : Int × Int × (List Int)) : Prop := match s with
  | (s200, s201, s250) =>
  IfB (decide (s201 < (9 : Int)))
    (Fits (s250.length + [(IntKind.u8.wrap (IntKind.u64.wrap (48 + (Int.tmod s200 (10 : Int)))))].length) 1 ∧
    X2 ((IntKind.u64.wrap (Int.tdiv s200 (10 : Int))), (IntKind.i64.wrap (s201 + 1)), (s250 ++ [(IntKind.u8.wrap (IntKind.u64.wrap (48 + (Int.tmod s200 (10 : Int)))))])))
    (X1 (x5, s250))

def nat_Text_L3 (X1 : ((List Int) × (List Int)) → Prop) (x5 : List Int) (X3 : (Int × Int × (List Int)) → Prop) (s : Int × Int × (List Int)) : Prop := match s with
  | (s300, s301, s350) =>
  IfB (decide (s301 < (9 : Int)))
    (Fits (s350.length + [(IntKind.u8.wrap (IntKind.u64.wrap (48 + (Int.tmod s300 (10 : Int)))))].length) 1 ∧
    X3 ((IntKind.u64.wrap (Int.tdiv s300 (10 : Int))), (IntKind.i64.wrap (s301 + 1)), (s350 ++ [(IntKind.u8.wrap (IntKind.u64.wrap (48 + (Int.tmod s300 (10 : Int)))))])))
    (X1 (x5, s350))

def nat_Text_L5 (r : (List UInt8)) (X5 : (Int × Int × (List Int)) → Prop) (s : Int × Int × (List Int)) : Prop := match s with
  | (s500, s501, s550) =>
  IfB (decide (s500 < s501))
    (∃ (x17 : Int), Idx s550 s501 x17 ∧
    ∃ (x19 : Int), Idx s550 s500 x19 ∧
    ∃ (x21 : Int), Idx s550 s500 x21 ∧
    ∃ (x23 : Int), Idx (s550.set (Int.toNat s500) x17) s501 x23 ∧
    X5 ((IntKind.i64.wrap (s500 + 1)), (IntKind.i64.wrap (s501 - 1)), ((s550.set (Int.toNat s500) x17).set (Int.toNat s501) x19)))
    (r = (byteS s550))

def nat_Text_L6 (r : (List UInt8)) (X6 : (Int × Int × (List Int)) → Prop) (s : Int × Int × (List Int)) : Prop := match s with
  | (s600, s601, s650) =>
  IfB (decide (s600 < s601))
    (∃ (x25 : Int), Idx s650 s601 x25 ∧
    ∃ (x27 : Int), Idx s650 s600 x27 ∧
    ∃ (x29 : Int), Idx s650 s600 x29 ∧
    ∃ (x31 : Int), Idx (s650.set (Int.toNat s600) x25) s601 x31 ∧
    X6 ((IntKind.i64.wrap (s600 + 1)), (IntKind.i64.wrap (s601 - 1)), ((s650.set (Int.toNat s600) x25).set (Int.toNat s601) x27)))
    (r = (byteS s650))

def nat_Text_L4 (r : (List UInt8)) (X4 : ((List Int)) → Prop) (s : (List Int)) : Prop := match s with
  | s450 =>
  IfB (decide ((s450.length : Int) > (1 : Int)))
    (∃ (x14 : Int), Idx s450 (IntKind.i64.wrap ((s450.length : Int) - 1)) x14 ∧
    IfB (x14 == (48 : Int))
      ((0 < (IntKind.i64.wrap ((s450.length : Int) - 1)) ∧ (IntKind.i64.wrap ((s450.length : Int) - 1)) ≤ (s450.length : Int)) ∧
      X4 (s450.take (Int.toNat (IntKind.i64.wrap ((s450.length : Int) - 1)))))
      (IfB ((s450.length : Int) == (0 : Int))
        (r = ([48] : List UInt8))
        (LoopP (nat_Text_L5 r) ((0 : Int), (IntKind.i64.wrap ((s450.length : Int) - 1)), s450))))
    (IfB ((s450.length : Int) == (0 : Int))
      (r = ([48] : List UInt8))
      (LoopP (nat_Text_L6 r) ((0 : Int), (IntKind.i64.wrap ((s450.length : Int) - 1)), s450)))

def nat_Text_L1 (r : (List UInt8)) (X1 : ((List Int) × (List Int)) → Prop) (s : (List Int) × (List Int)) : Prop := match s with
  | (s100, s150) =>
  IfB (decide ((s100.length : Int) > (0 : Int)))
    (∃ (x3 : List Int), nat_Of (1000000000 : Int) x3 ∧
    ∃ (x5 : List Int) (x6 : List Int) (x7 : Int), nat_DivMod s100 x3 (x5, x6, x7) ∧
    ∃ (x9 : Int) (x10 : Bool), nat_Small x6 (x9, x10) ∧
    IfB x10
      (LoopP (nat_Text_L2 X1 x5) (x9, (0 : Int), s150))
      (LoopP (nat_Text_L3 X1 x5) (x9, (0 : Int), s150)))
    (LoopP (nat_Text_L4 r) s150)

/-- offcut nat.Text -/
def nat_Text (p0 : List Int) (r : (List UInt8)) : Prop :=
  ∃ (x1 : List Int), nat_trim p0 x1 ∧
  LoopP (nat_Text_L1 r) (x1, ([] : List Int))

/-- offcut nat.Parse 1 -/
def nat_Parse_1 (p0 : Int) (r : Bool) : Prop :=
  IfB (decide (p0 ≥ (48 : Int)))
    (IfB (decide (p0 ≤ (57 : Int)))
      (r = true)
      (r = false))
    (r = false)

def nat_Parse_L1 (p0 : List UInt8) (r : (List Int) × Int) (X1 : ((List Int) × Int) → Prop) (s : (List Int) × Int) : Prop := match s with
  | (s100, s101) =>
  IfB (decide (s101 < (p0.length : Int)))
    (∃ (c1 : UInt8), Idx p0 s101 c1 ∧
    ∃ (x3 : Bool), nat_Parse_1 ((c1.toNat : Nat) : Int) x3 ∧
    IfB x3
      (IfB (decide (s101 < (400 : Int)))
        (∃ (x5 : List Int), nat_Of (10 : Int) x5 ∧
        ∃ (x7 : List Int), nat_Mul s100 x5 x7 ∧
        ∃ (c9 : UInt8), Idx p0 s101 c9 ∧
        ∃ (x11 : List Int), nat_Of (IntKind.u64.wrap (IntKind.u8.wrap (((c9.toNat : Nat) : Int) - 48))) x11 ∧
        ∃ (x13 : List Int), nat_Add x7 x11 x13 ∧
        X1 (x13, (IntKind.i64.wrap (s101 + 1))))
        (X1 (s100, (IntKind.i64.wrap (s101 + 1)))))
      (r = (([] : List Int), 2)))
    (IfB (p0 == ([] : List UInt8))
      (r = (([] : List Int), 2))
      (IfB (decide ((p0.length : Int) > (400 : Int)))
        (r = (([] : List Int), 4))
        (r = (s100, 0))))

/-- offcut nat.Parse -/
def nat_Parse (p0 : List UInt8) (r : (List Int) × Int) : Prop :=
  LoopP (nat_Parse_L1 p0 r) (([] : List Int), (0 : Int))

/-- offcut whole.Make -/
def whole_Make (p0 : Bool) (p1 : List Int) (r : Bool × (List Int)) : Prop :=
  IfB p0
    (∃ (x1 : List Int), nat_Shift p1 (0 : Int) x1 ∧
    IfB (decide ((x1.length : Int) > (0 : Int)))
      (r = (true, x1))
      (r = (false, x1)))
    (∃ (x3 : List Int), nat_Shift p1 (0 : Int) x3 ∧
    r = (false, x3))

/-- offcut whole.Of -/
def whole_Of (p0 : Int) (r : Bool × (List Int)) : Prop :=
  IfB (decide (p0 < (0 : Int)))
    (∃ (x1 : List Int), nat_Of (IntKind.u64.wrap (if (IntKind.i64.wrap (0 - p0)) > p0 then (IntKind.i64.wrap (0 - p0)) else p0)) x1 ∧
    ∃ (x3 : Bool) (x4 : List Int), whole_Make true x1 (x3, x4) ∧
    r = (x3, x4))
    (∃ (x6 : List Int), nat_Of (IntKind.u64.wrap (if (IntKind.i64.wrap (0 - p0)) > p0 then (IntKind.i64.wrap (0 - p0)) else p0)) x6 ∧
    ∃ (x8 : Bool) (x9 : List Int), whole_Make false x6 (x8, x9) ∧
    r = (x8, x9))

/-- offcut whole.Sign -/
def whole_Sign (p0 : Bool) (p1 : List Int) (r : Int) : Prop :=
  ∃ (x1 : Bool) (x2 : List Int), whole_Make p0 p1 (x1, x2) ∧
  IfB x1
    (IfB ((x2.length : Int) == (0 : Int))
      (r = 0)
      (r = (-1)))
    (IfB ((x2.length : Int) == (0 : Int))
      (r = 0)
      (r = 1))

/-- offcut whole.Compare -/
def whole_Compare (p0 : Bool) (p1 : List Int) (p2 : Bool) (p3 : List Int) (r : Int) : Prop :=
  ∃ (x1 : Int), whole_Sign p0 p1 x1 ∧
  ∃ (x3 : Int), whole_Sign p2 p3 x3 ∧
  IfB (x1 != x3)
    (r = (if (1 : Int) < (if (-1 : Int) > (IntKind.i64.wrap (x1 - x3)) then (-1) else (IntKind.i64.wrap (x1 - x3))) then 1 else (if (-1 : Int) > (IntKind.i64.wrap (x1 - x3)) then (-1) else (IntKind.i64.wrap (x1 - x3)))))
    (IfB (decide (x1 < (0 : Int)))
      (∃ (x5 : Int), nat_Compare p3 p1 x5 ∧
      r = x5)
      (∃ (x7 : Int), nat_Compare p1 p3 x7 ∧
      r = x7))

/-- offcut whole.Add -/
def whole_Add (p0 : Bool) (p1 : List Int) (p2 : Bool) (p3 : List Int) (r : Bool × (List Int)) : Prop :=
  ∃ (x1 : Int), whole_Sign p0 p1 x1 ∧
  IfB (decide (x1 < (0 : Int)))
    (∃ (x3 : Int), whole_Sign p2 p3 x3 ∧
    IfB (decide (x3 < (0 : Int)))
      (∃ (x5 : Int), whole_Sign p0 p1 x5 ∧
      IfB (decide (x5 < (0 : Int)))
        (∃ (x7 : List Int), nat_Add p1 p3 x7 ∧
        ∃ (x9 : Bool) (x10 : List Int), whole_Make true x7 (x9, x10) ∧
        r = (x9, x10))
        (∃ (x12 : List Int), nat_Add p1 p3 x12 ∧
        ∃ (x14 : Bool) (x15 : List Int), whole_Make false x12 (x14, x15) ∧
        r = (x14, x15)))
      (∃ (x17 : List Int) (x18 : Bool), nat_Sub p1 p3 (x17, x18) ∧
      IfB x18
        (∃ (x20 : Int), whole_Sign p0 p1 x20 ∧
        IfB (decide (x20 < (0 : Int)))
          (∃ (x22 : Bool) (x23 : List Int), whole_Make true x17 (x22, x23) ∧
          r = (x22, x23))
          (∃ (x25 : Bool) (x26 : List Int), whole_Make false x17 (x25, x26) ∧
          r = (x25, x26)))
        (∃ (x28 : List Int) (x29 : Bool), nat_Sub p3 p1 (x28, x29) ∧
        IfB x29
          (∃ (x31 : Int), whole_Sign p2 p3 x31 ∧
          IfB (decide (x31 < (0 : Int)))
            (∃ (x33 : Bool) (x34 : List Int), whole_Make true x28 (x33, x34) ∧
            r = (x33, x34))
            (∃ (x36 : Bool) (x37 : List Int), whole_Make false x28 (x36, x37) ∧
            r = (x36, x37)))
          (∃ (x39 : Int), whole_Sign p2 p3 x39 ∧
          IfB (decide (x39 < (0 : Int)))
            (∃ (x41 : Bool) (x42 : List Int), whole_Make true x28 (x41, x42) ∧
            r = (x41, x42))
            (∃ (x44 : Bool) (x45 : List Int), whole_Make false x28 (x44, x45) ∧
            r = (x44, x45))))))
    (∃ (x47 : Int), whole_Sign p2 p3 x47 ∧
    IfB (decide (x47 < (0 : Int)))
      (∃ (x49 : List Int) (x50 : Bool), nat_Sub p1 p3 (x49, x50) ∧
      IfB x50
        (∃ (x52 : Int), whole_Sign p0 p1 x52 ∧
        IfB (decide (x52 < (0 : Int)))
          (∃ (x54 : Bool) (x55 : List Int), whole_Make true x49 (x54, x55) ∧
          r = (x54, x55))
          (∃ (x57 : Bool) (x58 : List Int), whole_Make false x49 (x57, x58) ∧
          r = (x57, x58)))
        (∃ (x60 : List Int) (x61 : Bool), nat_Sub p3 p1 (x60, x61) ∧
        IfB x61
          (∃ (x63 : Int), whole_Sign p2 p3 x63 ∧
          IfB (decide (x63 < (0 : Int)))
            (∃ (x65 : Bool) (x66 : List Int), whole_Make true x60 (x65, x66) ∧
            r = (x65, x66))
            (∃ (x68 : Bool) (x69 : List Int), whole_Make false x60 (x68, x69) ∧
            r = (x68, x69)))
          (∃ (x71 : Int), whole_Sign p2 p3 x71 ∧
          IfB (decide (x71 < (0 : Int)))
            (∃ (x73 : Bool) (x74 : List Int), whole_Make true x60 (x73, x74) ∧
            r = (x73, x74))
            (∃ (x76 : Bool) (x77 : List Int), whole_Make false x60 (x76, x77) ∧
            r = (x76, x77)))))
      (∃ (x79 : Int), whole_Sign p0 p1 x79 ∧
      IfB (decide (x79 < (0 : Int)))
        (∃ (x81 : List Int), nat_Add p1 p3 x81 ∧
        ∃ (x83 : Bool) (x84 : List Int), whole_Make true x81 (x83, x84) ∧
        r = (x83, x84))
        (∃ (x86 : List Int), nat_Add p1 p3 x86 ∧
        ∃ (x88 : Bool) (x89 : List Int), whole_Make false x86 (x88, x89) ∧
        r = (x88, x89))))

/-- offcut whole.Mul -/
def whole_Mul (p0 : Bool) (p1 : List Int) (p2 : Bool) (p3 : List Int) (r : Bool × (List Int)) : Prop :=
  ∃ (x1 : Int), whole_Sign p0 p1 x1 ∧
  ∃ (x3 : Int), whole_Sign p2 p3 x3 ∧
  IfB (decide ((IntKind.i64.wrap (x1 * x3)) < (0 : Int)))
    (∃ (x5 : List Int), nat_Mul p1 p3 x5 ∧
    ∃ (x7 : Bool) (x8 : List Int), whole_Make true x5 (x7, x8) ∧
    r = (x7, x8))
    (∃ (x10 : List Int), nat_Mul p1 p3 x10 ∧
    ∃ (x12 : Bool) (x13 : List Int), whole_Make false x10 (x12, x13) ∧
    r = (x12, x13))

/-- offcut whole.Text -/
def whole_Text (p0 : Bool) (p1 : List Int) (r : (List UInt8)) : Prop :=
  ∃ (x1 : Int), whole_Sign p0 p1 x1 ∧
  IfB (decide (x1 < (0 : Int)))
    (∃ (x3 : List UInt8), nat_Text p1 x3 ∧
    Fits (([45] : List UInt8).length + x3.length) 1 ∧
    r = (([45] : List UInt8) ++ x3))
    (∃ (x6 : List UInt8), nat_Text p1 x6 ∧
    r = x6)

/-- offcut whole.Parse -/
def whole_Parse (p0 : List UInt8) (r : Bool × (List Int) × Int) : Prop :=
  ∃ (x1 : List UInt8) (x2 : Bool), strings_CutPrefix p0 ([45] : List UInt8) (x1, x2) ∧
  IfB x2
    (∃ (x4 : List Int) (x5 : Int), nat_Parse x1 (x4, x5) ∧
    IfB (x5 != (0 : Int))
      (r = (false, ([] : List Int), x5))
      (∃ (x7 : Bool) (x8 : List Int), whole_Make true x4 (x7, x8) ∧
      r = (x7, x8, 0)))
    (∃ (x10 : List Int) (x11 : Int), nat_Parse x1 (x10, x11) ∧
    IfB (x11 != (0 : Int))
      (r = (false, ([] : List Int), x11))
      (∃ (x13 : Bool) (x14 : List Int), whole_Make false x10 (x13, x14) ∧
      r = (x13, x14, 0)))

/-- offcut rat.den -/
def rat_den (p0 : Bool) (p1 : List Int) (p2 : List Int) (r : (List Int)) : Prop :=
  ∃ (x1 : Int), nat_Bits p2 x1 ∧
  IfB (x1 == (0 : Int))
    (∃ (x3 : List Int), nat_Of (1 : Int) x3 ∧
    r = x3)
    (r = p2)

/-- offcut rat.Make -/
def rat_Make (p0 : Bool) (p1 : List Int) (p2 : List Int) (r : Bool × (List Int) × (List Int)) : Prop :=
  ∃ (x1 : List Int), rat_den false ([] : List Int) p2 x1 ∧
  ∃ (x3 : List Int), nat_Gcd p1 x1 x3 ∧
  ∃ (x5 : List Int) (x6 : List Int) (x7 : Int), nat_DivMod p1 x3 (x5, x6, x7) ∧
  ∃ (x9 : List Int) (x10 : List Int) (x11 : Int), nat_DivMod x1 x3 (x9, x10, x11) ∧
  ∃ (x13 : Bool) (x14 : List Int), whole_Make p0 x5 (x13, x14) ∧
  r = (x13, x14, x9)

/-- offcut rat.Int -/
def rat_Int (p0 : Int) (r : Bool × (List Int) × (List Int)) : Prop :=
  ∃ (x1 : Bool) (x2 : List Int), whole_Of p0 (x1, x2) ∧
  ∃ (x4 : List Int), nat_Of (1 : Int) x4 ∧
  ∃ (x6 : Bool) (x7 : List Int) (x8 : List Int), rat_Make x1 x2 x4 (x6, x7, x8) ∧
  r = (x6, x7, x8)

/-- offcut rat.Sign -/
def rat_Sign (p0 : Bool) (p1 : List Int) (p2 : List Int) (r : Int) : Prop :=
  ∃ (x1 : Int), whole_Sign p0 p1 x1 ∧
  r = x1

/-- offcut rat.over -/
def rat_over (p0 : Bool) (p1 : List Int) (p2 : List Int) (p3 : Bool) (p4 : List Int) (p5 : List Int) (r : Bool × (List Int)) : Prop :=
  ∃ (x1 : List Int), rat_den p3 p4 p5 x1 ∧
  ∃ (x3 : Bool) (x4 : List Int), whole_Make false x1 (x3, x4) ∧
  ∃ (x6 : Bool) (x7 : List Int), whole_Mul p0 p1 x3 x4 (x6, x7) ∧
  r = (x6, x7)

/-- offcut rat.Compare -/
def rat_Compare (p0 : Bool) (p1 : List Int) (p2 : List Int) (p3 : Bool) (p4 : List Int) (p5 : List Int) (r : Int) : Prop :=
  ∃ (x1 : Bool) (x2 : List Int), rat_over p0 p1 p2 p3 p4 p5 (x1, x2) ∧
  ∃ (x4 : Bool) (x5 : List Int), rat_over p3 p4 p5 p0 p1 p2 (x4, x5) ∧
  ∃ (x7 : Int), whole_Compare x1 x2 x4 x5 x7 ∧
  r = x7

/-- offcut rat.Add -/
def rat_Add (p0 : Bool) (p1 : List Int) (p2 : List Int) (p3 : Bool) (p4 : List Int) (p5 : List Int) (r : Bool × (List Int) × (List Int)) : Prop :=
  ∃ (x1 : Bool) (x2 : List Int), rat_over p0 p1 p2 p3 p4 p5 (x1, x2) ∧
  ∃ (x4 : Bool) (x5 : List Int), rat_over p3 p4 p5 p0 p1 p2 (x4, x5) ∧
  ∃ (x7 : Bool) (x8 : List Int), whole_Add x1 x2 x4 x5 (x7, x8) ∧
  ∃ (x10 : List Int), rat_den p0 p1 p2 x10 ∧
  ∃ (x12 : List Int), rat_den p3 p4 p5 x12 ∧
  ∃ (x14 : List Int), nat_Mul x10 x12 x14 ∧
  ∃ (x16 : Bool) (x17 : List Int) (x18 : List Int), rat_Make x7 x8 x14 (x16, x17, x18) ∧
  r = (x16, x17, x18)

/-- offcut rat.Mul -/
def rat_Mul (p0 : Bool) (p1 : List Int) (p2 : List Int) (p3 : Bool) (p4 : List Int) (p5 : List Int) (r : Bool × (List Int) × (List Int)) : Prop :=
  ∃ (x1 : Bool) (x2 : List Int), whole_Mul p0 p1 p3 p4 (x1, x2) ∧
  ∃ (x4 : List Int), rat_den p0 p1 p2 x4 ∧
  ∃ (x6 : List Int), rat_den p3 p4 p5 x6 ∧
  ∃ (x8 : List Int), nat_Mul x4 x6 x8 ∧
  ∃ (x10 : Bool) (x11 : List Int) (x12 : List Int), rat_Make x1 x2 x8 (x10, x11, x12) ∧
  r = (x10, x11, x12)

/-- offcut rat.Whole -/
def rat_Whole (p0 : Bool) (p1 : List Int) (p2 : List Int) (r : Bool) : Prop :=
  ∃ (x1 : Bool) (x2 : List Int) (x3 : List Int), rat_Make p0 p1 p2 (x1, x2, x3) ∧
  ∃ (x5 : List Int), nat_Of (1 : Int) x5 ∧
  ∃ (x7 : Int), nat_Compare x3 x5 x7 ∧
  IfB (x7 == (0 : Int))
    (r = true)
    (r = false)

/-- offcut rat.Text -/
def rat_Text (p0 : Bool) (p1 : List Int) (p2 : List Int) (r : (List UInt8)) : Prop :=
  ∃ (x1 : Bool) (x2 : List Int) (x3 : List Int), rat_Make p0 p1 p2 (x1, x2, x3) ∧
  ∃ (x5 : Bool), rat_Whole x1 x2 x3 x5 ∧
  IfB x5
    (∃ (x7 : List UInt8), whole_Text x1 x2 x7 ∧
    r = x7)
    (∃ (x9 : List UInt8), whole_Text x1 x2 x9 ∧
    Fits (x9.length + ([47] : List UInt8).length) 1 ∧
    ∃ (x12 : List UInt8), nat_Text x3 x12 ∧
    Fits ((x9 ++ ([47] : List UInt8)).length + x12.length) 1 ∧
    r = ((x9 ++ ([47] : List UInt8)) ++ x12))

/-- offcut rat.Parse -/
def rat_Parse (p0 : List UInt8) (r : Bool × (List Int) × (List Int) × Int) : Prop :=
  ∃ (x1 : List UInt8) (x2 : List UInt8) (x3 : Bool), strings_Cut p0 ([47] : List UInt8) (x1, x2, x3) ∧
  IfB x3
    (∃ (x5 : Bool) (x6 : List Int) (x7 : Int), whole_Parse x1 (x5, x6, x7) ∧
    IfB (x7 != (0 : Int))
      (r = (false, ([] : List Int), ([] : List Int), x7))
      (∃ (x9 : List Int) (x10 : Int), nat_Parse x2 (x9, x10) ∧
      IfB (x10 != (0 : Int))
        (r = (false, ([] : List Int), ([] : List Int), x10))
        (∃ (x12 : Int), nat_Bits x9 x12 ∧
        IfB (x12 == (0 : Int))
          (r = (false, ([] : List Int), ([] : List Int), 5))
          (∃ (x14 : Bool) (x15 : List Int) (x16 : List Int), rat_Make x5 x6 x9 (x14, x15, x16) ∧
          r = (x14, x15, x16, 0)))))
    (∃ (x18 : Bool) (x19 : List Int) (x20 : Int), whole_Parse x1 (x18, x19, x20) ∧
    IfB (x20 != (0 : Int))
      (r = (false, ([] : List Int), ([] : List Int), x20))
      (∃ (x22 : List Int) (x23 : Int), nat_Parse ([49] : List UInt8) (x22, x23) ∧
      IfB (x23 != (0 : Int))
        (r = (false, ([] : List Int), ([] : List Int), x23))
        (∃ (x25 : Int), nat_Bits x22 x25 ∧
        IfB (x25 == (0 : Int))
          (r = (false, ([] : List Int), ([] : List Int), 5))
          (∃ (x27 : Bool) (x28 : List Int) (x29 : List Int), rat_Make x18 x19 x22 (x27, x28, x29) ∧
          r = (x27, x28, x29, 0)))))

end Go.Abs
end

section
/- Printed by gen.py: what functions come to, as conditions over numbers and lists. -/
namespace Go.Abs
set_option linter.unusedVariables false
set_option linter.unusedSimpArgs false
set_option linter.unnecessarySimpa false

/-- offcut lines.may -/
def lines_may (p0 : Int) (r : Bool) : Prop :=
  IfB (p0 == (10 : Int))
    (r = true)
    (IfB (decide (p0 ≥ (32 : Int)))
      (IfB (decide (p0 ≤ (126 : Int)))
        (r = true)
        (r = false))
      (r = false))

def lines_All_L2 (x4 : List (List UInt8)) (r : (List (Int × (List (List UInt8)))) × Int) (X2 : (Int × (List (Int × (List (List UInt8))))) → Prop) (s : Int × (List (Int × (List (List UInt8))))) : Prop := match s with
  | (s200, s252) =>
  IfB (decide (s200 < (x4.length : Int)))
    (∃ (x6 : List UInt8), Idx x4 s200 x6 ∧
    ∃ (x8 : List UInt8) (x9 : List UInt8) (x10 : Bool), strings_Cut x6 ([35] : List UInt8) (x8, x9, x10) ∧
    IfB x10
      (∃ (x12 : List (List UInt8)), strings_Fields x8 x12 ∧
      IfB (decide ((x12.length : Int) > (0 : Int)))
        (Fits (s252.length + [((IntKind.i64.wrap (s200 + 1)), x12)].length) 32 ∧
        X2 ((IntKind.i64.wrap (s200 + 1)), (s252 ++ [((IntKind.i64.wrap (s200 + 1)), x12)])))
        (X2 ((IntKind.i64.wrap (s200 + 1)), s252)))
      (∃ (x15 : List (List UInt8)), strings_Fields x8 x15 ∧
      IfB (decide ((x15.length : Int) > (0 : Int)))
        (Fits (s252.length + [((IntKind.i64.wrap (s200 + 1)), x15)].length) 32 ∧
        X2 ((IntKind.i64.wrap (s200 + 1)), (s252 ++ [((IntKind.i64.wrap (s200 + 1)), x15)])))
        (X2 ((IntKind.i64.wrap (s200 + 1)), s252))))
    (r = (s252, 0))

def lines_All_L1 (p0 : List UInt8) (r : (List (Int × (List (List UInt8)))) × Int) (X1 : Nat → Prop) (s : Nat) : Prop := match s with
  | s151 =>
  IfB (decide (s151 < p0.length))
    (∃ (x2 : Bool), lines_may (runeAt p0 s151) x2 ∧
    IfB x2
      (X1 (s151 + runeLen p0 s151))
      (r = (([] : List (Int × (List (List UInt8)))), 2)))
    (∃ (x4 : List (List UInt8)), strings_Split p0 ([10] : List UInt8) x4 ∧
    LoopP (lines_All_L2 x4 r) ((0 : Int), ([] : List (Int × (List (List UInt8))))))

/-- offcut lines.All -/
def lines_All (p0 : List UInt8) (r : (List (Int × (List (List UInt8)))) × Int) : Prop :=
  IfB (decide ((p0.length : Int) > (65536 : Int)))
    (r = (([] : List (Int × (List (List UInt8)))), 4))
    (LoopP (lines_All_L1 p0 r) 0)

/-- offcut lines.Join -/
def lines_Join (p0 : List (List UInt8)) (r : (List UInt8)) : Prop :=
  ∃ (x1 : List UInt8), strings_Join p0 ([32] : List UInt8) x1 ∧
  r = x1

end Go.Abs
end

section
/- What awake of chapter 13 answers. -/
namespace Go.Abs
def offcutlaw13_awake (r : Bool) : Prop := r = true
end Go.Abs
end

section
/- Further functions of the library's on texts, told: CutSuffix, Contains. -/
namespace Go.Abs
open Go
/-- strings.CutSuffix. -/
def strings_CutSuffix (s p : List UInt8) (r : List UInt8 × Bool) : Prop := s.length ≤ 9223372036854775807 ∧ r = (Lib.trimSuffix s p, Lib.hasSuffix s p)
/-- strings.Contains. -/
def strings_Contains (s p : List UInt8) (r : Bool) : Prop := Short s ∧ r = Lib.contains s p
end Go.Abs
end

section
/- Printed by gen.py: what functions come to, as conditions over numbers and lists. -/
namespace Go.Abs
set_option linter.unusedVariables false
set_option linter.unusedSimpArgs false
set_option linter.unnecessarySimpa false

def offcutlaw05_Few_L1 (p0 : List (Bool × (List Int) × (List Int))) (r : Bool) (X1 : Int → Prop) (s : Int) : Prop := match s with
  | s100 =>
  IfB (decide (s100 < (p0.length : Int)))
   (IfB (decide (s100 ≤ (8 : Int)))
   (∃ (x3 : Bool) (x4 : List Int) (x5 : List Int), Idx p0 s100 (x3, x4, x5) ∧
   IfB (decide ((x4.length : Int) > (3 : Int)))
   (r = false)
   (∃ (x8 : Bool) (x9 : List Int) (x10 : List Int), Idx p0 s100 (x8, x9, x10) ∧
   IfB (decide ((x10.length : Int) > (3 : Int)))
   (r = false)
   (X1 (IntKind.i64.wrap (s100 + 1)))))
   (IfB (decide ((p0.length : Int) ≤ (8 : Int)))
   (r = true)
   (r = false)))
   (IfB (decide ((p0.length : Int) ≤ (8 : Int)))
   (r = true)
   (r = false))

/-- offcut offcutlaw05.Few -/
def offcutlaw05_Few (p0 : List (Bool × (List Int) × (List Int))) (r : Bool) : Prop :=
  LoopP (offcutlaw05_Few_L1 p0 r) (0 : Int)

/-- offcut offcutlaw13.Few -/
def offcutlaw13_Few (p0 : Int) (p1 : List (Bool × (List Int) × (List Int))) (p2 : List (Bool × (List Int) × (List Int))) (p3 : List (Bool × (List Int) × (List Int))) (r : Bool) : Prop :=
  ∃ (x1 : Bool), offcutlaw05_Few p1 x1 ∧
  IfB x1
   (∃ (x3 : Bool), offcutlaw05_Few p2 x3 ∧
   IfB x3
   (∃ (x5 : Bool), offcutlaw05_Few p3 x5 ∧
   IfB x5
   (r = true)
   (r = false))
   (r = false))
   (r = false)

/-- offcut proof.Right -/
def proof_Right (p0 : Int) (p1 : List (Bool × (List Int) × (List Int))) (p2 : List (Bool × (List Int) × (List Int))) (p3 : List (Bool × (List Int) × (List Int))) (r : Bool) : Prop :=
  IfB (p0 != (2 : Int))
   (IfB (p0 != (3 : Int))
   (IfB (decide ((p1.length : Int) > (180 : Int)))
   (r = false)
   (IfB (decide ((p2.length : Int) > (180 : Int)))
   (r = false)
   (IfB (decide ((p3.length : Int) > (0 : Int)))
   (r = false)
   (IfB (decide (p0 ≥ (1 : Int)))
   (IfB (decide (p0 ≤ (3 : Int)))
   (r = true)
   (r = false))
   (r = false)))))
   (IfB (decide ((p1.length : Int) > (180 : Int)))
   (r = false)
   (IfB (decide ((p2.length : Int) > (0 : Int)))
   (r = false)
   (IfB (decide ((p3.length : Int) > (180 : Int)))
   (r = false)
   (r = true)))))
   (IfB (decide ((p1.length : Int) > (0 : Int)))
   (r = false)
   (IfB (decide ((p2.length : Int) > (180 : Int)))
   (r = false)
   (IfB (decide ((p3.length : Int) > (0 : Int)))
   (r = false)
   (r = true))))

/-- offcut offcutlaw13.right -/
def offcutlaw13_right (p0 : Int) (p1 : List (Bool × (List Int) × (List Int))) (p2 : List (Bool × (List Int) × (List Int))) (p3 : List (Bool × (List Int) × (List Int))) (r : Bool) : Prop :=
  IfB (p0 == (1 : Int))
   (IfB ((p3.length : Int) == (0 : Int))
   (r = true)
   (r = false))
   (IfB (p0 == (2 : Int))
   (IfB ((IntKind.i64.wrap ((p1.length : Int) + (p3.length : Int))) == (0 : Int))
   (r = true)
   (r = false))
   (IfB (p0 == (3 : Int))
   (IfB ((p2.length : Int) == (0 : Int))
   (r = true)
   (r = false))
   (r = false)))

/-- offcut proof.words -/
def proof_words  (r : (List UInt8) × (List UInt8) × (List UInt8) × (List UInt8)) : Prop :=
  r = (([] : List UInt8), ([111, 112, 116, 105, 109, 97, 108] : List UInt8), ([105, 110, 102, 101, 97, 115, 105, 98, 108, 101] : List UInt8), ([117, 110, 98, 111, 117, 110, 100, 101, 100] : List UInt8))

def vec_Texts_L1 (p0 : List (Bool × (List Int) × (List Int))) (r : (List (List UInt8))) (X1 : (Int × (List (List UInt8))) → Prop) (s : Int × (List (List UInt8))) : Prop := match s with
  | (s100, s151) =>
  IfB (decide (s100 < (p0.length : Int)))
   (∃ (x2 : Bool) (x3 : List Int) (x4 : List Int), Idx p0 s100 (x2, x3, x4) ∧
   ∃ (x6 : List UInt8), rat_Text x2 x3 x4 x6 ∧
   Fits (s151.length + [x6].length) 16 ∧
   X1 ((IntKind.i64.wrap (s100 + 1)), (s151 ++ [x6])))
   (r = s151)

/-- offcut vec.Texts -/
def vec_Texts (p0 : List (Bool × (List Int) × (List Int))) (r : (List (List UInt8))) : Prop :=
  LoopP (vec_Texts_L1 p0 r) ((0 : Int), ([] : List (List UInt8)))

/-- offcut proof.Print -/
def proof_Print (p0 : Int) (p1 : List (Bool × (List Int) × (List Int))) (p2 : List (Bool × (List Int) × (List Int))) (p3 : List (Bool × (List Int) × (List Int))) (r : (List UInt8) × Int) : Prop :=
  ∃ (x1 : Bool), proof_Right p0 p1 p2 p3 x1 ∧
  IfB x1
   (∃ (x3 : List UInt8) (x4 : List UInt8) (x5 : List UInt8) (x6 : List UInt8), proof_words (x3, x4, x5, x6) ∧
   ∃ (x8 : List UInt8), Idx ([x3, x4, x5, x6] : List (List UInt8)) p0 x8 ∧
   Fits (x8.length + ([10] : List UInt8).length) 1 ∧
   IfB (p0 != (2 : Int))
   (IfB (p0 != (3 : Int))
   (∃ (x13 : List (List UInt8)), vec_Texts p1 x13 ∧
   IfB x13.isEmpty
   (∃ (x16 : List UInt8), lines_Join [([120] : List UInt8)] x16 ∧
   Fits (x16.length + ([10] : List UInt8).length) 1 ∧
   Fits ((x8 ++ ([10] : List UInt8)).length + (x16 ++ ([10] : List UInt8)).length) 1 ∧
   ∃ (x20 : List (List UInt8)), vec_Texts p2 x20 ∧
   IfB x20.isEmpty
   (∃ (x23 : List UInt8), lines_Join [([121] : List UInt8)] x23 ∧
   Fits (x23.length + ([10] : List UInt8).length) 1 ∧
   Fits (((x8 ++ ([10] : List UInt8)) ++ (x16 ++ ([10] : List UInt8))).length + (x23 ++ ([10] : List UInt8)).length) 1 ∧
   r = ((((x8 ++ ([10] : List UInt8)) ++ (x16 ++ ([10] : List UInt8))) ++ (x23 ++ ([10] : List UInt8))), 0))
   (Fits ([([121] : List UInt8)].length + x20.length) 16 ∧
   ∃ (x28 : List UInt8), lines_Join ([([121] : List UInt8)] ++ x20) x28 ∧
   Fits (x28.length + ([10] : List UInt8).length) 1 ∧
   Fits (((x8 ++ ([10] : List UInt8)) ++ (x16 ++ ([10] : List UInt8))).length + (x28 ++ ([10] : List UInt8)).length) 1 ∧
   r = ((((x8 ++ ([10] : List UInt8)) ++ (x16 ++ ([10] : List UInt8))) ++ (x28 ++ ([10] : List UInt8))), 0)))
   (Fits ([([120] : List UInt8)].length + x13.length) 16 ∧
   ∃ (x33 : List UInt8), lines_Join ([([120] : List UInt8)] ++ x13) x33 ∧
   Fits (x33.length + ([10] : List UInt8).length) 1 ∧
   Fits ((x8 ++ ([10] : List UInt8)).length + (x33 ++ ([10] : List UInt8)).length) 1 ∧
   ∃ (x37 : List (List UInt8)), vec_Texts p2 x37 ∧
   IfB x37.isEmpty
   (∃ (x40 : List UInt8), lines_Join [([121] : List UInt8)] x40 ∧
   Fits (x40.length + ([10] : List UInt8).length) 1 ∧
   Fits (((x8 ++ ([10] : List UInt8)) ++ (x33 ++ ([10] : List UInt8))).length + (x40 ++ ([10] : List UInt8)).length) 1 ∧
   r = ((((x8 ++ ([10] : List UInt8)) ++ (x33 ++ ([10] : List UInt8))) ++ (x40 ++ ([10] : List UInt8))), 0))
   (Fits ([([121] : List UInt8)].length + x37.length) 16 ∧
   ∃ (x45 : List UInt8), lines_Join ([([121] : List UInt8)] ++ x37) x45 ∧
   Fits (x45.length + ([10] : List UInt8).length) 1 ∧
   Fits (((x8 ++ ([10] : List UInt8)) ++ (x33 ++ ([10] : List UInt8))).length + (x45 ++ ([10] : List UInt8)).length) 1 ∧
   r = ((((x8 ++ ([10] : List UInt8)) ++ (x33 ++ ([10] : List UInt8))) ++ (x45 ++ ([10] : List UInt8))), 0))))
   (∃ (x49 : List (List UInt8)), vec_Texts p1 x49 ∧
   IfB x49.isEmpty
   (∃ (x52 : List UInt8), lines_Join [([120] : List UInt8)] x52 ∧
   Fits (x52.length + ([10] : List UInt8).length) 1 ∧
   Fits ((x8 ++ ([10] : List UInt8)).length + (x52 ++ ([10] : List UInt8)).length) 1 ∧
   ∃ (x56 : List (List UInt8)), vec_Texts p3 x56 ∧
   IfB x56.isEmpty
   (∃ (x59 : List UInt8), lines_Join [([114, 97, 121] : List UInt8)] x59 ∧
   Fits (x59.length + ([10] : List UInt8).length) 1 ∧
   Fits (((x8 ++ ([10] : List UInt8)) ++ (x52 ++ ([10] : List UInt8))).length + (x59 ++ ([10] : List UInt8)).length) 1 ∧
   r = ((((x8 ++ ([10] : List UInt8)) ++ (x52 ++ ([10] : List UInt8))) ++ (x59 ++ ([10] : List UInt8))), 0))
   (Fits ([([114, 97, 121] : List UInt8)].length + x56.length) 16 ∧
   ∃ (x64 : List UInt8), lines_Join ([([114, 97, 121] : List UInt8)] ++ x56) x64 ∧
   Fits (x64.length + ([10] : List UInt8).length) 1 ∧
   Fits (((x8 ++ ([10] : List UInt8)) ++ (x52 ++ ([10] : List UInt8))).length + (x64 ++ ([10] : List UInt8)).length) 1 ∧
   r = ((((x8 ++ ([10] : List UInt8)) ++ (x52 ++ ([10] : List UInt8))) ++ (x64 ++ ([10] : List UInt8))), 0)))
   (Fits ([([120] : List UInt8)].length + x49.length) 16 ∧
   ∃ (x69 : List UInt8), lines_Join ([([120] : List UInt8)] ++ x49) x69 ∧
   Fits (x69.length + ([10] : List UInt8).length) 1 ∧
   Fits ((x8 ++ ([10] : List UInt8)).length + (x69 ++ ([10] : List UInt8)).length) 1 ∧
   ∃ (x73 : List (List UInt8)), vec_Texts p3 x73 ∧
   IfB x73.isEmpty
   (∃ (x76 : List UInt8), lines_Join [([114, 97, 121] : List UInt8)] x76 ∧
   Fits (x76.length + ([10] : List UInt8).length) 1 ∧
   Fits (((x8 ++ ([10] : List UInt8)) ++ (x69 ++ ([10] : List UInt8))).length + (x76 ++ ([10] : List UInt8)).length) 1 ∧
   r = ((((x8 ++ ([10] : List UInt8)) ++ (x69 ++ ([10] : List UInt8))) ++ (x76 ++ ([10] : List UInt8))), 0))
   (Fits ([([114, 97, 121] : List UInt8)].length + x73.length) 16 ∧
   ∃ (x81 : List UInt8), lines_Join ([([114, 97, 121] : List UInt8)] ++ x73) x81 ∧
   Fits (x81.length + ([10] : List UInt8).length) 1 ∧
   Fits (((x8 ++ ([10] : List UInt8)) ++ (x69 ++ ([10] : List UInt8))).length + (x81 ++ ([10] : List UInt8)).length) 1 ∧
   r = ((((x8 ++ ([10] : List UInt8)) ++ (x69 ++ ([10] : List UInt8))) ++ (x81 ++ ([10] : List UInt8))), 0)))))
   (∃ (x85 : List (List UInt8)), vec_Texts p2 x85 ∧
   IfB x85.isEmpty
   (∃ (x88 : List UInt8), lines_Join [([121] : List UInt8)] x88 ∧
   Fits (x88.length + ([10] : List UInt8).length) 1 ∧
   Fits ((x8 ++ ([10] : List UInt8)).length + (x88 ++ ([10] : List UInt8)).length) 1 ∧
   r = (((x8 ++ ([10] : List UInt8)) ++ (x88 ++ ([10] : List UInt8))), 0))
   (Fits ([([121] : List UInt8)].length + x85.length) 16 ∧
   ∃ (x93 : List UInt8), lines_Join ([([121] : List UInt8)] ++ x85) x93 ∧
   Fits (x93.length + ([10] : List UInt8).length) 1 ∧
   Fits ((x8 ++ ([10] : List UInt8)).length + (x93 ++ ([10] : List UInt8)).length) 1 ∧
   r = (((x8 ++ ([10] : List UInt8)) ++ (x93 ++ ([10] : List UInt8))), 0))))
   (r = (([] : List UInt8), 1))

/-- offcut lines.Number -/
def lines_Number (p0 : List UInt8) (r : Bool × (List Int) × (List Int) × Bool) : Prop :=
  ∃ (x1 : Bool) (x2 : List Int) (x3 : List Int) (x4 : Int), rat_Parse p0 (x1, x2, x3, x4) ∧
  IfB (x4 != (0 : Int))
   (∃ (x7 : Bool) (x8 : List Int) (x9 : List Int), rat_Int (0 : Int) (x7, x8, x9) ∧
   r = (x7, x8, x9, false))
   (r = (x1, x2, x3, true))

def proof_numbers_L1 (p0 : List (List UInt8)) (r : (List (Bool × (List Int) × (List Int))) × Bool) (X1 : (Int × (List (Bool × (List Int) × (List Int)))) → Prop) (s : Int × (List (Bool × (List Int) × (List Int)))) : Prop := match s with
  | (s100, s151) =>
  IfB (decide (s100 < (p0.length : Int)))
   (∃ (x2 : List UInt8), Idx p0 s100 x2 ∧
   ∃ (x4 : Bool) (x5 : List Int) (x6 : List Int) (x7 : Bool), lines_Number x2 (x4, x5, x6, x7) ∧
   IfB x7
   (Fits (s151.length + [(x4, x5, x6)].length) 56 ∧
   X1 ((IntKind.i64.wrap (s100 + 1)), (s151 ++ [(x4, x5, x6)])))
   (r = (([] : List (Bool × (List Int) × (List Int))), false)))
   (IfB (decide ((s151.length : Int) ≤ (180 : Int)))
   (r = (s151, true))
   (r = (s151, false)))

/-- offcut proof.numbers -/
def proof_numbers (p0 : List (List UInt8)) (r : (List (Bool × (List Int) × (List Int))) × Bool) : Prop :=
  LoopP (proof_numbers_L1 p0 r) ((0 : Int), ([] : List (Bool × (List Int) × (List Int))))

def proof_Parse_L1 (x1 : List (Int × (List (List UInt8)))) (x6 : List UInt8) (x7 : List UInt8) (x8 : List UInt8) (x9 : List UInt8) (r : Int × (List (Bool × (List Int) × (List Int))) × (List (Bool × (List Int) × (List Int))) × (List (Bool × (List Int) × (List Int))) × Int × Int) (X1 : (Int × Int) → Prop) (s : Int × Int) : Prop := match s with
  | (s100, s101) =>
  IfB (decide (s100 < (4 : Int)))
   (∃ (x12 : List UInt8), Idx ([x6, x7, x8, x9] : List (List UInt8)) s100 x12 ∧
   IfB (decide (s100 > (0 : Int)))
   (∃ (x15 : Int) (x16 : List (List UInt8)), Idx x1 (0 : Int) (x15, x16) ∧
   IfB ((x16.length : Int) == (1 : Int))
   (∃ (x19 : Int) (x20 : List (List UInt8)), Idx x1 (0 : Int) (x19, x20) ∧
   ∃ (x22 : List UInt8), Idx x20 (0 : Int) x22 ∧
   IfB (x22 == x12)
   (X1 ((IntKind.i64.wrap (s100 + 1)), s100))
   (X1 ((IntKind.i64.wrap (s100 + 1)), s101)))
   (X1 ((IntKind.i64.wrap (s100 + 1)), s101)))
   (X1 ((IntKind.i64.wrap (s100 + 1)), s101)))
   (IfB (s101 == (0 : Int))
   (∃ (x25 : Int) (x26 : List (List UInt8)), Idx x1 (0 : Int) (x25, x26) ∧
   r = (0, ([] : List (Bool × (List Int) × (List Int))), ([] : List (Bool × (List Int) × (List Int))), ([] : List (Bool × (List Int) × (List Int))), x25, 2))
   (∃ (x28 : Int) (x29 : List (List UInt8)), Idx x1 (0 : Int) (x28, x29) ∧
   SubOk x1 (1 : Int) (x1.length : Int) ∧
   IfB (s101 != (2 : Int))
   (IfB (s101 != (3 : Int))
   (IfB (((sub x1 (1 : Int) (x1.length : Int)).length : Int) == (0 : Int))
   (r = (0, ([] : List (Bool × (List Int) × (List Int))), ([] : List (Bool × (List Int) × (List Int))), ([] : List (Bool × (List Int) × (List Int))), x28, 2))
   (∃ (x35 : Int) (x36 : List (List UInt8)), Idx (sub x1 (1 : Int) (x1.length : Int)) (0 : Int) (x35, x36) ∧
   SubOk x36 (1 : Int) (x36.length : Int) ∧
   ∃ (x39 : List (Bool × (List Int) × (List Int))) (x40 : Bool), proof_numbers (sub x36 (1 : Int) (x36.length : Int)) (x39, x40) ∧
   IfB x40
   (∃ (x42 : Int) (x43 : List (List UInt8)), Idx (sub x1 (1 : Int) (x1.length : Int)) (0 : Int) (x42, x43) ∧
   ∃ (x45 : List UInt8), Idx x43 (0 : Int) x45 ∧
   IfB (!(x45 == ([120] : List UInt8)))
   (∃ (x47 : Int) (x48 : List (List UInt8)), Idx (sub x1 (1 : Int) (x1.length : Int)) (0 : Int) (x47, x48) ∧
   r = (0, ([] : List (Bool × (List Int) × (List Int))), ([] : List (Bool × (List Int) × (List Int))), ([] : List (Bool × (List Int) × (List Int))), x47, 2))
   (∃ (x50 : Int) (x51 : List (List UInt8)), Idx (sub x1 (1 : Int) (x1.length : Int)) (0 : Int) (x50, x51) ∧
   SubOk (sub x1 (1 : Int) (x1.length : Int)) (1 : Int) ((sub x1 (1 : Int) (x1.length : Int)).length : Int) ∧
   IfB (((sub (sub x1 (1 : Int) (x1.length : Int)) (1 : Int) ((sub x1 (1 : Int) (x1.length : Int)).length : Int)).length : Int) == (0 : Int))
   (r = (0, ([] : List (Bool × (List Int) × (List Int))), ([] : List (Bool × (List Int) × (List Int))), ([] : List (Bool × (List Int) × (List Int))), x50, 2))
   (∃ (x55 : Int) (x56 : List (List UInt8)), Idx (sub (sub x1 (1 : Int) (x1.length : Int)) (1 : Int) ((sub x1 (1 : Int) (x1.length : Int)).length : Int)) (0 : Int) (x55, x56) ∧
   SubOk x56 (1 : Int) (x56.length : Int) ∧
   ∃ (x59 : List (Bool × (List Int) × (List Int))) (x60 : Bool), proof_numbers (sub x56 (1 : Int) (x56.length : Int)) (x59, x60) ∧
   IfB x60
   (∃ (x62 : Int) (x63 : List (List UInt8)), Idx (sub (sub x1 (1 : Int) (x1.length : Int)) (1 : Int) ((sub x1 (1 : Int) (x1.length : Int)).length : Int)) (0 : Int) (x62, x63) ∧
   ∃ (x65 : List UInt8), Idx x63 (0 : Int) x65 ∧
   IfB (!(x65 == ([121] : List UInt8)))
   (∃ (x67 : Int) (x68 : List (List UInt8)), Idx (sub (sub x1 (1 : Int) (x1.length : Int)) (1 : Int) ((sub x1 (1 : Int) (x1.length : Int)).length : Int)) (0 : Int) (x67, x68) ∧
   r = (0, ([] : List (Bool × (List Int) × (List Int))), ([] : List (Bool × (List Int) × (List Int))), ([] : List (Bool × (List Int) × (List Int))), x67, 2))
   (∃ (x70 : Int) (x71 : List (List UInt8)), Idx (sub (sub x1 (1 : Int) (x1.length : Int)) (1 : Int) ((sub x1 (1 : Int) (x1.length : Int)).length : Int)) (0 : Int) (x70, x71) ∧
   SubOk (sub (sub x1 (1 : Int) (x1.length : Int)) (1 : Int) ((sub x1 (1 : Int) (x1.length : Int)).length : Int)) (1 : Int) ((sub (sub x1 (1 : Int) (x1.length : Int)) (1 : Int) ((sub x1 (1 : Int) (x1.length : Int)).length : Int)).length : Int) ∧
   IfB (decide (((sub (sub (sub x1 (1 : Int) (x1.length : Int)) (1 : Int) ((sub x1 (1 : Int) (x1.length : Int)).length : Int)) (1 : Int) ((sub (sub x1 (1 : Int) (x1.length : Int)) (1 : Int) ((sub x1 (1 : Int) (x1.length : Int)).length : Int)).length : Int)).length : Int) > (0 : Int)))
   (∃ (x75 : Int) (x76 : List (List UInt8)), Idx (sub (sub (sub x1 (1 : Int) (x1.length : Int)) (1 : Int) ((sub x1 (1 : Int) (x1.length : Int)).length : Int)) (1 : Int) ((sub (sub x1 (1 : Int) (x1.length : Int)) (1 : Int) ((sub x1 (1 : Int) (x1.length : Int)).length : Int)).length : Int)) (0 : Int) (x75, x76) ∧
   r = (0, ([] : List (Bool × (List Int) × (List Int))), ([] : List (Bool × (List Int) × (List Int))), ([] : List (Bool × (List Int) × (List Int))), x75, 2))
   (r = (s101, x39, x59, ([] : List (Bool × (List Int) × (List Int))), 0, 0))))
   (∃ (x78 : Int) (x79 : List (List UInt8)), Idx (sub (sub x1 (1 : Int) (x1.length : Int)) (1 : Int) ((sub x1 (1 : Int) (x1.length : Int)).length : Int)) (0 : Int) (x78, x79) ∧
   ∃ (x81 : List UInt8), Idx x79 (0 : Int) x81 ∧
   IfB (!(x81 == ([121] : List UInt8)))
   (∃ (x83 : Int) (x84 : List (List UInt8)), Idx (sub (sub x1 (1 : Int) (x1.length : Int)) (1 : Int) ((sub x1 (1 : Int) (x1.length : Int)).length : Int)) (0 : Int) (x83, x84) ∧
   r = (0, ([] : List (Bool × (List Int) × (List Int))), ([] : List (Bool × (List Int) × (List Int))), ([] : List (Bool × (List Int) × (List Int))), x83, 2))
   (∃ (x86 : Int) (x87 : List (List UInt8)), Idx (sub (sub x1 (1 : Int) (x1.length : Int)) (1 : Int) ((sub x1 (1 : Int) (x1.length : Int)).length : Int)) (0 : Int) (x86, x87) ∧
   r = (0, ([] : List (Bool × (List Int) × (List Int))), ([] : List (Bool × (List Int) × (List Int))), ([] : List (Bool × (List Int) × (List Int))), x86, 2))))))
   (∃ (x89 : Int) (x90 : List (List UInt8)), Idx (sub x1 (1 : Int) (x1.length : Int)) (0 : Int) (x89, x90) ∧
   ∃ (x92 : List UInt8), Idx x90 (0 : Int) x92 ∧
   IfB (!(x92 == ([120] : List UInt8)))
   (∃ (x94 : Int) (x95 : List (List UInt8)), Idx (sub x1 (1 : Int) (x1.length : Int)) (0 : Int) (x94, x95) ∧
   r = (0, ([] : List (Bool × (List Int) × (List Int))), ([] : List (Bool × (List Int) × (List Int))), ([] : List (Bool × (List Int) × (List Int))), x94, 2))
   (∃ (x97 : Int) (x98 : List (List UInt8)), Idx (sub x1 (1 : Int) (x1.length : Int)) (0 : Int) (x97, x98) ∧
   r = (0, ([] : List (Bool × (List Int) × (List Int))), ([] : List (Bool × (List Int) × (List Int))), ([] : List (Bool × (List Int) × (List Int))), x97, 2)))))
   (IfB (((sub x1 (1 : Int) (x1.length : Int)).length : Int) == (0 : Int))
   (r = (0, ([] : List (Bool × (List Int) × (List Int))), ([] : List (Bool × (List Int) × (List Int))), ([] : List (Bool × (List Int) × (List Int))), x28, 2))
   (∃ (x101 : Int) (x102 : List (List UInt8)), Idx (sub x1 (1 : Int) (x1.length : Int)) (0 : Int) (x101, x102) ∧
   SubOk x102 (1 : Int) (x102.length : Int) ∧
   ∃ (x105 : List (Bool × (List Int) × (List Int))) (x106 : Bool), proof_numbers (sub x102 (1 : Int) (x102.length : Int)) (x105, x106) ∧
   IfB x106
   (∃ (x108 : Int) (x109 : List (List UInt8)), Idx (sub x1 (1 : Int) (x1.length : Int)) (0 : Int) (x108, x109) ∧
   ∃ (x111 : List UInt8), Idx x109 (0 : Int) x111 ∧
   IfB (!(x111 == ([120] : List UInt8)))
   (∃ (x113 : Int) (x114 : List (List UInt8)), Idx (sub x1 (1 : Int) (x1.length : Int)) (0 : Int) (x113, x114) ∧
   r = (0, ([] : List (Bool × (List Int) × (List Int))), ([] : List (Bool × (List Int) × (List Int))), ([] : List (Bool × (List Int) × (List Int))), x113, 2))
   (∃ (x116 : Int) (x117 : List (List UInt8)), Idx (sub x1 (1 : Int) (x1.length : Int)) (0 : Int) (x116, x117) ∧
   SubOk (sub x1 (1 : Int) (x1.length : Int)) (1 : Int) ((sub x1 (1 : Int) (x1.length : Int)).length : Int) ∧
   IfB (((sub (sub x1 (1 : Int) (x1.length : Int)) (1 : Int) ((sub x1 (1 : Int) (x1.length : Int)).length : Int)).length : Int) == (0 : Int))
   (r = (0, ([] : List (Bool × (List Int) × (List Int))), ([] : List (Bool × (List Int) × (List Int))), ([] : List (Bool × (List Int) × (List Int))), x116, 2))
   (∃ (x121 : Int) (x122 : List (List UInt8)), Idx (sub (sub x1 (1 : Int) (x1.length : Int)) (1 : Int) ((sub x1 (1 : Int) (x1.length : Int)).length : Int)) (0 : Int) (x121, x122) ∧
   SubOk x122 (1 : Int) (x122.length : Int) ∧
   ∃ (x125 : List (Bool × (List Int) × (List Int))) (x126 : Bool), proof_numbers (sub x122 (1 : Int) (x122.length : Int)) (x125, x126) ∧
   IfB x126
   (∃ (x128 : Int) (x129 : List (List UInt8)), Idx (sub (sub x1 (1 : Int) (x1.length : Int)) (1 : Int) ((sub x1 (1 : Int) (x1.length : Int)).length : Int)) (0 : Int) (x128, x129) ∧
   ∃ (x131 : List UInt8), Idx x129 (0 : Int) x131 ∧
   IfB (!(x131 == ([114, 97, 121] : List UInt8)))
   (∃ (x133 : Int) (x134 : List (List UInt8)), Idx (sub (sub x1 (1 : Int) (x1.length : Int)) (1 : Int) ((sub x1 (1 : Int) (x1.length : Int)).length : Int)) (0 : Int) (x133, x134) ∧
   r = (0, ([] : List (Bool × (List Int) × (List Int))), ([] : List (Bool × (List Int) × (List Int))), ([] : List (Bool × (List Int) × (List Int))), x133, 2))
   (∃ (x136 : Int) (x137 : List (List UInt8)), Idx (sub (sub x1 (1 : Int) (x1.length : Int)) (1 : Int) ((sub x1 (1 : Int) (x1.length : Int)).length : Int)) (0 : Int) (x136, x137) ∧
   SubOk (sub (sub x1 (1 : Int) (x1.length : Int)) (1 : Int) ((sub x1 (1 : Int) (x1.length : Int)).length : Int)) (1 : Int) ((sub (sub x1 (1 : Int) (x1.length : Int)) (1 : Int) ((sub x1 (1 : Int) (x1.length : Int)).length : Int)).length : Int) ∧
   IfB (decide (((sub (sub (sub x1 (1 : Int) (x1.length : Int)) (1 : Int) ((sub x1 (1 : Int) (x1.length : Int)).length : Int)) (1 : Int) ((sub (sub x1 (1 : Int) (x1.length : Int)) (1 : Int) ((sub x1 (1 : Int) (x1.length : Int)).length : Int)).length : Int)).length : Int) > (0 : Int)))
   (∃ (x141 : Int) (x142 : List (List UInt8)), Idx (sub (sub (sub x1 (1 : Int) (x1.length : Int)) (1 : Int) ((sub x1 (1 : Int) (x1.length : Int)).length : Int)) (1 : Int) ((sub (sub x1 (1 : Int) (x1.length : Int)) (1 : Int) ((sub x1 (1 : Int) (x1.length : Int)).length : Int)).length : Int)) (0 : Int) (x141, x142) ∧
   r = (0, ([] : List (Bool × (List Int) × (List Int))), ([] : List (Bool × (List Int) × (List Int))), ([] : List (Bool × (List Int) × (List Int))), x141, 2))
   (r = (s101, x105, ([] : List (Bool × (List Int) × (List Int))), x125, 0, 0))))
   (∃ (x144 : Int) (x145 : List (List UInt8)), Idx (sub (sub x1 (1 : Int) (x1.length : Int)) (1 : Int) ((sub x1 (1 : Int) (x1.length : Int)).length : Int)) (0 : Int) (x144, x145) ∧
   ∃ (x147 : List UInt8), Idx x145 (0 : Int) x147 ∧
   IfB (!(x147 == ([114, 97, 121] : List UInt8)))
   (∃ (x149 : Int) (x150 : List (List UInt8)), Idx (sub (sub x1 (1 : Int) (x1.length : Int)) (1 : Int) ((sub x1 (1 : Int) (x1.length : Int)).length : Int)) (0 : Int) (x149, x150) ∧
   r = (0, ([] : List (Bool × (List Int) × (List Int))), ([] : List (Bool × (List Int) × (List Int))), ([] : List (Bool × (List Int) × (List Int))), x149, 2))
   (∃ (x152 : Int) (x153 : List (List UInt8)), Idx (sub (sub x1 (1 : Int) (x1.length : Int)) (1 : Int) ((sub x1 (1 : Int) (x1.length : Int)).length : Int)) (0 : Int) (x152, x153) ∧
   r = (0, ([] : List (Bool × (List Int) × (List Int))), ([] : List (Bool × (List Int) × (List Int))), ([] : List (Bool × (List Int) × (List Int))), x152, 2))))))
   (∃ (x155 : Int) (x156 : List (List UInt8)), Idx (sub x1 (1 : Int) (x1.length : Int)) (0 : Int) (x155, x156) ∧
   ∃ (x158 : List UInt8), Idx x156 (0 : Int) x158 ∧
   IfB (!(x158 == ([120] : List UInt8)))
   (∃ (x160 : Int) (x161 : List (List UInt8)), Idx (sub x1 (1 : Int) (x1.length : Int)) (0 : Int) (x160, x161) ∧
   r = (0, ([] : List (Bool × (List Int) × (List Int))), ([] : List (Bool × (List Int) × (List Int))), ([] : List (Bool × (List Int) × (List Int))), x160, 2))
   (∃ (x163 : Int) (x164 : List (List UInt8)), Idx (sub x1 (1 : Int) (x1.length : Int)) (0 : Int) (x163, x164) ∧
   r = (0, ([] : List (Bool × (List Int) × (List Int))), ([] : List (Bool × (List Int) × (List Int))), ([] : List (Bool × (List Int) × (List Int))), x163, 2))))))
   (IfB (((sub x1 (1 : Int) (x1.length : Int)).length : Int) == (0 : Int))
   (r = (0, ([] : List (Bool × (List Int) × (List Int))), ([] : List (Bool × (List Int) × (List Int))), ([] : List (Bool × (List Int) × (List Int))), x28, 2))
   (∃ (x167 : Int) (x168 : List (List UInt8)), Idx (sub x1 (1 : Int) (x1.length : Int)) (0 : Int) (x167, x168) ∧
   SubOk x168 (1 : Int) (x168.length : Int) ∧
   ∃ (x171 : List (Bool × (List Int) × (List Int))) (x172 : Bool), proof_numbers (sub x168 (1 : Int) (x168.length : Int)) (x171, x172) ∧
   IfB x172
   (∃ (x174 : Int) (x175 : List (List UInt8)), Idx (sub x1 (1 : Int) (x1.length : Int)) (0 : Int) (x174, x175) ∧
   ∃ (x177 : List UInt8), Idx x175 (0 : Int) x177 ∧
   IfB (!(x177 == ([121] : List UInt8)))
   (∃ (x179 : Int) (x180 : List (List UInt8)), Idx (sub x1 (1 : Int) (x1.length : Int)) (0 : Int) (x179, x180) ∧
   r = (0, ([] : List (Bool × (List Int) × (List Int))), ([] : List (Bool × (List Int) × (List Int))), ([] : List (Bool × (List Int) × (List Int))), x179, 2))
   (∃ (x182 : Int) (x183 : List (List UInt8)), Idx (sub x1 (1 : Int) (x1.length : Int)) (0 : Int) (x182, x183) ∧
   SubOk (sub x1 (1 : Int) (x1.length : Int)) (1 : Int) ((sub x1 (1 : Int) (x1.length : Int)).length : Int) ∧
   IfB (decide (((sub (sub x1 (1 : Int) (x1.length : Int)) (1 : Int) ((sub x1 (1 : Int) (x1.length : Int)).length : Int)).length : Int) > (0 : Int)))
   (∃ (x187 : Int) (x188 : List (List UInt8)), Idx (sub (sub x1 (1 : Int) (x1.length : Int)) (1 : Int) ((sub x1 (1 : Int) (x1.length : Int)).length : Int)) (0 : Int) (x187, x188) ∧
   r = (0, ([] : List (Bool × (List Int) × (List Int))), ([] : List (Bool × (List Int) × (List Int))), ([] : List (Bool × (List Int) × (List Int))), x187, 2))
   (r = (s101, ([] : List (Bool × (List Int) × (List Int))), x171, ([] : List (Bool × (List Int) × (List Int))), 0, 0))))
   (∃ (x190 : Int) (x191 : List (List UInt8)), Idx (sub x1 (1 : Int) (x1.length : Int)) (0 : Int) (x190, x191) ∧
   ∃ (x193 : List UInt8), Idx x191 (0 : Int) x193 ∧
   IfB (!(x193 == ([121] : List UInt8)))
   (∃ (x195 : Int) (x196 : List (List UInt8)), Idx (sub x1 (1 : Int) (x1.length : Int)) (0 : Int) (x195, x196) ∧
   r = (0, ([] : List (Bool × (List Int) × (List Int))), ([] : List (Bool × (List Int) × (List Int))), ([] : List (Bool × (List Int) × (List Int))), x195, 2))
   (∃ (x198 : Int) (x199 : List (List UInt8)), Idx (sub x1 (1 : Int) (x1.length : Int)) (0 : Int) (x198, x199) ∧
   r = (0, ([] : List (Bool × (List Int) × (List Int))), ([] : List (Bool × (List Int) × (List Int))), ([] : List (Bool × (List Int) × (List Int))), x198, 2)))))))

/-- offcut proof.Parse -/
def proof_Parse (p0 : List UInt8) (r : Int × (List (Bool × (List Int) × (List Int))) × (List (Bool × (List Int) × (List Int))) × (List (Bool × (List Int) × (List Int))) × Int × Int) : Prop :=
  ∃ (x1 : List (Int × (List (List UInt8)))) (x2 : Int), lines_All p0 (x1, x2) ∧
  IfB (x2 != (0 : Int))
   (r = (0, ([] : List (Bool × (List Int) × (List Int))), ([] : List (Bool × (List Int) × (List Int))), ([] : List (Bool × (List Int) × (List Int))), 0, x2))
   (IfB ((x1.length : Int) == (0 : Int))
   (r = (0, ([] : List (Bool × (List Int) × (List Int))), ([] : List (Bool × (List Int) × (List Int))), ([] : List (Bool × (List Int) × (List Int))), 0, 2))
   (∃ (x6 : List UInt8) (x7 : List UInt8) (x8 : List UInt8) (x9 : List UInt8), proof_words (x6, x7, x8, x9) ∧
   LoopP (proof_Parse_L1 x1 x6 x7 x8 x9 r) ((0 : Int), (0 : Int))))

/-- offcut vec.Same 1 -/
def vec_Same_1 (p0 : Bool) (p1 : List Int) (p2 : List Int) (p3 : Bool) (p4 : List Int) (p5 : List Int) (r : Bool) : Prop :=
  ∃ (x1 : Int), rat_Compare p0 p1 p2 p3 p4 p5 x1 ∧
  IfB (x1 == (0 : Int))
   (r = true)
   (r = false)

def vec_Same_L1 (p0 : List (Bool × (List Int) × (List Int))) (p1 : List (Bool × (List Int) × (List Int))) (r : Bool) (X1 : Int → Prop) (s : Int) : Prop := match s with
  | s100 =>
  IfB (decide (s100 < (p0.length : Int)))
   (∃ (x3 : Bool) (x4 : List Int) (x5 : List Int), Idx p0 s100 (x3, x4, x5) ∧
   ∃ (x7 : Bool) (x8 : List Int) (x9 : List Int), Idx p1 s100 (x7, x8, x9) ∧
   ∃ (x11 : Bool), vec_Same_1 x3 x4 x5 x7 x8 x9 x11 ∧
   IfB x11
   (X1 (IntKind.i64.wrap (s100 + 1)))
   (r = false))
   (r = true)

/-- offcut vec.Same -/
def vec_Same (p0 : List (Bool × (List Int) × (List Int))) (p1 : List (Bool × (List Int) × (List Int))) (r : Bool) : Prop :=
  IfB ((p0.length : Int) != (p1.length : Int))
   (r = false)
   (LoopP (vec_Same_L1 p0 p1 r) (0 : Int))

/-- offcut proof.Same -/
def proof_Same (p0 : Int) (p1 : List (Bool × (List Int) × (List Int))) (p2 : List (Bool × (List Int) × (List Int))) (p3 : List (Bool × (List Int) × (List Int))) (p4 : Int) (p5 : List (Bool × (List Int) × (List Int))) (p6 : List (Bool × (List Int) × (List Int))) (p7 : List (Bool × (List Int) × (List Int))) (r : Bool) : Prop :=
  IfB (p0 == p4)
   (∃ (x2 : Bool), vec_Same p1 p5 x2 ∧
   IfB x2
   (∃ (x4 : Bool), vec_Same p2 p6 x4 ∧
   IfB x4
   (∃ (x6 : Bool), vec_Same p3 p7 x6 ∧
   IfB x6
   (r = true)
   (r = false))
   (r = false))
   (r = false))
   (r = false)

/-- offcut offcutlaw13.ProofPrints -/
def offcutlaw13_ProofPrints (p0 : Int) (p1 : List (Bool × (List Int) × (List Int))) (p2 : List (Bool × (List Int) × (List Int))) (p3 : List (Bool × (List Int) × (List Int))) (r : Bool) : Prop :=
  ∃ (x1 : Bool), offcutlaw13_Few p0 p1 p2 p3 x1 ∧
  IfB x1
   (∃ (x3 : List UInt8) (x4 : Int), proof_Print p0 p1 p2 p3 (x3, x4) ∧
   ∃ (x6 : Bool), offcutlaw13_right p0 p1 p2 p3 x6 ∧
   IfB x6
   (∃ (x8 : Int) (x9 : List (Bool × (List Int) × (List Int))) (x10 : List (Bool × (List Int) × (List Int))) (x11 : List (Bool × (List Int) × (List Int))) (x12 : Int) (x13 : Int), proof_Parse x3 (x8, x9, x10, x11, x12, x13) ∧
   IfB (x4 == (0 : Int))
   (IfB (x13 == (0 : Int))
   (IfB (x12 == (0 : Int))
   (∃ (x18 : Bool), proof_Same p0 p1 p2 p3 x8 x9 x10 x11 x18 ∧
   IfB x18
   (∃ (x20 : Bool), proof_Right x8 x9 x10 x11 x20 ∧
   IfB x20
   (∃ (x22 : Bool), offcutlaw13_awake x22 ∧
   IfB x22
   (r = true)
   (r = false))
   (r = false))
   (r = false))
   (r = false))
   (r = false))
   (r = false))
   (IfB (x3 == ([] : List UInt8))
   (IfB (x4 == (1 : Int))
   (∃ (x25 : Bool), offcutlaw13_awake x25 ∧
   IfB x25
   (r = true)
   (r = false))
   (r = false))
   (r = false)))
   (∃ (x27 : Bool), offcutlaw13_awake x27 ∧
   IfB x27
   (r = true)
   (r = false))

end Go.Abs
end
