/- Part of a proof, in few files: BCd BNd DNat DLin B13n BDd D13p D13c. -/
import Derived.Test.YtdbfgnpobfbfmaaGreatDoorC13K22
import Derived.Lib.Strings
import Derived.Test.YtdbfgnpobfbfmaaGreatDoorC13K19
import Derived.Lib.IndexMore

section
/- Further functions of the library's on texts, told. -/
namespace Go.Abs
open Go
/-- strings.CutPrefix. -/
def strings_CutPrefix (s p : List UInt8) (r : List UInt8 × Bool) : Prop := r = (Lib.trimPrefix s p, Lib.hasPrefix s p)
end Go.Abs
end

section
/- What the library's functions on a number's words come to. -/
namespace Go.Abs
/-- slices.Clone. -/
def slices_Clone_nat_Nat_uint32 (l r : List Int) : Prop := Fits l.length 4 ∧ r = l
end Go.Abs
end

section
/- Printed by gen.py: what functions come to, as conditions over numbers and lists. -/
namespace Go.Abs
set_option linter.unusedVariables false
set_option linter.unusedSimpArgs false
set_option linter.unnecessarySimpa false

/-- math bits.Len32 -/
def math_bits_Len32 (p0 : Int) (r : Int) : Prop :=
  IfB (decide (p0 ≥ (65536 : Int)))
    (IfB (decide ((Int.fdiv p0 (2 ^ (min (Int.toNat (16 : Int)) (IntKind.bits .u32)))) ≥ (256 : Int)))
      (∃ (c1 : UInt8), Idx ([0, 1, 2, 2, 3, 3, 3, 3, 4, 4, 4, 4, 4, 4, 4, 4, 5, 5, 5, 5, 5, 5, 5, 5, 5, 5, 5, 5, 5, 5, 5, 5, 6, 6, 6, 6, 6, 6, 6, 6, 6, 6, 6, 6, 6, 6, 6, 6, 6, 6, 6, 6, 6, 6, 6, 6, 6, 6, 6, 6, 6, 6, 6, 6, 7, 7, 7, 7, 7, 7, 7, 7, 7, 7, 7, 7, 7, 7, 7, 7, 7, 7, 7, 7, 7, 7, 7, 7, 7, 7, 7, 7, 7, 7, 7, 7, 7, 7, 7, 7, 7, 7, 7, 7, 7, 7, 7, 7, 7, 7, 7, 7, 7, 7, 7, 7, 7, 7, 7, 7, 7, 7, 7, 7, 7, 7, 7, 7, 8, 8, 8, 8, 8, 8, 8, 8, 8, 8, 8, 8, 8, 8, 8, 8, 8, 8, 8, 8, 8, 8, 8, 8, 8, 8, 8, 8, 8, 8, 8, 8, 8, 8, 8, 8, 8, 8, 8, 8, 8, 8, 8, 8, 8, 8, 8, 8, 8, 8, 8, 8, 8, 8, 8, 8, 8, 8, 8, 8, 8, 8, 8, 8, 8, 8, 8, 8, 8, 8, 8, 8, 8, 8, 8, 8, 8, 8, 8, 8, 8, 8, 8, 8, 8, 8, 8, 8, 8, 8, 8, 8, 8, 8, 8, 8, 8, 8, 8, 8, 8, 8, 8, 8, 8, 8, 8, 8, 8, 8, 8, 8, 8, 8, 8, 8, 8, 8, 8, 8, 8, 8, 8, 8, 8, 8, 8, 8] : List UInt8) (IntKind.u8.wrap (Int.fdiv (Int.fdiv p0 (2 ^ (min (Int.toNat (16 : Int)) (IntKind.bits .u32)))) (2 ^ (min (Int.toNat (8 : Int)) (IntKind.bits .u32))))) c1 ∧
      r = (IntKind.i64.wrap (24 + (IntKind.i64.wrap ((c1.toNat : Nat) : Int)))))
      (∃ (c3 : UInt8), Idx ([0, 1, 2, 2, 3, 3, 3, 3, 4, 4, 4, 4, 4, 4, 4, 4, 5, 5, 5, 5, 5, 5, 5, 5, 5, 5, 5, 5, 5, 5, 5, 5, 6, 6, 6, 6, 6, 6, 6, 6, 6, 6, 6, 6, 6, 6, 6, 6, 6, 6, 6, 6, 6, 6, 6, 6, 6, 6, 6, 6, 6, 6, 6, 6, 7, 7, 7, 7, 7, 7, 7, 7, 7, 7, 7, 7, 7, 7, 7, 7, 7, 7, 7, 7, 7, 7, 7, 7, 7, 7, 7, 7, 7, 7, 7, 7, 7, 7, 7, 7, 7, 7, 7, 7, 7, 7, 7, 7, 7, 7, 7, 7, 7, 7, 7, 7, 7, 7, 7, 7, 7, 7, 7, 7, 7, 7, 7, 7, 8, 8, 8, 8, 8, 8, 8, 8, 8, 8, 8, 8, 8, 8, 8, 8, 8, 8, 8, 8, 8, 8, 8, 8, 8, 8, 8, 8, 8, 8, 8, 8, 8, 8, 8, 8, 8, 8, 8, 8, 8, 8, 8, 8, 8, 8, 8, 8, 8, 8, 8, 8, 8, 8, 8, 8, 8, 8, 8, 8, 8, 8, 8, 8, 8, 8, 8, 8, 8, 8, 8, 8, 8, 8, 8, 8, 8, 8, 8, 8, 8, 8, 8, 8, 8, 8, 8, 8, 8, 8, 8, 8, 8, 8, 8, 8, 8, 8, 8, 8, 8, 8, 8, 8, 8, 8, 8, 8, 8, 8, 8, 8, 8, 8, 8, 8, 8, 8, 8, 8, 8, 8, 8, 8, 8, 8, 8, 8] : List UInt8) (IntKind.u8.wrap (Int.fdiv p0 (2 ^ (min (Int.toNat (16 : Int)) (IntKind.bits .u32))))) c3 ∧
      r = (IntKind.i64.wrap (16 + (IntKind.i64.wrap ((c3.toNat : Nat) : Int))))))
    (IfB (decide (p0 ≥ (256 : Int)))
      (∃ (c5 : UInt8), Idx ([0, 1, 2, 2, 3, 3, 3, 3, 4, 4, 4, 4, 4, 4, 4, 4, 5, 5, 5, 5, 5, 5, 5, 5, 5, 5, 5, 5, 5, 5, 5, 5, 6, 6, 6, 6, 6, 6, 6, 6, 6, 6, 6, 6, 6, 6, 6, 6, 6, 6, 6, 6, 6, 6, 6, 6, 6, 6, 6, 6, 6, 6, 6, 6, 7, 7, 7, 7, 7, 7, 7, 7, 7, 7, 7, 7, 7, 7, 7, 7, 7, 7, 7, 7, 7, 7, 7, 7, 7, 7, 7, 7, 7, 7, 7, 7, 7, 7, 7, 7, 7, 7, 7, 7, 7, 7, 7, 7, 7, 7, 7, 7, 7, 7, 7, 7, 7, 7, 7, 7, 7, 7, 7, 7, 7, 7, 7, 7, 8, 8, 8, 8, 8, 8, 8, 8, 8, 8, 8, 8, 8, 8, 8, 8, 8, 8, 8, 8, 8, 8, 8, 8, 8, 8, 8, 8, 8, 8, 8, 8, 8, 8, 8, 8, 8, 8, 8, 8, 8, 8, 8, 8, 8, 8, 8, 8, 8, 8, 8, 8, 8, 8, 8, 8, 8, 8, 8, 8, 8, 8, 8, 8, 8, 8, 8, 8, 8, 8, 8, 8, 8, 8, 8, 8, 8, 8, 8, 8, 8, 8, 8, 8, 8, 8, 8, 8, 8, 8, 8, 8, 8, 8, 8, 8, 8, 8, 8, 8, 8, 8, 8, 8, 8, 8, 8, 8, 8, 8, 8, 8, 8, 8, 8, 8, 8, 8, 8, 8, 8, 8, 8, 8, 8, 8, 8, 8] : List UInt8) (IntKind.u8.wrap (Int.fdiv p0 (2 ^ (min (Int.toNat (8 : Int)) (IntKind.bits .u32))))) c5 ∧
      r = (IntKind.i64.wrap (8 + (IntKind.i64.wrap ((c5.toNat : Nat) : Int)))))
      (∃ (c7 : UInt8), Idx ([0, 1, 2, 2, 3, 3, 3, 3, 4, 4, 4, 4, 4, 4, 4, 4, 5, 5, 5, 5, 5, 5, 5, 5, 5, 5, 5, 5, 5, 5, 5, 5, 6, 6, 6, 6, 6, 6, 6, 6, 6, 6, 6, 6, 6, 6, 6, 6, 6, 6, 6, 6, 6, 6, 6, 6, 6, 6, 6, 6, 6, 6, 6, 6, 7, 7, 7, 7, 7, 7, 7, 7, 7, 7, 7, 7, 7, 7, 7, 7, 7, 7, 7, 7, 7, 7, 7, 7, 7, 7, 7, 7, 7, 7, 7, 7, 7, 7, 7, 7, 7, 7, 7, 7, 7, 7, 7, 7, 7, 7, 7, 7, 7, 7, 7, 7, 7, 7, 7, 7, 7, 7, 7, 7, 7, 7, 7, 7, 8, 8, 8, 8, 8, 8, 8, 8, 8, 8, 8, 8, 8, 8, 8, 8, 8, 8, 8, 8, 8, 8, 8, 8, 8, 8, 8, 8, 8, 8, 8, 8, 8, 8, 8, 8, 8, 8, 8, 8, 8, 8, 8, 8, 8, 8, 8, 8, 8, 8, 8, 8, 8, 8, 8, 8, 8, 8, 8, 8, 8, 8, 8, 8, 8, 8, 8, 8, 8, 8, 8, 8, 8, 8, 8, 8, 8, 8, 8, 8, 8, 8, 8, 8, 8, 8, 8, 8, 8, 8, 8, 8, 8, 8, 8, 8, 8, 8, 8, 8, 8, 8, 8, 8, 8, 8, 8, 8, 8, 8, 8, 8, 8, 8, 8, 8, 8, 8, 8, 8, 8, 8, 8, 8, 8, 8, 8, 8] : List UInt8) (IntKind.u8.wrap p0) c7 ∧
      r = (IntKind.i64.wrap (0 + (IntKind.i64.wrap ((c7.toNat : Nat) : Int))))))

def nat_trim_L1 (p0 : List Int) (r : (List Int)) (X1 : Int → Prop) (s : Int) : Prop := match s with
  | s100 =>
  IfB (decide (s100 > (0 : Int)))
    (∃ (x1 : Int), Idx p0 (IntKind.i64.wrap (s100 - 1)) x1 ∧
    IfB (x1 == (0 : Int))
      (X1 (IntKind.i64.wrap (s100 - 1)))
      (SubOk p0 0 s100 ∧
      ∃ (x4 : List Int), slices_Clone_nat_Nat_uint32 (sub p0 0 s100) x4 ∧
      r = x4))
    (SubOk p0 0 s100 ∧
    ∃ (x7 : List Int), slices_Clone_nat_Nat_uint32 (sub p0 0 s100) x7 ∧
    r = x7)

/-- offcut nat.trim -/
def nat_trim (p0 : List Int) (r : (List Int)) : Prop :=
  LoopP (nat_trim_L1 p0 r) (p0.length : Int)

/-- offcut nat.Of -/
def nat_Of (p0 : Int) (r : (List Int)) : Prop :=
  ∃ (x1 : List Int), nat_trim [(IntKind.u32.wrap p0), (IntKind.u32.wrap (Int.fdiv p0 (2 ^ (min (Int.toNat (32 : Int)) (IntKind.bits .u64)))))] x1 ∧
  r = x1

def nat_Small_L1 (x1 : List Int) (r : Int × Bool) (X1 : (Int × Int) → Prop) (s : Int × Int) : Prop := match s with
  | (s100, s101) =>
  IfB (decide (s100 ≥ (0 : Int)))
    (∃ (x3 : Int), Idx x1 s100 x3 ∧
    X1 ((IntKind.i64.wrap (s100 - 1)), (bitO .u64 (IntKind.u64.wrap (s101 * 2 ^ (min (Int.toNat (32 : Int)) (IntKind.bits .u64)))) (IntKind.u64.wrap x3))))
    (r = (s101, true))

/-- offcut nat.Small -/
def nat_Small (p0 : List Int) (r : Int × Bool) : Prop :=
  ∃ (x1 : List Int), nat_trim p0 x1 ∧
  IfB (decide ((x1.length : Int) > (2 : Int)))
    (r = (0, false))
    (LoopP (nat_Small_L1 x1 r) ((IntKind.i64.wrap ((x1.length : Int) - 1)), (0 : Int)))

def nat_Compare_L1 (x1 : List Int) (x3 : List Int) (r : Int) (X1 : Int → Prop) (s : Int) : Prop := match s with
  | s100 =>
  IfB (decide (s100 ≥ (0 : Int)))
    (∃ (x5 : Int), Idx x1 s100 x5 ∧
    ∃ (x7 : Int), Idx x3 s100 x7 ∧
    IfB (decide (x5 < x7))
      (r = (-1))
      (∃ (x9 : Int), Idx x3 s100 x9 ∧
      IfB (decide (x5 > x9))
        (r = 1)
        (X1 (IntKind.i64.wrap (s100 - 1)))))
    (r = 0)

/-- offcut nat.Compare -/
def nat_Compare (p0 : List Int) (p1 : List Int) (r : Int) : Prop :=
  ∃ (x1 : List Int), nat_trim p0 x1 ∧
  ∃ (x3 : List Int), nat_trim p1 x3 ∧
  IfB ((x1.length : Int) != (x3.length : Int))
    (r = (if (1 : Int) < (if (-1 : Int) > (IntKind.i64.wrap ((x1.length : Int) - (x3.length : Int))) then (-1) else (IntKind.i64.wrap ((x1.length : Int) - (x3.length : Int)))) then 1 else (if (-1 : Int) > (IntKind.i64.wrap ((x1.length : Int) - (x3.length : Int))) then (-1) else (IntKind.i64.wrap ((x1.length : Int) - (x3.length : Int))))))
    (LoopP (nat_Compare_L1 x1 x3 r) (IntKind.i64.wrap ((x1.length : Int) - 1)))

/-- offcut nat.at -/
def nat_at (p0 : List Int) (p1 : Int) (r : Int) : Prop :=
  IfB (decide (p1 < (p0.length : Int)))
    (∃ (x1 : Int), Idx p0 p1 x1 ∧
    r = (IntKind.u64.wrap x1))
    (r = 0)

def nat_Add_L1 (p0 : List Int) (p1 : List Int) (r : (List Int)) (X1 : (Int × Int × (List Int)) → Prop) (s : Int × Int × (List Int)) : Prop := match s with
  | (s100, s101, s150) =>
  IfB (decide (s101 < ((List.replicate (Int.toNat (IntKind.i64.wrap ((if (p1.length : Int) > (p0.length : Int) then (p1.length : Int) else (p0.length : Int)) + 1))) (0 : Int)).length : Int)))
    (∃ (x4 : Int), nat_at p0 s101 x4 ∧
    ∃ (x6 : Int), nat_at p1 s101 x6 ∧
    ∃ (x8 : Int), Idx s150 s101 x8 ∧
    X1 ((Int.fdiv (IntKind.u64.wrap (s100 + (IntKind.u64.wrap (x4 + x6)))) (2 ^ (min (Int.toNat (32 : Int)) (IntKind.bits .u64)))), (IntKind.i64.wrap (s101 + 1)), (s150.set (Int.toNat s101) (IntKind.u32.wrap (IntKind.u64.wrap (s100 + (IntKind.u64.wrap (x4 + x6))))))))
    (∃ (x10 : List Int), nat_trim s150 x10 ∧
    r = x10)

/-- offcut nat.Add -/
def nat_Add (p0 : List Int) (p1 : List Int) (r : (List Int)) : Prop :=
  (0 ≤ (IntKind.i64.wrap ((if (p1.length : Int) > (p0.length : Int) then (p1.length : Int) else (p0.length : Int)) + 1)) ∧ Fits (Int.toNat (IntKind.i64.wrap ((if (p1.length : Int) > (p0.length : Int) then (p1.length : Int) else (p0.length : Int)) + 1))) 4 ∧ Fits (Int.toNat (IntKind.i64.wrap ((if (p1.length : Int) > (p0.length : Int) then (p1.length : Int) else (p0.length : Int)) + 1))) 1) ∧
  LoopP (nat_Add_L1 p0 p1 r) ((0 : Int), (0 : Int), (List.replicate (Int.toNat (IntKind.i64.wrap ((if (p1.length : Int) > (p0.length : Int) then (p1.length : Int) else (p0.length : Int)) + 1))) (0 : Int)))

def nat_Sub_L1 (p0 : List Int) (p1 : List Int) (r : (List Int) × Bool) (X1 : (Int × Int × (List Int)) → Prop) (s : Int × Int × (List Int)) : Prop := match s with
  | (s100, s101, s150) =>
  IfB (decide (s101 < ((List.replicate (Int.toNat (p0.length : Int)) (0 : Int)).length : Int)))
    (∃ (x6 : Int), nat_at p0 s101 x6 ∧
    ∃ (x8 : Int), nat_at p1 s101 x8 ∧
    ∃ (x10 : Int), Idx s150 s101 x10 ∧
    X1 ((Int.fdiv (IntKind.u64.wrap ((IntKind.u64.wrap (x6 - x8)) - s100)) (2 ^ (min (Int.toNat (63 : Int)) (IntKind.bits .u64)))), (IntKind.i64.wrap (s101 + 1)), (s150.set (Int.toNat s101) (IntKind.u32.wrap (IntKind.u64.wrap ((IntKind.u64.wrap (x6 - x8)) - s100))))))
    (∃ (x12 : List Int), nat_trim s150 x12 ∧
    r = (x12, true))

/-- offcut nat.Sub -/
def nat_Sub (p0 : List Int) (p1 : List Int) (r : (List Int) × Bool) : Prop :=
  ∃ (x1 : Int), nat_Compare p0 p1 x1 ∧
  IfB (decide (x1 < (0 : Int)))
    (r = (([] : List Int), false))
    ((0 ≤ (p0.length : Int) ∧ Fits (Int.toNat (p0.length : Int)) 4 ∧ Fits (Int.toNat (p0.length : Int)) 1) ∧
    LoopP (nat_Sub_L1 p0 p1 r) ((0 : Int), (0 : Int), (List.replicate (Int.toNat (p0.length : Int)) (0 : Int))))

def nat_Mul_L2 (p1 : List Int) (s100 : Int) (X1 : (Int × (List Int)) → Prop) (x4 : Int) (X2 : (Int × Int × (List Int)) → Prop) (s : Int × Int × (List Int)) : Prop := match s with
  | (s200, s201, s250) =>
  IfB (decide (s201 < (p1.length : Int)))
    (∃ (x6 : Int), Idx p1 s201 x6 ∧
    ∃ (x8 : Int), Idx s250 (IntKind.i64.wrap (s100 + s201)) x8 ∧
    ∃ (x10 : Int), Idx s250 (IntKind.i64.wrap (s100 + s201)) x10 ∧
    X2 ((Int.fdiv (IntKind.u64.wrap (s200 + (IntKind.u64.wrap ((IntKind.u64.wrap ((IntKind.u64.wrap x4) * (IntKind.u64.wrap x6))) + (IntKind.u64.wrap x8))))) (2 ^ (min (Int.toNat (32 : Int)) (IntKind.bits .u64)))), (IntKind.i64.wrap (s201 + 1)), (s250.set (Int.toNat (IntKind.i64.wrap (s100 + s201))) (IntKind.u32.wrap (IntKind.u64.wrap (s200 + (IntKind.u64.wrap ((IntKind.u64.wrap ((IntKind.u64.wrap x4) * (IntKind.u64.wrap x6))) + (IntKind.u64.wrap x8)))))))))
    (∃ (x12 : Int), Idx s250 (IntKind.i64.wrap (s100 + (p1.length : Int))) x12 ∧
    X1 ((IntKind.i64.wrap (s100 + 1)), (s250.set (Int.toNat (IntKind.i64.wrap (s100 + (p1.length : Int)))) (IntKind.u32.wrap s200))))

def nat_Mul_L1 (p0 : List Int) (p1 : List Int) (r : (List Int)) (X1 : (Int × (List Int)) → Prop) (s : Int × (List Int)) : Prop := match s with
  | (s100, s150) =>
  IfB (decide (s100 < (p0.length : Int)))
    (∃ (x4 : Int), Idx p0 s100 x4 ∧
    LoopP (nat_Mul_L2 p1 s100 X1 x4) ((0 : Int), (0 : Int), s150))
    (∃ (x14 : List Int), nat_trim s150 x14 ∧
    r = x14)

/-- offcut nat.Mul -/
def nat_Mul (p0 : List Int) (p1 : List Int) (r : (List Int)) : Prop :=
  (0 ≤ (IntKind.i64.wrap ((p0.length : Int) + (p1.length : Int))) ∧ Fits (Int.toNat (IntKind.i64.wrap ((p0.length : Int) + (p1.length : Int)))) 4 ∧ Fits (Int.toNat (IntKind.i64.wrap ((p0.length : Int) + (p1.length : Int)))) 1) ∧
  LoopP (nat_Mul_L1 p0 p1 r) ((0 : Int), (List.replicate (Int.toNat (IntKind.i64.wrap ((p0.length : Int) + (p1.length : Int)))) (0 : Int)))

/-- offcut nat.Bits -/
def nat_Bits (p0 : List Int) (r : Int) : Prop :=
  ∃ (x1 : List Int), nat_trim p0 x1 ∧
  IfB ((x1.length : Int) == (0 : Int))
    (r = 0)
    (∃ (x3 : Int), Idx x1 (IntKind.i64.wrap ((x1.length : Int) - 1)) x3 ∧
    ∃ (x5 : Int), math_bits_Len32 x3 x5 ∧
    r = (IntKind.i64.wrap ((IntKind.i64.wrap (32 * (IntKind.i64.wrap ((x1.length : Int) - 1)))) + x5)))

def nat_Shift_L1 (p0 : List Int) (p1 : Int) (r : (List Int)) (X1 : (Int × (List Int)) → Prop) (s : Int × (List Int)) : Prop := match s with
  | (s100, s150) =>
  IfB (decide (s100 < (p0.length : Int)))
    (∃ (x8 : Int), Idx p0 s100 x8 ∧
    0 ≤ (Int.tmod p1 (32 : Int)) ∧
    ∃ (x11 : Int), Idx s150 (IntKind.i64.wrap (s100 + (IntKind.i64.wrap (Int.tdiv p1 (32 : Int))))) x11 ∧
    ∃ (x13 : Int), Idx s150 (IntKind.i64.wrap (s100 + (IntKind.i64.wrap (Int.tdiv p1 (32 : Int))))) x13 ∧
    ∃ (x15 : Int), Idx (s150.set (Int.toNat (IntKind.i64.wrap (s100 + (IntKind.i64.wrap (Int.tdiv p1 (32 : Int)))))) (bitO .u32 x11 (IntKind.u32.wrap (IntKind.u64.wrap ((IntKind.u64.wrap x8) * 2 ^ (min (Int.toNat (Int.tmod p1 (32 : Int))) (IntKind.bits .u64))))))) (IntKind.i64.wrap ((IntKind.i64.wrap (s100 + (IntKind.i64.wrap (Int.tdiv p1 (32 : Int))))) + 1)) x15 ∧
    ∃ (x17 : Int), Idx (s150.set (Int.toNat (IntKind.i64.wrap (s100 + (IntKind.i64.wrap (Int.tdiv p1 (32 : Int)))))) (bitO .u32 x11 (IntKind.u32.wrap (IntKind.u64.wrap ((IntKind.u64.wrap x8) * 2 ^ (min (Int.toNat (Int.tmod p1 (32 : Int))) (IntKind.bits .u64))))))) (IntKind.i64.wrap ((IntKind.i64.wrap (s100 + (IntKind.i64.wrap (Int.tdiv p1 (32 : Int))))) + 1)) x17 ∧
    X1 ((IntKind.i64.wrap (s100 + 1)), ((s150.set (Int.toNat (IntKind.i64.wrap (s100 + (IntKind.i64.wrap (Int.tdiv p1 (32 : Int)))))) (bitO .u32 x11 (IntKind.u32.wrap (IntKind.u64.wrap ((IntKind.u64.wrap x8) * 2 ^ (min (Int.toNat (Int.tmod p1 (32 : Int))) (IntKind.bits .u64))))))).set (Int.toNat (IntKind.i64.wrap ((IntKind.i64.wrap (s100 + (IntKind.i64.wrap (Int.tdiv p1 (32 : Int))))) + 1))) (bitO .u32 x15 (IntKind.u32.wrap (Int.fdiv (IntKind.u64.wrap ((IntKind.u64.wrap x8) * 2 ^ (min (Int.toNat (Int.tmod p1 (32 : Int))) (IntKind.bits .u64)))) (2 ^ (min (Int.toNat (32 : Int)) (IntKind.bits .u64)))))))))
    (∃ (x19 : List Int), nat_trim s150 x19 ∧
    r = x19)

/-- offcut nat.Shift -/
def nat_Shift (p0 : List Int) (p1 : Int) (r : (List Int)) : Prop :=
  IfB (decide (p1 < (0 : Int)))
    (∃ (x1 : List Int), nat_trim p0 x1 ∧
    r = x1)
    (IfB (decide (p1 > (65536 : Int)))
      (∃ (x3 : List Int), nat_trim p0 x3 ∧
      r = x3)
      ((0 ≤ (IntKind.i64.wrap ((IntKind.i64.wrap ((p0.length : Int) + (IntKind.i64.wrap (Int.tdiv p1 (32 : Int))))) + 1)) ∧ Fits (Int.toNat (IntKind.i64.wrap ((IntKind.i64.wrap ((p0.length : Int) + (IntKind.i64.wrap (Int.tdiv p1 (32 : Int))))) + 1))) 4 ∧ Fits (Int.toNat (IntKind.i64.wrap ((IntKind.i64.wrap ((p0.length : Int) + (IntKind.i64.wrap (Int.tdiv p1 (32 : Int))))) + 1))) 1) ∧
      LoopP (nat_Shift_L1 p0 p1 r) ((0 : Int), (List.replicate (Int.toNat (IntKind.i64.wrap ((IntKind.i64.wrap ((p0.length : Int) + (IntKind.i64.wrap (Int.tdiv p1 (32 : Int))))) + 1))) (0 : Int)))))

def nat_digit_L1 (p1 : List Int) (r : Int × (List Int)) (X1 : ((List Int) × Int × Int) → Prop) (s : (List Int) × Int × Int) : Prop := match s with
  | (s100, s101, s102) =>
  IfB (decide (s102 ≥ (0 : Int)))
    (∃ (x1 : List Int), nat_Shift p1 s102 x1 ∧
    ∃ (x3 : List Int) (x4 : Bool), nat_Sub s100 x1 (x3, x4) ∧
    IfB x4
      (0 ≤ s102 ∧
      X1 (x3, (bitO .u32 s101 (IntKind.u32.wrap ((1 : Int) * 2 ^ (min (Int.toNat s102) (IntKind.bits .u32))))), (IntKind.i64.wrap (s102 - 1))))
      (X1 (s100, s101, (IntKind.i64.wrap (s102 - 1)))))
    (r = (s101, s100))

/-- offcut nat.digit -/
def nat_digit (p0 : List Int) (p1 : List Int) (r : Int × (List Int)) : Prop :=
  LoopP (nat_digit_L1 p1 r) (p0, (0 : Int), (31 : Int))

def nat_DivMod_L1 (x1 : List Int) (x3 : List Int) (r : (List Int) × (List Int) × Int) (X1 : (Int × (List Int) × (List Int)) → Prop) (s : Int × (List Int) × (List Int)) : Prop := match s with
  | (s100, s101, s151) =>
  IfB (decide (s100 ≥ (0 : Int)))
    (∃ (x8 : Int), Idx x1 s100 x8 ∧
    IfB s101.isEmpty
      (∃ (x11 : List Int), nat_trim [x8] x11 ∧
      IfB ((x3.length : Int) == (1 : Int))
        (∃ (x13 : Int) (x14 : Bool), nat_Small x11 (x13, x14) ∧
        IfB x14
          (∃ (x16 : Int), Idx x3 (0 : Int) x16 ∧
          (IntKind.u64.wrap x16) ≠ 0 ∧
          ∃ (x19 : Int), Idx s151 s100 x19 ∧
          ∃ (x21 : Int), Idx x3 (0 : Int) x21 ∧
          (IntKind.u64.wrap x21) ≠ 0 ∧
          ∃ (x24 : List Int), nat_Of (Int.tmod x13 (IntKind.u64.wrap x21)) x24 ∧
          X1 ((IntKind.i64.wrap (s100 - 1)), x24, (s151.set (Int.toNat s100) (IntKind.u32.wrap (IntKind.u64.wrap (Int.tdiv x13 (IntKind.u64.wrap x16)))))))
          (∃ (x26 : Int), Idx x3 (0 : Int) x26 ∧
          (IntKind.u64.wrap x26) ≠ 0 ∧
          ∃ (x29 : Int), Idx s151 s100 x29 ∧
          ∃ (x31 : Int), Idx x3 (0 : Int) x31 ∧
          (IntKind.u64.wrap x31) ≠ 0 ∧
          ∃ (x34 : List Int), nat_Of (Int.tmod x13 (IntKind.u64.wrap x31)) x34 ∧
          X1 ((IntKind.i64.wrap (s100 - 1)), x34, (s151.set (Int.toNat s100) (IntKind.u32.wrap (IntKind.u64.wrap (Int.tdiv x13 (IntKind.u64.wrap x26))))))))
        (∃ (x36 : Int) (x37 : List Int), nat_digit x11 x3 (x36, x37) ∧
        ∃ (x39 : Int), Idx s151 s100 x39 ∧
        X1 ((IntKind.i64.wrap (s100 - 1)), x37, (s151.set (Int.toNat s100) x36))))
      (Fits ([x8].length + s101.length) 4 ∧
      ∃ (x42 : List Int), nat_trim ([x8] ++ s101) x42 ∧
      IfB ((x3.length : Int) == (1 : Int))
        (∃ (x44 : Int) (x45 : Bool), nat_Small x42 (x44, x45) ∧
        IfB x45
          (∃ (x47 : Int), Idx x3 (0 : Int) x47 ∧
          (IntKind.u64.wrap x47) ≠ 0 ∧
          ∃ (x50 : Int), Idx s151 s100 x50 ∧
          ∃ (x52 : Int), Idx x3 (0 : Int) x52 ∧
          (IntKind.u64.wrap x52) ≠ 0 ∧
          ∃ (x55 : List Int), nat_Of (Int.tmod x44 (IntKind.u64.wrap x52)) x55 ∧
          X1 ((IntKind.i64.wrap (s100 - 1)), x55, (s151.set (Int.toNat s100) (IntKind.u32.wrap (IntKind.u64.wrap (Int.tdiv x44 (IntKind.u64.wrap x47)))))))
          (∃ (x57 : Int), Idx x3 (0 : Int) x57 ∧
          (IntKind.u64.wrap x57) ≠ 0 ∧
          ∃ (x60 : Int), Idx s151 s100 x60 ∧
          ∃ (x62 : Int), Idx x3 (0 : Int) x62 ∧
          (IntKind.u64.wrap x62) ≠ 0 ∧
          ∃ (x65 : List Int), nat_Of (Int.tmod x44 (IntKind.u64.wrap x62)) x65 ∧
          X1 ((IntKind.i64.wrap (s100 - 1)), x65, (s151.set (Int.toNat s100) (IntKind.u32.wrap (IntKind.u64.wrap (Int.tdiv x44 (IntKind.u64.wrap x57))))))))
        (∃ (x67 : Int) (x68 : List Int), nat_digit x42 x3 (x67, x68) ∧
        ∃ (x70 : Int), Idx s151 s100 x70 ∧
        X1 ((IntKind.i64.wrap (s100 - 1)), x68, (s151.set (Int.toNat s100) x67)))))
    (∃ (x72 : List Int), nat_trim s151 x72 ∧
    r = (x72, s101, 0))

/-- offcut nat.DivMod -/
def nat_DivMod (p0 : List Int) (p1 : List Int) (r : (List Int) × (List Int) × Int) : Prop :=
  ∃ (x1 : List Int), nat_trim p0 x1 ∧
  ∃ (x3 : List Int), nat_trim p1 x3 ∧
  IfB ((x3.length : Int) == (0 : Int))
    (r = (([] : List Int), ([] : List Int), 5))
    ((0 ≤ (x1.length : Int) ∧ Fits (Int.toNat (x1.length : Int)) 4 ∧ Fits (Int.toNat (x1.length : Int)) 1) ∧
    LoopP (nat_DivMod_L1 x1 x3 r) ((IntKind.i64.wrap ((x1.length : Int) - 1)), ([] : List Int), (List.replicate (Int.toNat (x1.length : Int)) (0 : Int))))

def nat_Gcd_L1 (r : (List Int)) (X1 : ((List Int) × (List Int)) → Prop) (s : (List Int) × (List Int)) : Prop := match s with
  | (s100, s101) =>
  IfB (decide ((s101.length : Int) > (0 : Int)))
    (∃ (x5 : List Int) (x6 : List Int) (x7 : Int), nat_DivMod s100 s101 (x5, x6, x7) ∧
    X1 (s101, x6))
    (r = s100)

/-- offcut nat.Gcd -/
def nat_Gcd (p0 : List Int) (p1 : List Int) (r : (List Int)) : Prop :=
  ∃ (x1 : List Int), nat_trim p0 x1 ∧
  ∃ (x3 : List Int), nat_trim p1 x3 ∧
  LoopP (nat_Gcd_L1 r) (x1, x3)

/-- offcut whole.Make -/
def whole_Make (p0 : Bool) (p1 : List Int) (r : Bool × (List Int)) : Prop :=
  IfB p0
    (∃ (x1 : List Int), nat_Shift p1 (0 : Int) x1 ∧
    IfB (decide ((x1.length : Int) > (0 : Int)))
      (r = (true, x1))
      (r = (false, x1)))
    (∃ (x3 : List Int), nat_Shift p1 (0 : Int) x3 ∧
    r = (false, x3))

/-- offcut whole.Of -/
def whole_Of (p0 : Int) (r : Bool × (List Int)) : Prop :=
  IfB (decide (p0 < (0 : Int)))
    (∃ (x1 : List Int), nat_Of (IntKind.u64.wrap (if (IntKind.i64.wrap (0 - p0)) > p0 then (IntKind.i64.wrap (0 - p0)) else p0)) x1 ∧
    ∃ (x3 : Bool) (x4 : List Int), whole_Make true x1 (x3, x4) ∧
    r = (x3, x4))
    (∃ (x6 : List Int), nat_Of (IntKind.u64.wrap (if (IntKind.i64.wrap (0 - p0)) > p0 then (IntKind.i64.wrap (0 - p0)) else p0)) x6 ∧
    ∃ (x8 : Bool) (x9 : List Int), whole_Make false x6 (x8, x9) ∧
    r = (x8, x9))

/-- offcut whole.Sign -/
def whole_Sign (p0 : Bool) (p1 : List Int) (r : Int) : Prop :=
  ∃ (x1 : Bool) (x2 : List Int), whole_Make p0 p1 (x1, x2) ∧
  IfB x1
    (IfB ((x2.length : Int) == (0 : Int))
      (r = 0)
      (r = (-1)))
    (IfB ((x2.length : Int) == (0 : Int))
      (r = 0)
      (r = 1))

/-- offcut whole.Compare -/
def whole_Compare (p0 : Bool) (p1 : List Int) (p2 : Bool) (p3 : List Int) (r : Int) : Prop :=
  ∃ (x1 : Int), whole_Sign p0 p1 x1 ∧
  ∃ (x3 : Int), whole_Sign p2 p3 x3 ∧
  IfB (x1 != x3)
    (r = (if (1 : Int) < (if (-1 : Int) > (IntKind.i64.wrap (x1 - x3)) then (-1) else (IntKind.i64.wrap (x1 - x3))) then 1 else (if (-1 : Int) > (IntKind.i64.wrap (x1 - x3)) then (-1) else (IntKind.i64.wrap (x1 - x3)))))
    (IfB (decide (x1 < (0 : Int)))
      (∃ (x5 : Int), nat_Compare p3 p1 x5 ∧
      r = x5)
      (∃ (x7 : Int), nat_Compare p1 p3 x7 ∧
      r = x7))

/-- offcut whole.Add -/
def whole_Add (p0 : Bool) (p1 : List Int) (p2 : Bool) (p3 : List Int) (r : Bool × (List Int)) : Prop :=
  ∃ (x1 : Int), whole_Sign p0 p1 x1 ∧
  IfB (decide (x1 < (0 : Int)))
    (∃ (x3 : Int), whole_Sign p2 p3 x3 ∧
    IfB (decide (x3 < (0 : Int)))
      (∃ (x5 : Int), whole_Sign p0 p1 x5 ∧
      IfB (decide (x5 < (0 : Int)))
        (∃ (x7 : List Int), nat_Add p1 p3 x7 ∧
        ∃ (x9 : Bool) (x10 : List Int), whole_Make true x7 (x9, x10) ∧
        r = (x9, x10))
        (∃ (x12 : List Int), nat_Add p1 p3 x12 ∧
        ∃ (x14 : Bool) (x15 : List Int), whole_Make false x12 (x14, x15) ∧
        r = (x14, x15)))
      (∃ (x17 : List Int) (x18 : Bool), nat_Sub p1 p3 (x17, x18) ∧
      IfB x18
        (∃ (x20 : Int), whole_Sign p0 p1 x20 ∧
        IfB (decide (x20 < (0 : Int)))
          (∃ (x22 : Bool) (x23 : List Int), whole_Make true x17 (x22, x23) ∧
          r = (x22, x23))
          (∃ (x25 : Bool) (x26 : List Int), whole_Make false x17 (x25, x26) ∧
          r = (x25, x26)))
        (∃ (x28 : List Int) (x29 : Bool), nat_Sub p3 p1 (x28, x29) ∧
        IfB x29
          (∃ (x31 : Int), whole_Sign p2 p3 x31 ∧
          IfB (decide (x31 < (0 : Int)))
            (∃ (x33 : Bool) (x34 : List Int), whole_Make true x28 (x33, x34) ∧
            r = (x33, x34))
            (∃ (x36 : Bool) (x37 : List Int), whole_Make false x28 (x36, x37) ∧
            r = (x36, x37)))
          (∃ (x39 : Int), whole_Sign p2 p3 x39 ∧
          IfB (decide (x39 < (0 : Int)))
            (∃ (x41 : Bool) (x42 : List Int), whole_Make true x28 (x41, x42) ∧
            r = (x41, x42))
            (∃ (x44 : Bool) (x45 : List Int), whole_Make false x28 (x44, x45) ∧
            r = (x44, x45))))))
    (∃ (x47 : Int), whole_Sign p2 p3 x47 ∧
    IfB (decide (x47 < (0 : Int)))
      (∃ (x49 : List Int) (x50 : Bool), nat_Sub p1 p3 (x49, x50) ∧
      IfB x50
        (∃ (x52 : Int), whole_Sign p0 p1 x52 ∧
        IfB (decide (x52 < (0 : Int)))
          (∃ (x54 : Bool) (x55 : List Int), whole_Make true x49 (x54, x55) ∧
          r = (x54, x55))
          (∃ (x57 : Bool) (x58 : List Int), whole_Make false x49 (x57, x58) ∧
          r = (x57, x58)))
        (∃ (x60 : List Int) (x61 : Bool), nat_Sub p3 p1 (x60, x61) ∧
        IfB x61
          (∃ (x63 : Int), whole_Sign p2 p3 x63 ∧
          IfB (decide (x63 < (0 : Int)))
            (∃ (x65 : Bool) (x66 : List Int), whole_Make true x60 (x65, x66) ∧
            r = (x65, x66))
            (∃ (x68 : Bool) (x69 : List Int), whole_Make false x60 (x68, x69) ∧
            r = (x68, x69)))
          (∃ (x71 : Int), whole_Sign p2 p3 x71 ∧
          IfB (decide (x71 < (0 : Int)))
            (∃ (x73 : Bool) (x74 : List Int), whole_Make true x60 (x73, x74) ∧
            r = (x73, x74))
            (∃ (x76 : Bool) (x77 : List Int), whole_Make false x60 (x76, x77) ∧
            r = (x76, x77)))))
      (∃ (x79 : Int), whole_Sign p0 p1 x79 ∧
      IfB (decide (x79 < (0 : Int)))
        (∃ (x81 : List Int), nat_Add p1 p3 x81 ∧
        ∃ (x83 : Bool) (x84 : List Int), whole_Make true x81 (x83, x84) ∧
        r = (x83, x84))
        (∃ (x86 : List Int), nat_Add p1 p3 x86 ∧
        ∃ (x88 : Bool) (x89 : List Int), whole_Make false x86 (x88, x89) ∧
        r = (x88, x89))))

/-- offcut whole.Mul -/
def whole_Mul (p0 : Bool) (p1 : List Int) (p2 : Bool) (p3 : List Int) (r : Bool × (List Int)) : Prop :=
  ∃ (x1 : Int), whole_Sign p0 p1 x1 ∧
  ∃ (x3 : Int), whole_Sign p2 p3 x3 ∧
  IfB (decide ((IntKind.i64.wrap (x1 * x3)) < (0 : Int)))
    (∃ (x5 : List Int), nat_Mul p1 p3 x5 ∧
    ∃ (x7 : Bool) (x8 : List Int), whole_Make true x5 (x7, x8) ∧
    r = (x7, x8))
    (∃ (x10 : List Int), nat_Mul p1 p3 x10 ∧
    ∃ (x12 : Bool) (x13 : List Int), whole_Make false x10 (x12, x13) ∧
    r = (x12, x13))

/-- offcut rat.den -/
def rat_den (p0 : Bool) (p1 : List Int) (p2 : List Int) (r : (List Int)) : Prop :=
  ∃ (x1 : Int), nat_Bits p2 x1 ∧
  IfB (x1 == (0 : Int))
    (∃ (x3 : List Int), nat_Of (1 : Int) x3 ∧
    r = x3)
    (r = p2)

/-- offcut rat.Make -/
def rat_Make (p0 : Bool) (p1 : List Int) (p2 : List Int) (r : Bool × (List Int) × (List Int)) : Prop :=
  ∃ (x1 : List Int), rat_den false ([] : List Int) p2 x1 ∧
  ∃ (x3 : List Int), nat_Gcd p1 x1 x3 ∧
  ∃ (x5 : List Int) (x6 : List Int) (x7 : Int), nat_DivMod p1 x3 (x5, x6, x7) ∧
  ∃ (x9 : List Int) (x10 : List Int) (x11 : Int), nat_DivMod x1 x3 (x9, x10, x11) ∧
  ∃ (x13 : Bool) (x14 : List Int), whole_Make p0 x5 (x13, x14) ∧
  r = (x13, x14, x9)

/-- offcut rat.Int -/
def rat_Int (p0 : Int) (r : Bool × (List Int) × (List Int)) : Prop :=
  ∃ (x1 : Bool) (x2 : List Int), whole_Of p0 (x1, x2) ∧
  ∃ (x4 : List Int), nat_Of (1 : Int) x4 ∧
  ∃ (x6 : Bool) (x7 : List Int) (x8 : List Int), rat_Make x1 x2 x4 (x6, x7, x8) ∧
  r = (x6, x7, x8)

/-- offcut rat.Sign -/
def rat_Sign (p0 : Bool) (p1 : List Int) (p2 : List Int) (r : Int) : Prop :=
  ∃ (x1 : Int), whole_Sign p0 p1 x1 ∧
  r = x1

/-- offcut rat.over -/
def rat_over (p0 : Bool) (p1 : List Int) (p2 : List Int) (p3 : Bool) (p4 : List Int) (p5 : List Int) (r : Bool × (List Int)) : Prop :=
  ∃ (x1 : List Int), rat_den p3 p4 p5 x1 ∧
  ∃ (x3 : Bool) (x4 : List Int), whole_Make false x1 (x3, x4) ∧
  ∃ (x6 : Bool) (x7 : List Int), whole_Mul p0 p1 x3 x4 (x6, x7) ∧
  r = (x6, x7)

/-- offcut rat.Compare -/
def rat_Compare (p0 : Bool) (p1 : List Int) (p2 : List Int) (p3 : Bool) (p4 : List Int) (p5 : List Int) (r : Int) : Prop :=
  ∃ (x1 : Bool) (x2 : List Int), rat_over p0 p1 p2 p3 p4 p5 (x1, x2) ∧
  ∃ (x4 : Bool) (x5 : List Int), rat_over p3 p4 p5 p0 p1 p2 (x4, x5) ∧
  ∃ (x7 : Int), whole_Compare x1 x2 x4 x5 x7 ∧
  r = x7

/-- offcut rat.Add -/
def rat_Add (p0 : Bool) (p1 : List Int) (p2 : List Int) (p3 : Bool) (p4 : List Int) (p5 : List Int) (r : Bool × (List Int) × (List Int)) : Prop :=
  ∃ (x1 : Bool) (x2 : List Int), rat_over p0 p1 p2 p3 p4 p5 (x1, x2) ∧
  ∃ (x4 : Bool) (x5 : List Int), rat_over p3 p4 p5 p0 p1 p2 (x4, x5) ∧
  ∃ (x7 : Bool) (x8 : List Int), whole_Add x1 x2 x4 x5 (x7, x8) ∧
  ∃ (x10 : List Int), rat_den p0 p1 p2 x10 ∧
  ∃ (x12 : List Int), rat_den p3 p4 p5 x12 ∧
  ∃ (x14 : List Int), nat_Mul x10 x12 x14 ∧
  ∃ (x16 : Bool) (x17 : List Int) (x18 : List Int), rat_Make x7 x8 x14 (x16, x17, x18) ∧
  r = (x16, x17, x18)

/-- offcut rat.Mul -/
def rat_Mul (p0 : Bool) (p1 : List Int) (p2 : List Int) (p3 : Bool) (p4 : List Int) (p5 : List Int) (r : Bool × (List Int) × (List Int)) : Prop :=
  ∃ (x1 : Bool) (x2 : List Int), whole_Mul p0 p1 p3 p4 (x1, x2) ∧
  ∃ (x4 : List Int), rat_den p0 p1 p2 x4 ∧
  ∃ (x6 : List Int), rat_den p3 p4 p5 x6 ∧
  ∃ (x8 : List Int), nat_Mul x4 x6 x8 ∧
  ∃ (x10 : Bool) (x11 : List Int) (x12 : List Int), rat_Make x1 x2 x8 (x10, x11, x12) ∧
  r = (x10, x11, x12)

end Go.Abs
end

section
/- Printed by gen.py: what functions come to, as conditions over numbers and lists. -/
namespace Go.Abs
set_option linter.unusedVariables false
set_option linter.unusedSimpArgs false
set_option linter.unnecessarySimpa false

end Go.Abs
end

section
/- What awake of chapter 13 answers. -/
namespace Go.Abs
def offcutlaw13_awake (r : Bool) : Prop := r = true
end Go.Abs
end

section
/- Further functions of the library's on texts, told: CutSuffix, Contains. -/
namespace Go.Abs
open Go
/-- strings.CutSuffix. -/
def strings_CutSuffix (s p : List UInt8) (r : List UInt8 × Bool) : Prop := s.length ≤ 9223372036854775807 ∧ r = (Lib.trimSuffix s p, Lib.hasSuffix s p)
/-- strings.Contains. -/
def strings_Contains (s p : List UInt8) (r : Bool) : Prop := Short s ∧ r = Lib.contains s p
end Go.Abs
end

section
/- Printed by gen.py: what functions come to, as conditions over numbers and lists. -/
namespace Go.Abs
set_option linter.unusedVariables false
set_option linter.unusedSimpArgs false
set_option linter.unnecessarySimpa false

def offcutlaw05_Few_L1 (p0 : List (Bool × (List Int) × (List Int))) (r : Bool) (X1 : Int → Prop) (s : Int) : Prop := match s with
  | s100 =>
  IfB (decide (s100 < (p0.length : Int)))
   (IfB (decide (s100 ≤ (8 : Int)))
   (∃ (x3 : Bool) (x4 : List Int) (x5 : List Int), Idx p0 s100 (x3, x4, x5) ∧
   IfB (decide ((x4.length : Int) > (3 : Int)))
   (r = false)
   (∃ (x8 : Bool) (x9 : List Int) (x10 : List Int), Idx p0 s100 (x8, x9, x10) ∧
   IfB (decide ((x10.length : Int) > (3 : Int)))
   (r = false)
   (X1 (IntKind.i64.wrap (s100 + 1)))))
   (IfB (decide ((p0.length : Int) ≤ (8 : Int)))
   (r = true)
   (r = false)))
   (IfB (decide ((p0.length : Int) ≤ (8 : Int)))
   (r = true)
   (r = false))

/-- offcut offcutlaw05.Few -/
def offcutlaw05_Few (p0 : List (Bool × (List Int) × (List Int))) (r : Bool) : Prop :=
  LoopP (offcutlaw05_Few_L1 p0 r) (0 : Int)

/-- offcut offcutlaw13.Few -/
def offcutlaw13_Few (p0 : Int) (p1 : List (Bool × (List Int) × (List Int))) (p2 : List (Bool × (List Int) × (List Int))) (p3 : List (Bool × (List Int) × (List Int))) (r : Bool) : Prop :=
  ∃ (x1 : Bool), offcutlaw05_Few p1 x1 ∧
  IfB x1
   (∃ (x3 : Bool), offcutlaw05_Few p2 x3 ∧
   IfB x3
   (∃ (x5 : Bool), offcutlaw05_Few p3 x5 ∧
   IfB x5
   (r = true)
   (r = false))
   (r = false))
   (r = false)

/-- offcut proof.Right -/
def proof_Right (p0 : Int) (p1 : List (Bool × (List Int) × (List Int))) (p2 : List (Bool × (List Int) × (List Int))) (p3 : List (Bool × (List Int) × (List Int))) (r : Bool) : Prop :=
  IfB (p0 != (2 : Int))
   (IfB (p0 != (3 : Int))
   (IfB (decide ((p1.length : Int) > (180 : Int)))
   (r = false)
   (IfB (decide ((p2.length : Int) > (180 : Int)))
   (r = false)
   (IfB (decide ((p3.length : Int) > (0 : Int)))
   (r = false)
   (IfB (decide (p0 ≥ (1 : Int)))
   (IfB (decide (p0 ≤ (3 : Int)))
   (r = true)
   (r = false))
   (r = false)))))
   (IfB (decide ((p1.length : Int) > (180 : Int)))
   (r = false)
   (IfB (decide ((p2.length : Int) > (0 : Int)))
   (r = false)
   (IfB (decide ((p3.length : Int) > (180 : Int)))
   (r = false)
   (r = true)))))
   (IfB (decide ((p1.length : Int) > (0 : Int)))
   (r = false)
   (IfB (decide ((p2.length : Int) > (180 : Int)))
   (r = false)
   (IfB (decide ((p3.length : Int) > (0 : Int)))
   (r = false)
   (r = true))))

/-- offcut offcutlaw13.right -/
def offcutlaw13_right (p0 : Int) (p1 : List (Bool × (List Int) × (List Int))) (p2 : List (Bool × (List Int) × (List Int))) (p3 : List (Bool × (List Int) × (List Int))) (r : Bool) : Prop :=
  IfB (p0 == (1 : Int))
   (IfB ((p3.length : Int) == (0 : Int))
   (r = true)
   (r = false))
   (IfB (p0 == (2 : Int))
   (IfB ((IntKind.i64.wrap ((p1.length : Int) + (p3.length : Int))) == (0 : Int))
   (r = true)
   (r = false))
   (IfB (p0 == (3 : Int))
   (IfB ((p2.length : Int) == (0 : Int))
   (r = true)
   (r = false))
   (r = false)))

end Go.Abs
end

section
/- Printed by gen.py: what functions come to, as conditions over numbers and lists. -/
namespace Go.Abs
set_option linter.unusedVariables false
set_option linter.unusedSimpArgs false
set_option linter.unnecessarySimpa false

def offcutlaw06_Few_L1 (p0 : List (List (Bool × (List Int) × (List Int)))) (r : Bool) (X1 : Int → Prop) (s : Int) : Prop := match s with
  | s100 =>
  IfB (decide (s100 < (p0.length : Int)))
   (IfB (decide (s100 ≤ (4 : Int)))
   (∃ (x3 : List (Bool × (List Int) × (List Int))), Idx p0 s100 x3 ∧
   ∃ (x5 : Bool), offcutlaw05_Few x3 x5 ∧
   IfB x5
   (X1 (IntKind.i64.wrap (s100 + 1)))
   (r = false))
   (IfB (decide ((p0.length : Int) ≤ (4 : Int)))
   (r = true)
   (r = false)))
   (IfB (decide ((p0.length : Int) ≤ (4 : Int)))
   (r = true)
   (r = false))

/-- offcut offcutlaw06.Few -/
def offcutlaw06_Few (p0 : List (List (Bool × (List Int) × (List Int)))) (r : Bool) : Prop :=
  LoopP (offcutlaw06_Few_L1 p0 r) (0 : Int)

/-- offcut offcutlaw11.Few -/
def offcutlaw11_Few (p0 : List (List (Bool × (List Int) × (List Int)))) (p1 : List (Bool × (List Int) × (List Int))) (p2 : List (Bool × (List Int) × (List Int))) (r : Bool) : Prop :=
  ∃ (x1 : Bool), offcutlaw06_Few p0 x1 ∧
  IfB x1
   (∃ (x3 : Bool), offcutlaw05_Few p1 x3 ∧
   IfB x3
   (∃ (x5 : Bool), offcutlaw05_Few p2 x5 ∧
   IfB x5
   (r = true)
   (r = false))
   (r = false))
   (r = false)

def shape_Right_L1 (p0 : List (List (Bool × (List Int) × (List Int)))) (p2 : List (Bool × (List Int) × (List Int))) (r : Bool) (X1 : Int → Prop) (s : Int) : Prop := match s with
  | s100 =>
  IfB (decide (s100 < (p0.length : Int)))
   (∃ (x5 : List (Bool × (List Int) × (List Int))), Idx p0 s100 x5 ∧
   IfB ((x5.length : Int) != (p2.length : Int))
   (IfB (decide (s100 ≥ (0 : Int)))
   (r = false)
   (r = true))
   (X1 (IntKind.i64.wrap (s100 + 1))))
   (r = true)

/-- offcut shape.Right -/
def shape_Right (p0 : List (List (Bool × (List Int) × (List Int)))) (p1 : List (Bool × (List Int) × (List Int))) (p2 : List (Bool × (List Int) × (List Int))) (r : Bool) : Prop :=
  IfB (decide ((p2.length : Int) ≤ (5000 : Int)))
   (IfB (decide ((p0.length : Int) ≤ (90 : Int)))
   (IfB ((p1.length : Int) == (p0.length : Int))
   (LoopP (shape_Right_L1 p0 p2 r) (0 : Int))
   (r = false))
   (r = false))
   (r = false)

def vec_Dot_L1 (p0 : List (Bool × (List Int) × (List Int))) (p1 : List (Bool × (List Int) × (List Int))) (r : Bool × (List Int) × (List Int)) (X1 : (Int × Bool × (List Int) × (List Int)) → Prop) (s : Int × Bool × (List Int) × (List Int)) : Prop := match s with
  | (s100, s101, s102, s103) =>
  IfB (decide (s100 < (if (p1.length : Int) < (p0.length : Int) then (p1.length : Int) else (p0.length : Int))))
   (∃ (x6 : Bool) (x7 : List Int) (x8 : List Int), Idx p0 s100 (x6, x7, x8) ∧
   ∃ (x10 : Bool) (x11 : List Int) (x12 : List Int), Idx p1 s100 (x10, x11, x12) ∧
   ∃ (x14 : Int), rat_Sign x6 x7 x8 x14 ∧
   IfB (x14 != (0 : Int))
   (∃ (x17 : Int), rat_Sign x10 x11 x12 x17 ∧
   IfB (x17 != (0 : Int))
   (∃ (x20 : Bool) (x21 : List Int) (x22 : List Int), rat_Mul x6 x7 x8 x10 x11 x12 (x20, x21, x22) ∧
   ∃ (x24 : Bool) (x25 : List Int) (x26 : List Int), rat_Add s101 s102 s103 x20 x21 x22 (x24, x25, x26) ∧
   X1 ((IntKind.i64.wrap (s100 + 1)), x24, x25, x26))
   (X1 ((IntKind.i64.wrap (s100 + 1)), s101, s102, s103)))
   (X1 ((IntKind.i64.wrap (s100 + 1)), s101, s102, s103)))
   (r = (s101, s102, s103))

/-- offcut vec.Dot -/
def vec_Dot (p0 : List (Bool × (List Int) × (List Int))) (p1 : List (Bool × (List Int) × (List Int))) (r : Bool × (List Int) × (List Int)) : Prop :=
  ∃ (x1 : Bool) (x2 : List Int) (x3 : List Int), rat_Int (0 : Int) (x1, x2, x3) ∧
  LoopP (vec_Dot_L1 p0 p1 r) ((0 : Int), x1, x2, x3)

def vec_Ints_L1 (p0 : List Int) (r : (List (Bool × (List Int) × (List Int)))) (X1 : (Int × (List (Bool × (List Int) × (List Int)))) → Prop) (s : Int × (List (Bool × (List Int) × (List Int)))) : Prop := match s with
  | (s100, s151) =>
  IfB (decide (s100 < (p0.length : Int)))
   (∃ (x2 : Int), Idx p0 s100 x2 ∧
   ∃ (x4 : Bool) (x5 : List Int) (x6 : List Int), rat_Int x2 (x4, x5, x6) ∧
   Fits (s151.length + [(x4, x5, x6)].length) 56 ∧
   X1 ((IntKind.i64.wrap (s100 + 1)), (s151 ++ [(x4, x5, x6)])))
   (r = s151)

/-- offcut vec.Ints -/
def vec_Ints (p0 : List Int) (r : (List (Bool × (List Int) × (List Int)))) : Prop :=
  LoopP (vec_Ints_L1 p0 r) ((0 : Int), ([] : List (Bool × (List Int) × (List Int))))

/-- offcut shape.Does 1 -/
def shape_Does_1 (p0 : Bool) (p1 : List Int) (p2 : List Int) (r : Bool) : Prop :=
  ∃ (x1 : Int), rat_Sign p0 p1 p2 x1 ∧
  IfB (decide (x1 < (0 : Int)))
   (r = true)
   (r = false)

def shape_Does_L2 (p0 : List (List (Bool × (List Int) × (List Int)))) (p1 : List (Bool × (List Int) × (List Int))) (p3 : List (Bool × (List Int) × (List Int))) (r : Bool) (X2 : Int → Prop) (s : Int) : Prop := match s with
  | s200 =>
  IfB (decide (s200 < (p0.length : Int)))
   (∃ (x13 : List (Bool × (List Int) × (List Int))), Idx p0 s200 x13 ∧
   ∃ (x15 : Bool) (x16 : List Int) (x17 : List Int), vec_Dot x13 p3 (x15, x16, x17) ∧
   ∃ (x19 : Bool) (x20 : List Int) (x21 : List Int), Idx p1 s200 (x19, x20, x21) ∧
   ∃ (x23 : Int), rat_Compare x15 x16 x17 x19 x20 x21 x23 ∧
   IfB (x23 != (0 : Int))
   (r = false)
   (X2 (IntKind.i64.wrap (s200 + 1))))
   (r = true)

def shape_Does_L3 (p0 : List (List (Bool × (List Int) × (List Int)))) (p1 : List (Bool × (List Int) × (List Int))) (p3 : List (Bool × (List Int) × (List Int))) (r : Bool) (X3 : Int → Prop) (s : Int) : Prop := match s with
  | s300 =>
  IfB (decide (s300 < (p0.length : Int)))
   (∃ (x27 : List (Bool × (List Int) × (List Int))), Idx p0 s300 x27 ∧
   ∃ (x29 : Bool) (x30 : List Int) (x31 : List Int), vec_Dot x27 p3 (x29, x30, x31) ∧
   ∃ (x33 : Bool) (x34 : List Int) (x35 : List Int), Idx p1 s300 (x33, x34, x35) ∧
   ∃ (x37 : Int), rat_Compare x29 x30 x31 x33 x34 x35 x37 ∧
   IfB (x37 != (0 : Int))
   (r = false)
   (X3 (IntKind.i64.wrap (s300 + 1))))
   (r = true)

def shape_Does_L1 (p0 : List (List (Bool × (List Int) × (List Int)))) (p1 : List (Bool × (List Int) × (List Int))) (p3 : List (Bool × (List Int) × (List Int))) (r : Bool) (X1 : Int → Prop) (s : Int) : Prop := match s with
  | s100 =>
  IfB (decide (s100 < (p3.length : Int)))
   (∃ (x5 : Bool) (x6 : List Int) (x7 : List Int), Idx p3 s100 (x5, x6, x7) ∧
   ∃ (x9 : Bool), shape_Does_1 x5 x6 x7 x9 ∧
   IfB x9
   (IfB (decide (s100 ≥ (0 : Int)))
   (r = false)
   (LoopP (shape_Does_L2 p0 p1 p3 r) (0 : Int)))
   (X1 (IntKind.i64.wrap (s100 + 1))))
   (LoopP (shape_Does_L3 p0 p1 p3 r) (0 : Int))

/-- offcut shape.Does -/
def shape_Does (p0 : List (List (Bool × (List Int) × (List Int)))) (p1 : List (Bool × (List Int) × (List Int))) (p2 : List (Bool × (List Int) × (List Int))) (p3 : List (Bool × (List Int) × (List Int))) (r : Bool) : Prop :=
  ∃ (x1 : Bool), shape_Right p0 p1 p2 x1 ∧
  IfB x1
   (IfB ((p3.length : Int) != (p2.length : Int))
   (r = false)
   (LoopP (shape_Does_L1 p0 p1 p3 r) (0 : Int)))
   (r = false)

def shape_Column_L1 (p0 : List (List (Bool × (List Int) × (List Int)))) (p3 : Int) (r : (List (Bool × (List Int) × (List Int)))) (X1 : (Int × (List (Bool × (List Int) × (List Int)))) → Prop) (s : Int × (List (Bool × (List Int) × (List Int)))) : Prop := match s with
  | (s100, s152) =>
  IfB (decide (s100 < (p0.length : Int)))
   (∃ (x6 : List (Bool × (List Int) × (List Int))), Idx p0 s100 x6 ∧
   ∃ (x8 : Bool) (x9 : List Int) (x10 : List Int), Idx x6 p3 (x8, x9, x10) ∧
   ∃ (x12 : Bool) (x13 : List Int) (x14 : List Int), Idx x6 p3 (x12, x13, x14) ∧
   ∃ (x16 : Bool) (x17 : List Int) (x18 : List Int), rat_Make x8 x9 x14 (x16, x17, x18) ∧
   Fits (s152.length + [(x16, x17, x18)].length) 56 ∧
   X1 ((IntKind.i64.wrap (s100 + 1)), (s152 ++ [(x16, x17, x18)])))
   (r = s152)

/-- offcut shape.Column -/
def shape_Column (p0 : List (List (Bool × (List Int) × (List Int)))) (p1 : List (Bool × (List Int) × (List Int))) (p2 : List (Bool × (List Int) × (List Int))) (p3 : Int) (r : (List (Bool × (List Int) × (List Int)))) : Prop :=
  ∃ (x1 : Bool), shape_Right p0 p1 p2 x1 ∧
  IfB x1
   (IfB (decide (p3 < (0 : Int)))
   (r = ([] : List (Bool × (List Int) × (List Int))))
   (IfB (decide (p3 ≥ (p2.length : Int)))
   (r = ([] : List (Bool × (List Int) × (List Int))))
   (LoopP (shape_Column_L1 p0 p3 r) ((0 : Int), ([] : List (Bool × (List Int) × (List Int)))))))
   (r = ([] : List (Bool × (List Int) × (List Int))))

def proof_Lower_L1 (p0 : List (List (Bool × (List Int) × (List Int)))) (p1 : List (Bool × (List Int) × (List Int))) (p2 : List (Bool × (List Int) × (List Int))) (p3 : List (Bool × (List Int) × (List Int))) (r : Bool × (List Int) × (List Int) × Bool) (X1 : Int → Prop) (s : Int) : Prop := match s with
  | s100 =>
  IfB (decide (s100 < (p2.length : Int)))
   (∃ (x9 : List (Bool × (List Int) × (List Int))), shape_Column p0 p1 p2 s100 x9 ∧
   ∃ (x11 : Bool) (x12 : List Int) (x13 : List Int), vec_Dot p3 x9 (x11, x12, x13) ∧
   ∃ (x15 : Bool) (x16 : List Int) (x17 : List Int), Idx p2 s100 (x15, x16, x17) ∧
   ∃ (x19 : Int), rat_Compare x11 x12 x13 x15 x16 x17 x19 ∧
   IfB (decide (x19 > (0 : Int)))
   (∃ (x22 : Bool) (x23 : List Int) (x24 : List Int), rat_Int (0 : Int) (x22, x23, x24) ∧
   r = (x22, x23, x24, false))
   (X1 (IntKind.i64.wrap (s100 + 1))))
   (∃ (x26 : Bool) (x27 : List Int) (x28 : List Int), vec_Dot p3 p1 (x26, x27, x28) ∧
   r = (x26, x27, x28, true))

/-- offcut proof.Lower -/
def proof_Lower (p0 : List (List (Bool × (List Int) × (List Int)))) (p1 : List (Bool × (List Int) × (List Int))) (p2 : List (Bool × (List Int) × (List Int))) (p3 : List (Bool × (List Int) × (List Int))) (r : Bool × (List Int) × (List Int) × Bool) : Prop :=
  ∃ (x1 : Bool), shape_Right p0 p1 p2 x1 ∧
  IfB x1
   (IfB ((p3.length : Int) != (p0.length : Int))
   (∃ (x4 : Bool) (x5 : List Int) (x6 : List Int), rat_Int (0 : Int) (x4, x5, x6) ∧
   r = (x4, x5, x6, false))
   (LoopP (proof_Lower_L1 p0 p1 p2 p3 r) (0 : Int)))
   (∃ (x30 : Bool) (x31 : List Int) (x32 : List Int), rat_Int (0 : Int) (x30, x31, x32) ∧
   r = (x30, x31, x32, false))

/-- offcut proof.holds 1 -/
def proof_holds_1 (p0 : Int) (r : Bool × (List Int) × (List Int)) : Prop :=
  ∃ (x1 : Bool) (x2 : List Int) (x3 : List Int), rat_Int (0 : Int) (x1, x2, x3) ∧
  r = (x1, x2, x3)

def proof_holds_L1 (p0 : List (List (Bool × (List Int) × (List Int)))) (p1 : List (Bool × (List Int) × (List Int))) (p2 : List (Bool × (List Int) × (List Int))) (p5 : List (Bool × (List Int) × (List Int))) (r : Bool) (X1 : Int → Prop) (s : Int) : Prop := match s with
  | s100 =>
  IfB (decide (s100 < (p2.length : Int)))
   (∃ (x19 : List (Bool × (List Int) × (List Int))), shape_Column p0 p1 p2 s100 x19 ∧
   ∃ (x21 : Bool) (x22 : List Int) (x23 : List Int), vec_Dot p5 x19 (x21, x22, x23) ∧
   ∃ (x25 : Bool) (x26 : List Int) (x27 : List Int), proof_holds_1 s100 (x25, x26, x27) ∧
   ∃ (x29 : Int), rat_Compare x21 x22 x23 x25 x26 x27 x29 ∧
   IfB (decide (x29 > (0 : Int)))
   (r = false)
   (X1 (IntKind.i64.wrap (s100 + 1))))
   (∃ (x32 : Bool) (x33 : List Int) (x34 : List Int), vec_Dot p5 p1 (x32, x33, x34) ∧
   ∃ (x36 : Int), rat_Sign x32 x33 x34 x36 ∧
   IfB (decide (x36 > (0 : Int)))
   (r = true)
   (r = false))

/-- offcut proof.holds -/
def proof_holds (p0 : List (List (Bool × (List Int) × (List Int)))) (p1 : List (Bool × (List Int) × (List Int))) (p2 : List (Bool × (List Int) × (List Int))) (p3 : Int) (p4 : List (Bool × (List Int) × (List Int))) (p5 : List (Bool × (List Int) × (List Int))) (p6 : List (Bool × (List Int) × (List Int))) (r : Bool) : Prop :=
  IfB (p3 == (1 : Int))
   (∃ (x2 : Bool) (x3 : List Int) (x4 : List Int) (x5 : Bool), proof_Lower p0 p1 p2 p5 (x2, x3, x4, x5) ∧
   IfB x5
   (∃ (x7 : Bool), shape_Does p0 p1 p2 p4 x7 ∧
   IfB x7
   (∃ (x9 : Bool) (x10 : List Int) (x11 : List Int), vec_Dot p2 p4 (x9, x10, x11) ∧
   ∃ (x13 : Int), rat_Compare x2 x3 x4 x9 x10 x11 x13 ∧
   IfB (x13 == (0 : Int))
   (r = true)
   (r = false))
   (r = false))
   (r = false))
   (IfB (p3 == (2 : Int))
   (IfB ((p5.length : Int) != (p0.length : Int))
   (r = false)
   (LoopP (proof_holds_L1 p0 p1 p2 p5 r) (0 : Int)))
   ((0 ≤ (p1.length : Int) ∧ Fits (Int.toNat (p1.length : Int)) 8 ∧ Fits (Int.toNat (p1.length : Int)) 1) ∧
   ∃ (x40 : List (Bool × (List Int) × (List Int))), vec_Ints (List.replicate (Int.toNat (p1.length : Int)) (0 : Int)) x40 ∧
   ∃ (x42 : Bool), shape_Does p0 p1 p2 p4 x42 ∧
   IfB x42
   (∃ (x44 : Bool), shape_Does p0 x40 p2 p6 x44 ∧
   IfB x44
   (∃ (x46 : Bool) (x47 : List Int) (x48 : List Int), vec_Dot p2 p6 (x46, x47, x48) ∧
   ∃ (x50 : Int), rat_Sign x46 x47 x48 x50 ∧
   IfB (decide (x50 < (0 : Int)))
   (r = true)
   (r = false))
   (r = false))
   (r = false)))

/-- offcut proof.Check -/
def proof_Check (p0 : List (List (Bool × (List Int) × (List Int)))) (p1 : List (Bool × (List Int) × (List Int))) (p2 : List (Bool × (List Int) × (List Int))) (p3 : Int) (p4 : List (Bool × (List Int) × (List Int))) (p5 : List (Bool × (List Int) × (List Int))) (p6 : List (Bool × (List Int) × (List Int))) (r : Int) : Prop :=
  ∃ (x1 : Bool), shape_Right p0 p1 p2 x1 ∧
  IfB x1
   (∃ (x3 : Bool), proof_Right p3 p4 p5 p6 x3 ∧
   IfB x3
   (∃ (x5 : Bool), proof_holds p0 p1 p2 p3 p4 p5 p6 x5 ∧
   IfB x5
   (r = 0)
   (r = 12))
   (r = 1))
   (r = 1)

/-- offcut offcutlaw12.Proved 3 -/
def offcutlaw12_Proved_3 (p0 : Int) (p1 : Bool) (p2 : List Int) (p3 : List Int) (r : Bool) : Prop :=
  ∃ (x1 : Int), rat_Sign p1 p2 p3 x1 ∧
  IfB (decide (x1 ≤ (0 : Int)))
   (r = true)
   (r = false)

def offcutlaw12_Proved_L2 (p0 : List (List (Bool × (List Int) × (List Int)))) (p2 : List (Bool × (List Int) × (List Int))) (p5 : List (Bool × (List Int) × (List Int))) (y5 : Bool) (s100 : Int) (X1 : Int → Prop) (X2 : (Int × Bool × (List Int) × (List Int)) → Prop) (s : Int × Bool × (List Int) × (List Int)) : Prop := match s with
  | (s200, s201, s202, s203) =>
  IfB (decide (s200 < (p0.length : Int)))
   (∃ (x14 : List (Bool × (List Int) × (List Int))), Idx p0 s200 x14 ∧
   ∃ (x16 : Bool) (x17 : List Int) (x18 : List Int), Idx p5 s200 (x16, x17, x18) ∧
   ∃ (x20 : Bool) (x21 : List Int) (x22 : List Int), Idx x14 s100 (x20, x21, x22) ∧
   ∃ (x24 : Bool) (x25 : List Int) (x26 : List Int), rat_Mul x16 x17 x18 x20 x21 x22 (x24, x25, x26) ∧
   ∃ (x28 : Bool) (x29 : List Int) (x30 : List Int), rat_Add s201 s202 s203 x24 x25 x26 (x28, x29, x30) ∧
   X2 ((IntKind.i64.wrap (s200 + 1)), x28, x29, x30))
   (∃ (x32 : Bool) (x33 : List Int) (x34 : List Int), Idx p2 s100 (x32, x33, x34) ∧
   ∃ (x36 : Int), rat_Compare s201 s202 s203 x32 x33 x34 x36 ∧
   IfB (decide (x36 ≤ (0 : Int)))
   (X1 (IntKind.i64.wrap (s100 + 1)))
   (y5 = false))

def offcutlaw12_Proved_L1 (p0 : List (List (Bool × (List Int) × (List Int)))) (p2 : List (Bool × (List Int) × (List Int))) (p5 : List (Bool × (List Int) × (List Int))) (y5 : Bool) (X1 : Int → Prop) (s : Int) : Prop := match s with
  | s100 =>
  IfB (decide (s100 < (p2.length : Int)))
   (∃ (x9 : Bool) (x10 : List Int) (x11 : List Int), rat_Int (0 : Int) (x9, x10, x11) ∧
   LoopP (offcutlaw12_Proved_L2 p0 p2 p5 y5 s100 X1) ((0 : Int), x9, x10, x11))
   (y5 = true)

def offcutlaw12_Proved_L4 (p0 : List (List (Bool × (List Int) × (List Int)))) (p5 : List (Bool × (List Int) × (List Int))) (s300 : Int) (X3 : Int → Prop) (r : Bool) (X4 : (Int × Bool × (List Int) × (List Int)) → Prop) (s : Int × Bool × (List Int) × (List Int)) : Prop := match s with
  | (s400, s401, s402, s403) =>
  IfB (decide (s400 < (p0.length : Int)))
   (∃ (x59 : List (Bool × (List Int) × (List Int))), Idx p0 s400 x59 ∧
   ∃ (x61 : Bool) (x62 : List Int) (x63 : List Int), Idx p5 s400 (x61, x62, x63) ∧
   ∃ (x65 : Bool) (x66 : List Int) (x67 : List Int), Idx x59 s300 (x65, x66, x67) ∧
   ∃ (x69 : Bool) (x70 : List Int) (x71 : List Int), rat_Mul x61 x62 x63 x65 x66 x67 (x69, x70, x71) ∧
   ∃ (x73 : Bool) (x74 : List Int) (x75 : List Int), rat_Add s401 s402 s403 x69 x70 x71 (x73, x74, x75) ∧
   X4 ((IntKind.i64.wrap (s400 + 1)), x73, x74, x75))
   (∃ (x77 : Bool), offcutlaw12_Proved_3 s300 s401 s402 s403 x77 ∧
   IfB x77
   (X3 (IntKind.i64.wrap (s300 + 1)))
   (r = false))

def offcutlaw12_Proved_L3 (p0 : List (List (Bool × (List Int) × (List Int)))) (p1 : List (Bool × (List Int) × (List Int))) (p2 : List (Bool × (List Int) × (List Int))) (p5 : List (Bool × (List Int) × (List Int))) (r : Bool) (X3 : Int → Prop) (s : Int) : Prop := match s with
  | s300 =>
  IfB (decide (s300 < (p2.length : Int)))
   (∃ (x54 : Bool) (x55 : List Int) (x56 : List Int), rat_Int (0 : Int) (x54, x55, x56) ∧
   LoopP (offcutlaw12_Proved_L4 p0 p5 s300 X3 r) ((0 : Int), x54, x55, x56))
   (∃ (x79 : Bool) (x80 : List Int) (x81 : List Int), vec_Dot p5 p1 (x79, x80, x81) ∧
   ∃ (x83 : Int), rat_Sign x79 x80 x81 x83 ∧
   IfB (decide (x83 > (0 : Int)))
   (r = true)
   (r = false))

/-- offcut offcutlaw12.Proved -/
def offcutlaw12_Proved (p0 : List (List (Bool × (List Int) × (List Int)))) (p1 : List (Bool × (List Int) × (List Int))) (p2 : List (Bool × (List Int) × (List Int))) (p3 : Int) (p4 : List (Bool × (List Int) × (List Int))) (p5 : List (Bool × (List Int) × (List Int))) (p6 : List (Bool × (List Int) × (List Int))) (p7 : List Int) (p8 : Int) (r : Bool) : Prop :=
  IfB (p3 == (1 : Int))
   (IfB ((p6.length : Int) == (0 : Int))
   (∃ (x3 : Bool), shape_Does p0 p1 p2 p4 x3 ∧
   IfB x3
   (∃ (y5 : Bool), (IfB ((p5.length : Int) != (p0.length : Int))
   (y5 = false)
   (LoopP (offcutlaw12_Proved_L1 p0 p2 p5 y5) (0 : Int))) ∧
   IfB y5
   (∃ (x39 : Bool) (x40 : List Int) (x41 : List Int), vec_Dot p5 p1 (x39, x40, x41) ∧
   ∃ (x43 : Bool) (x44 : List Int) (x45 : List Int), vec_Dot p2 p4 (x43, x44, x45) ∧
   ∃ (x47 : Int), rat_Compare x39 x40 x41 x43 x44 x45 x47 ∧
   IfB (x47 == (0 : Int))
   (r = true)
   (r = false))
   (r = false))
   (r = false))
   (r = false))
   (IfB (p3 == (2 : Int))
   (IfB ((IntKind.i64.wrap ((p4.length : Int) + (p6.length : Int))) == (0 : Int))
   (IfB ((p5.length : Int) != (p0.length : Int))
   (r = false)
   (LoopP (offcutlaw12_Proved_L3 p0 p1 p2 p5 r) (0 : Int)))
   (r = false))
   (IfB (p3 == (3 : Int))
   ((0 ≤ (if (90 : Int) < (p1.length : Int) then 90 else (p1.length : Int)) ∧ Fits (Int.toNat (if (90 : Int) < (p1.length : Int) then 90 else (p1.length : Int))) 8 ∧ Fits (Int.toNat (if (90 : Int) < (p1.length : Int) then 90 else (p1.length : Int))) 1) ∧
   ∃ (x90 : List (Bool × (List Int) × (List Int))), vec_Ints (List.replicate (Int.toNat (if (90 : Int) < (p1.length : Int) then 90 else (p1.length : Int))) (0 : Int)) x90 ∧
   IfB ((p5.length : Int) == (0 : Int))
   (∃ (x93 : Bool), shape_Does p0 p1 p2 p4 x93 ∧
   IfB x93
   (∃ (x95 : Bool), shape_Does p0 x90 p2 p6 x95 ∧
   IfB x95
   (∃ (x97 : Bool) (x98 : List Int) (x99 : List Int), vec_Dot p2 p6 (x97, x98, x99) ∧
   ∃ (x101 : Int), rat_Sign x97 x98 x99 x101 ∧
   IfB (decide (x101 < (0 : Int)))
   (r = true)
   (r = false))
   (r = false))
   (r = false))
   (r = false))
   (r = false)))

/-- offcut offcutlaw13.ProofChecks -/
def offcutlaw13_ProofChecks (p0 : List (List (Bool × (List Int) × (List Int)))) (p1 : List (Bool × (List Int) × (List Int))) (p2 : List (Bool × (List Int) × (List Int))) (p3 : Int) (p4 : List (Bool × (List Int) × (List Int))) (p5 : List (Bool × (List Int) × (List Int))) (p6 : List (Bool × (List Int) × (List Int))) (r : Bool) : Prop :=
  ∃ (x1 : Bool), offcutlaw11_Few p0 p1 p2 x1 ∧
  IfB x1
   (∃ (x3 : Bool), offcutlaw13_Few p3 p4 p5 p6 x3 ∧
   IfB x3
   (∃ (x5 : Int), proof_Check p0 p1 p2 p3 p4 p5 p6 x5 ∧
   ∃ (x7 : Bool), proof_Right p3 p4 p5 p6 x7 ∧
   IfB x7
   (∃ (x9 : Bool), offcutlaw13_right p3 p4 p5 p6 x9 ∧
   IfB x9
   (∃ (x11 : Bool), shape_Right p0 p1 p2 x11 ∧
   IfB x11
   (∃ (x13 : Bool), offcutlaw13_right p3 p4 p5 p6 x13 ∧
   IfB x13
   (∃ (x15 : Bool), offcutlaw12_Proved p0 p1 p2 p3 p4 p5 p6 ([] : List Int) (0 : Int) x15 ∧
   IfB x15
   (IfB (x5 == (0 : Int))
   (∃ (x18 : Bool), offcutlaw13_awake x18 ∧
   IfB x18
   (r = true)
   (r = false))
   (r = false))
   (IfB (x5 == (12 : Int))
   (∃ (x21 : Bool), offcutlaw13_awake x21 ∧
   IfB x21
   (r = true)
   (r = false))
   (r = false)))
   (IfB (x5 == (1 : Int))
   (∃ (x24 : Bool), offcutlaw13_awake x24 ∧
   IfB x24
   (r = true)
   (r = false))
   (r = false)))
   (IfB (x5 == (1 : Int))
   (∃ (x27 : Bool), offcutlaw13_awake x27 ∧
   IfB x27
   (r = true)
   (r = false))
   (r = false)))
   (r = false))
   (∃ (x29 : Bool), offcutlaw13_right p3 p4 p5 p6 x29 ∧
   IfB x29
   (r = false)
   (∃ (x31 : Bool), shape_Right p0 p1 p2 x31 ∧
   IfB x31
   (∃ (x33 : Bool), offcutlaw13_right p3 p4 p5 p6 x33 ∧
   IfB x33
   (∃ (x35 : Bool), offcutlaw12_Proved p0 p1 p2 p3 p4 p5 p6 ([] : List Int) (0 : Int) x35 ∧
   IfB x35
   (IfB (x5 == (0 : Int))
   (∃ (x38 : Bool), offcutlaw13_awake x38 ∧
   IfB x38
   (r = true)
   (r = false))
   (r = false))
   (IfB (x5 == (12 : Int))
   (∃ (x41 : Bool), offcutlaw13_awake x41 ∧
   IfB x41
   (r = true)
   (r = false))
   (r = false)))
   (IfB (x5 == (1 : Int))
   (∃ (x44 : Bool), offcutlaw13_awake x44 ∧
   IfB x44
   (r = true)
   (r = false))
   (r = false)))
   (IfB (x5 == (1 : Int))
   (∃ (x47 : Bool), offcutlaw13_awake x47 ∧
   IfB x47
   (r = true)
   (r = false))
   (r = false)))))
   (∃ (x49 : Bool), offcutlaw13_awake x49 ∧
   IfB x49
   (r = true)
   (r = false)))
   (∃ (x51 : Bool), offcutlaw13_awake x51 ∧
   IfB x51
   (r = true)
   (r = false))

/-- offcut offcutlaw13.ProofOne -/
def offcutlaw13_ProofOne (p0 : List (List (Bool × (List Int) × (List Int)))) (p1 : List (Bool × (List Int) × (List Int))) (p2 : List (Bool × (List Int) × (List Int))) (p3 : Int) (p4 : List (Bool × (List Int) × (List Int))) (p5 : List (Bool × (List Int) × (List Int))) (p6 : List (Bool × (List Int) × (List Int))) (p7 : Int) (p8 : List (Bool × (List Int) × (List Int))) (p9 : List (Bool × (List Int) × (List Int))) (p10 : List (Bool × (List Int) × (List Int))) (r : Bool) : Prop :=
  ∃ (x1 : Bool), offcutlaw11_Few p0 p1 p2 x1 ∧
  IfB x1
   (∃ (x3 : Bool), offcutlaw13_Few p3 p4 p5 p6 x3 ∧
   IfB x3
   (∃ (x5 : Bool), offcutlaw13_Few p7 p8 p9 p10 x5 ∧
   IfB x5
   (∃ (x7 : Int), proof_Check p0 p1 p2 p3 p4 p5 p6 x7 ∧
   IfB (x7 != (0 : Int))
   (∃ (x10 : Bool), offcutlaw13_awake x10 ∧
   IfB x10
   (r = true)
   (r = false))
   (∃ (x12 : Int), proof_Check p0 p1 p2 p7 p8 p9 p10 x12 ∧
   IfB (x12 != (0 : Int))
   (∃ (x15 : Bool), offcutlaw13_awake x15 ∧
   IfB x15
   (r = true)
   (r = false))
   (IfB (p3 == p7)
   (IfB (p3 != (1 : Int))
   (∃ (x19 : Bool), offcutlaw13_awake x19 ∧
   IfB x19
   (r = true)
   (r = false))
   (∃ (x21 : Bool) (x22 : List Int) (x23 : List Int), vec_Dot p2 p4 (x21, x22, x23) ∧
   ∃ (x25 : Bool) (x26 : List Int) (x27 : List Int), vec_Dot p2 p8 (x25, x26, x27) ∧
   ∃ (x29 : Int), rat_Compare x21 x22 x23 x25 x26 x27 x29 ∧
   IfB (x29 == (0 : Int))
   (∃ (x32 : Bool), offcutlaw13_awake x32 ∧
   IfB x32
   (r = true)
   (r = false))
   (r = false)))
   (r = false))))
   (∃ (x34 : Bool), offcutlaw13_awake x34 ∧
   IfB x34
   (r = true)
   (r = false)))
   (∃ (x36 : Bool), offcutlaw13_awake x36 ∧
   IfB x36
   (r = true)
   (r = false)))
   (∃ (x38 : Bool), offcutlaw13_awake x38 ∧
   IfB x38
   (r = true)
   (r = false))

def vec_Scale_L1 (p0 : List (Bool × (List Int) × (List Int))) (p1 : Bool) (p2 : List Int) (p3 : List Int) (r : (List (Bool × (List Int) × (List Int)))) (X1 : (Int × (List (Bool × (List Int) × (List Int)))) → Prop) (s : Int × (List (Bool × (List Int) × (List Int)))) : Prop := match s with
  | (s100, s152) =>
  IfB (decide (s100 < (p0.length : Int)))
   (∃ (x2 : Bool) (x3 : List Int) (x4 : List Int), Idx p0 s100 (x2, x3, x4) ∧
   ∃ (x6 : Bool) (x7 : List Int) (x8 : List Int), rat_Mul x2 x3 x4 p1 p2 p3 (x6, x7, x8) ∧
   Fits (s152.length + [(x6, x7, x8)].length) 56 ∧
   X1 ((IntKind.i64.wrap (s100 + 1)), (s152 ++ [(x6, x7, x8)])))
   (r = s152)

/-- offcut vec.Scale -/
def vec_Scale (p0 : List (Bool × (List Int) × (List Int))) (p1 : Bool) (p2 : List Int) (p3 : List Int) (r : (List (Bool × (List Int) × (List Int)))) : Prop :=
  LoopP (vec_Scale_L1 p0 p1 p2 p3 r) ((0 : Int), ([] : List (Bool × (List Int) × (List Int))))

/-- offcut offcutlaw13.ProofScales -/
def offcutlaw13_ProofScales (p0 : List (List (Bool × (List Int) × (List Int)))) (p1 : List (Bool × (List Int) × (List Int))) (p2 : List (Bool × (List Int) × (List Int))) (p3 : Int) (p4 : List (Bool × (List Int) × (List Int))) (p5 : List (Bool × (List Int) × (List Int))) (p6 : List (Bool × (List Int) × (List Int))) (p7 : Bool) (p8 : List Int) (p9 : List Int) (r : Bool) : Prop :=
  ∃ (x1 : Bool), offcutlaw11_Few p0 p1 p2 x1 ∧
  IfB x1
   (∃ (x3 : Bool), offcutlaw13_Few p3 p4 p5 p6 x3 ∧
   IfB x3
   (∃ (x5 : Bool), offcutlaw05_Few [(p7, p8, p9)] x5 ∧
   IfB x5
   (∃ (x7 : Int), rat_Sign p7 p8 p9 x7 ∧
   IfB (decide (x7 ≤ (0 : Int)))
   (∃ (x10 : Bool), offcutlaw13_awake x10 ∧
   IfB x10
   (r = true)
   (r = false))
   (IfB (p3 == (1 : Int))
   (∃ (x13 : Bool), offcutlaw13_awake x13 ∧
   IfB x13
   (r = true)
   (r = false))
   (∃ (x15 : Int), proof_Check p0 p1 p2 p3 p4 p5 p6 x15 ∧
   IfB (x15 != (0 : Int))
   (∃ (x18 : Bool), offcutlaw13_awake x18 ∧
   IfB x18
   (r = true)
   (r = false))
   (∃ (x20 : List (Bool × (List Int) × (List Int))), vec_Scale p5 p7 p8 p9 x20 ∧
   ∃ (x22 : List (Bool × (List Int) × (List Int))), vec_Scale p6 p7 p8 p9 x22 ∧
   ∃ (x24 : Int), proof_Check p0 p1 p2 p3 p4 x20 x22 x24 ∧
   IfB (x24 == (0 : Int))
   (∃ (x27 : Bool), offcutlaw13_awake x27 ∧
   IfB x27
   (r = true)
   (r = false))
   (r = false)))))
   (∃ (x29 : Bool), offcutlaw13_awake x29 ∧
   IfB x29
   (r = true)
   (r = false)))
   (∃ (x31 : Bool), offcutlaw13_awake x31 ∧
   IfB x31
   (r = true)
   (r = false)))
   (∃ (x33 : Bool), offcutlaw13_awake x33 ∧
   IfB x33
   (r = true)
   (r = false))

end Go.Abs
end
