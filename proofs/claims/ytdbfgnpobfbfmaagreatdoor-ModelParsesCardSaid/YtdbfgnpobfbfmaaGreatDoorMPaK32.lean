/- Part of a proof, in few files: BCd BNd DNat DLin B13n BDd D13p D13c B08n B08m. -/
import Derived.Test.YtdbfgnpobfbfmaaGreatDoorMPaK21
import Derived.Lib.Strings
import Derived.Test.YtdbfgnpobfbfmaaGreatDoorMPaK19
import Derived.Lib.IndexMore
import Derived.Test.YtdbfgnpobfbfmaaGreatDoorMPaK8

section
namespace Go.Abs
open Go
def strings_CutPrefix (s p : List UInt8) (r : List UInt8 × Bool) : Prop := r = (Lib.trimPrefix s p, Lib.hasPrefix s p)
end Go.Abs
end

section
namespace Go.Abs
def slices_Clone_nat_Nat_uint32 (l r : List Int) : Prop := Fits l.length 4 ∧ r = l
end Go.Abs
end

section
namespace Go.Abs
set_option linter.unusedVariables false
set_option linter.unusedSimpArgs false
set_option linter.unnecessarySimpa false
def math_bits_Len32 (p0 : Int) (r : Int) : Prop :=
  IfB (decide (p0 ≥ 65536))
    (IfB (decide ((Int.fdiv p0 (2 ^ (min (Int.toNat (16 : Int)) (IntKind.bits .u32)))) ≥ 256))
      (∃ c1, Idx ([0, 1, 2, 2, 3, 3, 3, 3, 4, 4, 4, 4, 4, 4, 4, 4, 5, 5, 5, 5, 5, 5, 5, 5, 5, 5, 5, 5, 5, 5, 5, 5, 6, 6, 6, 6, 6, 6, 6, 6, 6, 6, 6, 6, 6, 6, 6, 6, 6, 6, 6, 6, 6, 6, 6, 6, 6, 6, 6, 6, 6, 6, 6, 6, 7, 7, 7, 7, 7, 7, 7, 7, 7, 7, 7, 7, 7, 7, 7, 7, 7, 7, 7, 7, 7, 7, 7, 7, 7, 7, 7, 7, 7, 7, 7, 7, 7, 7, 7, 7, 7, 7, 7, 7, 7, 7, 7, 7, 7, 7, 7, 7, 7, 7, 7, 7, 7, 7, 7, 7, 7, 7, 7, 7, 7, 7, 7, 7, 8, 8, 8, 8, 8, 8, 8, 8, 8, 8, 8, 8, 8, 8, 8, 8, 8, 8, 8, 8, 8, 8, 8, 8, 8, 8, 8, 8, 8, 8, 8, 8, 8, 8, 8, 8, 8, 8, 8, 8, 8, 8, 8, 8, 8, 8, 8, 8, 8, 8, 8, 8, 8, 8, 8, 8, 8, 8, 8, 8, 8, 8, 8, 8, 8, 8, 8, 8, 8, 8, 8, 8, 8, 8, 8, 8, 8, 8, 8, 8, 8, 8, 8, 8, 8, 8, 8, 8, 8, 8, 8, 8, 8, 8, 8, 8, 8, 8, 8, 8, 8, 8, 8, 8, 8, 8, 8, 8, 8, 8, 8, 8, 8, 8, 8, 8, 8, 8, 8, 8, 8, 8, 8, 8, 8, 8, 8, 8] : List UInt8) (IntKind.u8.wrap (Int.fdiv (Int.fdiv p0 (2 ^ (min (Int.toNat (16 : Int)) (IntKind.bits .u32)))) (2 ^ (min (Int.toNat (8 : Int)) (IntKind.bits .u32))))) c1 ∧
      r = (IntKind.i64.wrap (24 + (IntKind.i64.wrap ((c1.toNat : Nat) : Int)))))
      (∃ c3, Idx ([0, 1, 2, 2, 3, 3, 3, 3, 4, 4, 4, 4, 4, 4, 4, 4, 5, 5, 5, 5, 5, 5, 5, 5, 5, 5, 5, 5, 5, 5, 5, 5, 6, 6, 6, 6, 6, 6, 6, 6, 6, 6, 6, 6, 6, 6, 6, 6, 6, 6, 6, 6, 6, 6, 6, 6, 6, 6, 6, 6, 6, 6, 6, 6, 7, 7, 7, 7, 7, 7, 7, 7, 7, 7, 7, 7, 7, 7, 7, 7, 7, 7, 7, 7, 7, 7, 7, 7, 7, 7, 7, 7, 7, 7, 7, 7, 7, 7, 7, 7, 7, 7, 7, 7, 7, 7, 7, 7, 7, 7, 7, 7, 7, 7, 7, 7, 7, 7, 7, 7, 7, 7, 7, 7, 7, 7, 7, 7, 8, 8, 8, 8, 8, 8, 8, 8, 8, 8, 8, 8, 8, 8, 8, 8, 8, 8, 8, 8, 8, 8, 8, 8, 8, 8, 8, 8, 8, 8, 8, 8, 8, 8, 8, 8, 8, 8, 8, 8, 8, 8, 8, 8, 8, 8, 8, 8, 8, 8, 8, 8, 8, 8, 8, 8, 8, 8, 8, 8, 8, 8, 8, 8, 8, 8, 8, 8, 8, 8, 8, 8, 8, 8, 8, 8, 8, 8, 8, 8, 8, 8, 8, 8, 8, 8, 8, 8, 8, 8, 8, 8, 8, 8, 8, 8, 8, 8, 8, 8, 8, 8, 8, 8, 8, 8, 8, 8, 8, 8, 8, 8, 8, 8, 8, 8, 8, 8, 8, 8, 8, 8, 8, 8, 8, 8, 8, 8] : List UInt8) (IntKind.u8.wrap (Int.fdiv p0 (2 ^ (min (Int.toNat (16 : Int)) (IntKind.bits .u32))))) c3 ∧
      r = (IntKind.i64.wrap (16 + (IntKind.i64.wrap ((c3.toNat : Nat) : Int))))))
    (IfB (decide (p0 ≥ 256))
      (∃ c5, Idx ([0, 1, 2, 2, 3, 3, 3, 3, 4, 4, 4, 4, 4, 4, 4, 4, 5, 5, 5, 5, 5, 5, 5, 5, 5, 5, 5, 5, 5, 5, 5, 5, 6, 6, 6, 6, 6, 6, 6, 6, 6, 6, 6, 6, 6, 6, 6, 6, 6, 6, 6, 6, 6, 6, 6, 6, 6, 6, 6, 6, 6, 6, 6, 6, 7, 7, 7, 7, 7, 7, 7, 7, 7, 7, 7, 7, 7, 7, 7, 7, 7, 7, 7, 7, 7, 7, 7, 7, 7, 7, 7, 7, 7, 7, 7, 7, 7, 7, 7, 7, 7, 7, 7, 7, 7, 7, 7, 7, 7, 7, 7, 7, 7, 7, 7, 7, 7, 7, 7, 7, 7, 7, 7, 7, 7, 7, 7, 7, 8, 8, 8, 8, 8, 8, 8, 8, 8, 8, 8, 8, 8, 8, 8, 8, 8, 8, 8, 8, 8, 8, 8, 8, 8, 8, 8, 8, 8, 8, 8, 8, 8, 8, 8, 8, 8, 8, 8, 8, 8, 8, 8, 8, 8, 8, 8, 8, 8, 8, 8, 8, 8, 8, 8, 8, 8, 8, 8, 8, 8, 8, 8, 8, 8, 8, 8, 8, 8, 8, 8, 8, 8, 8, 8, 8, 8, 8, 8, 8, 8, 8, 8, 8, 8, 8, 8, 8, 8, 8, 8, 8, 8, 8, 8, 8, 8, 8, 8, 8, 8, 8, 8, 8, 8, 8, 8, 8, 8, 8, 8, 8, 8, 8, 8, 8, 8, 8, 8, 8, 8, 8, 8, 8, 8, 8, 8, 8] : List UInt8) (IntKind.u8.wrap (Int.fdiv p0 (2 ^ (min (Int.toNat (8 : Int)) (IntKind.bits .u32))))) c5 ∧
      r = (IntKind.i64.wrap (8 + (IntKind.i64.wrap ((c5.toNat : Nat) : Int)))))
      (∃ c7, Idx ([0, 1, 2, 2, 3, 3, 3, 3, 4, 4, 4, 4, 4, 4, 4, 4, 5, 5, 5, 5, 5, 5, 5, 5, 5, 5, 5, 5, 5, 5, 5, 5, 6, 6, 6, 6, 6, 6, 6, 6, 6, 6, 6, 6, 6, 6, 6, 6, 6, 6, 6, 6, 6, 6, 6, 6, 6, 6, 6, 6, 6, 6, 6, 6, 7, 7, 7, 7, 7, 7, 7, 7, 7, 7, 7, 7, 7, 7, 7, 7, 7, 7, 7, 7, 7, 7, 7, 7, 7, 7, 7, 7, 7, 7, 7, 7, 7, 7, 7, 7, 7, 7, 7, 7, 7, 7, 7, 7, 7, 7, 7, 7, 7, 7, 7, 7, 7, 7, 7, 7, 7, 7, 7, 7, 7, 7, 7, 7, 8, 8, 8, 8, 8, 8, 8, 8, 8, 8, 8, 8, 8, 8, 8, 8, 8, 8, 8, 8, 8, 8, 8, 8, 8, 8, 8, 8, 8, 8, 8, 8, 8, 8, 8, 8, 8, 8, 8, 8, 8, 8, 8, 8, 8, 8, 8, 8, 8, 8, 8, 8, 8, 8, 8, 8, 8, 8, 8, 8, 8, 8, 8, 8, 8, 8, 8, 8, 8, 8, 8, 8, 8, 8, 8, 8, 8, 8, 8, 8, 8, 8, 8, 8, 8, 8, 8, 8, 8, 8, 8, 8, 8, 8, 8, 8, 8, 8, 8, 8, 8, 8, 8, 8, 8, 8, 8, 8, 8, 8, 8, 8, 8, 8, 8, 8, 8, 8, 8, 8, 8, 8, 8, 8, 8, 8, 8, 8] : List UInt8) (IntKind.u8.wrap p0) c7 ∧
      r = (IntKind.i64.wrap (0 + (IntKind.i64.wrap ((c7.toNat : Nat) : Int))))))
def nat_trim_L1 (p0 : List Int) (r : (List Int)) (X1 : Int → Prop) (s : Int) : Prop := match s with
  | s100 =>
  IfB (decide (s100 > 0))
    (∃ x1, Idx p0 (IntKind.i64.wrap (s100 - 1)) x1 ∧
    IfB (x1 == 0)
      (X1 (IntKind.i64.wrap (s100 - 1)))
      (SubOk p0 0 s100 ∧
      ∃ x4, slices_Clone_nat_Nat_uint32 (sub p0 0 s100) x4 ∧
      r = x4))
    (SubOk p0 0 s100 ∧
    ∃ x7, slices_Clone_nat_Nat_uint32 (sub p0 0 s100) x7 ∧
    r = x7)
def nat_trim (p0 : List Int) (r : (List Int)) : Prop :=
  LoopP (nat_trim_L1 p0 r) (p0.length : Int)
def nat_Of (p0 : Int) (r : (List Int)) : Prop :=
  ∃ x1, nat_trim [(IntKind.u32.wrap p0), (IntKind.u32.wrap (Int.fdiv p0 (2 ^ (min (Int.toNat (32 : Int)) (IntKind.bits .u64)))))] x1 ∧
  r = x1
def nat_Small_L1 (x1 : List Int) (r : Int × Bool) (X1 : (Int × Int) → Prop) (s : Int × Int) : Prop := match s with
  | (s100, s101) =>
  IfB (decide (s100 ≥ 0))
    (∃ x3, Idx x1 s100 x3 ∧
    X1 ((IntKind.i64.wrap (s100 - 1)), (bitO .u64 (IntKind.u64.wrap (s101 * 2 ^ (min (Int.toNat (32 : Int)) (IntKind.bits .u64)))) (IntKind.u64.wrap x3))))
    (r = (s101, true))
def nat_Small (p0 : List Int) (r : Int × Bool) : Prop :=
  ∃ x1, nat_trim p0 x1 ∧
  IfB (decide ((x1.length : Int) > 2))
    (r = (0, false))
    (LoopP (nat_Small_L1 x1 r) ((IntKind.i64.wrap ((x1.length : Int) - 1)), (0 : Int)))
def nat_Compare_L1 (x1 : List Int) (x3 : List Int) (r : Int) (X1 : Int → Prop) (s : Int) : Prop := match s with
  | s100 =>
  IfB (decide (s100 ≥ 0))
    (∃ x5, Idx x1 s100 x5 ∧
    ∃ x7, Idx x3 s100 x7 ∧
    IfB (decide (x5 < x7))
      (r = (-1))
      (∃ x9, Idx x3 s100 x9 ∧
      IfB (decide (x5 > x9))
        (r = 1)
        (X1 (IntKind.i64.wrap (s100 - 1)))))
    (r = 0)
def nat_Compare (p0 : List Int) (p1 : List Int) (r : Int) : Prop :=
  ∃ x1, nat_trim p0 x1 ∧
  ∃ x3, nat_trim p1 x3 ∧
  IfB ((x1.length : Int) != (x3.length : Int))
    (r = (if (1 : Int) < (if (-1 : Int) > (IntKind.i64.wrap ((x1.length : Int) - (x3.length : Int))) then (-1) else (IntKind.i64.wrap ((x1.length : Int) - (x3.length : Int)))) then 1 else (if (-1 : Int) > (IntKind.i64.wrap ((x1.length : Int) - (x3.length : Int))) then (-1) else (IntKind.i64.wrap ((x1.length : Int) - (x3.length : Int))))))
    (LoopP (nat_Compare_L1 x1 x3 r) (IntKind.i64.wrap ((x1.length : Int) - 1)))
def nat_at (p0 : List Int) (p1 : Int) (r : Int) : Prop :=
  IfB (decide (p1 < (p0.length : Int)))
    (∃ x1, Idx p0 p1 x1 ∧
    r = (IntKind.u64.wrap x1))
    (r = 0)
def nat_Add_L1 (p0 : List Int) (p1 : List Int) (r : (List Int)) (X1 : (Int × Int × (List Int)) → Prop) (s : Int × Int × (List Int)) : Prop := match s with
  | (s100, s101, s150) =>
  IfB (decide (s101 < ((List.replicate (Int.toNat (IntKind.i64.wrap ((if (p1.length : Int) > (p0.length : Int) then (p1.length : Int) else (p0.length : Int)) + 1))) (0 : Int)).length : Int)))
    (∃ x4, nat_at p0 s101 x4 ∧
    ∃ x6, nat_at p1 s101 x6 ∧
    ∃ x8, Idx s150 s101 x8 ∧
    X1 ((Int.fdiv (IntKind.u64.wrap (s100 + (IntKind.u64.wrap (x4 + x6)))) (2 ^ (min (Int.toNat (32 : Int)) (IntKind.bits .u64)))), (IntKind.i64.wrap (s101 + 1)), (s150.set (Int.toNat s101) (IntKind.u32.wrap (IntKind.u64.wrap (s100 + (IntKind.u64.wrap (x4 + x6))))))))
    (∃ x10, nat_trim s150 x10 ∧
    r = x10)
def nat_Add (p0 : List Int) (p1 : List Int) (r : (List Int)) : Prop :=
  (0 ≤ (IntKind.i64.wrap ((if (p1.length : Int) > (p0.length : Int) then (p1.length : Int) else (p0.length : Int)) + 1)) ∧ Fits (Int.toNat (IntKind.i64.wrap ((if (p1.length : Int) > (p0.length : Int) then (p1.length : Int) else (p0.length : Int)) + 1))) 4 ∧ Fits (Int.toNat (IntKind.i64.wrap ((if (p1.length : Int) > (p0.length : Int) then (p1.length : Int) else (p0.length : Int)) + 1))) 1) ∧
  LoopP (nat_Add_L1 p0 p1 r) ((0 : Int), (0 : Int), (List.replicate (Int.toNat (IntKind.i64.wrap ((if (p1.length : Int) > (p0.length : Int) then (p1.length : Int) else (p0.length : Int)) + 1))) (0 : Int)))
def nat_Sub_L1 (p0 : List Int) (p1 : List Int) (r : (List Int) × Bool) (X1 : (Int × Int × (List Int)) → Prop) (s : Int × Int × (List Int)) : Prop := match s with
  | (s100, s101, s150) =>
  IfB (decide (s101 < ((List.replicate (Int.toNat (p0.length : Int)) (0 : Int)).length : Int)))
    (∃ x6, nat_at p0 s101 x6 ∧
    ∃ x8, nat_at p1 s101 x8 ∧
    ∃ x10, Idx s150 s101 x10 ∧
    X1 ((Int.fdiv (IntKind.u64.wrap ((IntKind.u64.wrap (x6 - x8)) - s100)) (2 ^ (min (Int.toNat (63 : Int)) (IntKind.bits .u64)))), (IntKind.i64.wrap (s101 + 1)), (s150.set (Int.toNat s101) (IntKind.u32.wrap (IntKind.u64.wrap ((IntKind.u64.wrap (x6 - x8)) - s100))))))
    (∃ x12, nat_trim s150 x12 ∧
    r = (x12, true))
def nat_Sub (p0 : List Int) (p1 : List Int) (r : (List Int) × Bool) : Prop :=
  ∃ x1, nat_Compare p0 p1 x1 ∧
  IfB (decide (x1 < 0))
    (r = ([], false))
    ((0 ≤ (p0.length : Int) ∧ Fits (Int.toNat (p0.length : Int)) 4 ∧ Fits (Int.toNat (p0.length : Int)) 1) ∧
    LoopP (nat_Sub_L1 p0 p1 r) ((0 : Int), (0 : Int), (List.replicate (Int.toNat (p0.length : Int)) (0 : Int))))
def nat_Mul_L2 (p1 : List Int) (s100 : Int) (X1 : (Int × (List Int)) → Prop) (x4 : Int) (X2 : (Int × Int × (List Int)) → Prop) (s : Int × Int × (List Int)) : Prop := match s with
  | (s200, s201, s250) =>
  IfB (decide (s201 < (p1.length : Int)))
    (∃ x6, Idx p1 s201 x6 ∧
    ∃ x8, Idx s250 (IntKind.i64.wrap (s100 + s201)) x8 ∧
    ∃ x10, Idx s250 (IntKind.i64.wrap (s100 + s201)) x10 ∧
    X2 ((Int.fdiv (IntKind.u64.wrap (s200 + (IntKind.u64.wrap ((IntKind.u64.wrap ((IntKind.u64.wrap x4) * (IntKind.u64.wrap x6))) + (IntKind.u64.wrap x8))))) (2 ^ (min (Int.toNat (32 : Int)) (IntKind.bits .u64)))), (IntKind.i64.wrap (s201 + 1)), (s250.set (Int.toNat (IntKind.i64.wrap (s100 + s201))) (IntKind.u32.wrap (IntKind.u64.wrap (s200 + (IntKind.u64.wrap ((IntKind.u64.wrap ((IntKind.u64.wrap x4) * (IntKind.u64.wrap x6))) + (IntKind.u64.wrap x8)))))))))
    (∃ x12, Idx s250 (IntKind.i64.wrap (s100 + (p1.length : Int))) x12 ∧
    X1 ((IntKind.i64.wrap (s100 + 1)), (s250.set (Int.toNat (IntKind.i64.wrap (s100 + (p1.length : Int)))) (IntKind.u32.wrap s200))))
def nat_Mul_L1 (p0 : List Int) (p1 : List Int) (r : (List Int)) (X1 : (Int × (List Int)) → Prop) (s : Int × (List Int)) : Prop := match s with
  | (s100, s150) =>
  IfB (decide (s100 < (p0.length : Int)))
    (∃ x4, Idx p0 s100 x4 ∧
    LoopP (nat_Mul_L2 p1 s100 X1 x4) ((0 : Int), (0 : Int), s150))
    (∃ x14, nat_trim s150 x14 ∧
    r = x14)
def nat_Mul (p0 : List Int) (p1 : List Int) (r : (List Int)) : Prop :=
  (0 ≤ (IntKind.i64.wrap ((p0.length : Int) + (p1.length : Int))) ∧ Fits (Int.toNat (IntKind.i64.wrap ((p0.length : Int) + (p1.length : Int)))) 4 ∧ Fits (Int.toNat (IntKind.i64.wrap ((p0.length : Int) + (p1.length : Int)))) 1) ∧
  LoopP (nat_Mul_L1 p0 p1 r) ((0 : Int), (List.replicate (Int.toNat (IntKind.i64.wrap ((p0.length : Int) + (p1.length : Int)))) (0 : Int)))
def nat_Bits (p0 : List Int) (r : Int) : Prop :=
  ∃ x1, nat_trim p0 x1 ∧
  IfB ((x1.length : Int) == 0)
    (r = 0)
    (∃ x3, Idx x1 (IntKind.i64.wrap ((x1.length : Int) - 1)) x3 ∧
    ∃ x5, math_bits_Len32 x3 x5 ∧
    r = (IntKind.i64.wrap ((IntKind.i64.wrap (32 * (IntKind.i64.wrap ((x1.length : Int) - 1)))) + x5)))
def nat_Shift_L1 (p0 : List Int) (p1 : Int) (r : (List Int)) (X1 : (Int × (List Int)) → Prop) (s : Int × (List Int)) : Prop := match s with
  | (s100, s150) =>
  IfB (decide (s100 < (p0.length : Int)))
    (∃ x8, Idx p0 s100 x8 ∧
    0 ≤ (Int.tmod p1 (32 : Int)) ∧
    ∃ x11, Idx s150 (IntKind.i64.wrap (s100 + (IntKind.i64.wrap (Int.tdiv p1 (32 : Int))))) x11 ∧
    ∃ x13, Idx s150 (IntKind.i64.wrap (s100 + (IntKind.i64.wrap (Int.tdiv p1 (32 : Int))))) x13 ∧
    ∃ x15, Idx (s150.set (Int.toNat (IntKind.i64.wrap (s100 + (IntKind.i64.wrap (Int.tdiv p1 (32 : Int)))))) (bitO .u32 x11 (IntKind.u32.wrap (IntKind.u64.wrap ((IntKind.u64.wrap x8) * 2 ^ (min (Int.toNat (Int.tmod p1 (32 : Int))) (IntKind.bits .u64))))))) (IntKind.i64.wrap ((IntKind.i64.wrap (s100 + (IntKind.i64.wrap (Int.tdiv p1 (32 : Int))))) + 1)) x15 ∧
    ∃ x17, Idx (s150.set (Int.toNat (IntKind.i64.wrap (s100 + (IntKind.i64.wrap (Int.tdiv p1 (32 : Int)))))) (bitO .u32 x11 (IntKind.u32.wrap (IntKind.u64.wrap ((IntKind.u64.wrap x8) * 2 ^ (min (Int.toNat (Int.tmod p1 (32 : Int))) (IntKind.bits .u64))))))) (IntKind.i64.wrap ((IntKind.i64.wrap (s100 + (IntKind.i64.wrap (Int.tdiv p1 (32 : Int))))) + 1)) x17 ∧
    X1 ((IntKind.i64.wrap (s100 + 1)), ((s150.set (Int.toNat (IntKind.i64.wrap (s100 + (IntKind.i64.wrap (Int.tdiv p1 (32 : Int)))))) (bitO .u32 x11 (IntKind.u32.wrap (IntKind.u64.wrap ((IntKind.u64.wrap x8) * 2 ^ (min (Int.toNat (Int.tmod p1 (32 : Int))) (IntKind.bits .u64))))))).set (Int.toNat (IntKind.i64.wrap ((IntKind.i64.wrap (s100 + (IntKind.i64.wrap (Int.tdiv p1 (32 : Int))))) + 1))) (bitO .u32 x15 (IntKind.u32.wrap (Int.fdiv (IntKind.u64.wrap ((IntKind.u64.wrap x8) * 2 ^ (min (Int.toNat (Int.tmod p1 (32 : Int))) (IntKind.bits .u64)))) (2 ^ (min (Int.toNat (32 : Int)) (IntKind.bits .u64)))))))))
    (∃ x19, nat_trim s150 x19 ∧
    r = x19)
def nat_Shift (p0 : List Int) (p1 : Int) (r : (List Int)) : Prop :=
  IfB (decide (p1 < 0))
    (∃ x1, nat_trim p0 x1 ∧
    r = x1)
    (IfB (decide (p1 > 65536))
      (∃ x3, nat_trim p0 x3 ∧
      r = x3)
      ((0 ≤ (IntKind.i64.wrap ((IntKind.i64.wrap ((p0.length : Int) + (IntKind.i64.wrap (Int.tdiv p1 (32 : Int))))) + 1)) ∧ Fits (Int.toNat (IntKind.i64.wrap ((IntKind.i64.wrap ((p0.length : Int) + (IntKind.i64.wrap (Int.tdiv p1 (32 : Int))))) + 1))) 4 ∧ Fits (Int.toNat (IntKind.i64.wrap ((IntKind.i64.wrap ((p0.length : Int) + (IntKind.i64.wrap (Int.tdiv p1 (32 : Int))))) + 1))) 1) ∧
      LoopP (nat_Shift_L1 p0 p1 r) ((0 : Int), (List.replicate (Int.toNat (IntKind.i64.wrap ((IntKind.i64.wrap ((p0.length : Int) + (IntKind.i64.wrap (Int.tdiv p1 (32 : Int))))) + 1))) (0 : Int)))))
def nat_digit_L1 (p1 : List Int) (r : Int × (List Int)) (X1 : ((List Int) × Int × Int) → Prop) (s : (List Int) × Int × Int) : Prop := match s with
  | (s100, s101, s102) =>
  IfB (decide (s102 ≥ 0))
    (∃ x1, nat_Shift p1 s102 x1 ∧
    ∃ x3 x4, nat_Sub s100 x1 (x3, x4) ∧
    IfB x4
      (0 ≤ s102 ∧
      X1 (x3, (bitO .u32 s101 (IntKind.u32.wrap ((1 : Int) * 2 ^ (min (Int.toNat s102) (IntKind.bits .u32))))), (IntKind.i64.wrap (s102 - 1))))
      (X1 (s100, s101, (IntKind.i64.wrap (s102 - 1)))))
    (r = (s101, s100))
def nat_digit (p0 : List Int) (p1 : List Int) (r : Int × (List Int)) : Prop :=
  LoopP (nat_digit_L1 p1 r) (p0, (0 : Int), (31 : Int))
def nat_DivMod_L1 (x1 : List Int) (x3 : List Int) (r : (List Int) × (List Int) × Int) (X1 : (Int × (List Int) × (List Int)) → Prop) (s : Int × (List Int) × (List Int)) : Prop := match s with
  | (s100, s101, s151) =>
  IfB (decide (s100 ≥ 0))
    (∃ x8, Idx x1 s100 x8 ∧
    IfB s101.isEmpty
      (∃ x11, nat_trim [x8] x11 ∧
      IfB ((x3.length : Int) == 1)
        (∃ x13 x14, nat_Small x11 (x13, x14) ∧
        IfB x14
          (∃ x16, Idx x3 0 x16 ∧
          (IntKind.u64.wrap x16) ≠ 0 ∧
          ∃ x19, Idx s151 s100 x19 ∧
          ∃ x21, Idx x3 0 x21 ∧
          (IntKind.u64.wrap x21) ≠ 0 ∧
          ∃ x24, nat_Of (Int.tmod x13 (IntKind.u64.wrap x21)) x24 ∧
          X1 ((IntKind.i64.wrap (s100 - 1)), x24, (s151.set (Int.toNat s100) (IntKind.u32.wrap (IntKind.u64.wrap (Int.tdiv x13 (IntKind.u64.wrap x16)))))))
          (∃ x26, Idx x3 0 x26 ∧
          (IntKind.u64.wrap x26) ≠ 0 ∧
          ∃ x29, Idx s151 s100 x29 ∧
          ∃ x31, Idx x3 0 x31 ∧
          (IntKind.u64.wrap x31) ≠ 0 ∧
          ∃ x34, nat_Of (Int.tmod x13 (IntKind.u64.wrap x31)) x34 ∧
          X1 ((IntKind.i64.wrap (s100 - 1)), x34, (s151.set (Int.toNat s100) (IntKind.u32.wrap (IntKind.u64.wrap (Int.tdiv x13 (IntKind.u64.wrap x26))))))))
        (∃ x36 x37, nat_digit x11 x3 (x36, x37) ∧
        ∃ x39, Idx s151 s100 x39 ∧
        X1 ((IntKind.i64.wrap (s100 - 1)), x37, (s151.set (Int.toNat s100) x36))))
      (Fits ([x8].length + s101.length) 4 ∧
      ∃ x42, nat_trim ([x8] ++ s101) x42 ∧
      IfB ((x3.length : Int) == 1)
        (∃ x44 x45, nat_Small x42 (x44, x45) ∧
        IfB x45
          (∃ x47, Idx x3 0 x47 ∧
          (IntKind.u64.wrap x47) ≠ 0 ∧
          ∃ x50, Idx s151 s100 x50 ∧
          ∃ x52, Idx x3 0 x52 ∧
          (IntKind.u64.wrap x52) ≠ 0 ∧
          ∃ x55, nat_Of (Int.tmod x44 (IntKind.u64.wrap x52)) x55 ∧
          X1 ((IntKind.i64.wrap (s100 - 1)), x55, (s151.set (Int.toNat s100) (IntKind.u32.wrap (IntKind.u64.wrap (Int.tdiv x44 (IntKind.u64.wrap x47)))))))
          (∃ x57, Idx x3 0 x57 ∧
          (IntKind.u64.wrap x57) ≠ 0 ∧
          ∃ x60, Idx s151 s100 x60 ∧
          ∃ x62, Idx x3 0 x62 ∧
          (IntKind.u64.wrap x62) ≠ 0 ∧
          ∃ x65, nat_Of (Int.tmod x44 (IntKind.u64.wrap x62)) x65 ∧
          X1 ((IntKind.i64.wrap (s100 - 1)), x65, (s151.set (Int.toNat s100) (IntKind.u32.wrap (IntKind.u64.wrap (Int.tdiv x44 (IntKind.u64.wrap x57))))))))
        (∃ x67 x68, nat_digit x42 x3 (x67, x68) ∧
        ∃ x70, Idx s151 s100 x70 ∧
        X1 ((IntKind.i64.wrap (s100 - 1)), x68, (s151.set (Int.toNat s100) x67)))))
    (∃ x72, nat_trim s151 x72 ∧
    r = (x72, s101, 0))
def nat_DivMod (p0 : List Int) (p1 : List Int) (r : (List Int) × (List Int) × Int) : Prop :=
  ∃ x1, nat_trim p0 x1 ∧
  ∃ x3, nat_trim p1 x3 ∧
  IfB ((x3.length : Int) == 0)
    (r = ([], [], 5))
    ((0 ≤ (x1.length : Int) ∧ Fits (Int.toNat (x1.length : Int)) 4 ∧ Fits (Int.toNat (x1.length : Int)) 1) ∧
    LoopP (nat_DivMod_L1 x1 x3 r) ((IntKind.i64.wrap ((x1.length : Int) - 1)), [], (List.replicate (Int.toNat (x1.length : Int)) (0 : Int))))
def nat_Gcd_L1 (r : (List Int)) (X1 : ((List Int) × (List Int)) → Prop) (s : (List Int) × (List Int)) : Prop := match s with
  | (s100, s101) =>
  IfB (decide ((s101.length : Int) > 0))
    (∃ x5 x6 x7, nat_DivMod s100 s101 (x5, x6, x7) ∧
    X1 (s101, x6))
    (r = s100)
def nat_Gcd (p0 : List Int) (p1 : List Int) (r : (List Int)) : Prop :=
  ∃ x1, nat_trim p0 x1 ∧
  ∃ x3, nat_trim p1 x3 ∧
  LoopP (nat_Gcd_L1 r) (x1, x3)
def nat_Parse_1 (p0 : Int) (r : Bool) : Prop :=
  IfB (decide (p0 ≥ 48))
    (IfB (decide (p0 ≤ 57))
      (r = true)
      (r = false))
    (r = false)
def nat_Parse_L1 (p0 : List UInt8) (r : (List Int) × Int) (X1 : ((List Int) × Int) → Prop) (s : (List Int) × Int) : Prop := match s with
  | (s100, s101) =>
  IfB (decide (s101 < (p0.length : Int)))
    (∃ c1, Idx p0 s101 c1 ∧
    ∃ x3, nat_Parse_1 ((c1.toNat : Nat) : Int) x3 ∧
    IfB x3
      (IfB (decide (s101 < 400))
        (∃ x5, nat_Of (10 : Int) x5 ∧
        ∃ x7, nat_Mul s100 x5 x7 ∧
        ∃ c9, Idx p0 s101 c9 ∧
        ∃ x11, nat_Of (IntKind.u64.wrap (IntKind.u8.wrap (((c9.toNat : Nat) : Int) - 48))) x11 ∧
        ∃ x13, nat_Add x7 x11 x13 ∧
        X1 (x13, (IntKind.i64.wrap (s101 + 1))))
        (X1 (s100, (IntKind.i64.wrap (s101 + 1)))))
      (r = ([], 2)))
    (IfB (p0 == [])
      (r = ([], 2))
      (IfB (decide ((p0.length : Int) > 400))
        (r = ([], 4))
        (r = (s100, 0))))
def nat_Parse (p0 : List UInt8) (r : (List Int) × Int) : Prop :=
  LoopP (nat_Parse_L1 p0 r) ([], (0 : Int))
def whole_Make (p0 : Bool) (p1 : List Int) (r : Bool × (List Int)) : Prop :=
  IfB p0
    (∃ x1, nat_Shift p1 (0 : Int) x1 ∧
    IfB (decide ((x1.length : Int) > 0))
      (r = (true, x1))
      (r = (false, x1)))
    (∃ x3, nat_Shift p1 (0 : Int) x3 ∧
    r = (false, x3))
def whole_Of (p0 : Int) (r : Bool × (List Int)) : Prop :=
  IfB (decide (p0 < 0))
    (∃ x1, nat_Of (IntKind.u64.wrap (if (IntKind.i64.wrap (0 - p0)) > p0 then (IntKind.i64.wrap (0 - p0)) else p0)) x1 ∧
    ∃ x3 x4, whole_Make true x1 (x3, x4) ∧
    r = (x3, x4))
    (∃ x6, nat_Of (IntKind.u64.wrap (if (IntKind.i64.wrap (0 - p0)) > p0 then (IntKind.i64.wrap (0 - p0)) else p0)) x6 ∧
    ∃ x8 x9, whole_Make false x6 (x8, x9) ∧
    r = (x8, x9))
def whole_Sign (p0 : Bool) (p1 : List Int) (r : Int) : Prop :=
  ∃ x1 x2, whole_Make p0 p1 (x1, x2) ∧
  IfB x1
    (IfB ((x2.length : Int) == 0)
      (r = 0)
      (r = (-1)))
    (IfB ((x2.length : Int) == 0)
      (r = 0)
      (r = 1))
def whole_Compare (p0 : Bool) (p1 : List Int) (p2 : Bool) (p3 : List Int) (r : Int) : Prop :=
  ∃ x1, whole_Sign p0 p1 x1 ∧
  ∃ x3, whole_Sign p2 p3 x3 ∧
  IfB (x1 != x3)
    (r = (if (1 : Int) < (if (-1 : Int) > (IntKind.i64.wrap (x1 - x3)) then (-1) else (IntKind.i64.wrap (x1 - x3))) then 1 else (if (-1 : Int) > (IntKind.i64.wrap (x1 - x3)) then (-1) else (IntKind.i64.wrap (x1 - x3)))))
    (IfB (decide (x1 < 0))
      (∃ x5, nat_Compare p3 p1 x5 ∧
      r = x5)
      (∃ x7, nat_Compare p1 p3 x7 ∧
      r = x7))
def whole_Add (p0 : Bool) (p1 : List Int) (p2 : Bool) (p3 : List Int) (r : Bool × (List Int)) : Prop :=
  ∃ x1, whole_Sign p0 p1 x1 ∧
  IfB (decide (x1 < 0))
    (∃ x3, whole_Sign p2 p3 x3 ∧
    IfB (decide (x3 < 0))
      (∃ x5, whole_Sign p0 p1 x5 ∧
      IfB (decide (x5 < 0))
        (∃ x7, nat_Add p1 p3 x7 ∧
        ∃ x9 x10, whole_Make true x7 (x9, x10) ∧
        r = (x9, x10))
        (∃ x12, nat_Add p1 p3 x12 ∧
        ∃ x14 x15, whole_Make false x12 (x14, x15) ∧
        r = (x14, x15)))
      (∃ x17 x18, nat_Sub p1 p3 (x17, x18) ∧
      IfB x18
        (∃ x20, whole_Sign p0 p1 x20 ∧
        IfB (decide (x20 < 0))
          (∃ x22 x23, whole_Make true x17 (x22, x23) ∧
          r = (x22, x23))
          (∃ x25 x26, whole_Make false x17 (x25, x26) ∧
          r = (x25, x26)))
        (∃ x28 x29, nat_Sub p3 p1 (x28, x29) ∧
        IfB x29
          (∃ x31, whole_Sign p2 p3 x31 ∧
          IfB (decide (x31 < 0))
            (∃ x33 x34, whole_Make true x28 (x33, x34) ∧
            r = (x33, x34))
            (∃ x36 x37, whole_Make false x28 (x36, x37) ∧
            r = (x36, x37)))
          (∃ x39, whole_Sign p2 p3 x39 ∧
          IfB (decide (x39 < 0))
            (∃ x41 x42, whole_Make true x28 (x41, x42) ∧
            r = (x41, x42))
            (∃ x44 x45, whole_Make false x28 (x44, x45) ∧
            r = (x44, x45))))))
    (∃ x47, whole_Sign p2 p3 x47 ∧
    IfB (decide (x47 < 0))
      (∃ x49 x50, nat_Sub p1 p3 (x49, x50) ∧
      IfB x50
        (∃ x52, whole_Sign p0 p1 x52 ∧
        IfB (decide (x52 < 0))
          (∃ x54 x55, whole_Make true x49 (x54, x55) ∧
          r = (x54, x55))
          (∃ x57 x58, whole_Make false x49 (x57, x58) ∧
          r = (x57, x58)))
        (∃ x60 x61, nat_Sub p3 p1 (x60, x61) ∧
        IfB x61
          (∃ x63, whole_Sign p2 p3 x63 ∧
          IfB (decide (x63 < 0))
            (∃ x65 x66, whole_Make true x60 (x65, x66) ∧
            r = (x65, x66))
            (∃ x68 x69, whole_Make false x60 (x68, x69) ∧
            r = (x68, x69)))
          (∃ x71, whole_Sign p2 p3 x71 ∧
          IfB (decide (x71 < 0))
            (∃ x73 x74, whole_Make true x60 (x73, x74) ∧
            r = (x73, x74))
            (∃ x76 x77, whole_Make false x60 (x76, x77) ∧
            r = (x76, x77)))))
      (∃ x79, whole_Sign p0 p1 x79 ∧
      IfB (decide (x79 < 0))
        (∃ x81, nat_Add p1 p3 x81 ∧
        ∃ x83 x84, whole_Make true x81 (x83, x84) ∧
        r = (x83, x84))
        (∃ x86, nat_Add p1 p3 x86 ∧
        ∃ x88 x89, whole_Make false x86 (x88, x89) ∧
        r = (x88, x89))))
def whole_Mul (p0 : Bool) (p1 : List Int) (p2 : Bool) (p3 : List Int) (r : Bool × (List Int)) : Prop :=
  ∃ x1, whole_Sign p0 p1 x1 ∧
  ∃ x3, whole_Sign p2 p3 x3 ∧
  IfB (decide ((IntKind.i64.wrap (x1 * x3)) < 0))
    (∃ x5, nat_Mul p1 p3 x5 ∧
    ∃ x7 x8, whole_Make true x5 (x7, x8) ∧
    r = (x7, x8))
    (∃ x10, nat_Mul p1 p3 x10 ∧
    ∃ x12 x13, whole_Make false x10 (x12, x13) ∧
    r = (x12, x13))
def whole_Parse (p0 : List UInt8) (r : Bool × (List Int) × Int) : Prop :=
  ∃ x1 x2, strings_CutPrefix p0 ([45] : List UInt8) (x1, x2) ∧
  IfB x2
    (∃ x4 x5, nat_Parse x1 (x4, x5) ∧
    IfB (x5 != 0)
      (r = (false, [], x5))
      (∃ x7 x8, whole_Make true x4 (x7, x8) ∧
      r = (x7, x8, 0)))
    (∃ x10 x11, nat_Parse x1 (x10, x11) ∧
    IfB (x11 != 0)
      (r = (false, [], x11))
      (∃ x13 x14, whole_Make false x10 (x13, x14) ∧
      r = (x13, x14, 0)))
def rat_den (p0 : Bool) (p1 : List Int) (p2 : List Int) (r : (List Int)) : Prop :=
  ∃ x1, nat_Bits p2 x1 ∧
  IfB (x1 == 0)
    (∃ x3, nat_Of (1 : Int) x3 ∧
    r = x3)
    (r = p2)
def rat_Make (p0 : Bool) (p1 : List Int) (p2 : List Int) (r : Bool × (List Int) × (List Int)) : Prop :=
  ∃ x1, rat_den false ([] : List Int) p2 x1 ∧
  ∃ x3, nat_Gcd p1 x1 x3 ∧
  ∃ x5 x6 x7, nat_DivMod p1 x3 (x5, x6, x7) ∧
  ∃ x9 x10 x11, nat_DivMod x1 x3 (x9, x10, x11) ∧
  ∃ x13 x14, whole_Make p0 x5 (x13, x14) ∧
  r = (x13, x14, x9)
def rat_Int (p0 : Int) (r : Bool × (List Int) × (List Int)) : Prop :=
  ∃ x1 x2, whole_Of p0 (x1, x2) ∧
  ∃ x4, nat_Of (1 : Int) x4 ∧
  ∃ x6 x7 x8, rat_Make x1 x2 x4 (x6, x7, x8) ∧
  r = (x6, x7, x8)
def rat_Sign (p0 : Bool) (p1 : List Int) (p2 : List Int) (r : Int) : Prop :=
  ∃ x1, whole_Sign p0 p1 x1 ∧
  r = x1
def rat_over (p0 : Bool) (p1 : List Int) (p2 : List Int) (p3 : Bool) (p4 : List Int) (p5 : List Int) (r : Bool × (List Int)) : Prop :=
  ∃ x1, rat_den p3 p4 p5 x1 ∧
  ∃ x3 x4, whole_Make false x1 (x3, x4) ∧
  ∃ x6 x7, whole_Mul p0 p1 x3 x4 (x6, x7) ∧
  r = (x6, x7)
def rat_Compare (p0 : Bool) (p1 : List Int) (p2 : List Int) (p3 : Bool) (p4 : List Int) (p5 : List Int) (r : Int) : Prop :=
  ∃ x1 x2, rat_over p0 p1 p2 p3 p4 p5 (x1, x2) ∧
  ∃ x4 x5, rat_over p3 p4 p5 p0 p1 p2 (x4, x5) ∧
  ∃ x7, whole_Compare x1 x2 x4 x5 x7 ∧
  r = x7
def rat_Add (p0 : Bool) (p1 : List Int) (p2 : List Int) (p3 : Bool) (p4 : List Int) (p5 : List Int) (r : Bool × (List Int) × (List Int)) : Prop :=
  ∃ x1 x2, rat_over p0 p1 p2 p3 p4 p5 (x1, x2) ∧
  ∃ x4 x5, rat_over p3 p4 p5 p0 p1 p2 (x4, x5) ∧
  ∃ x7 x8, whole_Add x1 x2 x4 x5 (x7, x8) ∧
  ∃ x10, rat_den p0 p1 p2 x10 ∧
  ∃ x12, rat_den p3 p4 p5 x12 ∧
  ∃ x14, nat_Mul x10 x12 x14 ∧
  ∃ x16 x17 x18, rat_Make x7 x8 x14 (x16, x17, x18) ∧
  r = (x16, x17, x18)
def rat_Mul (p0 : Bool) (p1 : List Int) (p2 : List Int) (p3 : Bool) (p4 : List Int) (p5 : List Int) (r : Bool × (List Int) × (List Int)) : Prop :=
  ∃ x1 x2, whole_Mul p0 p1 p3 p4 (x1, x2) ∧
  ∃ x4, rat_den p0 p1 p2 x4 ∧
  ∃ x6, rat_den p3 p4 p5 x6 ∧
  ∃ x8, nat_Mul x4 x6 x8 ∧
  ∃ x10 x11 x12, rat_Make x1 x2 x8 (x10, x11, x12) ∧
  r = (x10, x11, x12)
def rat_Parse (p0 : List UInt8) (r : Bool × (List Int) × (List Int) × Int) : Prop :=
  ∃ x1 x2 x3, strings_Cut p0 ([47] : List UInt8) (x1, x2, x3) ∧
  IfB x3
    (∃ x5 x6 x7, whole_Parse x1 (x5, x6, x7) ∧
    IfB (x7 != 0)
      (r = (false, [], [], x7))
      (∃ x9 x10, nat_Parse x2 (x9, x10) ∧
      IfB (x10 != 0)
        (r = (false, [], [], x10))
        (∃ x12, nat_Bits x9 x12 ∧
        IfB (x12 == 0)
          (r = (false, [], [], 5))
          (∃ x14 x15 x16, rat_Make x5 x6 x9 (x14, x15, x16) ∧
          r = (x14, x15, x16, 0)))))
    (∃ x18 x19 x20, whole_Parse x1 (x18, x19, x20) ∧
    IfB (x20 != 0)
      (r = (false, [], [], x20))
      (∃ x22 x23, nat_Parse ([49] : List UInt8) (x22, x23) ∧
      IfB (x23 != 0)
        (r = (false, [], [], x23))
        (∃ x25, nat_Bits x22 x25 ∧
        IfB (x25 == 0)
          (r = (false, [], [], 5))
          (∃ x27 x28 x29, rat_Make x18 x19 x22 (x27, x28, x29) ∧
          r = (x27, x28, x29, 0)))))
end Go.Abs
end

section
namespace Go.Abs
set_option linter.unusedVariables false
set_option linter.unusedSimpArgs false
set_option linter.unnecessarySimpa false
def lines_may (p0 : Int) (r : Bool) : Prop :=
  IfB (p0 == 10)
    (r = true)
    (IfB (decide (p0 ≥ 32))
      (IfB (decide (p0 ≤ 126))
        (r = true)
        (r = false))
      (r = false))
def lines_All_L2 (x4 : List (List UInt8)) (r : (List (Int × (List (List UInt8)))) × Int) (X2 : (Int × (List (Int × (List (List UInt8))))) → Prop) (s : Int × (List (Int × (List (List UInt8))))) : Prop := match s with
  | (s200, s252) =>
  IfB (decide (s200 < (x4.length : Int)))
    (∃ x6, Idx x4 s200 x6 ∧
    ∃ x8 x9 x10, strings_Cut x6 ([35] : List UInt8) (x8, x9, x10) ∧
    IfB x10
      (∃ x12, strings_Fields x8 x12 ∧
      IfB (decide ((x12.length : Int) > 0))
        (Fits (s252.length + [((IntKind.i64.wrap (s200 + 1)), x12)].length) 32 ∧
        X2 ((IntKind.i64.wrap (s200 + 1)), (s252 ++ [((IntKind.i64.wrap (s200 + 1)), x12)])))
        (X2 ((IntKind.i64.wrap (s200 + 1)), s252)))
      (∃ x15, strings_Fields x8 x15 ∧
      IfB (decide ((x15.length : Int) > 0))
        (Fits (s252.length + [((IntKind.i64.wrap (s200 + 1)), x15)].length) 32 ∧
        X2 ((IntKind.i64.wrap (s200 + 1)), (s252 ++ [((IntKind.i64.wrap (s200 + 1)), x15)])))
        (X2 ((IntKind.i64.wrap (s200 + 1)), s252))))
    (r = (s252, 0))
def lines_All_L1 (p0 : List UInt8) (r : (List (Int × (List (List UInt8)))) × Int) (X1 : Nat → Prop) (s : Nat) : Prop := match s with
  | s151 =>
  IfB (decide (s151 < p0.length))
    (∃ x2, lines_may (runeAt p0 s151) x2 ∧
    IfB x2
      (X1 (s151 + runeLen p0 s151))
      (r = ([], 2)))
    (∃ x4, strings_Split p0 ([10] : List UInt8) x4 ∧
    LoopP (lines_All_L2 x4 r) ((0 : Int), []))
def lines_All (p0 : List UInt8) (r : (List (Int × (List (List UInt8)))) × Int) : Prop :=
  IfB (decide ((p0.length : Int) > 65536))
    (r = ([], 4))
    (LoopP (lines_All_L1 p0 r) 0)
def offcutref07_Right_L1 (p0 : List UInt8) (r : Bool) (X1 : Int → Prop) (s : Int) : Prop := match s with
  | s100 =>
  IfB (decide (s100 < (p0.length : Int)))
    (∃ c1, Idx p0 s100 c1 ∧
    IfB (((c1.toNat : Nat) : Int) != 10)
      (∃ c3, Idx p0 s100 c3 ∧
      IfB (decide (((c3.toNat : Nat) : Int) < 32))
        (r = false)
        (∃ c5, Idx p0 s100 c5 ∧
        IfB (decide (((c5.toNat : Nat) : Int) > 126))
          (r = false)
          (X1 (IntKind.i64.wrap (s100 + 1)))))
      (X1 (IntKind.i64.wrap (s100 + 1))))
    (r = true)
def offcutref07_Right (p0 : List UInt8) (r : Bool) : Prop :=
  LoopP (offcutref07_Right_L1 p0 r) (0 : Int)
def offcutref07_All_L1 (p0 : List UInt8) (r : (List (Int × (List (List UInt8))))) (X1 : ((List UInt8) × Bool × Int × Int × (List (Int × (List (List UInt8)))) × (List (List UInt8))) → Prop) (s : (List UInt8) × Bool × Int × Int × (List (Int × (List (List UInt8)))) × (List (List UInt8))) : Prop := match s with
  | (s100, s101, s102, s103, s151, s152) =>
  IfB s101
    (IfB (decide (s102 ≤ (p0.length : Int)))
      (IfB (s102 == (p0.length : Int))
        (IfB (!(s100 == []))
          (Fits (s152.length + [s100].length) 16 ∧
          IfB (decide (((s152 ++ [s100]).length : Int) > 0))
            (Fits (s151.length + [(s103, (s152 ++ [s100]))].length) 32 ∧
            X1 ([], false, (IntKind.i64.wrap (s102 + 1)), (IntKind.i64.wrap (s103 + 1)), (s151 ++ [(s103, (s152 ++ [s100]))]), []))
            (X1 ([], false, (IntKind.i64.wrap (s102 + 1)), (IntKind.i64.wrap (s103 + 1)), s151, [])))
          (IfB (decide ((s152.length : Int) > 0))
            (Fits (s151.length + [(s103, s152)].length) 32 ∧
            X1 ([], false, (IntKind.i64.wrap (s102 + 1)), (IntKind.i64.wrap (s103 + 1)), (s151 ++ [(s103, s152)]), []))
            (X1 ([], false, (IntKind.i64.wrap (s102 + 1)), (IntKind.i64.wrap (s103 + 1)), s151, []))))
        (∃ c4, Idx p0 s102 c4 ∧
        IfB (((c4.toNat : Nat) : Int) == 10)
          (IfB (!(s100 == []))
            (Fits (s152.length + [s100].length) 16 ∧
            IfB (decide (((s152 ++ [s100]).length : Int) > 0))
              (Fits (s151.length + [(s103, (s152 ++ [s100]))].length) 32 ∧
              X1 ([], false, (IntKind.i64.wrap (s102 + 1)), (IntKind.i64.wrap (s103 + 1)), (s151 ++ [(s103, (s152 ++ [s100]))]), []))
              (X1 ([], false, (IntKind.i64.wrap (s102 + 1)), (IntKind.i64.wrap (s103 + 1)), s151, [])))
            (IfB (decide ((s152.length : Int) > 0))
              (Fits (s151.length + [(s103, s152)].length) 32 ∧
              X1 ([], false, (IntKind.i64.wrap (s102 + 1)), (IntKind.i64.wrap (s103 + 1)), (s151 ++ [(s103, s152)]), []))
              (X1 ([], false, (IntKind.i64.wrap (s102 + 1)), (IntKind.i64.wrap (s103 + 1)), s151, []))))
          (∃ c9, Idx p0 s102 c9 ∧
          IfB (((c9.toNat : Nat) : Int) == 35)
            (IfB (!(s100 == []))
              (Fits (s152.length + [s100].length) 16 ∧
              X1 ([], true, (IntKind.i64.wrap (s102 + 1)), s103, s151, (s152 ++ [s100])))
              (X1 ([], true, (IntKind.i64.wrap (s102 + 1)), s103, s151, s152)))
            (IfB (!(s100 == []))
              (Fits (s152.length + [s100].length) 16 ∧
              X1 ([], true, (IntKind.i64.wrap (s102 + 1)), s103, s151, (s152 ++ [s100])))
              (X1 ([], true, (IntKind.i64.wrap (s102 + 1)), s103, s151, s152))))))
      (r = s151))
    (IfB (decide (s102 ≤ (p0.length : Int)))
      (IfB (s102 == (p0.length : Int))
        (IfB (!(s100 == []))
          (Fits (s152.length + [s100].length) 16 ∧
          IfB (decide (((s152 ++ [s100]).length : Int) > 0))
            (Fits (s151.length + [(s103, (s152 ++ [s100]))].length) 32 ∧
            X1 ([], false, (IntKind.i64.wrap (s102 + 1)), (IntKind.i64.wrap (s103 + 1)), (s151 ++ [(s103, (s152 ++ [s100]))]), []))
            (X1 ([], false, (IntKind.i64.wrap (s102 + 1)), (IntKind.i64.wrap (s103 + 1)), s151, [])))
          (IfB (decide ((s152.length : Int) > 0))
            (Fits (s151.length + [(s103, s152)].length) 32 ∧
            X1 ([], false, (IntKind.i64.wrap (s102 + 1)), (IntKind.i64.wrap (s103 + 1)), (s151 ++ [(s103, s152)]), []))
            (X1 ([], false, (IntKind.i64.wrap (s102 + 1)), (IntKind.i64.wrap (s103 + 1)), s151, []))))
        (∃ c16, Idx p0 s102 c16 ∧
        IfB (((c16.toNat : Nat) : Int) == 10)
          (IfB (!(s100 == []))
            (Fits (s152.length + [s100].length) 16 ∧
            IfB (decide (((s152 ++ [s100]).length : Int) > 0))
              (Fits (s151.length + [(s103, (s152 ++ [s100]))].length) 32 ∧
              X1 ([], false, (IntKind.i64.wrap (s102 + 1)), (IntKind.i64.wrap (s103 + 1)), (s151 ++ [(s103, (s152 ++ [s100]))]), []))
              (X1 ([], false, (IntKind.i64.wrap (s102 + 1)), (IntKind.i64.wrap (s103 + 1)), s151, [])))
            (IfB (decide ((s152.length : Int) > 0))
              (Fits (s151.length + [(s103, s152)].length) 32 ∧
              X1 ([], false, (IntKind.i64.wrap (s102 + 1)), (IntKind.i64.wrap (s103 + 1)), (s151 ++ [(s103, s152)]), []))
              (X1 ([], false, (IntKind.i64.wrap (s102 + 1)), (IntKind.i64.wrap (s103 + 1)), s151, []))))
          (∃ c21, Idx p0 s102 c21 ∧
          IfB (((c21.toNat : Nat) : Int) == 35)
            (IfB (!(s100 == []))
              (Fits (s152.length + [s100].length) 16 ∧
              X1 ([], true, (IntKind.i64.wrap (s102 + 1)), s103, s151, (s152 ++ [s100])))
              (X1 ([], true, (IntKind.i64.wrap (s102 + 1)), s103, s151, s152)))
            (∃ c24, Idx p0 s102 c24 ∧
            IfB (((c24.toNat : Nat) : Int) == 32)
              (IfB (!(s100 == []))
                (Fits (s152.length + [s100].length) 16 ∧
                X1 ([], false, (IntKind.i64.wrap (s102 + 1)), s103, s151, (s152 ++ [s100])))
                (X1 ([], false, (IntKind.i64.wrap (s102 + 1)), s103, s151, s152)))
              (SubOk p0 s102 (IntKind.i64.wrap (s102 + 1)) ∧
              Fits (s100.length + (sub p0 s102 (IntKind.i64.wrap (s102 + 1))).length) 1 ∧
              X1 ((s100 ++ (sub p0 s102 (IntKind.i64.wrap (s102 + 1)))), false, (IntKind.i64.wrap (s102 + 1)), s103, s151, s152))))))
      (r = s151))
def offcutref07_All (p0 : List UInt8) (r : (List (Int × (List (List UInt8))))) : Prop :=
  LoopP (offcutref07_All_L1 p0 r) ([], false, (0 : Int), (1 : Int), [], [])
def lines_Name_L1 (p0 : List UInt8) (r : Bool) (X1 : Nat → Prop) (s : Nat) : Prop := match s with
  | s150 =>
  IfB (decide (s150 < p0.length))
    (IfB (decide ((runeAt p0 s150) ≥ 97))
      (IfB (decide ((runeAt p0 s150) ≤ 122))
        (X1 (s150 + runeLen p0 s150))
        (IfB (((s150 : Nat) : Int) == 0)
          (r = false)
          (IfB ((runeAt p0 s150) != 95)
            (IfB (decide ((runeAt p0 s150) < 48))
              (r = false)
              (IfB (decide ((runeAt p0 s150) > 57))
                (r = false)
                (X1 (s150 + runeLen p0 s150))))
            (X1 (s150 + runeLen p0 s150)))))
      (IfB (((s150 : Nat) : Int) == 0)
        (r = false)
        (IfB ((runeAt p0 s150) != 95)
          (IfB (decide ((runeAt p0 s150) < 48))
            (r = false)
            (IfB (decide ((runeAt p0 s150) > 57))
              (r = false)
              (X1 (s150 + runeLen p0 s150))))
          (X1 (s150 + runeLen p0 s150)))))
    (IfB (decide ((p0.length : Int) ≥ 1))
      (IfB (decide ((p0.length : Int) ≤ 16))
        (r = true)
        (r = false))
      (r = false))
def lines_Name (p0 : List UInt8) (r : Bool) : Prop :=
  LoopP (lines_Name_L1 p0 r) 0
def lines_Index (p0 : List (List UInt8)) (p1 : List UInt8) (r : Int) : Prop :=
  ∃ x1, slices_Index_string_string p0 p1 x1 ∧
  r = x1
def offcutref07_Name_L1 (p0 : List UInt8) (r : Bool) (X1 : Int → Prop) (s : Int) : Prop := match s with
  | s100 =>
  IfB (decide (s100 < (p0.length : Int)))
    (∃ c1, Idx p0 s100 c1 ∧
    IfB (decide (((c1.toNat : Nat) : Int) ≥ 97))
      (∃ c3, Idx p0 s100 c3 ∧
      IfB (decide (((c3.toNat : Nat) : Int) ≤ 122))
        (∃ c5, Idx p0 s100 c5 ∧
        IfB (((c5.toNat : Nat) : Int) == 95)
          (X1 (IntKind.i64.wrap (s100 + 1)))
          (∃ c7, Idx p0 s100 c7 ∧
          IfB (decide (((c7.toNat : Nat) : Int) ≥ 48))
            (∃ c9, Idx p0 s100 c9 ∧
            IfB (decide (((c9.toNat : Nat) : Int) ≤ 57))
              (X1 (IntKind.i64.wrap (s100 + 1)))
              (X1 (IntKind.i64.wrap (s100 + 1))))
            (X1 (IntKind.i64.wrap (s100 + 1)))))
        (∃ c11, Idx p0 s100 c11 ∧
        IfB (((c11.toNat : Nat) : Int) == 95)
          (IfB (s100 == 0)
            (r = false)
            (X1 (IntKind.i64.wrap (s100 + 1))))
          (∃ c13, Idx p0 s100 c13 ∧
          IfB (decide (((c13.toNat : Nat) : Int) ≥ 48))
            (∃ c15, Idx p0 s100 c15 ∧
            IfB (decide (((c15.toNat : Nat) : Int) ≤ 57))
              (IfB (s100 == 0)
                (r = false)
                (X1 (IntKind.i64.wrap (s100 + 1))))
              (IfB (s100 == 0)
                (r = false)
                (r = false)))
            (IfB (s100 == 0)
              (r = false)
              (r = false)))))
      (∃ c17, Idx p0 s100 c17 ∧
      IfB (((c17.toNat : Nat) : Int) == 95)
        (IfB (s100 == 0)
          (r = false)
          (X1 (IntKind.i64.wrap (s100 + 1))))
        (∃ c19, Idx p0 s100 c19 ∧
        IfB (decide (((c19.toNat : Nat) : Int) ≥ 48))
          (∃ c21, Idx p0 s100 c21 ∧
          IfB (decide (((c21.toNat : Nat) : Int) ≤ 57))
            (IfB (s100 == 0)
              (r = false)
              (X1 (IntKind.i64.wrap (s100 + 1))))
            (IfB (s100 == 0)
              (r = false)
              (r = false)))
          (IfB (s100 == 0)
            (r = false)
            (r = false)))))
    (r = true)
def offcutref07_Name (p0 : List UInt8) (r : Bool) : Prop :=
  IfB (decide ((p0.length : Int) < 1))
    (r = false)
    (IfB (decide ((p0.length : Int) > 16))
      (r = false)
      (LoopP (offcutref07_Name_L1 p0 r) (0 : Int)))
end Go.Abs
end

section
namespace Go.Abs
end Go.Abs
end

section
namespace Go.Abs
open Go
def strings_CutSuffix (s p : List UInt8) (r : List UInt8 × Bool) : Prop := s.length ≤ 9223372036854775807 ∧ r = (Lib.trimSuffix s p, Lib.hasSuffix s p)
def strings_Contains (s p : List UInt8) (r : Bool) : Prop := Short s ∧ r = Lib.contains s p
end Go.Abs
end

section
namespace Go.Abs
set_option linter.unusedVariables false
set_option linter.unusedSimpArgs false
set_option linter.unnecessarySimpa false
def lines_Number (p0 : List UInt8) (r : Bool × (List Int) × (List Int) × Bool) : Prop :=
  ∃ x1 x2 x3 x4, rat_Parse p0 (x1, x2, x3, x4) ∧
  IfB (x4 != 0)
   (∃ x7 x8 x9, rat_Int (0 : Int) (x7, x8, x9) ∧
   r = (x7, x8, x9, false))
   (r = (x1, x2, x3, true))
def vec_Same_1 (p0 : Bool) (p1 : List Int) (p2 : List Int) (p3 : Bool) (p4 : List Int) (p5 : List Int) (r : Bool) : Prop :=
  ∃ x1, rat_Compare p0 p1 p2 p3 p4 p5 x1 ∧
  IfB (x1 == 0)
   (r = true)
   (r = false)
def vec_Same_L1 (p0 : List (Bool × (List Int) × (List Int))) (p1 : List (Bool × (List Int) × (List Int))) (r : Bool) (X1 : Int → Prop) (s : Int) : Prop := match s with
  | s100 =>
  IfB (decide (s100 < (p0.length : Int)))
   (∃ x3 x4 x5, Idx p0 s100 (x3, x4, x5) ∧
   ∃ x7 x8 x9, Idx p1 s100 (x7, x8, x9) ∧
   ∃ x11, vec_Same_1 x3 x4 x5 x7 x8 x9 x11 ∧
   IfB x11
   (X1 (IntKind.i64.wrap (s100 + 1)))
   (r = false))
   (r = true)
def vec_Same (p0 : List (Bool × (List Int) × (List Int))) (p1 : List (Bool × (List Int) × (List Int))) (r : Bool) : Prop :=
  IfB ((p0.length : Int) != (p1.length : Int))
   (r = false)
   (LoopP (vec_Same_L1 p0 p1 r) (0 : Int))
def offcutref08_digits_L1 (p0 : List UInt8) (r : Bool) (X1 : Int → Prop) (s : Int) : Prop := match s with
  | s100 =>
  IfB (decide (s100 < (p0.length : Int)))
   (∃ c2, Idx p0 s100 c2 ∧
   IfB (decide (((c2.toNat : Nat) : Int) < 48))
   (r = false)
   (∃ c5, Idx p0 s100 c5 ∧
   IfB (decide (((c5.toNat : Nat) : Int) > 57))
   (r = false)
   (X1 (IntKind.i64.wrap (s100 + 1)))))
   (IfB (decide ((p0.length : Int) > 0))
   (IfB (decide ((p0.length : Int) ≤ 400))
   (r = true)
   (r = false))
   (r = false))
def offcutref08_digits (p0 : List UInt8) (r : Bool) : Prop :=
  LoopP (offcutref08_digits_L1 p0 r) (0 : Int)
def offcutref08_Number_L2 (p0 : List UInt8) (s100 : Int) (r : Bool) (X2 : (Bool × Int) → Prop) (s : Bool × Int) : Prop := match s with
  | (s200, s201) =>
  IfB s200
   (IfB (decide (s201 < ((sub (sub p0 1 p0.length) (IntKind.i64.wrap (s100 + 1)) ((sub p0 1 p0.length).length : Int)).length : Int)))
   (∃ c12, Idx (sub (sub p0 1 p0.length) (IntKind.i64.wrap (s100 + 1)) ((sub p0 1 p0.length).length : Int)) s201 c12 ∧
   IfB (((c12.toNat : Nat) : Int) != 48)
   (X2 (false, (IntKind.i64.wrap (s201 + 1))))
   (X2 (true, (IntKind.i64.wrap (s201 + 1)))))
   (SubOk (sub p0 1 p0.length) 0 s100 ∧
   ∃ x16, offcutref08_digits (sub (sub p0 1 p0.length) 0 s100) x16 ∧
   IfB x16
   (∃ x18, offcutref08_digits (sub (sub p0 1 p0.length) (IntKind.i64.wrap (s100 + 1)) ((sub p0 1 p0.length).length : Int)) x18 ∧
   IfB x18
   (r = false)
   (r = false))
   (r = false)))
   (IfB (decide (s201 < ((sub (sub p0 1 p0.length) (IntKind.i64.wrap (s100 + 1)) ((sub p0 1 p0.length).length : Int)).length : Int)))
   (∃ c21, Idx (sub (sub p0 1 p0.length) (IntKind.i64.wrap (s100 + 1)) ((sub p0 1 p0.length).length : Int)) s201 c21 ∧
   IfB (((c21.toNat : Nat) : Int) != 48)
   (X2 (false, (IntKind.i64.wrap (s201 + 1))))
   (X2 (false, (IntKind.i64.wrap (s201 + 1)))))
   (SubOk (sub p0 1 p0.length) 0 s100 ∧
   ∃ x25, offcutref08_digits (sub (sub p0 1 p0.length) 0 s100) x25 ∧
   IfB x25
   (∃ x27, offcutref08_digits (sub (sub p0 1 p0.length) (IntKind.i64.wrap (s100 + 1)) ((sub p0 1 p0.length).length : Int)) x27 ∧
   IfB x27
   (r = true)
   (r = false))
   (r = false)))
def offcutref08_Number_L1 (p0 : List UInt8) (r : Bool) (X1 : Int → Prop) (s : Int) : Prop := match s with
  | s100 =>
  IfB (decide (s100 < ((sub p0 1 p0.length).length : Int)))
   (∃ c7, Idx (sub p0 1 p0.length) s100 c7 ∧
   IfB (((c7.toNat : Nat) : Int) == 47)
   (SubOk (sub p0 1 p0.length) (IntKind.i64.wrap (s100 + 1)) ((sub p0 1 p0.length).length : Int) ∧
   LoopP (offcutref08_Number_L2 p0 s100 r) (true, (0 : Int)))
   (X1 (IntKind.i64.wrap (s100 + 1))))
   (∃ x29, offcutref08_digits (sub p0 1 p0.length) x29 ∧
   IfB x29
   (r = true)
   (r = false))
def offcutref08_Number_L4 (p0 : List UInt8) (s300 : Int) (r : Bool) (X4 : (Bool × Int) → Prop) (s : Bool × Int) : Prop := match s with
  | (s400, s401) =>
  IfB s400
   (IfB (decide (s401 < ((sub p0 (IntKind.i64.wrap (s300 + 1)) (p0.length : Int)).length : Int)))
   (∃ c37, Idx (sub p0 (IntKind.i64.wrap (s300 + 1)) (p0.length : Int)) s401 c37 ∧
   IfB (((c37.toNat : Nat) : Int) != 48)
   (X4 (false, (IntKind.i64.wrap (s401 + 1))))
   (X4 (true, (IntKind.i64.wrap (s401 + 1)))))
   (SubOk p0 0 s300 ∧
   ∃ x41, offcutref08_digits (sub p0 0 s300) x41 ∧
   IfB x41
   (∃ x43, offcutref08_digits (sub p0 (IntKind.i64.wrap (s300 + 1)) (p0.length : Int)) x43 ∧
   IfB x43
   (r = false)
   (r = false))
   (r = false)))
   (IfB (decide (s401 < ((sub p0 (IntKind.i64.wrap (s300 + 1)) (p0.length : Int)).length : Int)))
   (∃ c46, Idx (sub p0 (IntKind.i64.wrap (s300 + 1)) (p0.length : Int)) s401 c46 ∧
   IfB (((c46.toNat : Nat) : Int) != 48)
   (X4 (false, (IntKind.i64.wrap (s401 + 1))))
   (X4 (false, (IntKind.i64.wrap (s401 + 1)))))
   (SubOk p0 0 s300 ∧
   ∃ x50, offcutref08_digits (sub p0 0 s300) x50 ∧
   IfB x50
   (∃ x52, offcutref08_digits (sub p0 (IntKind.i64.wrap (s300 + 1)) (p0.length : Int)) x52 ∧
   IfB x52
   (r = true)
   (r = false))
   (r = false)))
def offcutref08_Number_L3 (p0 : List UInt8) (r : Bool) (X3 : Int → Prop) (s : Int) : Prop := match s with
  | s300 =>
  IfB (decide (s300 < (p0.length : Int)))
   (∃ c32, Idx p0 s300 c32 ∧
   IfB (((c32.toNat : Nat) : Int) == 47)
   (SubOk p0 (IntKind.i64.wrap (s300 + 1)) (p0.length : Int) ∧
   LoopP (offcutref08_Number_L4 p0 s300 r) (true, (0 : Int)))
   (X3 (IntKind.i64.wrap (s300 + 1))))
   (∃ x54, offcutref08_digits p0 x54 ∧
   IfB x54
   (r = true)
   (r = false))
def offcutref08_Number_L6 (p0 : List UInt8) (s500 : Int) (r : Bool) (X6 : (Bool × Int) → Prop) (s : Bool × Int) : Prop := match s with
  | (s600, s601) =>
  IfB s600
   (IfB (decide (s601 < ((sub p0 (IntKind.i64.wrap (s500 + 1)) (p0.length : Int)).length : Int)))
   (∃ c62, Idx (sub p0 (IntKind.i64.wrap (s500 + 1)) (p0.length : Int)) s601 c62 ∧
   IfB (((c62.toNat : Nat) : Int) != 48)
   (X6 (false, (IntKind.i64.wrap (s601 + 1))))
   (X6 (true, (IntKind.i64.wrap (s601 + 1)))))
   (SubOk p0 0 s500 ∧
   ∃ x66, offcutref08_digits (sub p0 0 s500) x66 ∧
   IfB x66
   (∃ x68, offcutref08_digits (sub p0 (IntKind.i64.wrap (s500 + 1)) (p0.length : Int)) x68 ∧
   IfB x68
   (r = false)
   (r = false))
   (r = false)))
   (IfB (decide (s601 < ((sub p0 (IntKind.i64.wrap (s500 + 1)) (p0.length : Int)).length : Int)))
   (∃ c71, Idx (sub p0 (IntKind.i64.wrap (s500 + 1)) (p0.length : Int)) s601 c71 ∧
   IfB (((c71.toNat : Nat) : Int) != 48)
   (X6 (false, (IntKind.i64.wrap (s601 + 1))))
   (X6 (false, (IntKind.i64.wrap (s601 + 1)))))
   (SubOk p0 0 s500 ∧
   ∃ x75, offcutref08_digits (sub p0 0 s500) x75 ∧
   IfB x75
   (∃ x77, offcutref08_digits (sub p0 (IntKind.i64.wrap (s500 + 1)) (p0.length : Int)) x77 ∧
   IfB x77
   (r = true)
   (r = false))
   (r = false)))
def offcutref08_Number_L5 (p0 : List UInt8) (r : Bool) (X5 : Int → Prop) (s : Int) : Prop := match s with
  | s500 =>
  IfB (decide (s500 < (p0.length : Int)))
   (∃ c57, Idx p0 s500 c57 ∧
   IfB (((c57.toNat : Nat) : Int) == 47)
   (SubOk p0 (IntKind.i64.wrap (s500 + 1)) (p0.length : Int) ∧
   LoopP (offcutref08_Number_L6 p0 s500 r) (true, (0 : Int)))
   (X5 (IntKind.i64.wrap (s500 + 1))))
   (∃ x79, offcutref08_digits p0 x79 ∧
   IfB x79
   (r = true)
   (r = false))
def offcutref08_Number_L8 (p0 : List UInt8) (s700 : Int) (r : Bool) (X8 : (Bool × Int) → Prop) (s : Bool × Int) : Prop := match s with
  | (s800, s801) =>
  IfB s800
   (IfB (decide (s801 < ((sub p0 (IntKind.i64.wrap (s700 + 1)) (p0.length : Int)).length : Int)))
   (∃ c87, Idx (sub p0 (IntKind.i64.wrap (s700 + 1)) (p0.length : Int)) s801 c87 ∧
   IfB (((c87.toNat : Nat) : Int) != 48)
   (X8 (false, (IntKind.i64.wrap (s801 + 1))))
   (X8 (true, (IntKind.i64.wrap (s801 + 1)))))
   (SubOk p0 0 s700 ∧
   ∃ x91, offcutref08_digits (sub p0 0 s700) x91 ∧
   IfB x91
   (∃ x93, offcutref08_digits (sub p0 (IntKind.i64.wrap (s700 + 1)) (p0.length : Int)) x93 ∧
   IfB x93
   (r = false)
   (r = false))
   (r = false)))
   (IfB (decide (s801 < ((sub p0 (IntKind.i64.wrap (s700 + 1)) (p0.length : Int)).length : Int)))
   (∃ c96, Idx (sub p0 (IntKind.i64.wrap (s700 + 1)) (p0.length : Int)) s801 c96 ∧
   IfB (((c96.toNat : Nat) : Int) != 48)
   (X8 (false, (IntKind.i64.wrap (s801 + 1))))
   (X8 (false, (IntKind.i64.wrap (s801 + 1)))))
   (SubOk p0 0 s700 ∧
   ∃ x100, offcutref08_digits (sub p0 0 s700) x100 ∧
   IfB x100
   (∃ x102, offcutref08_digits (sub p0 (IntKind.i64.wrap (s700 + 1)) (p0.length : Int)) x102 ∧
   IfB x102
   (r = true)
   (r = false))
   (r = false)))
def offcutref08_Number_L7 (p0 : List UInt8) (r : Bool) (X7 : Int → Prop) (s : Int) : Prop := match s with
  | s700 =>
  IfB (decide (s700 < (p0.length : Int)))
   (∃ c82, Idx p0 s700 c82 ∧
   IfB (((c82.toNat : Nat) : Int) == 47)
   (SubOk p0 (IntKind.i64.wrap (s700 + 1)) (p0.length : Int) ∧
   LoopP (offcutref08_Number_L8 p0 s700 r) (true, (0 : Int)))
   (X7 (IntKind.i64.wrap (s700 + 1))))
   (∃ x104, offcutref08_digits p0 x104 ∧
   IfB x104
   (r = true)
   (r = false))
def offcutref08_Number (p0 : List UInt8) (p1 : Bool) (r : Bool) : Prop :=
  IfB p1
   (IfB (decide ((p0.length : Int) > 0))
   (∃ c2, Idx p0 0 c2 ∧
   IfB (((c2.toNat : Nat) : Int) == 45)
   (SubOk p0 1 p0.length ∧
   LoopP (offcutref08_Number_L1 p0 r) (0 : Int))
   (LoopP (offcutref08_Number_L3 p0 r) (0 : Int)))
   (LoopP (offcutref08_Number_L5 p0 r) (0 : Int)))
   (LoopP (offcutref08_Number_L7 p0 r) (0 : Int))
end Go.Abs
end

section
namespace Go.Abs
set_option linter.unusedVariables false
set_option linter.unusedSimpArgs false
set_option linter.unnecessarySimpa false
end Go.Abs
end

section
namespace Go.Abs
def offcutlaw08_awake (r : Bool) : Prop := r = true
end Go.Abs
end

section
namespace Go.Abs
def relsL : List (List UInt8 × Int) := [([60, 61], -1), ([61], 0), ([62, 61], 1)]
def model_rels (r : List (List UInt8 × Int)) : Prop := r = relsL
end Go.Abs
end
