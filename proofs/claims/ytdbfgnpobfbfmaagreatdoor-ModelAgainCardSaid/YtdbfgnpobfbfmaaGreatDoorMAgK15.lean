/- Part of a proof, in few files: DNat DLin B13n BDd D13p D13c B08n B08m. -/
import Derived.Test.YtdbfgnpobfbfmaaGreatDoorMAgK11
import Derived.Test.YtdbfgnpobfbfmaaGreatDoorMAgK14
import Derived.Lib.IndexMore
import Derived.Test.YtdbfgnpobfbfmaaGreatDoorMAgK5

section
namespace Go.Abs
set_option linter.unusedVariables false
set_option linter.unusedSimpArgs false
set_option linter.unnecessarySimpa false
def math_bits_Len32 (p0 : Int) (r : Int) : Prop :=
  IfB (decide (p0 ≥ 65536))
    (IfB (decide ((Int.fdiv p0 (2 ^ (min (Int.toNat (16 : Int)) (IntKind.bits .u32)))) ≥ 256))
      (∃ c1, Idx ([0, 1, 2, 2, 3, 3, 3, 3, 4, 4, 4, 4, 4, 4, 4, 4, 5, 5, 5, 5, 5, 5, 5, 5, 5, 5, 5, 5, 5, 5, 5, 5, 6, 6, 6, 6, 6, 6, 6, 6, 6, 6, 6, 6, 6, 6, 6, 6, 6, 6, 6, 6, 6, 6, 6, 6, 6, 6, 6, 6, 6, 6, 6, 6, 7, 7, 7, 7, 7, 7, 7, 7, 7, 7, 7, 7, 7, 7, 7, 7, 7, 7, 7, 7, 7, 7, 7, 7, 7, 7, 7, 7, 7, 7, 7, 7, 7, 7, 7, 7, 7, 7, 7, 7, 7, 7, 7, 7, 7, 7, 7, 7, 7, 7, 7, 7, 7, 7, 7, 7, 7, 7, 7, 7, 7, 7, 7, 7, 8, 8, 8, 8, 8, 8, 8, 8, 8, 8, 8, 8, 8, 8, 8, 8, 8, 8, 8, 8, 8, 8, 8, 8, 8, 8, 8, 8, 8, 8, 8, 8, 8, 8, 8, 8, 8, 8, 8, 8, 8, 8, 8, 8, 8, 8, 8, 8, 8, 8, 8, 8, 8, 8, 8, 8, 8, 8, 8, 8, 8, 8, 8, 8, 8, 8, 8, 8, 8, 8, 8, 8, 8, 8, 8, 8, 8, 8, 8, 8, 8, 8, 8, 8, 8, 8, 8, 8, 8, 8, 8, 8, 8, 8, 8, 8, 8, 8, 8, 8, 8, 8, 8, 8, 8, 8, 8, 8, 8, 8, 8, 8, 8, 8, 8, 8, 8, 8, 8, 8, 8, 8, 8, 8, 8, 8, 8, 8] : List UInt8) (IntKind.u8.wrap (Int.fdiv (Int.fdiv p0 (2 ^ (min (Int.toNat (16 : Int)) (IntKind.bits .u32)))) (2 ^ (min (Int.toNat (8 : Int)) (IntKind.bits .u32))))) c1 ∧
      r = (IntKind.i64.wrap (24 + (IntKind.i64.wrap ((c1.toNat : Nat) : Int)))))
      (∃ c3, Idx ([0, 1, 2, 2, 3, 3, 3, 3, 4, 4, 4, 4, 4, 4, 4, 4, 5, 5, 5, 5, 5, 5, 5, 5, 5, 5, 5, 5, 5, 5, 5, 5, 6, 6, 6, 6, 6, 6, 6, 6, 6, 6, 6, 6, 6, 6, 6, 6, 6, 6, 6, 6, 6, 6, 6, 6, 6, 6, 6, 6, 6, 6, 6, 6, 7, 7, 7, 7, 7, 7, 7, 7, 7, 7, 7, 7, 7, 7, 7, 7, 7, 7, 7, 7, 7, 7, 7, 7, 7, 7, 7, 7, 7, 7, 7, 7, 7, 7, 7, 7, 7, 7, 7, 7, 7, 7, 7, 7, 7, 7, 7, 7, 7, 7, 7, 7, 7, 7, 7, 7, 7, 7, 7, 7, 7, 7, 7, 7, 8, 8, 8, 8, 8, 8, 8, 8, 8, 8, 8, 8, 8, 8, 8, 8, 8, 8, 8, 8, 8, 8, 8, 8, 8, 8, 8, 8, 8, 8, 8, 8, 8, 8, 8, 8, 8, 8, 8, 8, 8, 8, 8, 8, 8, 8, 8, 8, 8, 8, 8, 8, 8, 8, 8, 8, 8, 8, 8, 8, 8, 8, 8, 8, 8, 8, 8, 8, 8, 8, 8, 8, 8, 8, 8, 8, 8, 8, 8, 8, 8, 8, 8, 8, 8, 8, 8, 8, 8, 8, 8, 8, 8, 8, 8, 8, 8, 8, 8, 8, 8, 8, 8, 8, 8, 8, 8, 8, 8, 8, 8, 8, 8, 8, 8, 8, 8, 8, 8, 8, 8, 8, 8, 8, 8, 8, 8, 8] : List UInt8) (IntKind.u8.wrap (Int.fdiv p0 (2 ^ (min (Int.toNat (16 : Int)) (IntKind.bits .u32))))) c3 ∧
      r = (IntKind.i64.wrap (16 + (IntKind.i64.wrap ((c3.toNat : Nat) : Int))))))
    (IfB (decide (p0 ≥ 256))
      (∃ c5, Idx ([0, 1, 2, 2, 3, 3, 3, 3, 4, 4, 4, 4, 4, 4, 4, 4, 5, 5, 5, 5, 5, 5, 5, 5, 5, 5, 5, 5, 5, 5, 5, 5, 6, 6, 6, 6, 6, 6, 6, 6, 6, 6, 6, 6, 6, 6, 6, 6, 6, 6, 6, 6, 6, 6, 6, 6, 6, 6, 6, 6, 6, 6, 6, 6, 7, 7, 7, 7, 7, 7, 7, 7, 7, 7, 7, 7, 7, 7, 7, 7, 7, 7, 7, 7, 7, 7, 7, 7, 7, 7, 7, 7, 7, 7, 7, 7, 7, 7, 7, 7, 7, 7, 7, 7, 7, 7, 7, 7, 7, 7, 7, 7, 7, 7, 7, 7, 7, 7, 7, 7, 7, 7, 7, 7, 7, 7, 7, 7, 8, 8, 8, 8, 8, 8, 8, 8, 8, 8, 8, 8, 8, 8, 8, 8, 8, 8, 8, 8, 8, 8, 8, 8, 8, 8, 8, 8, 8, 8, 8, 8, 8, 8, 8, 8, 8, 8, 8, 8, 8, 8, 8, 8, 8, 8, 8, 8, 8, 8, 8, 8, 8, 8, 8, 8, 8, 8, 8, 8, 8, 8, 8, 8, 8, 8, 8, 8, 8, 8, 8, 8, 8, 8, 8, 8, 8, 8, 8, 8, 8, 8, 8, 8, 8, 8, 8, 8, 8, 8, 8, 8, 8, 8, 8, 8, 8, 8, 8, 8, 8, 8, 8, 8, 8, 8, 8, 8, 8, 8, 8, 8, 8, 8, 8, 8, 8, 8, 8, 8, 8, 8, 8, 8, 8, 8, 8, 8] : List UInt8) (IntKind.u8.wrap (Int.fdiv p0 (2 ^ (min (Int.toNat (8 : Int)) (IntKind.bits .u32))))) c5 ∧
      r = (IntKind.i64.wrap (8 + (IntKind.i64.wrap ((c5.toNat : Nat) : Int)))))
      (∃ c7, Idx ([0, 1, 2, 2, 3, 3, 3, 3, 4, 4, 4, 4, 4, 4, 4, 4, 5, 5, 5, 5, 5, 5, 5, 5, 5, 5, 5, 5, 5, 5, 5, 5, 6, 6, 6, 6, 6, 6, 6, 6, 6, 6, 6, 6, 6, 6, 6, 6, 6, 6, 6, 6, 6, 6, 6, 6, 6, 6, 6, 6, 6, 6, 6, 6, 7, 7, 7, 7, 7, 7, 7, 7, 7, 7, 7, 7, 7, 7, 7, 7, 7, 7, 7, 7, 7, 7, 7, 7, 7, 7, 7, 7, 7, 7, 7, 7, 7, 7, 7, 7, 7, 7, 7, 7, 7, 7, 7, 7, 7, 7, 7, 7, 7, 7, 7, 7, 7, 7, 7, 7, 7, 7, 7, 7, 7, 7, 7, 7, 8, 8, 8, 8, 8, 8, 8, 8, 8, 8, 8, 8, 8, 8, 8, 8, 8, 8, 8, 8, 8, 8, 8, 8, 8, 8, 8, 8, 8, 8, 8, 8, 8, 8, 8, 8, 8, 8, 8, 8, 8, 8, 8, 8, 8, 8, 8, 8, 8, 8, 8, 8, 8, 8, 8, 8, 8, 8, 8, 8, 8, 8, 8, 8, 8, 8, 8, 8, 8, 8, 8, 8, 8, 8, 8, 8, 8, 8, 8, 8, 8, 8, 8, 8, 8, 8, 8, 8, 8, 8, 8, 8, 8, 8, 8, 8, 8, 8, 8, 8, 8, 8, 8, 8, 8, 8, 8, 8, 8, 8, 8, 8, 8, 8, 8, 8, 8, 8, 8, 8, 8, 8, 8, 8, 8, 8, 8, 8] : List UInt8) (IntKind.u8.wrap p0) c7 ∧
      r = (IntKind.i64.wrap (0 + (IntKind.i64.wrap ((c7.toNat : Nat) : Int))))))
def nat_trim_L1 (p0 : List Int) (r : (List Int)) (X1 : Int → Prop) (s : Int) : Prop := match s with
  | s100 =>
  IfB (decide (s100 > 0))
    (∃ x1, Idx p0 (IntKind.i64.wrap (s100 - 1)) x1 ∧
    IfB (x1 == 0)
      (X1 (IntKind.i64.wrap (s100 - 1)))
      (SubOk p0 0 s100 ∧
      ∃ x4, slices_Clone_nat_Nat_uint32 (sub p0 0 s100) x4 ∧
      r = x4))
    (SubOk p0 0 s100 ∧
    ∃ x7, slices_Clone_nat_Nat_uint32 (sub p0 0 s100) x7 ∧
    r = x7)
def nat_trim (p0 : List Int) (r : (List Int)) : Prop :=
  LoopP (nat_trim_L1 p0 r) (p0.length : Int)
def nat_Of (p0 : Int) (r : (List Int)) : Prop :=
  ∃ x1, nat_trim [(IntKind.u32.wrap p0), (IntKind.u32.wrap (Int.fdiv p0 (2 ^ (min (Int.toNat (32 : Int)) (IntKind.bits .u64)))))] x1 ∧
  r = x1
def nat_Small_L1 (x1 : List Int) (r : Int × Bool) (X1 : (Int × Int) → Prop) (s : Int × Int) : Prop := match s with
  | (s100, s101) =>
  IfB (decide (s100 ≥ 0))
    (∃ x3, Idx x1 s100 x3 ∧
    X1 ((IntKind.i64.wrap (s100 - 1)), (bitO .u64 (IntKind.u64.wrap (s101 * 2 ^ (min (Int.toNat (32 : Int)) (IntKind.bits .u64)))) (IntKind.u64.wrap x3))))
    (r = (s101, true))
def nat_Small (p0 : List Int) (r : Int × Bool) : Prop :=
  ∃ x1, nat_trim p0 x1 ∧
  IfB (decide ((x1.length : Int) > 2))
    (r = (0, false))
    (LoopP (nat_Small_L1 x1 r) ((IntKind.i64.wrap ((x1.length : Int) - 1)), (0 : Int)))
def nat_Compare_L1 (x1 : List Int) (x3 : List Int) (r : Int) (X1 : Int → Prop) (s : Int) : Prop := match s with
  | s100 =>
  IfB (decide (s100 ≥ 0))
    (∃ x5, Idx x1 s100 x5 ∧
    ∃ x7, Idx x3 s100 x7 ∧
    IfB (decide (x5 < x7))
      (r = (-1))
      (∃ x9, Idx x3 s100 x9 ∧
      IfB (decide (x5 > x9))
        (r = 1)
        (X1 (IntKind.i64.wrap (s100 - 1)))))
    (r = 0)
def nat_Compare (p0 : List Int) (p1 : List Int) (r : Int) : Prop :=
  ∃ x1, nat_trim p0 x1 ∧
  ∃ x3, nat_trim p1 x3 ∧
  IfB ((x1.length : Int) != (x3.length : Int))
    (r = (if (1 : Int) < (if (-1 : Int) > (IntKind.i64.wrap ((x1.length : Int) - (x3.length : Int))) then (-1) else (IntKind.i64.wrap ((x1.length : Int) - (x3.length : Int)))) then 1 else (if (-1 : Int) > (IntKind.i64.wrap ((x1.length : Int) - (x3.length : Int))) then (-1) else (IntKind.i64.wrap ((x1.length : Int) - (x3.length : Int))))))
    (LoopP (nat_Compare_L1 x1 x3 r) (IntKind.i64.wrap ((x1.length : Int) - 1)))
def nat_at (p0 : List Int) (p1 : Int) (r : Int) : Prop :=
  IfB (decide (p1 < (p0.length : Int)))
    (∃ x1, Idx p0 p1 x1 ∧
    r = (IntKind.u64.wrap x1))
    (r = 0)
def nat_Add_L1 (p0 : List Int) (p1 : List Int) (r : (List Int)) (X1 : (Int × Int × (List Int)) → Prop) (s : Int × Int × (List Int)) : Prop := match s with
  | (s100, s101, s150) =>
  IfB (decide (s101 < ((List.replicate (Int.toNat (IntKind.i64.wrap ((if (p1.length : Int) > (p0.length : Int) then (p1.length : Int) else (p0.length : Int)) + 1))) (0 : Int)).length : Int)))
    (∃ x4, nat_at p0 s101 x4 ∧
    ∃ x6, nat_at p1 s101 x6 ∧
    ∃ x8, Idx s150 s101 x8 ∧
    X1 ((Int.fdiv (IntKind.u64.wrap (s100 + (IntKind.u64.wrap (x4 + x6)))) (2 ^ (min (Int.toNat (32 : Int)) (IntKind.bits .u64)))), (IntKind.i64.wrap (s101 + 1)), (s150.set (Int.toNat s101) (IntKind.u32.wrap (IntKind.u64.wrap (s100 + (IntKind.u64.wrap (x4 + x6))))))))
    (∃ x10, nat_trim s150 x10 ∧
    r = x10)
def nat_Add (p0 : List Int) (p1 : List Int) (r : (List Int)) : Prop :=
  (0 ≤ (IntKind.i64.wrap ((if (p1.length : Int) > (p0.length : Int) then (p1.length : Int) else (p0.length : Int)) + 1)) ∧ Fits (Int.toNat (IntKind.i64.wrap ((if (p1.length : Int) > (p0.length : Int) then (p1.length : Int) else (p0.length : Int)) + 1))) 4 ∧ Fits (Int.toNat (IntKind.i64.wrap ((if (p1.length : Int) > (p0.length : Int) then (p1.length : Int) else (p0.length : Int)) + 1))) 1) ∧
  LoopP (nat_Add_L1 p0 p1 r) ((0 : Int), (0 : Int), (List.replicate (Int.toNat (IntKind.i64.wrap ((if (p1.length : Int) > (p0.length : Int) then (p1.length : Int) else (p0.length : Int)) + 1))) (0 : Int)))
def nat_Sub_L1 (p0 : List Int) (p1 : List Int) (r : (List Int) × Bool) (X1 : (Int × Int × (List Int)) → Prop) (s : Int × Int × (List Int)) : Prop := match s with
  | (s100, s101, s150) =>
  IfB (decide (s101 < ((List.replicate (Int.toNat (p0.length : Int)) (0 : Int)).length : Int)))
    (∃ x6, nat_at p0 s101 x6 ∧
    ∃ x8, nat_at p1 s101 x8 ∧
    ∃ x10, Idx s150 s101 x10 ∧
    X1 ((Int.fdiv (IntKind.u64.wrap ((IntKind.u64.wrap (x6 - x8)) - s100)) (2 ^ (min (Int.toNat (63 : Int)) (IntKind.bits .u64)))), (IntKind.i64.wrap (s101 + 1)), (s150.set (Int.toNat s101) (IntKind.u32.wrap (IntKind.u64.wrap ((IntKind.u64.wrap (x6 - x8)) - s100))))))
    (∃ x12, nat_trim s150 x12 ∧
    r = (x12, true))
def nat_Sub (p0 : List Int) (p1 : List Int) (r : (List Int) × Bool) : Prop :=
  ∃ x1, nat_Compare p0 p1 x1 ∧
  IfB (decide (x1 < 0))
    (r = ([], false))
    ((0 ≤ (p0.length : Int) ∧ Fits (Int.toNat (p0.length : Int)) 4 ∧ Fits (Int.toNat (p0.length : Int)) 1) ∧
    LoopP (nat_Sub_L1 p0 p1 r) ((0 : Int), (0 : Int), (List.replicate (Int.toNat (p0.length : Int)) (0 : Int))))
def nat_Mul_L2 (p1 : List Int) (s100 : Int) (X1 : (Int × (List Int)) → Prop) (x4 : Int) (X2 : (Int × Int × (List Int)) → Prop) (s : Int × Int × (List Int)) : Prop := match s with
  | (s200, s201, s250) =>
  IfB (decide (s201 < (p1.length : Int)))
    (∃ x6, Idx p1 s201 x6 ∧
    ∃ x8, Idx s250 (IntKind.i64.wrap (s100 + s201)) x8 ∧
    ∃ x10, Idx s250 (IntKind.i64.wrap (s100 + s201)) x10 ∧
    X2 ((Int.fdiv (IntKind.u64.wrap (s200 + (IntKind.u64.wrap ((IntKind.u64.wrap ((IntKind.u64.wrap x4) * (IntKind.u64.wrap x6))) + (IntKind.u64.wrap x8))))) (2 ^ (min (Int.toNat (32 : Int)) (IntKind.bits .u64)))), (IntKind.i64.wrap (s201 + 1)), (s250.set (Int.toNat (IntKind.i64.wrap (s100 + s201))) (IntKind.u32.wrap (IntKind.u64.wrap (s200 + (IntKind.u64.wrap ((IntKind.u64.wrap ((IntKind.u64.wrap x4) * (IntKind.u64.wrap x6))) + (IntKind.u64.wrap x8)))))))))
    (∃ x12, Idx s250 (IntKind.i64.wrap (s100 + (p1.length : Int))) x12 ∧
    X1 ((IntKind.i64.wrap (s100 + 1)), (s250.set (Int.toNat (IntKind.i64.wrap (s100 + (p1.length : Int)))) (IntKind.u32.wrap s200))))
def nat_Mul_L1 (p0 : List Int) (p1 : List Int) (r : (List Int)) (X1 : (Int × (List Int)) → Prop) (s : Int × (List Int)) : Prop := match s with
  | (s100, s150) =>
  IfB (decide (s100 < (p0.length : Int)))
    (∃ x4, Idx p0 s100 x4 ∧
    LoopP (nat_Mul_L2 p1 s100 X1 x4) ((0 : Int), (0 : Int), s150))
    (∃ x14, nat_trim s150 x14 ∧
    r = x14)
def nat_Mul (p0 : List Int) (p1 : List Int) (r : (List Int)) : Prop :=
  (0 ≤ (IntKind.i64.wrap ((p0.length : Int) + (p1.length : Int))) ∧ Fits (Int.toNat (IntKind.i64.wrap ((p0.length : Int) + (p1.length : Int)))) 4 ∧ Fits (Int.toNat (IntKind.i64.wrap ((p0.length : Int) + (p1.length : Int)))) 1) ∧
  LoopP (nat_Mul_L1 p0 p1 r) ((0 : Int), (List.replicate (Int.toNat (IntKind.i64.wrap ((p0.length : Int) + (p1.length : Int)))) (0 : Int)))
def nat_Bits (p0 : List Int) (r : Int) : Prop :=
  ∃ x1, nat_trim p0 x1 ∧
  IfB ((x1.length : Int) == 0)
    (r = 0)
    (∃ x3, Idx x1 (IntKind.i64.wrap ((x1.length : Int) - 1)) x3 ∧
    ∃ x5, math_bits_Len32 x3 x5 ∧
    r = (IntKind.i64.wrap ((IntKind.i64.wrap (32 * (IntKind.i64.wrap ((x1.length : Int) - 1)))) + x5)))
def nat_Shift_L1 (p0 : List Int) (p1 : Int) (r : (List Int)) (X1 : (Int × (List Int)) → Prop) (s : Int × (List Int)) : Prop := match s with
  | (s100, s150) =>
  IfB (decide (s100 < (p0.length : Int)))
    (∃ x8, Idx p0 s100 x8 ∧
    0 ≤ (Int.tmod p1 (32 : Int)) ∧
    ∃ x11, Idx s150 (IntKind.i64.wrap (s100 + (IntKind.i64.wrap (Int.tdiv p1 (32 : Int))))) x11 ∧
    ∃ x13, Idx s150 (IntKind.i64.wrap (s100 + (IntKind.i64.wrap (Int.tdiv p1 (32 : Int))))) x13 ∧
    ∃ x15, Idx (s150.set (Int.toNat (IntKind.i64.wrap (s100 + (IntKind.i64.wrap (Int.tdiv p1 (32 : Int)))))) (bitO .u32 x11 (IntKind.u32.wrap (IntKind.u64.wrap ((IntKind.u64.wrap x8) * 2 ^ (min (Int.toNat (Int.tmod p1 (32 : Int))) (IntKind.bits .u64))))))) (IntKind.i64.wrap ((IntKind.i64.wrap (s100 + (IntKind.i64.wrap (Int.tdiv p1 (32 : Int))))) + 1)) x15 ∧
    ∃ x17, Idx (s150.set (Int.toNat (IntKind.i64.wrap (s100 + (IntKind.i64.wrap (Int.tdiv p1 (32 : Int)))))) (bitO .u32 x11 (IntKind.u32.wrap (IntKind.u64.wrap ((IntKind.u64.wrap x8) * 2 ^ (min (Int.toNat (Int.tmod p1 (32 : Int))) (IntKind.bits .u64))))))) (IntKind.i64.wrap ((IntKind.i64.wrap (s100 + (IntKind.i64.wrap (Int.tdiv p1 (32 : Int))))) + 1)) x17 ∧
    X1 ((IntKind.i64.wrap (s100 + 1)), ((s150.set (Int.toNat (IntKind.i64.wrap (s100 + (IntKind.i64.wrap (Int.tdiv p1 (32 : Int)))))) (bitO .u32 x11 (IntKind.u32.wrap (IntKind.u64.wrap ((IntKind.u64.wrap x8) * 2 ^ (min (Int.toNat (Int.tmod p1 (32 : Int))) (IntKind.bits .u64))))))).set (Int.toNat (IntKind.i64.wrap ((IntKind.i64.wrap (s100 + (IntKind.i64.wrap (Int.tdiv p1 (32 : Int))))) + 1))) (bitO .u32 x15 (IntKind.u32.wrap (Int.fdiv (IntKind.u64.wrap ((IntKind.u64.wrap x8) * 2 ^ (min (Int.toNat (Int.tmod p1 (32 : Int))) (IntKind.bits .u64)))) (2 ^ (min (Int.toNat (32 : Int)) (IntKind.bits .u64)))))))))
    (∃ x19, nat_trim s150 x19 ∧
    r = x19)
def nat_Shift (p0 : List Int) (p1 : Int) (r : (List Int)) : Prop :=
  IfB (decide (p1 < 0))
    (∃ x1, nat_trim p0 x1 ∧
    r = x1)
    (IfB (decide (p1 > 65536))
      (∃ x3, nat_trim p0 x3 ∧
      r = x3)
      ((0 ≤ (IntKind.i64.wrap ((IntKind.i64.wrap ((p0.length : Int) + (IntKind.i64.wrap (Int.tdiv p1 (32 : Int))))) + 1)) ∧ Fits (Int.toNat (IntKind.i64.wrap ((IntKind.i64.wrap ((p0.length : Int) + (IntKind.i64.wrap (Int.tdiv p1 (32 : Int))))) + 1))) 4 ∧ Fits (Int.toNat (IntKind.i64.wrap ((IntKind.i64.wrap ((p0.length : Int) + (IntKind.i64.wrap (Int.tdiv p1 (32 : Int))))) + 1))) 1) ∧
      LoopP (nat_Shift_L1 p0 p1 r) ((0 : Int), (List.replicate (Int.toNat (IntKind.i64.wrap ((IntKind.i64.wrap ((p0.length : Int) + (IntKind.i64.wrap (Int.tdiv p1 (32 : Int))))) + 1))) (0 : Int)))))
def nat_digit_L1 (p1 : List Int) (r : Int × (List Int)) (X1 : ((List Int) × Int × Int) → Prop) (s : (List Int) × Int × Int) : Prop := match s with
  | (s100, s101, s102) =>
  IfB (decide (s102 ≥ 0))
    (∃ x1, nat_Shift p1 s102 x1 ∧
    ∃ x3 x4, nat_Sub s100 x1 (x3, x4) ∧
    IfB x4
      (0 ≤ s102 ∧
      X1 (x3, (bitO .u32 s101 (IntKind.u32.wrap ((1 : Int) * 2 ^ (min (Int.toNat s102) (IntKind.bits .u32))))), (IntKind.i64.wrap (s102 - 1))))
      (X1 (s100, s101, (IntKind.i64.wrap (s102 - 1)))))
    (r = (s101, s100))
def nat_digit (p0 : List Int) (p1 : List Int) (r : Int × (List Int)) : Prop :=
  LoopP (nat_digit_L1 p1 r) (p0, (0 : Int), (31 : Int))
def nat_DivMod_L1 (x1 : List Int) (x3 : List Int) (r : (List Int) × (List Int) × Int) (X1 : (Int × (List Int) × (List Int)) → Prop) (s : Int × (List Int) × (List Int)) : Prop := match s with
  | (s100, s101, s151) =>
  IfB (decide (s100 ≥ 0))
    (∃ x8, Idx x1 s100 x8 ∧
    IfB s101.isEmpty
      (∃ x11, nat_trim [x8] x11 ∧
      IfB ((x3.length : Int) == 1)
        (∃ x13 x14, nat_Small x11 (x13, x14) ∧
        IfB x14
          (∃ x16, Idx x3 0 x16 ∧
          (IntKind.u64.wrap x16) ≠ 0 ∧
          ∃ x19, Idx s151 s100 x19 ∧
          ∃ x21, Idx x3 0 x21 ∧
          (IntKind.u64.wrap x21) ≠ 0 ∧
          ∃ x24, nat_Of (Int.tmod x13 (IntKind.u64.wrap x21)) x24 ∧
          X1 ((IntKind.i64.wrap (s100 - 1)), x24, (s151.set (Int.toNat s100) (IntKind.u32.wrap (IntKind.u64.wrap (Int.tdiv x13 (IntKind.u64.wrap x16)))))))
          (∃ x26, Idx x3 0 x26 ∧
          (IntKind.u64.wrap x26) ≠ 0 ∧
          ∃ x29, Idx s151 s100 x29 ∧
          ∃ x31, Idx x3 0 x31 ∧
          (IntKind.u64.wrap x31) ≠ 0 ∧
          ∃ x34, nat_Of (Int.tmod x13 (IntKind.u64.wrap x31)) x34 ∧
          X1 ((IntKind.i64.wrap (s100 - 1)), x34, (s151.set (Int.toNat s100) (IntKind.u32.wrap (IntKind.u64.wrap (Int.tdiv x13 (IntKind.u64.wrap x26))))))))
        (∃ x36 x37, nat_digit x11 x3 (x36, x37) ∧
        ∃ x39, Idx s151 s100 x39 ∧
        X1 ((IntKind.i64.wrap (s100 - 1)), x37, (s151.set (Int.toNat s100) x36))))
      (Fits ([x8].length + s101.length) 4 ∧
      ∃ x42, nat_trim ([x8] ++ s101) x42 ∧
      IfB ((x3.length : Int) == 1)
        (∃ x44 x45, nat_Small x42 (x44, x45) ∧
        IfB x45
          (∃ x47, Idx x3 0 x47 ∧
          (IntKind.u64.wrap x47) ≠ 0 ∧
          ∃ x50, Idx s151 s100 x50 ∧
          ∃ x52, Idx x3 0 x52 ∧
          (IntKind.u64.wrap x52) ≠ 0 ∧
          ∃ x55, nat_Of (Int.tmod x44 (IntKind.u64.wrap x52)) x55 ∧
          X1 ((IntKind.i64.wrap (s100 - 1)), x55, (s151.set (Int.toNat s100) (IntKind.u32.wrap (IntKind.u64.wrap (Int.tdiv x44 (IntKind.u64.wrap x47)))))))
          (∃ x57, Idx x3 0 x57 ∧
          (IntKind.u64.wrap x57) ≠ 0 ∧
          ∃ x60, Idx s151 s100 x60 ∧
          ∃ x62, Idx x3 0 x62 ∧
          (IntKind.u64.wrap x62) ≠ 0 ∧
          ∃ x65, nat_Of (Int.tmod x44 (IntKind.u64.wrap x62)) x65 ∧
          X1 ((IntKind.i64.wrap (s100 - 1)), x65, (s151.set (Int.toNat s100) (IntKind.u32.wrap (IntKind.u64.wrap (Int.tdiv x44 (IntKind.u64.wrap x57))))))))
        (∃ x67 x68, nat_digit x42 x3 (x67, x68) ∧
        ∃ x70, Idx s151 s100 x70 ∧
        X1 ((IntKind.i64.wrap (s100 - 1)), x68, (s151.set (Int.toNat s100) x67)))))
    (∃ x72, nat_trim s151 x72 ∧
    r = (x72, s101, 0))
def nat_DivMod (p0 : List Int) (p1 : List Int) (r : (List Int) × (List Int) × Int) : Prop :=
  ∃ x1, nat_trim p0 x1 ∧
  ∃ x3, nat_trim p1 x3 ∧
  IfB ((x3.length : Int) == 0)
    (r = ([], [], 5))
    ((0 ≤ (x1.length : Int) ∧ Fits (Int.toNat (x1.length : Int)) 4 ∧ Fits (Int.toNat (x1.length : Int)) 1) ∧
    LoopP (nat_DivMod_L1 x1 x3 r) ((IntKind.i64.wrap ((x1.length : Int) - 1)), [], (List.replicate (Int.toNat (x1.length : Int)) (0 : Int))))
def nat_Gcd_L1 (r : (List Int)) (X1 : ((List Int) × (List Int)) → Prop) (s : (List Int) × (List Int)) : Prop := match s with
  | (s100, s101) =>
  IfB (decide ((s101.length : Int) > 0))
    (∃ x5 x6 x7, nat_DivMod s100 s101 (x5, x6, x7) ∧
    X1 (s101, x6))
    (r = s100)
def nat_Gcd (p0 : List Int) (p1 : List Int) (r : (List Int)) : Prop :=
  ∃ x1, nat_trim p0 x1 ∧
  ∃ x3, nat_trim p1 x3 ∧
  LoopP (nat_Gcd_L1 r) (x1, x3)
def nat_Text_L2 (X1 : ((List Int) × (List Int)) → Prop) (x5 : List Int) (X2 : (Int × Int × (List Int)) → Prop) (s : Int × Int × (List Int)) : Prop := match s with
  | (s200, s201, s250) =>
  IfB (decide (s201 < 9))
    (Fits (s250.length + [(IntKind.u8.wrap (IntKind.u64.wrap (48 + (Int.tmod s200 (10 : Int)))))].length) 1 ∧
    X2 ((IntKind.u64.wrap (Int.tdiv s200 (10 : Int))), (IntKind.i64.wrap (s201 + 1)), (s250 ++ [(IntKind.u8.wrap (IntKind.u64.wrap (48 + (Int.tmod s200 (10 : Int)))))])))
    (X1 (x5, s250))
def nat_Text_L3 (X1 : ((List Int) × (List Int)) → Prop) (x5 : List Int) (X3 : (Int × Int × (List Int)) → Prop) (s : Int × Int × (List Int)) : Prop := match s with
  | (s300, s301, s350) =>
  IfB (decide (s301 < 9))
    (Fits (s350.length + [(IntKind.u8.wrap (IntKind.u64.wrap (48 + (Int.tmod s300 (10 : Int)))))].length) 1 ∧
    X3 ((IntKind.u64.wrap (Int.tdiv s300 (10 : Int))), (IntKind.i64.wrap (s301 + 1)), (s350 ++ [(IntKind.u8.wrap (IntKind.u64.wrap (48 + (Int.tmod s300 (10 : Int)))))])))
    (X1 (x5, s350))
def nat_Text_L5 (r : (List UInt8)) (X5 : (Int × Int × (List Int)) → Prop) (s : Int × Int × (List Int)) : Prop := match s with
  | (s500, s501, s550) =>
  IfB (decide (s500 < s501))
    (∃ x17, Idx s550 s501 x17 ∧
    ∃ x19, Idx s550 s500 x19 ∧
    ∃ x21, Idx s550 s500 x21 ∧
    ∃ x23, Idx (s550.set (Int.toNat s500) x17) s501 x23 ∧
    X5 ((IntKind.i64.wrap (s500 + 1)), (IntKind.i64.wrap (s501 - 1)), ((s550.set (Int.toNat s500) x17).set (Int.toNat s501) x19)))
    (r = (byteS s550))
def nat_Text_L6 (r : (List UInt8)) (X6 : (Int × Int × (List Int)) → Prop) (s : Int × Int × (List Int)) : Prop := match s with
  | (s600, s601, s650) =>
  IfB (decide (s600 < s601))
    (∃ x25, Idx s650 s601 x25 ∧
    ∃ x27, Idx s650 s600 x27 ∧
    ∃ x29, Idx s650 s600 x29 ∧
    ∃ x31, Idx (s650.set (Int.toNat s600) x25) s601 x31 ∧
    X6 ((IntKind.i64.wrap (s600 + 1)), (IntKind.i64.wrap (s601 - 1)), ((s650.set (Int.toNat s600) x25).set (Int.toNat s601) x27)))
    (r = (byteS s650))
def nat_Text_L4 (r : (List UInt8)) (X4 : ((List Int)) → Prop) (s : (List Int)) : Prop := match s with
  | s450 =>
  IfB (decide ((s450.length : Int) > 1))
    (∃ x14, Idx s450 (IntKind.i64.wrap ((s450.length : Int) - 1)) x14 ∧
    IfB (x14 == 48)
      ((0 < (IntKind.i64.wrap ((s450.length : Int) - 1)) ∧ (IntKind.i64.wrap ((s450.length : Int) - 1)) ≤ (s450.length : Int)) ∧
      X4 (s450.take (Int.toNat (IntKind.i64.wrap ((s450.length : Int) - 1)))))
      (IfB ((s450.length : Int) == 0)
        (r = ([48] : List UInt8))
        (LoopP (nat_Text_L5 r) ((0 : Int), (IntKind.i64.wrap ((s450.length : Int) - 1)), s450))))
    (IfB ((s450.length : Int) == 0)
      (r = ([48] : List UInt8))
      (LoopP (nat_Text_L6 r) ((0 : Int), (IntKind.i64.wrap ((s450.length : Int) - 1)), s450)))
def nat_Text_L1 (r : (List UInt8)) (X1 : ((List Int) × (List Int)) → Prop) (s : (List Int) × (List Int)) : Prop := match s with
  | (s100, s150) =>
  IfB (decide ((s100.length : Int) > 0))
    (∃ x3, nat_Of (1000000000 : Int) x3 ∧
    ∃ x5 x6 x7, nat_DivMod s100 x3 (x5, x6, x7) ∧
    ∃ x9 x10, nat_Small x6 (x9, x10) ∧
    IfB x10
      (LoopP (nat_Text_L2 X1 x5) (x9, (0 : Int), s150))
      (LoopP (nat_Text_L3 X1 x5) (x9, (0 : Int), s150)))
    (LoopP (nat_Text_L4 r) s150)
def nat_Text (p0 : List Int) (r : (List UInt8)) : Prop :=
  ∃ x1, nat_trim p0 x1 ∧
  LoopP (nat_Text_L1 r) (x1, [])
def nat_Parse_1 (p0 : Int) (r : Bool) : Prop :=
  IfB (decide (p0 ≥ 48))
    (IfB (decide (p0 ≤ 57))
      (r = true)
      (r = false))
    (r = false)
def nat_Parse_L1 (p0 : List UInt8) (r : (List Int) × Int) (X1 : ((List Int) × Int) → Prop) (s : (List Int) × Int) : Prop := match s with
  | (s100, s101) =>
  IfB (decide (s101 < (p0.length : Int)))
    (∃ c1, Idx p0 s101 c1 ∧
    ∃ x3, nat_Parse_1 ((c1.toNat : Nat) : Int) x3 ∧
    IfB x3
      (IfB (decide (s101 < 400))
        (∃ x5, nat_Of (10 : Int) x5 ∧
        ∃ x7, nat_Mul s100 x5 x7 ∧
        ∃ c9, Idx p0 s101 c9 ∧
        ∃ x11, nat_Of (IntKind.u64.wrap (IntKind.u8.wrap (((c9.toNat : Nat) : Int) - 48))) x11 ∧
        ∃ x13, nat_Add x7 x11 x13 ∧
        X1 (x13, (IntKind.i64.wrap (s101 + 1))))
        (X1 (s100, (IntKind.i64.wrap (s101 + 1)))))
      (r = ([], 2)))
    (IfB (p0 == [])
      (r = ([], 2))
      (IfB (decide ((p0.length : Int) > 400))
        (r = ([], 4))
        (r = (s100, 0))))
def nat_Parse (p0 : List UInt8) (r : (List Int) × Int) : Prop :=
  LoopP (nat_Parse_L1 p0 r) ([], (0 : Int))
def whole_Make (p0 : Bool) (p1 : List Int) (r : Bool × (List Int)) : Prop :=
  IfB p0
    (∃ x1, nat_Shift p1 (0 : Int) x1 ∧
    IfB (decide ((x1.length : Int) > 0))
      (r = (true, x1))
      (r = (false, x1)))
    (∃ x3, nat_Shift p1 (0 : Int) x3 ∧
    r = (false, x3))
def whole_Of (p0 : Int) (r : Bool × (List Int)) : Prop :=
  IfB (decide (p0 < 0))
    (∃ x1, nat_Of (IntKind.u64.wrap (if (IntKind.i64.wrap (0 - p0)) > p0 then (IntKind.i64.wrap (0 - p0)) else p0)) x1 ∧
    ∃ x3 x4, whole_Make true x1 (x3, x4) ∧
    r = (x3, x4))
    (∃ x6, nat_Of (IntKind.u64.wrap (if (IntKind.i64.wrap (0 - p0)) > p0 then (IntKind.i64.wrap (0 - p0)) else p0)) x6 ∧
    ∃ x8 x9, whole_Make false x6 (x8, x9) ∧
    r = (x8, x9))
def whole_Sign (p0 : Bool) (p1 : List Int) (r : Int) : Prop :=
  ∃ x1 x2, whole_Make p0 p1 (x1, x2) ∧
  IfB x1
    (IfB ((x2.length : Int) == 0)
      (r = 0)
      (r = (-1)))
    (IfB ((x2.length : Int) == 0)
      (r = 0)
      (r = 1))
def whole_Neg (p0 : Bool) (p1 : List Int) (r : Bool × (List Int)) : Prop :=
  IfB p0
    (∃ x1 x2, whole_Make false p1 (x1, x2) ∧
    r = (x1, x2))
    (∃ x4 x5, whole_Make true p1 (x4, x5) ∧
    r = (x4, x5))
def whole_Compare (p0 : Bool) (p1 : List Int) (p2 : Bool) (p3 : List Int) (r : Int) : Prop :=
  ∃ x1, whole_Sign p0 p1 x1 ∧
  ∃ x3, whole_Sign p2 p3 x3 ∧
  IfB (x1 != x3)
    (r = (if (1 : Int) < (if (-1 : Int) > (IntKind.i64.wrap (x1 - x3)) then (-1) else (IntKind.i64.wrap (x1 - x3))) then 1 else (if (-1 : Int) > (IntKind.i64.wrap (x1 - x3)) then (-1) else (IntKind.i64.wrap (x1 - x3)))))
    (IfB (decide (x1 < 0))
      (∃ x5, nat_Compare p3 p1 x5 ∧
      r = x5)
      (∃ x7, nat_Compare p1 p3 x7 ∧
      r = x7))
def whole_Add (p0 : Bool) (p1 : List Int) (p2 : Bool) (p3 : List Int) (r : Bool × (List Int)) : Prop :=
  ∃ x1, whole_Sign p0 p1 x1 ∧
  IfB (decide (x1 < 0))
    (∃ x3, whole_Sign p2 p3 x3 ∧
    IfB (decide (x3 < 0))
      (∃ x5, whole_Sign p0 p1 x5 ∧
      IfB (decide (x5 < 0))
        (∃ x7, nat_Add p1 p3 x7 ∧
        ∃ x9 x10, whole_Make true x7 (x9, x10) ∧
        r = (x9, x10))
        (∃ x12, nat_Add p1 p3 x12 ∧
        ∃ x14 x15, whole_Make false x12 (x14, x15) ∧
        r = (x14, x15)))
      (∃ x17 x18, nat_Sub p1 p3 (x17, x18) ∧
      IfB x18
        (∃ x20, whole_Sign p0 p1 x20 ∧
        IfB (decide (x20 < 0))
          (∃ x22 x23, whole_Make true x17 (x22, x23) ∧
          r = (x22, x23))
          (∃ x25 x26, whole_Make false x17 (x25, x26) ∧
          r = (x25, x26)))
        (∃ x28 x29, nat_Sub p3 p1 (x28, x29) ∧
        IfB x29
          (∃ x31, whole_Sign p2 p3 x31 ∧
          IfB (decide (x31 < 0))
            (∃ x33 x34, whole_Make true x28 (x33, x34) ∧
            r = (x33, x34))
            (∃ x36 x37, whole_Make false x28 (x36, x37) ∧
            r = (x36, x37)))
          (∃ x39, whole_Sign p2 p3 x39 ∧
          IfB (decide (x39 < 0))
            (∃ x41 x42, whole_Make true x28 (x41, x42) ∧
            r = (x41, x42))
            (∃ x44 x45, whole_Make false x28 (x44, x45) ∧
            r = (x44, x45))))))
    (∃ x47, whole_Sign p2 p3 x47 ∧
    IfB (decide (x47 < 0))
      (∃ x49 x50, nat_Sub p1 p3 (x49, x50) ∧
      IfB x50
        (∃ x52, whole_Sign p0 p1 x52 ∧
        IfB (decide (x52 < 0))
          (∃ x54 x55, whole_Make true x49 (x54, x55) ∧
          r = (x54, x55))
          (∃ x57 x58, whole_Make false x49 (x57, x58) ∧
          r = (x57, x58)))
        (∃ x60 x61, nat_Sub p3 p1 (x60, x61) ∧
        IfB x61
          (∃ x63, whole_Sign p2 p3 x63 ∧
          IfB (decide (x63 < 0))
            (∃ x65 x66, whole_Make true x60 (x65, x66) ∧
            r = (x65, x66))
            (∃ x68 x69, whole_Make false x60 (x68, x69) ∧
            r = (x68, x69)))
          (∃ x71, whole_Sign p2 p3 x71 ∧
          IfB (decide (x71 < 0))
            (∃ x73 x74, whole_Make true x60 (x73, x74) ∧
            r = (x73, x74))
            (∃ x76 x77, whole_Make false x60 (x76, x77) ∧
            r = (x76, x77)))))
      (∃ x79, whole_Sign p0 p1 x79 ∧
      IfB (decide (x79 < 0))
        (∃ x81, nat_Add p1 p3 x81 ∧
        ∃ x83 x84, whole_Make true x81 (x83, x84) ∧
        r = (x83, x84))
        (∃ x86, nat_Add p1 p3 x86 ∧
        ∃ x88 x89, whole_Make false x86 (x88, x89) ∧
        r = (x88, x89))))
def whole_Mul (p0 : Bool) (p1 : List Int) (p2 : Bool) (p3 : List Int) (r : Bool × (List Int)) : Prop :=
  ∃ x1, whole_Sign p0 p1 x1 ∧
  ∃ x3, whole_Sign p2 p3 x3 ∧
  IfB (decide ((IntKind.i64.wrap (x1 * x3)) < 0))
    (∃ x5, nat_Mul p1 p3 x5 ∧
    ∃ x7 x8, whole_Make true x5 (x7, x8) ∧
    r = (x7, x8))
    (∃ x10, nat_Mul p1 p3 x10 ∧
    ∃ x12 x13, whole_Make false x10 (x12, x13) ∧
    r = (x12, x13))
def whole_Text (p0 : Bool) (p1 : List Int) (r : (List UInt8)) : Prop :=
  ∃ x1, whole_Sign p0 p1 x1 ∧
  IfB (decide (x1 < 0))
    (∃ x3, nat_Text p1 x3 ∧
    Fits (([45] : List UInt8).length + x3.length) 1 ∧
    r = (([45] : List UInt8) ++ x3))
    (∃ x6, nat_Text p1 x6 ∧
    r = x6)
def whole_Parse (p0 : List UInt8) (r : Bool × (List Int) × Int) : Prop :=
  ∃ x1 x2, strings_CutPrefix p0 ([45] : List UInt8) (x1, x2) ∧
  IfB x2
    (∃ x4 x5, nat_Parse x1 (x4, x5) ∧
    IfB (x5 != 0)
      (r = (false, [], x5))
      (∃ x7 x8, whole_Make true x4 (x7, x8) ∧
      r = (x7, x8, 0)))
    (∃ x10 x11, nat_Parse x1 (x10, x11) ∧
    IfB (x11 != 0)
      (r = (false, [], x11))
      (∃ x13 x14, whole_Make false x10 (x13, x14) ∧
      r = (x13, x14, 0)))
def rat_den (p0 : Bool) (p1 : List Int) (p2 : List Int) (r : (List Int)) : Prop :=
  ∃ x1, nat_Bits p2 x1 ∧
  IfB (x1 == 0)
    (∃ x3, nat_Of (1 : Int) x3 ∧
    r = x3)
    (r = p2)
def rat_Make (p0 : Bool) (p1 : List Int) (p2 : List Int) (r : Bool × (List Int) × (List Int)) : Prop :=
  ∃ x1, rat_den false ([] : List Int) p2 x1 ∧
  ∃ x3, nat_Gcd p1 x1 x3 ∧
  ∃ x5 x6 x7, nat_DivMod p1 x3 (x5, x6, x7) ∧
  ∃ x9 x10 x11, nat_DivMod x1 x3 (x9, x10, x11) ∧
  ∃ x13 x14, whole_Make p0 x5 (x13, x14) ∧
  r = (x13, x14, x9)
def rat_Int (p0 : Int) (r : Bool × (List Int) × (List Int)) : Prop :=
  ∃ x1 x2, whole_Of p0 (x1, x2) ∧
  ∃ x4, nat_Of (1 : Int) x4 ∧
  ∃ x6 x7 x8, rat_Make x1 x2 x4 (x6, x7, x8) ∧
  r = (x6, x7, x8)
def rat_Sign (p0 : Bool) (p1 : List Int) (p2 : List Int) (r : Int) : Prop :=
  ∃ x1, whole_Sign p0 p1 x1 ∧
  r = x1
def rat_Neg (p0 : Bool) (p1 : List Int) (p2 : List Int) (r : Bool × (List Int) × (List Int)) : Prop :=
  ∃ x1 x2, whole_Neg p0 p1 (x1, x2) ∧
  ∃ x4 x5 x6, rat_Make x1 x2 p2 (x4, x5, x6) ∧
  r = (x4, x5, x6)
def rat_over (p0 : Bool) (p1 : List Int) (p2 : List Int) (p3 : Bool) (p4 : List Int) (p5 : List Int) (r : Bool × (List Int)) : Prop :=
  ∃ x1, rat_den p3 p4 p5 x1 ∧
  ∃ x3 x4, whole_Make false x1 (x3, x4) ∧
  ∃ x6 x7, whole_Mul p0 p1 x3 x4 (x6, x7) ∧
  r = (x6, x7)
def rat_Compare (p0 : Bool) (p1 : List Int) (p2 : List Int) (p3 : Bool) (p4 : List Int) (p5 : List Int) (r : Int) : Prop :=
  ∃ x1 x2, rat_over p0 p1 p2 p3 p4 p5 (x1, x2) ∧
  ∃ x4 x5, rat_over p3 p4 p5 p0 p1 p2 (x4, x5) ∧
  ∃ x7, whole_Compare x1 x2 x4 x5 x7 ∧
  r = x7
def rat_Add (p0 : Bool) (p1 : List Int) (p2 : List Int) (p3 : Bool) (p4 : List Int) (p5 : List Int) (r : Bool × (List Int) × (List Int)) : Prop :=
  ∃ x1 x2, rat_over p0 p1 p2 p3 p4 p5 (x1, x2) ∧
  ∃ x4 x5, rat_over p3 p4 p5 p0 p1 p2 (x4, x5) ∧
  ∃ x7 x8, whole_Add x1 x2 x4 x5 (x7, x8) ∧
  ∃ x10, rat_den p0 p1 p2 x10 ∧
  ∃ x12, rat_den p3 p4 p5 x12 ∧
  ∃ x14, nat_Mul x10 x12 x14 ∧
  ∃ x16 x17 x18, rat_Make x7 x8 x14 (x16, x17, x18) ∧
  r = (x16, x17, x18)
def rat_Mul (p0 : Bool) (p1 : List Int) (p2 : List Int) (p3 : Bool) (p4 : List Int) (p5 : List Int) (r : Bool × (List Int) × (List Int)) : Prop :=
  ∃ x1 x2, whole_Mul p0 p1 p3 p4 (x1, x2) ∧
  ∃ x4, rat_den p0 p1 p2 x4 ∧
  ∃ x6, rat_den p3 p4 p5 x6 ∧
  ∃ x8, nat_Mul x4 x6 x8 ∧
  ∃ x10 x11 x12, rat_Make x1 x2 x8 (x10, x11, x12) ∧
  r = (x10, x11, x12)
def rat_Whole (p0 : Bool) (p1 : List Int) (p2 : List Int) (r : Bool) : Prop :=
  ∃ x1 x2 x3, rat_Make p0 p1 p2 (x1, x2, x3) ∧
  ∃ x5, nat_Of (1 : Int) x5 ∧
  ∃ x7, nat_Compare x3 x5 x7 ∧
  IfB (x7 == 0)
    (r = true)
    (r = false)
def rat_Text (p0 : Bool) (p1 : List Int) (p2 : List Int) (r : (List UInt8)) : Prop :=
  ∃ x1 x2 x3, rat_Make p0 p1 p2 (x1, x2, x3) ∧
  ∃ x5, rat_Whole x1 x2 x3 x5 ∧
  IfB x5
    (∃ x7, whole_Text x1 x2 x7 ∧
    r = x7)
    (∃ x9, whole_Text x1 x2 x9 ∧
    Fits (x9.length + ([47] : List UInt8).length) 1 ∧
    ∃ x12, nat_Text x3 x12 ∧
    Fits ((x9 ++ ([47] : List UInt8)).length + x12.length) 1 ∧
    r = ((x9 ++ ([47] : List UInt8)) ++ x12))
def rat_Parse (p0 : List UInt8) (r : Bool × (List Int) × (List Int) × Int) : Prop :=
  ∃ x1 x2 x3, strings_Cut p0 ([47] : List UInt8) (x1, x2, x3) ∧
  IfB x3
    (∃ x5 x6 x7, whole_Parse x1 (x5, x6, x7) ∧
    IfB (x7 != 0)
      (r = (false, [], [], x7))
      (∃ x9 x10, nat_Parse x2 (x9, x10) ∧
      IfB (x10 != 0)
        (r = (false, [], [], x10))
        (∃ x12, nat_Bits x9 x12 ∧
        IfB (x12 == 0)
          (r = (false, [], [], 5))
          (∃ x14 x15 x16, rat_Make x5 x6 x9 (x14, x15, x16) ∧
          r = (x14, x15, x16, 0)))))
    (∃ x18 x19 x20, whole_Parse x1 (x18, x19, x20) ∧
    IfB (x20 != 0)
      (r = (false, [], [], x20))
      (∃ x22 x23, nat_Parse ([49] : List UInt8) (x22, x23) ∧
      IfB (x23 != 0)
        (r = (false, [], [], x23))
        (∃ x25, nat_Bits x22 x25 ∧
        IfB (x25 == 0)
          (r = (false, [], [], 5))
          (∃ x27 x28 x29, rat_Make x18 x19 x22 (x27, x28, x29) ∧
          r = (x27, x28, x29, 0)))))
end Go.Abs
end

section
namespace Go.Abs
set_option linter.unusedVariables false
set_option linter.unusedSimpArgs false
set_option linter.unnecessarySimpa false
def lines_may (p0 : Int) (r : Bool) : Prop :=
  IfB (p0 == 10)
    (r = true)
    (IfB (decide (p0 ≥ 32))
      (IfB (decide (p0 ≤ 126))
        (r = true)
        (r = false))
      (r = false))
def lines_All_L2 (x4 : List (List UInt8)) (r : (List (Int × (List (List UInt8)))) × Int) (X2 : (Int × (List (Int × (List (List UInt8))))) → Prop) (s : Int × (List (Int × (List (List UInt8))))) : Prop := match s with
  | (s200, s252) =>
  IfB (decide (s200 < (x4.length : Int)))
    (∃ x6, Idx x4 s200 x6 ∧
    ∃ x8 x9 x10, strings_Cut x6 ([35] : List UInt8) (x8, x9, x10) ∧
    IfB x10
      (∃ x12, strings_Fields x8 x12 ∧
      IfB (decide ((x12.length : Int) > 0))
        (Fits (s252.length + [((IntKind.i64.wrap (s200 + 1)), x12)].length) 32 ∧
        X2 ((IntKind.i64.wrap (s200 + 1)), (s252 ++ [((IntKind.i64.wrap (s200 + 1)), x12)])))
        (X2 ((IntKind.i64.wrap (s200 + 1)), s252)))
      (∃ x15, strings_Fields x8 x15 ∧
      IfB (decide ((x15.length : Int) > 0))
        (Fits (s252.length + [((IntKind.i64.wrap (s200 + 1)), x15)].length) 32 ∧
        X2 ((IntKind.i64.wrap (s200 + 1)), (s252 ++ [((IntKind.i64.wrap (s200 + 1)), x15)])))
        (X2 ((IntKind.i64.wrap (s200 + 1)), s252))))
    (r = (s252, 0))
def lines_All_L1 (p0 : List UInt8) (r : (List (Int × (List (List UInt8)))) × Int) (X1 : Nat → Prop) (s : Nat) : Prop := match s with
  | s151 =>
  IfB (decide (s151 < p0.length))
    (∃ x2, lines_may (runeAt p0 s151) x2 ∧
    IfB x2
      (X1 (s151 + runeLen p0 s151))
      (r = ([], 2)))
    (∃ x4, strings_Split p0 ([10] : List UInt8) x4 ∧
    LoopP (lines_All_L2 x4 r) ((0 : Int), []))
def lines_All (p0 : List UInt8) (r : (List (Int × (List (List UInt8)))) × Int) : Prop :=
  IfB (decide ((p0.length : Int) > 65536))
    (r = ([], 4))
    (LoopP (lines_All_L1 p0 r) 0)
def lines_Join (p0 : List (List UInt8)) (r : (List UInt8)) : Prop :=
  ∃ x1, strings_Join p0 ([32] : List UInt8) x1 ∧
  r = x1
def lines_Name_L1 (p0 : List UInt8) (r : Bool) (X1 : Nat → Prop) (s : Nat) : Prop := match s with
  | s150 =>
  IfB (decide (s150 < p0.length))
    (IfB (decide ((runeAt p0 s150) ≥ 97))
      (IfB (decide ((runeAt p0 s150) ≤ 122))
        (X1 (s150 + runeLen p0 s150))
        (IfB (((s150 : Nat) : Int) == 0)
          (r = false)
          (IfB ((runeAt p0 s150) != 95)
            (IfB (decide ((runeAt p0 s150) < 48))
              (r = false)
              (IfB (decide ((runeAt p0 s150) > 57))
                (r = false)
                (X1 (s150 + runeLen p0 s150))))
            (X1 (s150 + runeLen p0 s150)))))
      (IfB (((s150 : Nat) : Int) == 0)
        (r = false)
        (IfB ((runeAt p0 s150) != 95)
          (IfB (decide ((runeAt p0 s150) < 48))
            (r = false)
            (IfB (decide ((runeAt p0 s150) > 57))
              (r = false)
              (X1 (s150 + runeLen p0 s150))))
          (X1 (s150 + runeLen p0 s150)))))
    (IfB (decide ((p0.length : Int) ≥ 1))
      (IfB (decide ((p0.length : Int) ≤ 16))
        (r = true)
        (r = false))
      (r = false))
def lines_Name (p0 : List UInt8) (r : Bool) : Prop :=
  LoopP (lines_Name_L1 p0 r) 0
def lines_Index (p0 : List (List UInt8)) (p1 : List UInt8) (r : Int) : Prop :=
  ∃ x1, slices_Index_string_string p0 p1 x1 ∧
  r = x1
end Go.Abs
end

section
namespace Go.Abs
end Go.Abs
end

section
namespace Go.Abs
open Go
def strings_CutSuffix (s p : List UInt8) (r : List UInt8 × Bool) : Prop := s.length ≤ 9223372036854775807 ∧ r = (Lib.trimSuffix s p, Lib.hasSuffix s p)
def strings_Contains (s p : List UInt8) (r : Bool) : Prop := Short s ∧ r = Lib.contains s p
end Go.Abs
end

section
namespace Go.Abs
set_option linter.unusedVariables false
set_option linter.unusedSimpArgs false
set_option linter.unnecessarySimpa false
def lines_Number (p0 : List UInt8) (r : Bool × (List Int) × (List Int) × Bool) : Prop :=
  ∃ x1 x2 x3 x4, rat_Parse p0 (x1, x2, x3, x4) ∧
  IfB (x4 != 0)
   (∃ x7 x8 x9, rat_Int (0 : Int) (x7, x8, x9) ∧
   r = (x7, x8, x9, false))
   (r = (x1, x2, x3, true))
def vec_Same_1 (p0 : Bool) (p1 : List Int) (p2 : List Int) (p3 : Bool) (p4 : List Int) (p5 : List Int) (r : Bool) : Prop :=
  ∃ x1, rat_Compare p0 p1 p2 p3 p4 p5 x1 ∧
  IfB (x1 == 0)
   (r = true)
   (r = false)
def vec_Same_L1 (p0 : List (Bool × (List Int) × (List Int))) (p1 : List (Bool × (List Int) × (List Int))) (r : Bool) (X1 : Int → Prop) (s : Int) : Prop := match s with
  | s100 =>
  IfB (decide (s100 < (p0.length : Int)))
   (∃ x3 x4 x5, Idx p0 s100 (x3, x4, x5) ∧
   ∃ x7 x8 x9, Idx p1 s100 (x7, x8, x9) ∧
   ∃ x11, vec_Same_1 x3 x4 x5 x7 x8 x9 x11 ∧
   IfB x11
   (X1 (IntKind.i64.wrap (s100 + 1)))
   (r = false))
   (r = true)
def vec_Same (p0 : List (Bool × (List Int) × (List Int))) (p1 : List (Bool × (List Int) × (List Int))) (r : Bool) : Prop :=
  IfB ((p0.length : Int) != (p1.length : Int))
   (r = false)
   (LoopP (vec_Same_L1 p0 p1 r) (0 : Int))
end Go.Abs
end

section
namespace Go.Abs
set_option linter.unusedVariables false
set_option linter.unusedSimpArgs false
set_option linter.unnecessarySimpa false
end Go.Abs
end

section
namespace Go.Abs
def offcutlaw08_awake (r : Bool) : Prop := r = true
end Go.Abs
end

section
namespace Go.Abs
def relsL : List (List UInt8 × Int) := [([60, 61], -1), ([61], 0), ([62, 61], 1)]
def model_rels (r : List (List UInt8 × Int)) : Prop := r = relsL
end Go.Abs
end
