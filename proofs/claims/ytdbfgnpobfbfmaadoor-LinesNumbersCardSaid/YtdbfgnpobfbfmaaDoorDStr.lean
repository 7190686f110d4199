/- Printed by gen.py: what functions come to, as conditions over numbers and lists. -/
import Derived.Test.YtdbfgnpobfbfmaaDoorGW
import Derived.Test.YtdbfgnpobfbfmaaDoorDNat
namespace Go.Abs
set_option linter.unusedVariables false
set_option linter.unusedSimpArgs false
set_option linter.unnecessarySimpa false

/-- offcut offcutref01.sign -/
def offcutref01_sign (p0 : Int) (r : (List UInt8)) : Prop :=
  SubOk ([48, 49, 50, 51, 52, 53, 54, 55, 56, 57] : List UInt8) p0 (IntKind.i64.wrap (p0 + 1)) ∧
  r = (sub ([48, 49, 50, 51, 52, 53, 54, 55, 56, 57] : List UInt8) p0 (IntKind.i64.wrap (p0 + 1)))

def offcutref01_cut_L1 (r : (List UInt8)) (X1 : ((List UInt8)) → Prop) (s : (List UInt8)) : Prop := match s with
  | s100 =>
  IfB (decide ((s100.length : Int) > (1 : Int)))
    (∃ (c1 : UInt8), Idx s100 (0 : Int) c1 ∧
    IfB (((c1.toNat : Nat) : Int) == (48 : Int))
      (SubOk s100 (1 : Int) (s100.length : Int) ∧
      X1 (sub s100 (1 : Int) (s100.length : Int)))
      (IfB (s100 == ([] : List UInt8))
        (r = ([48] : List UInt8))
        (r = s100)))
    (IfB (s100 == ([] : List UInt8))
      (r = ([48] : List UInt8))
      (r = s100))

/-- offcut offcutref01.cut -/
def offcutref01_cut (p0 : List UInt8) (r : (List UInt8)) : Prop :=
  LoopP (offcutref01_cut_L1 r) p0

/-- offcut offcutref01.at -/
def offcutref01_at (p0 : List UInt8) (p1 : Int) (r : Int) : Prop :=
  IfB (decide (p1 < (p0.length : Int)))
    (∃ (c1 : UInt8), Idx p0 (IntKind.i64.wrap ((IntKind.i64.wrap ((p0.length : Int) - 1)) - p1)) c1 ∧
    r = (IntKind.i64.wrap (IntKind.u8.wrap (((c1.toNat : Nat) : Int) - 48))))
    (r = 0)

def offcutref01_Mul_L2 (p0 : List UInt8) (p1 : List UInt8) (s100 : Int) (X1 : (Int × (List Int)) → Prop) (X2 : (Int × (List Int)) → Prop) (s : Int × (List Int)) : Prop := match s with
  | (s200, s250) =>
  IfB (decide (s200 < (p1.length : Int)))
    (∃ (x4 : Int), Idx s250 (IntKind.i64.wrap (s100 + s200)) x4 ∧
    ∃ (x6 : Int), offcutref01_at p0 s100 x6 ∧
    ∃ (x8 : Int), offcutref01_at p1 s200 x8 ∧
    ∃ (x10 : Int), Idx s250 (IntKind.i64.wrap (s100 + s200)) x10 ∧
    X2 ((IntKind.i64.wrap (s200 + 1)), (s250.set (Int.toNat (IntKind.i64.wrap (s100 + s200))) (IntKind.i64.wrap (x4 + (IntKind.i64.wrap (x6 * x8)))))))
    (X1 ((IntKind.i64.wrap (s100 + 1)), s250))

def offcutref01_Mul_L3 (s150 : List Int) (r : (List UInt8)) (X3 : ((List UInt8) × Int × Int) → Prop) (s : (List UInt8) × Int × Int) : Prop := match s with
  | (s300, s301, s302) =>
  IfB (decide (s302 < (s150.length : Int)))
    (∃ (x12 : Int), Idx s150 s302 x12 ∧
    ∃ (x14 : List UInt8), offcutref01_sign (Int.tmod (IntKind.i64.wrap (x12 + s301)) (10 : Int)) x14 ∧
    Fits (x14.length + s300.length) 1 ∧
    X3 ((x14 ++ s300), (IntKind.i64.wrap (Int.tdiv (IntKind.i64.wrap (x12 + s301)) (10 : Int))), (IntKind.i64.wrap (s302 + 1))))
    (∃ (x17 : List UInt8), offcutref01_cut s300 x17 ∧
    r = x17)

def offcutref01_Mul_L1 (p0 : List UInt8) (p1 : List UInt8) (r : (List UInt8)) (X1 : (Int × (List Int)) → Prop) (s : Int × (List Int)) : Prop := match s with
  | (s100, s150) =>
  IfB (decide (s100 < (p0.length : Int)))
    (LoopP (offcutref01_Mul_L2 p0 p1 s100 X1) ((0 : Int), s150))
    (LoopP (offcutref01_Mul_L3 s150 r) (([] : List UInt8), (0 : Int), (0 : Int)))

/-- offcut offcutref01.Mul -/
def offcutref01_Mul (p0 : List UInt8) (p1 : List UInt8) (r : (List UInt8)) : Prop :=
  (0 ≤ (IntKind.i64.wrap ((IntKind.i64.wrap ((p0.length : Int) + (p1.length : Int))) + 1)) ∧ Fits (Int.toNat (IntKind.i64.wrap ((IntKind.i64.wrap ((p0.length : Int) + (p1.length : Int))) + 1))) 8 ∧ Fits (Int.toNat (IntKind.i64.wrap ((IntKind.i64.wrap ((p0.length : Int) + (p1.length : Int))) + 1))) 1) ∧
  LoopP (offcutref01_Mul_L1 p0 p1 r) ((0 : Int), (List.replicate (Int.toNat (IntKind.i64.wrap ((IntKind.i64.wrap ((p0.length : Int) + (p1.length : Int))) + 1))) (0 : Int)))

def offcutref01_Add_L1 (p0 : List UInt8) (p1 : List UInt8) (r : (List UInt8)) (X1 : ((List UInt8) × Int × Int) → Prop) (s : (List UInt8) × Int × Int) : Prop := match s with
  | (s100, s101, s102) =>
  IfB (decide (s102 ≤ (p0.length : Int)))
    (∃ (x1 : Int), offcutref01_at p0 s102 x1 ∧
    ∃ (x3 : Int), offcutref01_at p1 s102 x3 ∧
    ∃ (x5 : List UInt8), offcutref01_sign (Int.tmod (IntKind.i64.wrap ((IntKind.i64.wrap (x1 + x3)) + s101)) (10 : Int)) x5 ∧
    Fits (x5.length + s100.length) 1 ∧
    X1 ((x5 ++ s100), (IntKind.i64.wrap (Int.tdiv (IntKind.i64.wrap ((IntKind.i64.wrap (x1 + x3)) + s101)) (10 : Int))), (IntKind.i64.wrap (s102 + 1))))
    (IfB (decide (s102 ≤ (p1.length : Int)))
      (∃ (x8 : Int), offcutref01_at p0 s102 x8 ∧
      ∃ (x10 : Int), offcutref01_at p1 s102 x10 ∧
      ∃ (x12 : List UInt8), offcutref01_sign (Int.tmod (IntKind.i64.wrap ((IntKind.i64.wrap (x8 + x10)) + s101)) (10 : Int)) x12 ∧
      Fits (x12.length + s100.length) 1 ∧
      X1 ((x12 ++ s100), (IntKind.i64.wrap (Int.tdiv (IntKind.i64.wrap ((IntKind.i64.wrap (x8 + x10)) + s101)) (10 : Int))), (IntKind.i64.wrap (s102 + 1))))
      (∃ (x15 : List UInt8), offcutref01_cut s100 x15 ∧
      r = x15))

/-- offcut offcutref01.Add -/
def offcutref01_Add (p0 : List UInt8) (p1 : List UInt8) (r : (List UInt8)) : Prop :=
  LoopP (offcutref01_Add_L1 p0 p1 r) (([] : List UInt8), (0 : Int), (0 : Int))

def offcutref01_Of_L2 (s101 : Int) (X1 : ((List UInt8) × Int) → Prop) (x1 : List UInt8) (X2 : (Int × (List UInt8)) → Prop) (s : Int × (List UInt8)) : Prop := match s with
  | (s200, s201) =>
  IfB (decide (s200 > (0 : Int)))
    (∃ (x5 : List UInt8), offcutref01_sign (IntKind.i64.wrap (Int.tmod s200 (10 : Int))) x5 ∧
    Fits (x5.length + s201.length) 1 ∧
    X2 ((IntKind.u32.wrap (Int.tdiv s200 (10 : Int))), (x5 ++ s201)))
    (∃ (x8 : List UInt8), offcutref01_cut s201 x8 ∧
    ∃ (x10 : List UInt8), offcutref01_Add x1 x8 x10 ∧
    X1 (x10, (IntKind.i64.wrap (s101 - 1))))

def offcutref01_Of_L1 (p0 : List Int) (r : (List UInt8)) (X1 : ((List UInt8) × Int) → Prop) (s : (List UInt8) × Int) : Prop := match s with
  | (s100, s101) =>
  IfB (decide (s101 ≥ (0 : Int)))
    (∃ (x1 : List UInt8), offcutref01_Mul s100 ([52, 50, 57, 52, 57, 54, 55, 50, 57, 54] : List UInt8) x1 ∧
    ∃ (x3 : Int), Idx p0 s101 x3 ∧
    LoopP (offcutref01_Of_L2 s101 X1 x1) (x3, ([] : List UInt8)))
    (r = s100)

/-- offcut offcutref01.Of -/
def offcutref01_Of (p0 : List Int) (r : (List UInt8)) : Prop :=
  LoopP (offcutref01_Of_L1 p0 r) (([48] : List UInt8), (IntKind.i64.wrap ((p0.length : Int) - 1)))

/-- offcut offcutref02.Made -/
def offcutref02_Made (p0 : Bool) (p1 : List UInt8) (r : (List UInt8)) : Prop :=
  IfB p0
    (IfB (!(p1 == ([48] : List UInt8)))
      (Fits (([45] : List UInt8).length + p1.length) 1 ∧
      r = (([45] : List UInt8) ++ p1))
      (r = p1))
    (r = p1)

/-- offcut offcutref02.Below -/
def offcutref02_Below (p0 : List UInt8) (r : Bool) : Prop :=
  ∃ (c1 : UInt8), Idx p0 (0 : Int) c1 ∧
  IfB (((c1.toNat : Nat) : Int) == (45 : Int))
    (r = true)
    (r = false)

/-- offcut offcutref01.Less -/
def offcutref01_Less (p0 : List UInt8) (p1 : List UInt8) (r : Bool) : Prop :=
  IfB ((p0.length : Int) != (p1.length : Int))
    (IfB (decide ((p0.length : Int) < (p1.length : Int)))
      (r = true)
      (r = false))
    (IfB (Op.bytesLess p0 p1)
      (r = true)
      (r = false))

def offcutref01_Sub_L1 (p0 : List UInt8) (p1 : List UInt8) (r : (List UInt8)) (X1 : ((List UInt8) × Int × Int) → Prop) (s : (List UInt8) × Int × Int) : Prop := match s with
  | (s100, s101, s102) =>
  IfB (decide (s102 < (p0.length : Int)))
    (∃ (x1 : Int), offcutref01_at p0 s102 x1 ∧
    ∃ (x3 : Int), offcutref01_at p1 s102 x3 ∧
    ∃ (x5 : List UInt8), offcutref01_sign (Int.tmod (IntKind.i64.wrap ((IntKind.i64.wrap ((IntKind.i64.wrap (x1 - x3)) - s101)) + 10)) (10 : Int)) x5 ∧
    Fits (x5.length + s100.length) 1 ∧
    X1 ((x5 ++ s100), (IntKind.i64.wrap (1 - (IntKind.i64.wrap (Int.tdiv (IntKind.i64.wrap ((IntKind.i64.wrap ((IntKind.i64.wrap (x1 - x3)) - s101)) + 10)) (10 : Int))))), (IntKind.i64.wrap (s102 + 1))))
    (∃ (x8 : List UInt8), offcutref01_cut s100 x8 ∧
    r = x8)

/-- offcut offcutref01.Sub -/
def offcutref01_Sub (p0 : List UInt8) (p1 : List UInt8) (r : (List UInt8)) : Prop :=
  LoopP (offcutref01_Sub_L1 p0 p1 r) (([] : List UInt8), (0 : Int), (0 : Int))

def offcutref01_DivMod_L2 (p1 : List UInt8) (s100 : List UInt8) (s102 : Int) (X1 : ((List UInt8) × (List UInt8) × Int) → Prop) (X2 : ((List UInt8) × Int) → Prop) (s : (List UInt8) × Int) : Prop := match s with
  | (s200, s201) =>
  ∃ (x5 : Bool), offcutref01_Less s200 p1 x5 ∧
  IfB x5
    (∃ (x7 : List UInt8), offcutref01_sign s201 x7 ∧
    Fits (s100.length + x7.length) 1 ∧
    X1 ((s100 ++ x7), s200, (IntKind.i64.wrap (s102 + 1))))
    (∃ (x10 : List UInt8), offcutref01_Sub s200 p1 x10 ∧
    X2 (x10, (IntKind.i64.wrap (s201 + 1))))

def offcutref01_DivMod_L1 (p0 : List UInt8) (p1 : List UInt8) (r : (List UInt8) × (List UInt8)) (X1 : ((List UInt8) × (List UInt8) × Int) → Prop) (s : (List UInt8) × (List UInt8) × Int) : Prop := match s with
  | (s100, s101, s102) =>
  IfB (decide (s102 < (p0.length : Int)))
    (SubOk p0 s102 (IntKind.i64.wrap (s102 + 1)) ∧
    Fits (s101.length + (sub p0 s102 (IntKind.i64.wrap (s102 + 1))).length) 1 ∧
    ∃ (x3 : List UInt8), offcutref01_cut (s101 ++ (sub p0 s102 (IntKind.i64.wrap (s102 + 1)))) x3 ∧
    LoopP (offcutref01_DivMod_L2 p1 s100 s102 X1) (x3, (0 : Int)))
    (∃ (x12 : List UInt8), offcutref01_cut s100 x12 ∧
    r = (x12, s101))

/-- offcut offcutref01.DivMod -/
def offcutref01_DivMod (p0 : List UInt8) (p1 : List UInt8) (r : (List UInt8) × (List UInt8)) : Prop :=
  LoopP (offcutref01_DivMod_L1 p0 p1 r) (([] : List UInt8), ([48] : List UInt8), (0 : Int))

def offcutref01_Gcd_L1 (r : (List UInt8)) (X1 : ((List UInt8) × (List UInt8)) → Prop) (s : (List UInt8) × (List UInt8)) : Prop := match s with
  | (s100, s101) =>
  IfB (!(s101 == ([48] : List UInt8)))
    (∃ (x1 : List UInt8) (x2 : List UInt8), offcutref01_DivMod s100 s101 (x1, x2) ∧
    X1 (s101, x2))
    (r = s100)

/-- offcut offcutref01.Gcd -/
def offcutref01_Gcd (p0 : List UInt8) (p1 : List UInt8) (r : (List UInt8)) : Prop :=
  LoopP (offcutref01_Gcd_L1 r) (p0, p1)

/-- offcut offcutref03.Low -/
def offcutref03_Low (p0 : List UInt8) (p1 : List UInt8) (r : (List UInt8) × (List UInt8)) : Prop :=
  ∃ (x1 : Bool), offcutref02_Below p0 x1 ∧
  IfB x1
    (SubOk p0 (1 : Int) (p0.length : Int) ∧
    ∃ (x4 : List UInt8), offcutref01_Gcd (sub p0 (1 : Int) (p0.length : Int)) p1 x4 ∧
    ∃ (x6 : List UInt8) (x7 : List UInt8), offcutref01_DivMod (sub p0 (1 : Int) (p0.length : Int)) x4 (x6, x7) ∧
    ∃ (x9 : List UInt8) (x10 : List UInt8), offcutref01_DivMod p1 x4 (x9, x10) ∧
    ∃ (x12 : Bool), offcutref02_Below p0 x12 ∧
    IfB x12
      (∃ (x14 : List UInt8), offcutref02_Made true x6 x14 ∧
      r = (x14, x9))
      (∃ (x16 : List UInt8), offcutref02_Made false x6 x16 ∧
      r = (x16, x9)))
    (∃ (x18 : List UInt8), offcutref01_Gcd p0 p1 x18 ∧
    ∃ (x20 : List UInt8) (x21 : List UInt8), offcutref01_DivMod p0 x18 (x20, x21) ∧
    ∃ (x23 : List UInt8) (x24 : List UInt8), offcutref01_DivMod p1 x18 (x23, x24) ∧
    ∃ (x26 : Bool), offcutref02_Below p0 x26 ∧
    IfB x26
      (∃ (x28 : List UInt8), offcutref02_Made true x20 x28 ∧
      r = (x28, x23))
      (∃ (x30 : List UInt8), offcutref02_Made false x20 x30 ∧
      r = (x30, x23)))

/-- offcut offcutlaw03.Of -/
def offcutlaw03_Of (p0 : Bool) (p1 : List Int) (p2 : List Int) (r : (List UInt8) × (List UInt8)) : Prop :=
  ∃ (x1 : List UInt8), offcutref01_Of p2 x1 ∧
  IfB (x1 == ([48] : List UInt8))
    (∃ (x3 : List UInt8), offcutref01_Of p1 x3 ∧
    ∃ (x5 : List UInt8), offcutref02_Made p0 x3 x5 ∧
    ∃ (x7 : List UInt8) (x8 : List UInt8), offcutref03_Low x5 ([49] : List UInt8) (x7, x8) ∧
    r = (x7, x8))
    (∃ (x10 : List UInt8), offcutref01_Of p1 x10 ∧
    ∃ (x12 : List UInt8), offcutref02_Made p0 x10 x12 ∧
    ∃ (x14 : List UInt8) (x15 : List UInt8), offcutref03_Low x12 x1 (x14, x15) ∧
    r = (x14, x15))

/-- offcut offcutlaw03.Is -/
def offcutlaw03_Is (p0 : Bool) (p1 : List Int) (p2 : List Int) (p3 : List UInt8) (p4 : List UInt8) (r : Bool) : Prop :=
  IfB (decide ((p2.length : Int) > (0 : Int)))
    (∃ (x1 : Bool), rat_Right p0 p1 p2 x1 ∧
    IfB x1
      (∃ (x3 : List UInt8) (x4 : List UInt8), offcutlaw03_Of p0 p1 p2 (x3, x4) ∧
      IfB (x3 == p3 && x4 == p4)
        (r = true)
        (r = false))
      (r = false))
    (r = false)

end Go.Abs
