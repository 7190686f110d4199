/- Part of a proof, in few files: D08s. -/
import Derived.Test.YtdbfgnpobfbfmaaGreatDoorMSaK19
import Derived.Test.YtdbfgnpobfbfmaaGreatDoorMSaK33

section
/- Printed by gen.py: what functions come to, as conditions over numbers and lists. -/
namespace Go.Abs
set_option linter.unusedVariables false
set_option linter.unusedSimpArgs false
set_option linter.unnecessarySimpa false

/-- offcut model.Same 1 -/
def model_Same_1 (p0 : List UInt8) (p1 : List (Bool × (List Int) × (List Int))) (p2 : Int) (p3 : Bool) (p4 : List Int) (p5 : List Int) (p6 : List UInt8) (p7 : List (Bool × (List Int) × (List Int))) (p8 : Int) (p9 : Bool) (p10 : List Int) (p11 : List Int) (r : Bool) : Prop :=
  IfB (p0 == p6)
   (IfB (p2 == p8)
   (∃ (x2 : Bool), vec_Same p1 p7 x2 ∧
   IfB x2
   (∃ (x4 : Int), rat_Compare p3 p4 p5 p9 p10 p11 x4 ∧
   IfB (x4 == (0 : Int))
   (r = true)
   (r = false))
   (r = false))
   (r = false))
   (r = false)

def slices_Equal_string_string_L1 (p0 : List (List UInt8)) (p1 : List (List UInt8)) (r : Bool) (X1 : Int → Prop) (s : Int) : Prop := match s with
  | s100 =>
  IfB (decide (s100 < (p0.length : Int)))
   (∃ (x3 : List UInt8), Idx p0 s100 x3 ∧
   ∃ (x5 : List UInt8), Idx p1 s100 x5 ∧
   IfB (!(x3 == x5))
   (r = false)
   (X1 (IntKind.i64.wrap (s100 + 1))))
   (r = true)

/-- slices.Equal[[]string,string] -/
def slices_Equal_string_string (p0 : List (List UInt8)) (p1 : List (List UInt8)) (r : Bool) : Prop :=
  IfB ((p0.length : Int) != (p1.length : Int))
   (r = false)
   (LoopP (slices_Equal_string_string_L1 p0 p1 r) (0 : Int))

def model_Same_L1 (p2 : List ((List UInt8) × (List (Bool × (List Int) × (List Int))) × Int × Bool × (List Int) × (List Int))) (p5 : List ((List UInt8) × (List (Bool × (List Int) × (List Int))) × Int × Bool × (List Int) × (List Int))) (r : Bool) (X1 : Int → Prop) (s : Int) : Prop := match s with
  | s100 =>
  IfB (decide (s100 < (p2.length : Int)))
   (∃ (x7 : List UInt8) (x8 : List (Bool × (List Int) × (List Int))) (x9 : Int) (x10 : Bool) (x11 : List Int) (x12 : List Int), Idx p2 s100 (x7, x8, x9, x10, x11, x12) ∧
   ∃ (x14 : List UInt8) (x15 : List (Bool × (List Int) × (List Int))) (x16 : Int) (x17 : Bool) (x18 : List Int) (x19 : List Int), Idx p5 s100 (x14, x15, x16, x17, x18, x19) ∧
   ∃ (x21 : Bool), model_Same_1 x7 x8 x9 x10 x11 x12 x14 x15 x16 x17 x18 x19 x21 ∧
   IfB x21
   (X1 (IntKind.i64.wrap (s100 + 1)))
   (r = false))
   (r = true)

/-- offcut model.Same -/
def model_Same (p0 : List (List UInt8)) (p1 : List (Bool × (List Int) × (List Int))) (p2 : List ((List UInt8) × (List (Bool × (List Int) × (List Int))) × Int × Bool × (List Int) × (List Int))) (p3 : List (List UInt8)) (p4 : List (Bool × (List Int) × (List Int))) (p5 : List ((List UInt8) × (List (Bool × (List Int) × (List Int))) × Int × Bool × (List Int) × (List Int))) (r : Bool) : Prop :=
  ∃ (x1 : Bool), slices_Equal_string_string p0 p3 x1 ∧
  IfB x1
   (∃ (x3 : Bool), vec_Same p1 p4 x3 ∧
   IfB x3
   (IfB ((p2.length : Int) != (p5.length : Int))
   (r = false)
   (LoopP (model_Same_L1 p2 p5 r) (0 : Int)))
   (r = false))
   (r = false)

def offcutlaw08_Few_L2 (p0 : List (List UInt8)) (p1 : List (Bool × (List Int) × (List Int))) (p2 : List ((List UInt8) × (List (Bool × (List Int) × (List Int))) × Int × Bool × (List Int) × (List Int))) (r : Bool) (X2 : Int → Prop) (s : Int) : Prop := match s with
  | s200 =>
  IfB (decide (s200 < (p2.length : Int)))
   (IfB (decide (s200 ≤ (6 : Int)))
   (∃ (x8 : List UInt8) (x9 : List (Bool × (List Int) × (List Int))) (x10 : Int) (x11 : Bool) (x12 : List Int) (x13 : List Int), Idx p2 s200 (x8, x9, x10, x11, x12, x13) ∧
   IfB (decide ((x8.length : Int) > (20 : Int)))
   (r = false)
   (∃ (x16 : List UInt8) (x17 : List (Bool × (List Int) × (List Int))) (x18 : Int) (x19 : Bool) (x20 : List Int) (x21 : List Int), Idx p2 s200 (x16, x17, x18, x19, x20, x21) ∧
   ∃ (x23 : Bool), offcutlaw05_Few x17 x23 ∧
   IfB x23
   (∃ (x25 : List UInt8) (x26 : List (Bool × (List Int) × (List Int))) (x27 : Int) (x28 : Bool) (x29 : List Int) (x30 : List Int), Idx p2 s200 (x25, x26, x27, x28, x29, x30) ∧
   ∃ (x32 : Bool), offcutlaw05_Few [(x28, x29, x30)] x32 ∧
   IfB x32
   (X2 (IntKind.i64.wrap (s200 + 1)))
   (r = false))
   (r = false)))
   (IfB (decide ((p0.length : Int) ≤ (8 : Int)))
   (IfB (decide ((p2.length : Int) ≤ (6 : Int)))
   (∃ (x36 : Bool), offcutlaw05_Few p1 x36 ∧
   IfB x36
   (r = true)
   (r = false))
   (r = false))
   (r = false)))
   (IfB (decide ((p0.length : Int) ≤ (8 : Int)))
   (IfB (decide ((p2.length : Int) ≤ (6 : Int)))
   (∃ (x40 : Bool), offcutlaw05_Few p1 x40 ∧
   IfB x40
   (r = true)
   (r = false))
   (r = false))
   (r = false))

def offcutlaw08_Few_L3 (p0 : List (List UInt8)) (p1 : List (Bool × (List Int) × (List Int))) (p2 : List ((List UInt8) × (List (Bool × (List Int) × (List Int))) × Int × Bool × (List Int) × (List Int))) (r : Bool) (X3 : Int → Prop) (s : Int) : Prop := match s with
  | s300 =>
  IfB (decide (s300 < (p2.length : Int)))
   (IfB (decide (s300 ≤ (6 : Int)))
   (∃ (x44 : List UInt8) (x45 : List (Bool × (List Int) × (List Int))) (x46 : Int) (x47 : Bool) (x48 : List Int) (x49 : List Int), Idx p2 s300 (x44, x45, x46, x47, x48, x49) ∧
   IfB (decide ((x44.length : Int) > (20 : Int)))
   (r = false)
   (∃ (x52 : List UInt8) (x53 : List (Bool × (List Int) × (List Int))) (x54 : Int) (x55 : Bool) (x56 : List Int) (x57 : List Int), Idx p2 s300 (x52, x53, x54, x55, x56, x57) ∧
   ∃ (x59 : Bool), offcutlaw05_Few x53 x59 ∧
   IfB x59
   (∃ (x61 : List UInt8) (x62 : List (Bool × (List Int) × (List Int))) (x63 : Int) (x64 : Bool) (x65 : List Int) (x66 : List Int), Idx p2 s300 (x61, x62, x63, x64, x65, x66) ∧
   ∃ (x68 : Bool), offcutlaw05_Few [(x64, x65, x66)] x68 ∧
   IfB x68
   (X3 (IntKind.i64.wrap (s300 + 1)))
   (r = false))
   (r = false)))
   (IfB (decide ((p0.length : Int) ≤ (8 : Int)))
   (IfB (decide ((p2.length : Int) ≤ (6 : Int)))
   (∃ (x72 : Bool), offcutlaw05_Few p1 x72 ∧
   IfB x72
   (r = true)
   (r = false))
   (r = false))
   (r = false)))
   (IfB (decide ((p0.length : Int) ≤ (8 : Int)))
   (IfB (decide ((p2.length : Int) ≤ (6 : Int)))
   (∃ (x76 : Bool), offcutlaw05_Few p1 x76 ∧
   IfB x76
   (r = true)
   (r = false))
   (r = false))
   (r = false))

def offcutlaw08_Few_L1 (p0 : List (List UInt8)) (p1 : List (Bool × (List Int) × (List Int))) (p2 : List ((List UInt8) × (List (Bool × (List Int) × (List Int))) × Int × Bool × (List Int) × (List Int))) (r : Bool) (X1 : Int → Prop) (s : Int) : Prop := match s with
  | s100 =>
  IfB (decide (s100 < (p0.length : Int)))
   (IfB (decide (s100 ≤ (8 : Int)))
   (∃ (x3 : List UInt8), Idx p0 s100 x3 ∧
   IfB (decide ((x3.length : Int) > (20 : Int)))
   (r = false)
   (X1 (IntKind.i64.wrap (s100 + 1))))
   (LoopP (offcutlaw08_Few_L2 p0 p1 p2 r) (0 : Int)))
   (LoopP (offcutlaw08_Few_L3 p0 p1 p2 r) (0 : Int))

/-- offcut offcutlaw08.Few -/
def offcutlaw08_Few (p0 : List (List UInt8)) (p1 : List (Bool × (List Int) × (List Int))) (p2 : List ((List UInt8) × (List (Bool × (List Int) × (List Int))) × Int × Bool × (List Int) × (List Int))) (r : Bool) : Prop :=
  LoopP (offcutlaw08_Few_L1 p0 p1 p2 r) (0 : Int)

/-- offcut offcutlaw08.ModelSame -/
def offcutlaw08_ModelSame (p0 : List (List UInt8)) (p1 : List (Bool × (List Int) × (List Int))) (p2 : List ((List UInt8) × (List (Bool × (List Int) × (List Int))) × Int × Bool × (List Int) × (List Int))) (p3 : Int) (p4 : Bool) (p5 : List Int) (p6 : List Int) (r : Bool) : Prop :=
  ∃ (x1 : Bool), offcutlaw08_Few p0 p1 p2 x1 ∧
  IfB x1
   (∃ (x3 : Bool), offcutlaw05_Few [(p4, p5, p6)] x3 ∧
   IfB x3
   (∃ (x5 : Bool), model_Same p0 p1 p2 p0 p1 p2 x5 ∧
   IfB x5
   (IfB (decide (p3 < (0 : Int)))
   (∃ (x8 : Bool), offcutlaw08_awake x8 ∧
   IfB x8
   (r = true)
   (r = false))
   (IfB (decide (p3 ≥ (p1.length : Int)))
   (∃ (x11 : Bool), offcutlaw08_awake x11 ∧
   IfB x11
   (r = true)
   (r = false))
   (IfB p1.isEmpty
   (∃ (x14 : Bool) (x15 : List Int) (x16 : List Int), Idx p1 p3 (x14, x15, x16) ∧
   ∃ (x18 : Bool) (x19 : List Int) (x20 : List Int), rat_Add x14 x15 x16 p4 p5 p6 (x18, x19, x20) ∧
   ∃ (x22 : Bool) (x23 : List Int) (x24 : List Int), Idx ([] : List (Bool × (List Int) × (List Int))) p3 (x22, x23, x24) ∧
   False)
   (Fits (([] : List (Bool × (List Int) × (List Int))).length + p1.length) 56 ∧
   ∃ (x27 : Bool) (x28 : List Int) (x29 : List Int), Idx p1 p3 (x27, x28, x29) ∧
   ∃ (x31 : Bool) (x32 : List Int) (x33 : List Int), rat_Add x27 x28 x29 p4 p5 p6 (x31, x32, x33) ∧
   ∃ (x35 : Bool) (x36 : List Int) (x37 : List Int), Idx (([] : List (Bool × (List Int) × (List Int))) ++ p1) p3 (x35, x36, x37) ∧
   ∃ (x39 : Bool), model_Same p0 p1 p2 p0 ((([] : List (Bool × (List Int) × (List Int))) ++ p1).set (Int.toNat p3) (x31, x32, x33)) p2 x39 ∧
   IfB x39
   (∃ (x41 : Int), rat_Sign p4 p5 p6 x41 ∧
   IfB (x41 == (0 : Int))
   (∃ (x44 : Bool), offcutlaw08_awake x44 ∧
   IfB x44
   (r = true)
   (r = false))
   (r = false))
   (∃ (x46 : Int), rat_Sign p4 p5 p6 x46 ∧
   IfB (x46 == (0 : Int))
   (r = false)
   (∃ (x49 : Bool), offcutlaw08_awake x49 ∧
   IfB x49
   (r = true)
   (r = false)))))))
   (r = false))
   (∃ (x51 : Bool), offcutlaw08_awake x51 ∧
   IfB x51
   (r = true)
   (r = false)))
   (∃ (x53 : Bool), offcutlaw08_awake x53 ∧
   IfB x53
   (r = true)
   (r = false))

end Go.Abs
end
