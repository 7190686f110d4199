/- Printed by gen.py: what functions come to, as conditions over numbers and lists. -/
import Derived.Test.YtlphadeogdbmmaaGreatDoorGW
import Derived.Test.YtlphadeogdbmmaaGreatDoorDLin
import Derived.Test.YtlphadeogdbmmaaGreatDoorB10d
namespace Go.Abs
set_option linter.unusedVariables false
set_option linter.unusedSimpArgs false
set_option linter.unnecessarySimpa false

/-- offcut stock.number -/
def stock_number (p0 : List UInt8) (r : Int) : Prop :=
  ∃ (x1 : Int) (x2 : Bool), strconv_Atoi p0 (x1, x2) ∧
  IfB x2
    (r = (-1))
    (∃ (x4 : List UInt8), strings_Trim p0 ([48, 49, 50, 51, 52, 53, 54, 55, 56, 57] : List UInt8) x4 ∧
    IfB (!(x4 == ([] : List UInt8)))
      (r = (-1))
      (∃ (x6 : List UInt8), strings_TrimLeft p0 ([48] : List UInt8) x6 ∧
      IfB (decide ((x6.length : Int) > (9 : Int)))
        (r = (-1))
        (IfB (decide ((p0.length : Int) > (400 : Int)))
          (r = (-1))
          (r = x1))))

def stock_line_L1 (p0 : List (List UInt8)) (r : (List Int) × Bool) (X1 : (Int × (List Int)) → Prop) (s : Int × (List Int)) : Prop := match s with
  | (s100, s151) =>
  IfB (decide (s100 < ((sub p0 (1 : Int) (p0.length : Int)).length : Int)))
    (∃ (x4 : List UInt8), Idx (sub p0 (1 : Int) (p0.length : Int)) s100 x4 ∧
    ∃ (x6 : Int), stock_number x4 x6 ∧
    Fits (s151.length + [x6].length) 8 ∧
    X1 ((IntKind.i64.wrap (s100 + 1)), (s151 ++ [x6])))
    (r = (s151, true))

/-- offcut stock.line -/
def stock_line (p0 : List (List UInt8)) (p1 : List UInt8) (p2 : Int) (r : (List Int) × Bool) : Prop :=
  IfB ((p0.length : Int) != (IntKind.i64.wrap (p2 + 1)))
    (r = (([] : List Int), false))
    (∃ (x1 : List UInt8), Idx p0 (0 : Int) x1 ∧
    IfB (!(x1 == p1))
      (r = (([] : List Int), false))
      (SubOk p0 (1 : Int) (p0.length : Int) ∧
      LoopP (stock_line_L1 p0 r) ((0 : Int), ([] : List Int))))

/-- offcut stock.in -/
def stock_in (p0 : Int) (p1 : Int) (p2 : Int) (r : Bool) : Prop :=
  IfB (decide (p0 ≥ p1))
    (IfB (decide (p0 ≤ p2))
      (r = true)
      (r = false))
    (r = false)

/-- offcut stock.item -/
def stock_item (p0 : Int) (p1 : Int) (r : Bool) : Prop :=
  ∃ (x1 : Bool), stock_in p0 (1 : Int) (1048576 : Int) x1 ∧
  IfB x1
    (∃ (x3 : Bool), stock_in p1 (0 : Int) (1024 : Int) x3 ∧
    IfB x3
      (r = true)
      (r = false))
    (r = false)

def stock_Parse_L1 (x1 : List (Int × (List (List UInt8)))) (r : Int × (List (Int × Int)) × Int × Int) (X1 : (Int × Int × (List (Int × Int))) → Prop) (s : Int × Int × (List (Int × Int))) : Prop := match s with
  | (s100, s101, s152) =>
  IfB (decide (s100 < (x1.length : Int)))
    (∃ (x4 : Int) (x5 : List (List UInt8)), Idx x1 s100 (x4, x5) ∧
    IfB (s100 == (0 : Int))
      (∃ (x7 : List Int) (x8 : Bool), stock_line x5 ([114, 111, 108, 108] : List UInt8) (1 : Int) (x7, x8) ∧
      IfB x8
        (∃ (x10 : Int), Idx x7 (0 : Int) x10 ∧
        ∃ (x12 : Bool), stock_in x10 (1 : Int) (1048576 : Int) x12 ∧
        IfB x12
          (∃ (x14 : Int), Idx x7 (0 : Int) x14 ∧
          X1 ((IntKind.i64.wrap (s100 + 1)), x14, s152))
          (r = (0, ([] : List (Int × Int)), x4, 2)))
        (r = (0, ([] : List (Int × Int)), x4, 2)))
      (∃ (x16 : List Int) (x17 : Bool), stock_line x5 ([105, 116, 101, 109] : List UInt8) (2 : Int) (x16, x17) ∧
      IfB x17
        (∃ (x19 : Int), Idx x16 (0 : Int) x19 ∧
        ∃ (x21 : Int), Idx x16 (1 : Int) x21 ∧
        ∃ (x23 : Bool), stock_item x19 x21 x23 ∧
        IfB x23
          (IfB ((s152.length : Int) == (60 : Int))
            (r = (0, ([] : List (Int × Int)), x4, 4))
            (∃ (x25 : Int), Idx x16 (0 : Int) x25 ∧
            ∃ (x27 : Int), Idx x16 (1 : Int) x27 ∧
            Fits (s152.length + [(x25, x27)].length) 16 ∧
            X1 ((IntKind.i64.wrap (s100 + 1)), s101, (s152 ++ [(x25, x27)]))))
          (r = (0, ([] : List (Int × Int)), x4, 2)))
        (r = (0, ([] : List (Int × Int)), x4, 2))))
    (r = (s101, s152, 0, 0))

/-- offcut stock.Parse -/
def stock_Parse (p0 : List UInt8) (r : Int × (List (Int × Int)) × Int × Int) : Prop :=
  ∃ (x1 : List (Int × (List (List UInt8)))) (x2 : Int), lines_All p0 (x1, x2) ∧
  IfB (x2 != (0 : Int))
    (r = (0, ([] : List (Int × Int)), 0, x2))
    (IfB ((x1.length : Int) == (0 : Int))
      (r = (0, ([] : List (Int × Int)), 0, 2))
      (LoopP (stock_Parse_L1 x1 r) ((0 : Int), (0 : Int), ([] : List (Int × Int)))))

def offcutlaw10_same_L1 (p1 : List (Int × Int)) (p3 : List Int) (p4 : List Int) (r : Bool) (X1 : Int → Prop) (s : Int) : Prop := match s with
  | s100 =>
  IfB (decide (s100 < (p1.length : Int)))
    (∃ (x1 : Int) (x2 : Int), Idx p1 s100 (x1, x2) ∧
    ∃ (x4 : Int), Idx p3 s100 x4 ∧
    IfB (x1 != x4)
      (r = false)
      (∃ (x6 : Int), Idx p4 s100 x6 ∧
      IfB (x2 != x6)
        (r = false)
        (X1 (IntKind.i64.wrap (s100 + 1)))))
    (r = true)

/-- offcut offcutlaw10.same -/
def offcutlaw10_same (p0 : Int) (p1 : List (Int × Int)) (p2 : Int) (p3 : List Int) (p4 : List Int) (r : Bool) : Prop :=
  IfB (p0 != p2)
    (r = false)
    (IfB ((p1.length : Int) != (p3.length : Int))
      (r = false)
      (LoopP (offcutlaw10_same_L1 p1 p3 p4 r) (0 : Int)))

def offcutref10_number_L1 (p0 : List UInt8) (p1 : Int) (r : Int) (X1 : (Int × Int) → Prop) (s : Int × Int) : Prop := match s with
  | (s100, s101) =>
  IfB (decide (s101 < (p0.length : Int)))
    (∃ (c1 : UInt8), Idx p0 s101 c1 ∧
    IfB (decide (((c1.toNat : Nat) : Int) < (48 : Int)))
      (r = (-1))
      (∃ (c3 : UInt8), Idx p0 s101 c3 ∧
      IfB (decide (((c3.toNat : Nat) : Int) > (57 : Int)))
        (r = (-1))
        (IfB (decide (s100 ≤ p1))
          (∃ (c5 : UInt8), Idx p0 s101 c5 ∧
          X1 ((IntKind.i64.wrap ((IntKind.i64.wrap (s100 * 10)) + (IntKind.i64.wrap (IntKind.u8.wrap (((c5.toNat : Nat) : Int) - 48))))), (IntKind.i64.wrap (s101 + 1))))
          (X1 (s100, (IntKind.i64.wrap (s101 + 1)))))))
    (IfB (p0 == ([] : List UInt8))
      (r = (-1))
      (IfB (decide ((p0.length : Int) > (400 : Int)))
        (r = (-1))
        (IfB (decide (s100 > p1))
          (r = (-1))
          (r = s100))))

/-- offcut offcutref10.number -/
def offcutref10_number (p0 : List UInt8) (p1 : Int) (r : Int) : Prop :=
  LoopP (offcutref10_number_L1 p0 p1 r) ((0 : Int), (0 : Int))

def offcutref10_Parse_L1 (x1 : List (Int × (List (List UInt8)))) (r : Int × (List Int) × (List Int) × Int × Int) (X1 : (Int × Int × (List Int) × (List Int)) → Prop) (s : Int × Int × (List Int) × (List Int)) : Prop := match s with
  | (s100, s101, s153, s154) =>
  IfB (decide (s100 < (x1.length : Int)))
    (∃ (x3 : Int) (x4 : List (List UInt8)), Idx x1 s100 (x3, x4) ∧
    IfB (s100 == (0 : Int))
      (IfB ((x4.length : Int) != (2 : Int))
        (∃ (x6 : Int) (x7 : List (List UInt8)), Idx x1 s100 (x6, x7) ∧
        r = (0, ([] : List Int), ([] : List Int), x6, 2))
        (∃ (x9 : List UInt8), Idx x4 (0 : Int) x9 ∧
        IfB (!(x9 == ([114, 111, 108, 108] : List UInt8)))
          (∃ (x11 : Int) (x12 : List (List UInt8)), Idx x1 s100 (x11, x12) ∧
          r = (0, ([] : List Int), ([] : List Int), x11, 2))
          (∃ (x14 : List UInt8), Idx x4 (1 : Int) x14 ∧
          ∃ (x16 : Int), offcutref10_number x14 (1048576 : Int) x16 ∧
          IfB (decide (x16 < (1 : Int)))
            (∃ (x18 : Int) (x19 : List (List UInt8)), Idx x1 s100 (x18, x19) ∧
            r = (0, ([] : List Int), ([] : List Int), x18, 2))
            (∃ (x21 : List UInt8), Idx x4 (1 : Int) x21 ∧
            ∃ (x23 : Int), offcutref10_number x21 (1048576 : Int) x23 ∧
            X1 ((IntKind.i64.wrap (s100 + 1)), x23, s153, s154)))))
      (IfB ((x4.length : Int) != (3 : Int))
        (∃ (x25 : Int) (x26 : List (List UInt8)), Idx x1 s100 (x25, x26) ∧
        r = (0, ([] : List Int), ([] : List Int), x25, 2))
        (∃ (x28 : List UInt8), Idx x4 (0 : Int) x28 ∧
        IfB (!(x28 == ([105, 116, 101, 109] : List UInt8)))
          (∃ (x30 : Int) (x31 : List (List UInt8)), Idx x1 s100 (x30, x31) ∧
          r = (0, ([] : List Int), ([] : List Int), x30, 2))
          (∃ (x33 : List UInt8), Idx x4 (1 : Int) x33 ∧
          ∃ (x35 : Int), offcutref10_number x33 (1048576 : Int) x35 ∧
          IfB (decide (x35 < (1 : Int)))
            (∃ (x37 : Int) (x38 : List (List UInt8)), Idx x1 s100 (x37, x38) ∧
            r = (0, ([] : List Int), ([] : List Int), x37, 2))
            (∃ (x40 : List UInt8), Idx x4 (2 : Int) x40 ∧
            ∃ (x42 : Int), offcutref10_number x40 (1024 : Int) x42 ∧
            IfB (decide (x42 < (0 : Int)))
              (∃ (x44 : Int) (x45 : List (List UInt8)), Idx x1 s100 (x44, x45) ∧
              r = (0, ([] : List Int), ([] : List Int), x44, 2))
              (IfB ((s153.length : Int) == (60 : Int))
                (∃ (x47 : Int) (x48 : List (List UInt8)), Idx x1 s100 (x47, x48) ∧
                r = (0, ([] : List Int), ([] : List Int), x47, 4))
                (∃ (x50 : List UInt8), Idx x4 (1 : Int) x50 ∧
                ∃ (x52 : Int), offcutref10_number x50 (1048576 : Int) x52 ∧
                Fits (s153.length + [x52].length) 8 ∧
                ∃ (x55 : List UInt8), Idx x4 (2 : Int) x55 ∧
                ∃ (x57 : Int), offcutref10_number x55 (1024 : Int) x57 ∧
                Fits (s154.length + [x57].length) 8 ∧
                X1 ((IntKind.i64.wrap (s100 + 1)), s101, (s153 ++ [x52]), (s154 ++ [x57])))))))))
    (r = (s101, s153, s154, 0, 0))

/-- offcut offcutref10.Parse -/
def offcutref10_Parse (p0 : List UInt8) (r : Int × (List Int) × (List Int) × Int × Int) : Prop :=
  ∃ (x1 : List (Int × (List (List UInt8)))), offcutref07_All p0 x1 ∧
  IfB ((x1.length : Int) == (0 : Int))
    (r = (0, ([] : List Int), ([] : List Int), 0, 2))
    (LoopP (offcutref10_Parse_L1 x1 r) ((0 : Int), (0 : Int), ([] : List Int), ([] : List Int)))

/-- offcut offcutlaw10.StockParses -/
def offcutlaw10_StockParses (p0 : List UInt8) (r : Bool) : Prop :=
  IfB (decide ((p0.length : Int) > (3000 : Int)))
    (∃ (x1 : Bool), offcutlaw10_awake x1 ∧
    IfB x1
      (r = true)
      (r = false))
    (∃ (x3 : Int) (x4 : List (Int × Int)) (x5 : Int) (x6 : Int), stock_Parse p0 (x3, x4, x5, x6) ∧
    ∃ (x8 : Bool), offcutref07_Right p0 x8 ∧
    IfB x8
      (∃ (x10 : Int) (x11 : List Int) (x12 : List Int) (x13 : Int) (x14 : Int), offcutref10_Parse p0 (x10, x11, x12, x13, x14) ∧
      ∃ (x16 : Bool), offcutlaw10_same x3 x4 x10 x11 x12 x16 ∧
      IfB x16
        (IfB (x5 == x13)
          (IfB (x6 == x14)
            (∃ (x18 : Bool), offcutlaw10_awake x18 ∧
            IfB x18
              (r = true)
              (r = false))
            (r = false))
          (r = false))
        (r = false))
      (∃ (x20 : Bool), offcutlaw10_same x3 x4 (0 : Int) ([] : List Int) ([] : List Int) x20 ∧
      IfB x20
        (IfB (x5 == (0 : Int))
          (IfB (x6 == (2 : Int))
            (∃ (x22 : Bool), offcutlaw10_awake x22 ∧
            IfB x22
              (r = true)
              (r = false))
            (r = false))
          (r = false))
        (r = false)))

/-- offcut stock.Right 1 -/
def stock_Right_1 (p0 : Int) (p1 : Int) (r : Bool) : Prop :=
  ∃ (x1 : Bool), stock_item p0 p1 x1 ∧
  IfB x1
    (r = false)
    (r = true)

def stock_Right_L1 (p1 : List (Int × Int)) (r : Bool) (X1 : Int → Prop) (s : Int) : Prop := match s with
  | s100 =>
  IfB (decide (s100 < (p1.length : Int)))
    (∃ (x3 : Int) (x4 : Int), Idx p1 s100 (x3, x4) ∧
    ∃ (x6 : Bool), stock_Right_1 x3 x4 x6 ∧
    IfB x6
      (IfB (decide (s100 ≥ (0 : Int)))
        (r = false)
        (r = true))
      (X1 (IntKind.i64.wrap (s100 + 1))))
    (r = true)

/-- offcut stock.Right -/
def stock_Right (p0 : Int) (p1 : List (Int × Int)) (r : Bool) : Prop :=
  ∃ (x1 : Bool), stock_in p0 (1 : Int) (1048576 : Int) x1 ∧
  IfB x1
    (IfB (decide ((p1.length : Int) ≤ (60 : Int)))
      (LoopP (stock_Right_L1 p1 r) (0 : Int))
      (r = false))
    (r = false)

def stock_Print_L1 (p1 : List (Int × Int)) (r : (List UInt8) × Int) (X1 : ((List UInt8) × Int) → Prop) (s : (List UInt8) × Int) : Prop := match s with
  | (s100, s101) =>
  IfB (decide (s101 < (p1.length : Int)))
    (∃ (x8 : Int) (x9 : Int), Idx p1 s101 (x8, x9) ∧
    ∃ (x11 : List UInt8), strconv_Itoa x8 x11 ∧
    ∃ (x13 : List UInt8), strconv_Itoa x9 x13 ∧
    ∃ (x15 : List UInt8), lines_Join [([105, 116, 101, 109] : List UInt8), x11, x13] x15 ∧
    Fits (x15.length + ([10] : List UInt8).length) 1 ∧
    Fits (s100.length + (x15 ++ ([10] : List UInt8)).length) 1 ∧
    X1 ((s100 ++ (x15 ++ ([10] : List UInt8))), (IntKind.i64.wrap (s101 + 1))))
    (r = (s100, 0))

/-- offcut stock.Print -/
def stock_Print (p0 : Int) (p1 : List (Int × Int)) (r : (List UInt8) × Int) : Prop :=
  ∃ (x1 : Bool), stock_Right p0 p1 x1 ∧
  IfB x1
    (∃ (x3 : List UInt8), strconv_Itoa p0 x3 ∧
    ∃ (x5 : List UInt8), lines_Join [([114, 111, 108, 108] : List UInt8), x3] x5 ∧
    Fits (x5.length + ([10] : List UInt8).length) 1 ∧
    LoopP (stock_Print_L1 p1 r) ((x5 ++ ([10] : List UInt8)), (0 : Int)))
    (r = (([] : List UInt8), 1))

def offcutref10_Right_L1 (p1 : List Int) (p2 : List Int) (r : Bool) (X1 : Int → Prop) (s : Int) : Prop := match s with
  | s100 =>
  IfB (decide (s100 < (p1.length : Int)))
    (∃ (x1 : Int), Idx p1 s100 x1 ∧
    IfB (decide (x1 < (1 : Int)))
      (r = false)
      (∃ (x3 : Int), Idx p1 s100 x3 ∧
      IfB (decide (x3 > (1048576 : Int)))
        (r = false)
        (∃ (x5 : Int), Idx p2 s100 x5 ∧
        IfB (decide (x5 < (0 : Int)))
          (r = false)
          (∃ (x7 : Int), Idx p2 s100 x7 ∧
          IfB (decide (x7 > (1024 : Int)))
            (r = false)
            (X1 (IntKind.i64.wrap (s100 + 1)))))))
    (r = true)

/-- offcut offcutref10.Right -/
def offcutref10_Right (p0 : Int) (p1 : List Int) (p2 : List Int) (r : Bool) : Prop :=
  IfB (decide (p0 < (1 : Int)))
    (r = false)
    (IfB (decide (p0 > (1048576 : Int)))
      (r = false)
      (IfB (decide ((p1.length : Int) > (60 : Int)))
        (r = false)
        (IfB ((p1.length : Int) != (p2.length : Int))
          (r = false)
          (LoopP (offcutref10_Right_L1 p1 p2 r) (0 : Int)))))

def offcutlaw10_Of_L1 (p0 : Int) (p1 : List (Int × Int)) (r : Int × (List Int) × (List Int)) (X1 : (Int × (List Int) × (List Int)) → Prop) (s : Int × (List Int) × (List Int)) : Prop := match s with
  | (s100, s154, s155) =>
  IfB (decide (s100 < (p1.length : Int)))
    (∃ (x1 : Int) (x2 : Int), Idx p1 s100 (x1, x2) ∧
    Fits (s154.length + [x1].length) 8 ∧
    Fits (s155.length + [x2].length) 8 ∧
    X1 ((IntKind.i64.wrap (s100 + 1)), (s154 ++ [x1]), (s155 ++ [x2])))
    (r = (p0, s154, s155))

/-- offcut offcutlaw10.Of -/
def offcutlaw10_Of (p0 : Int) (p1 : List (Int × Int)) (r : Int × (List Int) × (List Int)) : Prop :=
  LoopP (offcutlaw10_Of_L1 p0 p1 r) ((0 : Int), ([] : List Int), ([] : List Int))

def stock_Total_L2 (s101 : Int) (X1 : (Int × Int × Int) → Prop) (x4 : Int) (X2 : (Int × Int × Int) → Prop) (s : Int × Int × Int) : Prop := match s with
  | (s200, s201, s202) =>
  IfB (decide (s201 < x4))
    (X2 ((IntKind.i64.wrap (s200 + 1)), (IntKind.i64.wrap (s201 + 1)), (IntKind.i64.wrap (s202 + 1))))
    (X1 (s200, (IntKind.i64.wrap (s101 + 1)), s202))

def stock_Total_L1 (p1 : List (Int × Int)) (r : Int) (X1 : (Int × Int × Int) → Prop) (s : Int × Int × Int) : Prop := match s with
  | (s100, s101, s102) =>
  IfB (decide (s101 < (p1.length : Int)))
    (∃ (x3 : Int) (x4 : Int), Idx p1 s101 (x3, x4) ∧
    LoopP (stock_Total_L2 s101 X1 x4) (s100, (0 : Int), s102))
    (r = s102)

/-- offcut stock.Total -/
def stock_Total (p0 : Int) (p1 : List (Int × Int)) (r : Int) : Prop :=
  ∃ (x1 : Bool), stock_Right p0 p1 x1 ∧
  IfB x1
    (LoopP (stock_Total_L1 p1 r) ((0 : Int), (0 : Int), (0 : Int)))
    (r = 0)

def stock_Wide_L2 (p0 : Int) (s101 : Int) (X1 : (Int × Int) → Prop) (x3 : Int) (x4 : Int) (r : Bool) (X2 : (Int × Int) → Prop) (s : Int × Int) : Prop := match s with
  | (s200, s201) =>
  IfB (decide (s201 < x4))
    (IfB (decide (x3 > p0))
      (r = true)
      (X2 ((IntKind.i64.wrap (s200 + 1)), (IntKind.i64.wrap (s201 + 1)))))
    (X1 (s200, (IntKind.i64.wrap (s101 + 1))))

def stock_Wide_L1 (p0 : Int) (p1 : List (Int × Int)) (r : Bool) (X1 : (Int × Int) → Prop) (s : Int × Int) : Prop := match s with
  | (s100, s101) =>
  IfB (decide (s101 < (p1.length : Int)))
    (∃ (x3 : Int) (x4 : Int), Idx p1 s101 (x3, x4) ∧
    LoopP (stock_Wide_L2 p0 s101 X1 x3 x4 r) (s100, (0 : Int)))
    (r = false)

/-- offcut stock.Wide -/
def stock_Wide (p0 : Int) (p1 : List (Int × Int)) (r : Bool) : Prop :=
  ∃ (x1 : Bool), stock_Right p0 p1 x1 ∧
  IfB x1
    (LoopP (stock_Wide_L1 p0 p1 r) ((0 : Int), (0 : Int)))
    (r = false)

/-- offcut offcutlaw10.StockPrints -/
def offcutlaw10_StockPrints (p0 : Int) (p1 : List (Int × Int)) (r : Bool) : Prop :=
  IfB (decide ((p1.length : Int) > (100 : Int)))
    (∃ (x1 : Bool), offcutlaw10_awake x1 ∧
    IfB x1
      (r = true)
      (r = false))
    (∃ (x3 : List UInt8) (x4 : Int), stock_Print p0 p1 (x3, x4) ∧
    ∃ (x6 : Bool), stock_Right p0 p1 x6 ∧
    IfB x6
      (∃ (x8 : Int) (x9 : List Int) (x10 : List Int), offcutlaw10_Of p0 p1 (x8, x9, x10) ∧
      ∃ (x12 : Bool), offcutref10_Right x8 x9 x10 x12 ∧
      IfB x12
        (∃ (x14 : Int) (x15 : List Int) (x16 : List Int), offcutlaw10_Of p0 p1 (x14, x15, x16) ∧
        ∃ (x18 : Bool), offcutref10_Right x14 x15 x16 x18 ∧
        IfB x18
          (∃ (x20 : Int) (x21 : List (Int × Int)) (x22 : Int) (x23 : Int), stock_Parse x3 (x20, x21, x22, x23) ∧
          IfB (x4 == (0 : Int))
            (IfB (x23 == (0 : Int))
              (IfB (x22 == (0 : Int))
                (∃ (x25 : Int) (x26 : List Int) (x27 : List Int), offcutlaw10_Of p0 p1 (x25, x26, x27) ∧
                ∃ (x29 : Bool), offcutlaw10_same x20 x21 x25 x26 x27 x29 ∧
                IfB x29
                  (∃ (x31 : Bool), offcutlaw10_awake x31 ∧
                  IfB x31
                    (r = true)
                    (r = false))
                  (r = false))
                (r = false))
              (r = false))
            (r = false))
          (IfB (x3 == ([] : List UInt8))
            (IfB (x4 == (1 : Int))
              (∃ (x33 : Int), stock_Total p0 p1 x33 ∧
              IfB (x33 == (0 : Int))
                (∃ (x35 : Bool), stock_Wide p0 p1 x35 ∧
                IfB x35
                  (r = false)
                  (∃ (x37 : Bool), offcutlaw10_awake x37 ∧
                  IfB x37
                    (r = true)
                    (r = false)))
                (r = false))
              (r = false))
            (r = false)))
        (r = false))
      (∃ (x39 : Int) (x40 : List Int) (x41 : List Int), offcutlaw10_Of p0 p1 (x39, x40, x41) ∧
      ∃ (x43 : Bool), offcutref10_Right x39 x40 x41 x43 ∧
      IfB x43
        (r = false)
        (∃ (x45 : Int) (x46 : List Int) (x47 : List Int), offcutlaw10_Of p0 p1 (x45, x46, x47) ∧
        ∃ (x49 : Bool), offcutref10_Right x45 x46 x47 x49 ∧
        IfB x49
          (∃ (x51 : Int) (x52 : List (Int × Int)) (x53 : Int) (x54 : Int), stock_Parse x3 (x51, x52, x53, x54) ∧
          IfB (x4 == (0 : Int))
            (IfB (x54 == (0 : Int))
              (IfB (x53 == (0 : Int))
                (∃ (x56 : Int) (x57 : List Int) (x58 : List Int), offcutlaw10_Of p0 p1 (x56, x57, x58) ∧
                ∃ (x60 : Bool), offcutlaw10_same x51 x52 x56 x57 x58 x60 ∧
                IfB x60
                  (∃ (x62 : Bool), offcutlaw10_awake x62 ∧
                  IfB x62
                    (r = true)
                    (r = false))
                  (r = false))
                (r = false))
              (r = false))
            (r = false))
          (IfB (x3 == ([] : List UInt8))
            (IfB (x4 == (1 : Int))
              (∃ (x64 : Int), stock_Total p0 p1 x64 ∧
              IfB (x64 == (0 : Int))
                (∃ (x66 : Bool), stock_Wide p0 p1 x66 ∧
                IfB x66
                  (r = false)
                  (∃ (x68 : Bool), offcutlaw10_awake x68 ∧
                  IfB x68
                    (r = true)
                    (r = false)))
                (r = false))
              (r = false))
            (r = false)))))

def offcutlaw10_StockMany_L1 (p0 : Int) (p1 : Int) (r : Bool) (X1 : (Int × (List (Int × Int))) → Prop) (s : Int × (List (Int × Int))) : Prop := match s with
  | (s100, s150) =>
  IfB (decide (s100 < (60 : Int)))
    (Fits (s150.length + [(p0, p1)].length) 16 ∧
    X1 ((IntKind.i64.wrap (s100 + 1)), (s150 ++ [(p0, p1)])))
    (∃ (x10 : List UInt8) (x11 : Int), stock_Print (1 : Int) s150 (x10, x11) ∧
    Fits (x10.length + ([105, 116, 101, 109, 32, 49, 32, 49] : List UInt8).length) 1 ∧
    ∃ (x14 : Int) (x15 : List (Int × Int)) (x16 : Int) (x17 : Int), stock_Parse (x10 ++ ([105, 116, 101, 109, 32, 49, 32, 49] : List UInt8)) (x14, x15, x16, x17) ∧
    Fits (s150.length + [((1 : Int), (0 : Int))].length) 16 ∧
    IfB (x11 == (0 : Int))
      (IfB (x16 == (62 : Int))
        (IfB (x17 == (4 : Int))
          (∃ (x20 : Bool), stock_Right (1 : Int) (s150 ++ [((1 : Int), (0 : Int))]) x20 ∧
          IfB x20
            (r = false)
            (∃ (x22 : Bool), offcutlaw10_awake x22 ∧
            IfB x22
              (r = true)
              (r = false)))
          (r = false))
        (r = false))
      (r = false))

/-- offcut offcutlaw10.StockMany -/
def offcutlaw10_StockMany (p0 : Int) (p1 : Int) (r : Bool) : Prop :=
  IfB (decide (p0 < (1 : Int)))
    (∃ (x1 : Bool), offcutlaw10_awake x1 ∧
    IfB x1
      (r = true)
      (r = false))
    (IfB (decide (p0 > (1048576 : Int)))
      (∃ (x3 : Bool), offcutlaw10_awake x3 ∧
      IfB x3
        (r = true)
        (r = false))
      (IfB (decide (p1 < (0 : Int)))
        (∃ (x5 : Bool), offcutlaw10_awake x5 ∧
        IfB x5
          (r = true)
          (r = false))
        (IfB (decide (p1 > (1024 : Int)))
          (∃ (x7 : Bool), offcutlaw10_awake x7 ∧
          IfB x7
            (r = true)
            (r = false))
          (LoopP (offcutlaw10_StockMany_L1 p0 p1 r) ((0 : Int), ([] : List (Int × Int)))))))

/-- offcut offcutlaw10.StockAgain -/
def offcutlaw10_StockAgain (p0 : List UInt8) (r : Bool) : Prop :=
  IfB (decide ((p0.length : Int) > (3000 : Int)))
    (∃ (x1 : Bool), offcutlaw10_awake x1 ∧
    IfB x1
      (r = true)
      (r = false))
    (∃ (x3 : Int) (x4 : List (Int × Int)) (x5 : Int) (x6 : Int), stock_Parse p0 (x3, x4, x5, x6) ∧
    IfB (x6 != (0 : Int))
      (∃ (x8 : Bool), offcutlaw10_awake x8 ∧
      IfB x8
        (r = true)
        (r = false))
      (∃ (x10 : List UInt8) (x11 : Int), stock_Print x3 x4 (x10, x11) ∧
      ∃ (x13 : Int) (x14 : List (Int × Int)) (x15 : Int) (x16 : Int), stock_Parse x10 (x13, x14, x15, x16) ∧
      ∃ (x18 : List UInt8) (x19 : Int), stock_Print x13 x14 (x18, x19) ∧
      IfB (x11 == (0 : Int))
        (IfB (x16 == (0 : Int))
          (IfB (x19 == (0 : Int))
            (IfB (x10 == x18)
              (∃ (x21 : Int) (x22 : List Int) (x23 : List Int), offcutlaw10_Of x3 x4 (x21, x22, x23) ∧
              ∃ (x25 : Bool), offcutlaw10_same x13 x14 x21 x22 x23 x25 ∧
              IfB x25
                (∃ (x27 : Int), stock_Total x3 x4 x27 ∧
                ∃ (x29 : Int), stock_Total x13 x14 x29 ∧
                IfB (x27 == x29)
                  (∃ (x31 : Bool), offcutlaw10_awake x31 ∧
                  IfB x31
                    (r = true)
                    (r = false))
                  (r = false))
                (r = false))
              (r = false))
            (r = false))
          (r = false))
        (r = false)))

end Go.Abs
