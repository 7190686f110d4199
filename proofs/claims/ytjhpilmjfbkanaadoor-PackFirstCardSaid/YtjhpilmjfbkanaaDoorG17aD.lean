/- Printed by gen.py: what functions come to, as conditions over numbers and lists. -/
import Derived.Test.YtjhpilmjfbkanaaDoorGW
import Derived.Test.YtjhpilmjfbkanaaDoorM17d
namespace Go.Abs
set_option linter.unusedVariables false
set_option linter.unusedSimpArgs false
set_option linter.unnecessarySimpa false

def f18_L4 (p0 : List Int) (s200 : Int) (s300 : Int) (X3 : (Int × (List Int)) → Prop) (X4 : (Int × (List Int)) → Prop) (s : Int × (List Int)) : Prop := match s with
  | (s400, s452) =>
  IfB (decide (s400 > s200))
    (∃ (x2 : Int), Idx s452 s400 x2 ∧
    ∃ (x4 : Int), Idx s452 (IntKind.i64.wrap (s400 - 1)) x4 ∧
    ∃ (y6 : Int), (∃ (x8 : Int), Idx p0 x4 x8 ∧
      ∃ (x10 : Int), Idx p0 x2 x10 ∧
      y6 = (IntKind.i64.wrap (x8 - x10))) ∧
    IfB (decide (y6 < (0 : Int)))
      (∃ (x12 : Int), Idx s452 (IntKind.i64.wrap (s400 - 1)) x12 ∧
      ∃ (x14 : Int), Idx s452 s400 x14 ∧
      ∃ (x16 : Int), Idx s452 s400 x16 ∧
      ∃ (x18 : Int), Idx (s452.set (Int.toNat s400) x12) (IntKind.i64.wrap (s400 - 1)) x18 ∧
      X4 ((IntKind.i64.wrap (s400 - 1)), ((s452.set (Int.toNat s400) x12).set (Int.toNat (IntKind.i64.wrap (s400 - 1))) x14)))
      (X3 ((IntKind.i64.wrap (s300 + 1)), s452)))
    (X3 ((IntKind.i64.wrap (s300 + 1)), s452))

def f18_L3 (p0 : List Int) (s200 : Int) (s201 : Int) (X2 : (Int × Int × (List Int)) → Prop) (X3 : (Int × (List Int)) → Prop) (s : Int × (List Int)) : Prop := match s with
  | (s300, s352) =>
  IfB (decide (s300 < s201))
    (LoopP (f18_L4 p0 s200 s300 X3) (s300, s352))
    (X2 (s201, (IntKind.i64.wrap (s201 + 20)), s352))

def f18_L6 (p0 : List Int) (s200 : Int) (s500 : Int) (X5 : (Int × (List Int)) → Prop) (X6 : (Int × (List Int)) → Prop) (s : Int × (List Int)) : Prop := match s with
  | (s600, s652) =>
  IfB (decide (s600 > s200))
    (∃ (x20 : Int), Idx s652 s600 x20 ∧
    ∃ (x22 : Int), Idx s652 (IntKind.i64.wrap (s600 - 1)) x22 ∧
    ∃ (y24 : Int), (∃ (x26 : Int), Idx p0 x22 x26 ∧
      ∃ (x28 : Int), Idx p0 x20 x28 ∧
      y24 = (IntKind.i64.wrap (x26 - x28))) ∧
    IfB (decide (y24 < (0 : Int)))
      (∃ (x30 : Int), Idx s652 (IntKind.i64.wrap (s600 - 1)) x30 ∧
      ∃ (x32 : Int), Idx s652 s600 x32 ∧
      ∃ (x34 : Int), Idx s652 s600 x34 ∧
      ∃ (x36 : Int), Idx (s652.set (Int.toNat s600) x30) (IntKind.i64.wrap (s600 - 1)) x36 ∧
      X6 ((IntKind.i64.wrap (s600 - 1)), ((s652.set (Int.toNat s600) x30).set (Int.toNat (IntKind.i64.wrap (s600 - 1))) x32)))
      (X5 ((IntKind.i64.wrap (s500 + 1)), s652)))
    (X5 ((IntKind.i64.wrap (s500 + 1)), s652))

def f18_L8 (s152 : List Int) (s700 : Int) (X7 : Int → Prop) (X8 : Unit → Prop) (s : Unit) : Prop := match s with
  | () =>
  IfB (decide ((IntKind.i64.wrap (2 * s700)) ≤ (s152.length : Int)))
    (False)
    (IfB (decide ((IntKind.i64.wrap (0 + s700)) < (s152.length : Int)))
      (False)
      (X7 (IntKind.i64.wrap (s700 * 2))))

def f18_L7 (s152 : List Int) (s552 : List Int) (r : (List Int)) (X7 : Int → Prop) (s : Int) : Prop := match s with
  | s700 =>
  IfB (decide (s700 < (s152.length : Int)))
    (LoopP (f18_L8 s152 s700 X7) ())
    (r = s552)

def f18_L5 (p0 : List Int) (s152 : List Int) (s200 : Int) (r : (List Int)) (X5 : (Int × (List Int)) → Prop) (s : Int × (List Int)) : Prop := match s with
  | (s500, s552) =>
  IfB (decide (s500 < (s152.length : Int)))
    (LoopP (f18_L6 p0 s200 s500 X5) (s500, s552))
    (LoopP (f18_L7 s152 s552 r) (20 : Int))

def f18_L2 (p0 : List Int) (s152 : List Int) (r : (List Int)) (X2 : (Int × Int × (List Int)) → Prop) (s : Int × Int × (List Int)) : Prop := match s with
  | (s200, s201, s252) =>
  IfB (decide (s201 ≤ (s152.length : Int)))
    (LoopP (f18_L3 p0 s200 s201 X2) ((IntKind.i64.wrap (s200 + 1)), s252))
    (LoopP (f18_L5 p0 s152 s200 r) ((IntKind.i64.wrap (s200 + 1)), s252))

def f18_L1 (p0 : List Int) (r : (List Int)) (X1 : (Int × (List Int)) → Prop) (s : Int × (List Int)) : Prop := match s with
  | (s100, s152) =>
  IfB (decide (s100 < (p0.length : Int)))
    (Fits (s152.length + [s100].length) 8 ∧
    X1 ((IntKind.i64.wrap (s100 + 1)), (s152 ++ [s100])))
    (LoopP (f18_L2 p0 s152 r) ((0 : Int), (20 : Int), s152))

/-- offcut pack.order -/
def f18 (p0 : List Int) (r : (List Int)) : Prop :=
  LoopP (f18_L1 p0 r) ((0 : Int), ([] : List Int))

/-- offcut pack.Least -/
def f11 (p0 : Int) (p1 : List Int) (r : Int) : Prop :=
  ∃ (x1 : Bool), f9 p0 p1 x1 ∧
  IfB x1
    (0 ≤ (p1.length : Int) ∧
    ∃ (x4 : Int), f20 p1 (IntKind.i64.wrap ((IntKind.i64.wrap ((1 : Int) * 2 ^ (min (Int.toNat (p1.length : Int)) (IntKind.bits .i64)))) - 1)) x4 ∧
    p0 ≠ 0 ∧
    r = (IntKind.i64.wrap (Int.tdiv (IntKind.i64.wrap ((IntKind.i64.wrap (x4 + p0)) - 1)) p0)))
    (r = 0)

def f8_L2 (p0 : Int) (p1 : List Int) (s100 : Int) (s153 : List Int) (X1 : (Int × (List Int)) → Prop) (x5 : Int) (X2 : Int → Prop) (s : Int) : Prop := match s with
  | s200 =>
  IfB (decide (s200 < (s153.length : Int)))
    (∃ (x7 : Int), Idx s153 s200 x7 ∧
    ∃ (x9 : Int), f20 p1 x7 x9 ∧
    ∃ (x11 : Int), Idx p1 x5 x11 ∧
    IfB (decide ((IntKind.i64.wrap (x9 + x11)) ≤ p0))
      (IfB (decide (s200 < (0 : Int)))
        (Fits (s153.length + [(0 : Int)].length) 8 ∧
        ∃ (x14 : Int), Idx (s153 ++ [(0 : Int)]) (s153.length : Int) x14 ∧
        0 ≤ x5 ∧
        ∃ (x17 : Int), Idx (s153 ++ [(0 : Int)]) (s153.length : Int) x17 ∧
        X1 ((IntKind.i64.wrap (s100 + 1)), ((s153 ++ [(0 : Int)]).set (Int.toNat (s153.length : Int)) (bitO .i64 x14 (IntKind.i64.wrap ((1 : Int) * 2 ^ (min (Int.toNat x5) (IntKind.bits .i64))))))))
        (∃ (x19 : Int), Idx s153 s200 x19 ∧
        0 ≤ x5 ∧
        ∃ (x22 : Int), Idx s153 s200 x22 ∧
        X1 ((IntKind.i64.wrap (s100 + 1)), (s153.set (Int.toNat s200) (bitO .i64 x19 (IntKind.i64.wrap ((1 : Int) * 2 ^ (min (Int.toNat x5) (IntKind.bits .i64)))))))))
      (X2 (IntKind.i64.wrap (s200 + 1))))
    (Fits (s153.length + [(0 : Int)].length) 8 ∧
    ∃ (x25 : Int), Idx (s153 ++ [(0 : Int)]) (s153.length : Int) x25 ∧
    0 ≤ x5 ∧
    ∃ (x28 : Int), Idx (s153 ++ [(0 : Int)]) (s153.length : Int) x28 ∧
    X1 ((IntKind.i64.wrap (s100 + 1)), ((s153 ++ [(0 : Int)]).set (Int.toNat (s153.length : Int)) (bitO .i64 x25 (IntKind.i64.wrap ((1 : Int) * 2 ^ (min (Int.toNat x5) (IntKind.bits .i64))))))))

def f8_L1 (p0 : Int) (p1 : List Int) (x3 : List Int) (r : (List Int)) (X1 : (Int × (List Int)) → Prop) (s : Int × (List Int)) : Prop := match s with
  | (s100, s153) =>
  IfB (decide (s100 < (x3.length : Int)))
    (∃ (x5 : Int), Idx x3 s100 x5 ∧
    LoopP (f8_L2 p0 p1 s100 s153 X1 x5) (0 : Int))
    (r = s153)

/-- offcut pack.First -/
def f8 (p0 : Int) (p1 : List Int) (r : (List Int)) : Prop :=
  ∃ (x1 : Bool), f9 p0 p1 x1 ∧
  IfB x1
    (∃ (x3 : List Int), f18 p1 x3 ∧
    LoopP (f8_L1 p0 p1 x3 r) ((0 : Int), ([] : List Int)))
    (r = ([] : List Int))

def f12_L4 (p0 : Int) (p1 : List Int) (s100 : Int) (s151 : List Int) (s152 : List Bool) (X1 : (Int × (List Int) × (List Bool)) → Prop) (s200 : Int) (s300 : Int) (X4 : Int → Prop) (s : Int) : Prop := match s with
  | s400 =>
  IfB (decide (s400 < (s151.length : Int)))
    (∃ (x12 : Int), Idx s151 s400 x12 ∧
    ∃ (x14 : Int), f17 p1 x12 x14 ∧
    ∃ (x16 : Int), Idx p1 s200 x16 ∧
    IfB (decide ((IntKind.i64.wrap (x14 + x16)) > p0))
      (X4 (IntKind.i64.wrap (s400 + 1)))
      (IfB (s400 == (s151.length : Int))
        (Fits (s151.length + [(0 : Int)].length) 8 ∧
        ∃ (x19 : Int), Idx (s151 ++ [(0 : Int)]) s400 x19 ∧
        ∃ (x21 : Int), Idx (s151 ++ [(0 : Int)]) s400 x21 ∧
        X1 ((IntKind.i64.wrap (s100 + 1)), ((s151 ++ [(0 : Int)]).set (Int.toNat s400) (IntKind.i64.wrap (x19 + s300))), (s152.set (Int.toNat s200) true)))
        (∃ (x23 : Int), Idx s151 s400 x23 ∧
        ∃ (x25 : Int), Idx s151 s400 x25 ∧
        X1 ((IntKind.i64.wrap (s100 + 1)), (s151.set (Int.toNat s400) (IntKind.i64.wrap (x23 + s300))), (s152.set (Int.toNat s200) true)))))
    (IfB (s400 == (s151.length : Int))
      (Fits (s151.length + [(0 : Int)].length) 8 ∧
      ∃ (x28 : Int), Idx (s151 ++ [(0 : Int)]) s400 x28 ∧
      ∃ (x30 : Int), Idx (s151 ++ [(0 : Int)]) s400 x30 ∧
      X1 ((IntKind.i64.wrap (s100 + 1)), ((s151 ++ [(0 : Int)]).set (Int.toNat s400) (IntKind.i64.wrap (x28 + s300))), (s152.set (Int.toNat s200) true)))
      (∃ (x32 : Int), Idx s151 s400 x32 ∧
      ∃ (x34 : Int), Idx s151 s400 x34 ∧
      X1 ((IntKind.i64.wrap (s100 + 1)), (s151.set (Int.toNat s400) (IntKind.i64.wrap (x32 + s300))), (s152.set (Int.toNat s200) true))))

def f12_L3 (p0 : Int) (p1 : List Int) (s100 : Int) (s151 : List Int) (s152 : List Bool) (X1 : (Int × (List Int) × (List Bool)) → Prop) (s200 : Int) (X3 : (Int × Int) → Prop) (s : Int × Int) : Prop := match s with
  | (s300, s301) =>
  IfB (decide (s301 < s200))
    (X3 ((IntKind.i64.wrap (s300 * 2)), (IntKind.i64.wrap (s301 + 1))))
    (LoopP (f12_L4 p0 p1 s100 s151 s152 X1 s200 s300) (0 : Int))

def f12_L2 (p0 : Int) (p1 : List Int) (s100 : Int) (s151 : List Int) (s152 : List Bool) (X1 : (Int × (List Int) × (List Bool)) → Prop) (X2 : (Int × Int) → Prop) (s : Int × Int) : Prop := match s with
  | (s200, s201) =>
  IfB (decide (s201 < (p1.length : Int)))
    (∃ (x4 : Bool), Idx s152 s201 x4 ∧
    IfB x4
      (X2 (s200, (IntKind.i64.wrap (s201 + 1))))
      (IfB (decide (s200 < (0 : Int)))
        (X2 (s201, (IntKind.i64.wrap (s201 + 1))))
        (∃ (x6 : Int), Idx p1 s201 x6 ∧
        ∃ (x8 : Int), Idx p1 s200 x8 ∧
        IfB (decide (x6 > x8))
          (X2 (s201, (IntKind.i64.wrap (s201 + 1))))
          (X2 (s200, (IntKind.i64.wrap (s201 + 1)))))))
    (∃ (x10 : Bool), Idx s152 s200 x10 ∧
    LoopP (f12_L3 p0 p1 s100 s151 s152 X1 s200) ((1 : Int), (0 : Int)))

def f12_L1 (p0 : Int) (p1 : List Int) (r : (List Int)) (X1 : (Int × (List Int) × (List Bool)) → Prop) (s : Int × (List Int) × (List Bool)) : Prop := match s with
  | (s100, s151, s152) =>
  IfB (decide (s100 < (p1.length : Int)))
    (LoopP (f12_L2 p0 p1 s100 s151 s152 X1) ((-1 : Int), (0 : Int)))
    (r = s151)

/-- offcut offcutref17.First -/
def f12 (p0 : Int) (p1 : List Int) (r : (List Int)) : Prop :=
  (0 ≤ (p1.length : Int) ∧ Fits (Int.toNat (p1.length : Int)) 1 ∧ Fits (Int.toNat (p1.length : Int)) 1) ∧
  LoopP (f12_L1 p0 p1 r) ((0 : Int), ([] : List Int), (List.replicate (Int.toNat (p1.length : Int)) false))

def f3_L1 (p0 : Int) (p1 : List Int) (x3 : List Int) (x11 : List Int) (r : Bool) (X1 : Int → Prop) (s : Int) : Prop := match s with
  | s100 =>
  IfB (decide (s100 < (x3.length : Int)))
    (∃ (x13 : Int), Idx x3 s100 x13 ∧
    ∃ (x15 : Int), Idx x11 s100 x15 ∧
    IfB (x13 != x15)
      (r = false)
      (X1 (IntKind.i64.wrap (s100 + 1))))
    (∃ (x17 : Bool), f13 p0 p1 x3 x17 ∧
    IfB x17
      (∃ (x19 : Bool), f7 x19 ∧
      IfB x19
        (r = true)
        (r = false))
      (r = false))

def f3_L2 (p0 : Int) (p1 : List Int) (x3 : List Int) (x29 : List Int) (r : Bool) (X2 : Int → Prop) (s : Int) : Prop := match s with
  | s200 =>
  IfB (decide (s200 < (x3.length : Int)))
    (∃ (x31 : Int), Idx x3 s200 x31 ∧
    ∃ (x33 : Int), Idx x29 s200 x33 ∧
    IfB (x31 != x33)
      (r = false)
      (X2 (IntKind.i64.wrap (s200 + 1))))
    (∃ (x35 : Bool), f13 p0 p1 x3 x35 ∧
    IfB x35
      (∃ (x37 : Bool), f7 x37 ∧
      IfB x37
        (r = true)
        (r = false))
      (r = false))

/-- offcut offcutlaw17.PackFirst -/
def f3 (p0 : Int) (p1 : List Int) (r : Bool) : Prop :=
  IfB (decide ((p1.length : Int) > (20 : Int)))
    (∃ (x1 : Bool), f7 x1 ∧
    IfB x1
      (r = true)
      (r = false))
    (∃ (x3 : List Int), f8 p0 p1 x3 ∧
    ∃ (x5 : Bool), f9 p0 p1 x5 ∧
    IfB x5
      (∃ (x7 : Bool), f10 p0 p1 x7 ∧
      IfB x7
        (∃ (x9 : Bool), f10 p0 p1 x9 ∧
        IfB x9
          (∃ (x11 : List Int), f12 p0 p1 x11 ∧
          IfB ((x3.length : Int) != (x11.length : Int))
            (r = false)
            (LoopP (f3_L1 p0 p1 x3 x11 r) (0 : Int)))
          (IfB ((x3.length : Int) == (0 : Int))
            (∃ (x21 : Int), f11 p0 p1 x21 ∧
            IfB (x21 == (0 : Int))
              (∃ (x23 : Bool), f7 x23 ∧
              IfB x23
                (r = true)
                (r = false))
              (r = false))
            (r = false)))
        (r = false))
      (∃ (x25 : Bool), f10 p0 p1 x25 ∧
      IfB x25
        (r = false)
        (∃ (x27 : Bool), f10 p0 p1 x27 ∧
        IfB x27
          (∃ (x29 : List Int), f12 p0 p1 x29 ∧
          IfB ((x3.length : Int) != (x29.length : Int))
            (r = false)
            (LoopP (f3_L2 p0 p1 x3 x29 r) (0 : Int)))
          (IfB ((x3.length : Int) == (0 : Int))
            (∃ (x39 : Int), f11 p0 p1 x39 ∧
            IfB (x39 == (0 : Int))
              (∃ (x41 : Bool), f7 x41 ∧
              IfB x41
                (r = true)
                (r = false))
              (r = false))
            (r = false)))))

def f6_L1 (p0 : Int) (p1 : List Int) (x5 : List Int) (r : Bool) (X1 : Int → Prop) (s : Int) : Prop := match s with
  | s100 =>
  IfB (decide (s100 < (x5.length : Int)))
    (∃ (x7 : Int), Idx x5 (IntKind.i64.wrap (s100 - 1)) x7 ∧
    ∃ (x9 : Int), f17 p1 x7 x9 ∧
    ∃ (x11 : Int), Idx x5 s100 x11 ∧
    ∃ (x13 : Int), f17 p1 x11 x13 ∧
    IfB (decide ((IntKind.i64.wrap (x9 + x13)) ≤ p0))
      (r = false)
      (X1 (IntKind.i64.wrap (s100 + 1))))
    (∃ (x15 : Bool), f7 x15 ∧
    IfB x15
      (r = true)
      (r = false))

/-- offcut offcutlaw17.PackFull -/
def f6 (p0 : Int) (p1 : List Int) (r : Bool) : Prop :=
  IfB (decide ((p1.length : Int) > (12 : Int)))
    (∃ (x1 : Bool), f7 x1 ∧
    IfB x1
      (r = true)
      (r = false))
    (∃ (x3 : Bool), f10 p0 p1 x3 ∧
    IfB x3
      (∃ (x5 : List Int), f8 p0 p1 x5 ∧
      LoopP (f6_L1 p0 p1 x5 r) (1 : Int))
      (∃ (x17 : Bool), f7 x17 ∧
      IfB x17
        (r = true)
        (r = false)))

def f16_L1 (p0 : Int) (p1 : List Int) (p2 : Int) (p3 : List Int) (X0 : (Int × (List Int) × Int × (List Int) × Int) → Prop) (r : Int) (X1 : (Int × Int) → Prop) (s : Int × Int) : Prop := match s with
  | (s100, s101) =>
  IfB (decide (s101 < (p3.length : Int)))
    (∃ (x7 : Int), Idx p3 s101 x7 ∧
    ∃ (x9 : Int), Idx p1 p2 x9 ∧
    IfB (decide (x7 ≥ x9))
      (IfB p3.isEmpty
        (∃ (x12 : Int), Idx ([] : List Int) s101 x12 ∧
        ∃ (x14 : Int), Idx p1 p2 x14 ∧
        ∃ (x16 : Int), Idx ([] : List Int) s101 x16 ∧
        False)
        (Fits (([] : List Int).length + p3.length) 8 ∧
        ∃ (x19 : Int), Idx (([] : List Int) ++ p3) s101 x19 ∧
        ∃ (x21 : Int), Idx p1 p2 x21 ∧
        ∃ (x23 : Int), Idx (([] : List Int) ++ p3) s101 x23 ∧
        ∃ (x25 : Int), X0 (p0, p1, (IntKind.i64.wrap (p2 + 1)), ((([] : List Int) ++ p3).set (Int.toNat s101) (IntKind.i64.wrap (x19 - x21))), x25) ∧
        IfB (decide (x25 < s100))
          (X1 (x25, (IntKind.i64.wrap (s101 + 1))))
          (X1 (s100, (IntKind.i64.wrap (s101 + 1))))))
      (X1 (s100, (IntKind.i64.wrap (s101 + 1)))))
    (r = s100)

def f16_L2 (p0 : Int) (p1 : List Int) (p2 : Int) (p3 : List Int) (X0 : (Int × (List Int) × Int × (List Int) × Int) → Prop) (r : Int) (X2 : (Int × Int) → Prop) (s : Int × Int) : Prop := match s with
  | (s200, s201) =>
  IfB (decide (s201 < (p3.length : Int)))
    (∃ (x33 : Int), Idx p3 s201 x33 ∧
    ∃ (x35 : Int), Idx p1 p2 x35 ∧
    IfB (decide (x33 ≥ x35))
      (IfB p3.isEmpty
        (∃ (x38 : Int), Idx ([] : List Int) s201 x38 ∧
        ∃ (x40 : Int), Idx p1 p2 x40 ∧
        ∃ (x42 : Int), Idx ([] : List Int) s201 x42 ∧
        False)
        (Fits (([] : List Int).length + p3.length) 8 ∧
        ∃ (x45 : Int), Idx (([] : List Int) ++ p3) s201 x45 ∧
        ∃ (x47 : Int), Idx p1 p2 x47 ∧
        ∃ (x49 : Int), Idx (([] : List Int) ++ p3) s201 x49 ∧
        ∃ (x51 : Int), X0 (p0, p1, (IntKind.i64.wrap (p2 + 1)), ((([] : List Int) ++ p3).set (Int.toNat s201) (IntKind.i64.wrap (x45 - x47))), x51) ∧
        IfB (decide (x51 < s200))
          (X2 (x51, (IntKind.i64.wrap (s201 + 1))))
          (X2 (s200, (IntKind.i64.wrap (s201 + 1))))))
      (X2 (s200, (IntKind.i64.wrap (s201 + 1)))))
    (r = s200)

def f16_F (X0 : (Int × (List Int) × Int × (List Int) × Int) → Prop) (s : Int × (List Int) × Int × (List Int) × Int) : Prop := match s with
  | (p0, p1, p2, p3, r) =>
  IfB (p2 == (p1.length : Int))
    (r = (p3.length : Int))
    (IfB p3.isEmpty
      (∃ (x2 : Int), Idx p1 p2 x2 ∧
      Fits (([] : List Int).length + [(IntKind.i64.wrap (p0 - x2))].length) 8 ∧
      ∃ (x5 : Int), X0 (p0, p1, (IntKind.i64.wrap (p2 + 1)), (([] : List Int) ++ [(IntKind.i64.wrap (p0 - x2))]), x5) ∧
      LoopP (f16_L1 p0 p1 p2 p3 X0 r) (x5, (0 : Int)))
      (Fits (([] : List Int).length + p3.length) 8 ∧
      ∃ (x28 : Int), Idx p1 p2 x28 ∧
      Fits ((([] : List Int) ++ p3).length + [(IntKind.i64.wrap (p0 - x28))].length) 8 ∧
      ∃ (x31 : Int), X0 (p0, p1, (IntKind.i64.wrap (p2 + 1)), ((([] : List Int) ++ p3) ++ [(IntKind.i64.wrap (p0 - x28))]), x31) ∧
      LoopP (f16_L2 p0 p1 p2 p3 X0 r) (x31, (0 : Int))))

/-- offcut offcutref17.Fewest -/
def f16 (p0 : Int) (p1 : List Int) (p2 : Int) (p3 : List Int) (r : Int) : Prop := LoopP f16_F (p0, p1, p2, p3, r)

def f5_L1 (p0 : Int) (p1 : List Int) (x9 : Int) (x11 : List Int) (x13 : Int) (r : Bool) (X1 : (Int × Int) → Prop) (s : Int × Int) : Prop := match s with
  | (s100, s101) =>
  IfB (decide (s101 < (p1.length : Int)))
    (∃ (x15 : Int), Idx p1 s101 x15 ∧
    X1 ((IntKind.i64.wrap (s100 + x15)), (IntKind.i64.wrap (s101 + 1))))
    (IfB (decide ((IntKind.i64.wrap (x9 * p0)) ≥ s100))
      (IfB (decide ((IntKind.i64.wrap ((IntKind.i64.wrap (x9 - 1)) * p0)) < s100))
        (IfB (decide (x9 ≤ x13))
          (IfB (decide (x13 ≤ (x11.length : Int)))
            (IfB (decide ((x11.length : Int) < (IntKind.i64.wrap ((IntKind.i64.wrap (2 * x9)) + 1))))
              (∃ (x17 : Bool), f7 x17 ∧
              IfB x17
                (r = true)
                (r = false))
              (r = false))
            (r = false))
          (r = false))
        (r = false))
      (r = false))

/-- offcut offcutlaw17.PackLeast -/
def f5 (p0 : Int) (p1 : List Int) (r : Bool) : Prop :=
  IfB (decide ((p1.length : Int) > (7 : Int)))
    (∃ (x1 : Bool), f7 x1 ∧
    IfB x1
      (r = true)
      (r = false))
    (IfB (decide (p0 < (1 : Int)))
      (∃ (x3 : Bool), f7 x3 ∧
      IfB x3
        (r = true)
        (r = false))
      (IfB (decide (p0 > (1048576 : Int)))
        (∃ (x5 : Bool), f7 x5 ∧
        IfB x5
          (r = true)
          (r = false))
        (∃ (x7 : Bool), f10 p0 p1 x7 ∧
        IfB x7
          (∃ (x9 : Int), f11 p0 p1 x9 ∧
          ∃ (x11 : List Int), f8 p0 p1 x11 ∧
          ∃ (x13 : Int), f16 p0 p1 (0 : Int) ([] : List Int) x13 ∧
          LoopP (f5_L1 p0 p1 x9 x11 x13 r) ((0 : Int), (0 : Int)))
          (∃ (x19 : Bool), f7 x19 ∧
          IfB x19
            (r = true)
            (r = false)))))

end Go.Abs
