/- Printed by gen.py: what functions come to, as conditions over numbers and lists. -/
import Derived.Test.YtibeobmcanaedaaDoorGW
import Derived.Test.YtibeobmcanaedaaDoorB07d
namespace Go.Abs
set_option linter.unusedVariables false
set_option linter.unusedSimpArgs false
set_option linter.unnecessarySimpa false

/-- offcut lines.may -/
def f27 (p0 : Int) (r : Bool) : Prop :=
  IfB (p0 == (10 : Int))
    (r = true)
    (IfB (decide (p0 ≥ (32 : Int)))
      (IfB (decide (p0 ≤ (126 : Int)))
        (r = true)
        (r = false))
      (r = false))

def f10_L2 (x4 : List (List UInt8)) (r : (List (Int × (List (List UInt8)))) × Int) (X2 : (Int × (List (Int × (List (List UInt8))))) → Prop) (s : Int × (List (Int × (List (List UInt8))))) : Prop := match s with
  | (s200, s252) =>
  IfB (decide (s200 < (x4.length : Int)))
    (∃ (x6 : List UInt8), Idx x4 s200 x6 ∧
    ∃ (x8 : List UInt8) (x9 : List UInt8) (x10 : Bool), f29 x6 ([35] : List UInt8) (x8, x9, x10) ∧
    IfB x10
      (∃ (x12 : List (List UInt8)), f30 x8 x12 ∧
      IfB (decide ((x12.length : Int) > (0 : Int)))
        (Fits (s252.length + [((IntKind.i64.wrap (s200 + 1)), x12)].length) 32 ∧
        X2 ((IntKind.i64.wrap (s200 + 1)), (s252 ++ [((IntKind.i64.wrap (s200 + 1)), x12)])))
        (X2 ((IntKind.i64.wrap (s200 + 1)), s252)))
      (∃ (x15 : List (List UInt8)), f30 x8 x15 ∧
      IfB (decide ((x15.length : Int) > (0 : Int)))
        (Fits (s252.length + [((IntKind.i64.wrap (s200 + 1)), x15)].length) 32 ∧
        X2 ((IntKind.i64.wrap (s200 + 1)), (s252 ++ [((IntKind.i64.wrap (s200 + 1)), x15)])))
        (X2 ((IntKind.i64.wrap (s200 + 1)), s252))))
    (r = (s252, 0))

def f10_L1 (p0 : List UInt8) (r : (List (Int × (List (List UInt8)))) × Int) (X1 : Nat → Prop) (s : Nat) : Prop := match s with
  | s151 =>
  IfB (decide (s151 < p0.length))
    (∃ (x2 : Bool), f27 (runeAt p0 s151) x2 ∧
    IfB x2
      (X1 (s151 + runeLen p0 s151))
      (r = (([] : List (Int × (List (List UInt8)))), 2)))
    (∃ (x4 : List (List UInt8)), f28 p0 ([10] : List UInt8) x4 ∧
    LoopP (f10_L2 x4 r) ((0 : Int), ([] : List (Int × (List (List UInt8))))))

/-- offcut lines.All -/
def f10 (p0 : List UInt8) (r : (List (Int × (List (List UInt8)))) × Int) : Prop :=
  IfB (decide ((p0.length : Int) > (65536 : Int)))
    (r = (([] : List (Int × (List (List UInt8)))), 4))
    (LoopP (f10_L1 p0 r) 0)

def f14_L1 (p0 : List UInt8) (r : Bool) (X1 : Nat → Prop) (s : Nat) : Prop := match s with
  | s150 =>
  IfB (decide (s150 < p0.length))
    (IfB (decide ((runeAt p0 s150) ≥ (97 : Int)))
      (IfB (decide ((runeAt p0 s150) ≤ (122 : Int)))
        (X1 (s150 + runeLen p0 s150))
        (IfB (((s150 : Nat) : Int) == (0 : Int))
          (r = false)
          (IfB ((runeAt p0 s150) != (95 : Int))
            (IfB (decide ((runeAt p0 s150) < (48 : Int)))
              (r = false)
              (IfB (decide ((runeAt p0 s150) > (57 : Int)))
                (r = false)
                (X1 (s150 + runeLen p0 s150))))
            (X1 (s150 + runeLen p0 s150)))))
      (IfB (((s150 : Nat) : Int) == (0 : Int))
        (r = false)
        (IfB ((runeAt p0 s150) != (95 : Int))
          (IfB (decide ((runeAt p0 s150) < (48 : Int)))
            (r = false)
            (IfB (decide ((runeAt p0 s150) > (57 : Int)))
              (r = false)
              (X1 (s150 + runeLen p0 s150))))
          (X1 (s150 + runeLen p0 s150)))))
    (IfB (decide ((p0.length : Int) ≥ (1 : Int)))
      (IfB (decide ((p0.length : Int) ≤ (16 : Int)))
        (r = true)
        (r = false))
      (r = false))

/-- offcut lines.Name -/
def f14 (p0 : List UInt8) (r : Bool) : Prop :=
  LoopP (f14_L1 p0 r) 0

def f15_L1 (p0 : List UInt8) (r : Bool) (X1 : Int → Prop) (s : Int) : Prop := match s with
  | s100 =>
  IfB (decide (s100 < (p0.length : Int)))
    (∃ (c1 : UInt8), Idx p0 s100 c1 ∧
    IfB (decide (((c1.toNat : Nat) : Int) ≥ (97 : Int)))
      (∃ (c3 : UInt8), Idx p0 s100 c3 ∧
      IfB (decide (((c3.toNat : Nat) : Int) ≤ (122 : Int)))
        (∃ (c5 : UInt8), Idx p0 s100 c5 ∧
        IfB (((c5.toNat : Nat) : Int) == (95 : Int))
          (X1 (IntKind.i64.wrap (s100 + 1)))
          (∃ (c7 : UInt8), Idx p0 s100 c7 ∧
          IfB (decide (((c7.toNat : Nat) : Int) ≥ (48 : Int)))
            (∃ (c9 : UInt8), Idx p0 s100 c9 ∧
            IfB (decide (((c9.toNat : Nat) : Int) ≤ (57 : Int)))
              (X1 (IntKind.i64.wrap (s100 + 1)))
              (X1 (IntKind.i64.wrap (s100 + 1))))
            (X1 (IntKind.i64.wrap (s100 + 1)))))
        (∃ (c11 : UInt8), Idx p0 s100 c11 ∧
        IfB (((c11.toNat : Nat) : Int) == (95 : Int))
          (IfB (s100 == (0 : Int))
            (r = false)
            (X1 (IntKind.i64.wrap (s100 + 1))))
          (∃ (c13 : UInt8), Idx p0 s100 c13 ∧
          IfB (decide (((c13.toNat : Nat) : Int) ≥ (48 : Int)))
            (∃ (c15 : UInt8), Idx p0 s100 c15 ∧
            IfB (decide (((c15.toNat : Nat) : Int) ≤ (57 : Int)))
              (IfB (s100 == (0 : Int))
                (r = false)
                (X1 (IntKind.i64.wrap (s100 + 1))))
              (IfB (s100 == (0 : Int))
                (r = false)
                (r = false)))
            (IfB (s100 == (0 : Int))
              (r = false)
              (r = false)))))
      (∃ (c17 : UInt8), Idx p0 s100 c17 ∧
      IfB (((c17.toNat : Nat) : Int) == (95 : Int))
        (IfB (s100 == (0 : Int))
          (r = false)
          (X1 (IntKind.i64.wrap (s100 + 1))))
        (∃ (c19 : UInt8), Idx p0 s100 c19 ∧
        IfB (decide (((c19.toNat : Nat) : Int) ≥ (48 : Int)))
          (∃ (c21 : UInt8), Idx p0 s100 c21 ∧
          IfB (decide (((c21.toNat : Nat) : Int) ≤ (57 : Int)))
            (IfB (s100 == (0 : Int))
              (r = false)
              (X1 (IntKind.i64.wrap (s100 + 1))))
            (IfB (s100 == (0 : Int))
              (r = false)
              (r = false)))
          (IfB (s100 == (0 : Int))
            (r = false)
            (r = false)))))
    (r = true)

/-- offcut offcutref07.Name -/
def f15 (p0 : List UInt8) (r : Bool) : Prop :=
  IfB (decide ((p0.length : Int) < (1 : Int)))
    (r = false)
    (IfB (decide ((p0.length : Int) > (16 : Int)))
      (r = false)
      (LoopP (f15_L1 p0 r) (0 : Int)))

def f11_L1 (p0 : List UInt8) (r : Bool) (X1 : Int → Prop) (s : Int) : Prop := match s with
  | s100 =>
  IfB (decide (s100 < (p0.length : Int)))
    (∃ (c1 : UInt8), Idx p0 s100 c1 ∧
    IfB (((c1.toNat : Nat) : Int) != (10 : Int))
      (∃ (c3 : UInt8), Idx p0 s100 c3 ∧
      IfB (decide (((c3.toNat : Nat) : Int) < (32 : Int)))
        (r = false)
        (∃ (c5 : UInt8), Idx p0 s100 c5 ∧
        IfB (decide (((c5.toNat : Nat) : Int) > (126 : Int)))
          (r = false)
          (X1 (IntKind.i64.wrap (s100 + 1)))))
      (X1 (IntKind.i64.wrap (s100 + 1))))
    (r = true)

/-- offcut offcutref07.Right -/
def f11 (p0 : List UInt8) (r : Bool) : Prop :=
  LoopP (f11_L1 p0 r) (0 : Int)

/-- offcut lines.Join -/
def f23 (p0 : List (List UInt8)) (r : (List UInt8)) : Prop :=
  ∃ (x1 : List UInt8), f13 p0 ([32] : List UInt8) x1 ∧
  r = x1

/-- offcut lines.Index -/
def f24 (p0 : List (List UInt8)) (p1 : List UInt8) (r : Int) : Prop :=
  ∃ (x1 : Int), f48 p0 p1 x1 ∧
  r = x1

/-- offcut offcutlaw07.LinesNames -/
def f4 (p0 : List UInt8) (r : Bool) : Prop :=
  IfB (decide ((p0.length : Int) > (2000 : Int)))
    (∃ (x1 : Bool), f9 x1 ∧
    IfB x1
      (r = true)
      (r = false))
    (∃ (x3 : Bool), f14 p0 x3 ∧
    IfB x3
      (∃ (x5 : Bool), f15 p0 x5 ∧
      IfB x5
        (∃ (x7 : Bool), f9 x7 ∧
        IfB x7
          (r = true)
          (r = false))
        (r = false))
      (∃ (x9 : Bool), f15 p0 x9 ∧
      IfB x9
        (r = false)
        (∃ (x11 : Bool), f9 x11 ∧
        IfB x11
          (r = true)
          (r = false))))

def f5_L1 (p0 : List UInt8) (x5 : List (Int × (List (List UInt8)))) (x6 : Int) (r : Bool) (X1 : (Int × Int) → Prop) (s : Int × Int) : Prop := match s with
  | (s100, s101) =>
  IfB (decide (s101 < (x5.length : Int)))
    (∃ (x8 : Int) (x9 : List (List UInt8)), Idx x5 s101 (x8, x9) ∧
    IfB (decide (x8 ≤ s100))
      (r = false)
      (IfB ((x9.length : Int) == (0 : Int))
        (r = false)
        (X1 (x8, (IntKind.i64.wrap (s101 + 1))))))
    (IfB (x6 == (0 : Int))
      (∃ (x11 : Int), f16 p0 ([10] : List UInt8) x11 ∧
      IfB (decide (s100 ≤ (IntKind.i64.wrap (x11 + 1))))
        (∃ (x13 : Bool), f9 x13 ∧
        IfB x13
          (r = true)
          (r = false))
        (r = false))
      (r = false))

/-- offcut offcutlaw07.LinesCount -/
def f5 (p0 : List UInt8) (r : Bool) : Prop :=
  IfB (decide ((p0.length : Int) > (2000 : Int)))
    (∃ (x1 : Bool), f9 x1 ∧
    IfB x1
      (r = true)
      (r = false))
    (∃ (x3 : Bool), f11 p0 x3 ∧
    IfB x3
      (∃ (x5 : List (Int × (List (List UInt8)))) (x6 : Int), f10 p0 (x5, x6) ∧
      LoopP (f5_L1 p0 x5 x6 r) ((0 : Int), (0 : Int)))
      (∃ (x15 : Bool), f9 x15 ∧
      IfB x15
        (r = true)
        (r = false)))

end Go.Abs
