/- Printed by gen.py: what functions come to, as conditions over numbers and lists. -/
import Derived.Test.YtibeobmcanaedaaDoorGW
import Derived.Test.YtibeobmcanaedaaDoorB07g
namespace Go.Abs
set_option linter.unusedVariables false
set_option linter.unusedSimpArgs false
set_option linter.unnecessarySimpa false

/-- unicode utf8.ValidRune -/
def f111 (p0 : Int) (r : Bool) : Prop :=
  IfB (decide ((0 : Int) ≤ p0))
    (IfB (decide (p0 < (55296 : Int)))
      (r = true)
      (IfB (decide ((57343 : Int) < p0))
        (IfB (decide (p0 ≤ (1114111 : Int)))
          (r = true)
          (r = false))
        (r = false)))
    (IfB (decide ((57343 : Int) < p0))
      (IfB (decide (p0 ≤ (1114111 : Int)))
        (r = true)
        (r = false))
      (r = false))

def f84_L1 (p0 : List UInt8) (r : Int) (X1 : Nat → Prop) (s : Nat) : Prop := match s with
  | s150 =>
  IfB (decide (s150 < p0.length))
    (IfB ((runeAt p0 s150) == (65533 : Int))
      (r = ((s150 : Nat) : Int))
      (X1 (s150 + runeLen p0 s150)))
    (r = (-1))

def f84_L3 (p0 : List UInt8) (p1 : Int) (x13 : Int) (r : Int) (X3 : Int → Prop) (s : Int) : Prop := match s with
  | s300 =>
  IfB (decide (s300 < (((Utf8.encode p1).data.toList).length : Int)))
    (∃ (c15 : UInt8), Idx p0 (IntKind.i64.wrap ((IntKind.i64.wrap ((IntKind.i64.wrap ((((Utf8.encode p1).data.toList).length : Int) - 1)) + (IntKind.i64.wrap (x13 + 1)))) - s300)) c15 ∧
    ∃ (c17 : UInt8), Idx ((Utf8.encode p1).data.toList) (IntKind.i64.wrap ((IntKind.i64.wrap ((((Utf8.encode p1).data.toList).length : Int) - 1)) - s300)) c17 ∧
    IfB (((c15.toNat : Nat) : Int) != ((c17.toNat : Nat) : Int))
      (False)
      (X3 (IntKind.i64.wrap (s300 + 1))))
    (r = (IntKind.i64.wrap ((IntKind.i64.wrap ((IntKind.i64.wrap ((((Utf8.encode p1).data.toList).length : Int) - 1)) + (IntKind.i64.wrap (x13 + 1)))) - (IntKind.i64.wrap ((((Utf8.encode p1).data.toList).length : Int) - 1)))))

def f84_L4 (p0 : List UInt8) (p1 : Int) (r : Int) (X4 : Int → Prop) (s : Int) : Prop := match s with
  | s400 =>
  IfB (decide (s400 < (((Utf8.encode p1).data.toList).length : Int)))
    (∃ (c19 : UInt8), Idx p0 (IntKind.i64.wrap ((IntKind.i64.wrap ((((Utf8.encode p1).data.toList).length : Int) - 1)) - s400)) c19 ∧
    ∃ (c21 : UInt8), Idx ((Utf8.encode p1).data.toList) (IntKind.i64.wrap ((IntKind.i64.wrap ((((Utf8.encode p1).data.toList).length : Int) - 1)) - s400)) c21 ∧
    IfB (((c19.toNat : Nat) : Int) != ((c21.toNat : Nat) : Int))
      (False)
      (X4 (IntKind.i64.wrap (s400 + 1))))
    (r = (IntKind.i64.wrap ((IntKind.i64.wrap ((((Utf8.encode p1).data.toList).length : Int) - 1)) - (IntKind.i64.wrap ((((Utf8.encode p1).data.toList).length : Int) - 1)))))

def f84_L2 (p0 : List UInt8) (p1 : Int) (r : Int) (X2 : Unit → Prop) (s : Unit) : Prop := match s with
  | () =>
  IfB (decide ((IntKind.i64.wrap ((((Utf8.encode p1).data.toList).length : Int) - 1)) < (p0.length : Int)))
    (∃ (c6 : UInt8), Idx p0 (IntKind.i64.wrap ((((Utf8.encode p1).data.toList).length : Int) - 1)) c6 ∧
    ∃ (c8 : UInt8), Idx ((Utf8.encode p1).data.toList) (IntKind.i64.wrap ((((Utf8.encode p1).data.toList).length : Int) - 1)) c8 ∧
    IfB (((c6.toNat : Nat) : Int) != ((c8.toNat : Nat) : Int))
      (SubOk p0 (IntKind.i64.wrap ((IntKind.i64.wrap ((((Utf8.encode p1).data.toList).length : Int) - 1)) + 1)) (p0.length : Int) ∧
      ∃ (c11 : UInt8), Idx ((Utf8.encode p1).data.toList) (IntKind.i64.wrap ((((Utf8.encode p1).data.toList).length : Int) - 1)) c11 ∧
      ∃ (x13 : Int), f110 (sub p0 (IntKind.i64.wrap ((IntKind.i64.wrap ((((Utf8.encode p1).data.toList).length : Int) - 1)) + 1)) (p0.length : Int)) ((c11.toNat : Nat) : Int) x13 ∧
      IfB (decide (x13 < (0 : Int)))
        (r = (-1))
        (LoopP (f84_L3 p0 p1 x13 r) (1 : Int)))
      (LoopP (f84_L4 p0 p1 r) (1 : Int)))
    (r = (-1))

def f84_L5 (p0 : List UInt8) (r : Int) (X5 : Nat → Prop) (s : Nat) : Prop := match s with
  | s550 =>
  IfB (decide (s550 < p0.length))
    (IfB ((runeAt p0 s550) == (65533 : Int))
      (r = ((s550 : Nat) : Int))
      (X5 (s550 + runeLen p0 s550)))
    (r = (-1))

def f84_L7 (p0 : List UInt8) (p1 : Int) (x33 : Int) (r : Int) (X7 : Int → Prop) (s : Int) : Prop := match s with
  | s700 =>
  IfB (decide (s700 < (((Utf8.encode p1).data.toList).length : Int)))
    (∃ (c35 : UInt8), Idx p0 (IntKind.i64.wrap ((IntKind.i64.wrap ((IntKind.i64.wrap ((((Utf8.encode p1).data.toList).length : Int) - 1)) + (IntKind.i64.wrap (x33 + 1)))) - s700)) c35 ∧
    ∃ (c37 : UInt8), Idx ((Utf8.encode p1).data.toList) (IntKind.i64.wrap ((IntKind.i64.wrap ((((Utf8.encode p1).data.toList).length : Int) - 1)) - s700)) c37 ∧
    IfB (((c35.toNat : Nat) : Int) != ((c37.toNat : Nat) : Int))
      (False)
      (X7 (IntKind.i64.wrap (s700 + 1))))
    (r = (IntKind.i64.wrap ((IntKind.i64.wrap ((IntKind.i64.wrap ((((Utf8.encode p1).data.toList).length : Int) - 1)) + (IntKind.i64.wrap (x33 + 1)))) - (IntKind.i64.wrap ((((Utf8.encode p1).data.toList).length : Int) - 1)))))

def f84_L8 (p0 : List UInt8) (p1 : Int) (r : Int) (X8 : Int → Prop) (s : Int) : Prop := match s with
  | s800 =>
  IfB (decide (s800 < (((Utf8.encode p1).data.toList).length : Int)))
    (∃ (c39 : UInt8), Idx p0 (IntKind.i64.wrap ((IntKind.i64.wrap ((((Utf8.encode p1).data.toList).length : Int) - 1)) - s800)) c39 ∧
    ∃ (c41 : UInt8), Idx ((Utf8.encode p1).data.toList) (IntKind.i64.wrap ((IntKind.i64.wrap ((((Utf8.encode p1).data.toList).length : Int) - 1)) - s800)) c41 ∧
    IfB (((c39.toNat : Nat) : Int) != ((c41.toNat : Nat) : Int))
      (False)
      (X8 (IntKind.i64.wrap (s800 + 1))))
    (r = (IntKind.i64.wrap ((IntKind.i64.wrap ((((Utf8.encode p1).data.toList).length : Int) - 1)) - (IntKind.i64.wrap ((((Utf8.encode p1).data.toList).length : Int) - 1)))))

def f84_L6 (p0 : List UInt8) (p1 : Int) (r : Int) (X6 : Unit → Prop) (s : Unit) : Prop := match s with
  | () =>
  IfB (decide ((IntKind.i64.wrap ((((Utf8.encode p1).data.toList).length : Int) - 1)) < (p0.length : Int)))
    (∃ (c26 : UInt8), Idx p0 (IntKind.i64.wrap ((((Utf8.encode p1).data.toList).length : Int) - 1)) c26 ∧
    ∃ (c28 : UInt8), Idx ((Utf8.encode p1).data.toList) (IntKind.i64.wrap ((((Utf8.encode p1).data.toList).length : Int) - 1)) c28 ∧
    IfB (((c26.toNat : Nat) : Int) != ((c28.toNat : Nat) : Int))
      (SubOk p0 (IntKind.i64.wrap ((IntKind.i64.wrap ((((Utf8.encode p1).data.toList).length : Int) - 1)) + 1)) (p0.length : Int) ∧
      ∃ (c31 : UInt8), Idx ((Utf8.encode p1).data.toList) (IntKind.i64.wrap ((((Utf8.encode p1).data.toList).length : Int) - 1)) c31 ∧
      ∃ (x33 : Int), f110 (sub p0 (IntKind.i64.wrap ((IntKind.i64.wrap ((((Utf8.encode p1).data.toList).length : Int) - 1)) + 1)) (p0.length : Int)) ((c31.toNat : Nat) : Int) x33 ∧
      IfB (decide (x33 < (0 : Int)))
        (r = (-1))
        (LoopP (f84_L7 p0 p1 x33 r) (1 : Int)))
      (LoopP (f84_L8 p0 p1 r) (1 : Int)))
    (r = (-1))

/-- strings.IndexRune -/
def f84 (p0 : List UInt8) (p1 : Int) (r : Int) : Prop :=
  IfB (decide ((0 : Int) ≤ p1))
    (IfB (decide (p1 < (128 : Int)))
      (∃ (x1 : Int), f110 p0 (IntKind.u8.wrap p1) x1 ∧
      r = x1)
      (IfB (p1 == (65533 : Int))
        (LoopP (f84_L1 p0 r) 0)
        (∃ (x4 : Bool), f111 p1 x4 ∧
        IfB x4
          (LoopP (f84_L2 p0 p1 r) ())
          (r = (-1)))))
    (IfB (p1 == (65533 : Int))
      (LoopP (f84_L5 p0 r) 0)
      (∃ (x24 : Bool), f111 p1 x24 ∧
      IfB x24
        (LoopP (f84_L6 p0 p1 r) ())
        (r = (-1))))

/-- strings.shouldUseASCIISet -/
def f85 (p0 : Int) (r : Bool) : Prop :=
  IfB (decide (p0 > (8 : Int)))
    (r = true)
    (r = false)

def f47_L1 (p0 : List UInt8) (p1 : List UInt8) (r : Int) (X1 : Nat → Prop) (s : Nat) : Prop := match s with
  | s150 =>
  IfB (decide (s150 < p0.length))
    (∃ (x10 : Int), f84 p1 (runeAt p0 s150) x10 ∧
    IfB (decide (x10 ≥ (0 : Int)))
      (r = ((s150 : Nat) : Int))
      (X1 (s150 + runeLen p0 s150)))
    (r = (-1))

/-- strings.IndexAny -/
def f47 (p0 : List UInt8) (p1 : List UInt8) (r : Int) : Prop :=
  IfB (p1 == ([] : List UInt8))
    (r = (-1))
    (IfB ((p1.length : Int) == (1 : Int))
      (∃ (c1 : UInt8), Idx p1 (0 : Int) c1 ∧
      IfB (decide ((IntKind.i32.wrap ((c1.toNat : Nat) : Int)) ≥ (128 : Int)))
        (∃ (x3 : Int), f84 p0 (65533 : Int) x3 ∧
        r = x3)
        (∃ (x5 : Int), f84 p0 (IntKind.i32.wrap ((c1.toNat : Nat) : Int)) x5 ∧
        r = x5))
      (∃ (x7 : Bool), f85 (p0.length : Int) x7 ∧
      IfB x7
        (False)
        (LoopP (f47_L1 p0 p1 r) 0)))

end Go.Abs
