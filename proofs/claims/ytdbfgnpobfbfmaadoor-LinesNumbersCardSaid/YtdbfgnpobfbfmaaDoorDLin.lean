/- Printed by gen.py: what functions come to, as conditions over numbers and lists. -/
import Derived.Test.YtdbfgnpobfbfmaaDoorGW
import Derived.Test.YtdbfgnpobfbfmaaDoorBSd
namespace Go.Abs
set_option linter.unusedVariables false
set_option linter.unusedSimpArgs false
set_option linter.unnecessarySimpa false

/-- offcut lines.may -/
def lines_may (p0 : Int) (r : Bool) : Prop :=
  IfB (p0 == (10 : Int))
    (r = true)
    (IfB (decide (p0 ≥ (32 : Int)))
      (IfB (decide (p0 ≤ (126 : Int)))
        (r = true)
        (r = false))
      (r = false))

def lines_All_L2 (x4 : List (List UInt8)) (r : (List (Int × (List (List UInt8)))) × Int) (X2 : (Int × (List (Int × (List (List UInt8))))) → Prop) (s : Int × (List (Int × (List (List UInt8))))) : Prop := match s with
  | (s200, s252) =>
  IfB (decide (s200 < (x4.length : Int)))
    (∃ (x6 : List UInt8), Idx x4 s200 x6 ∧
    ∃ (x8 : List UInt8) (x9 : List UInt8) (x10 : Bool), strings_Cut x6 ([35] : List UInt8) (x8, x9, x10) ∧
    IfB x10
      (∃ (x12 : List (List UInt8)), strings_Fields x8 x12 ∧
      IfB (decide ((x12.length : Int) > (0 : Int)))
        (Fits (s252.length + [((IntKind.i64.wrap (s200 + 1)), x12)].length) 32 ∧
        X2 ((IntKind.i64.wrap (s200 + 1)), (s252 ++ [((IntKind.i64.wrap (s200 + 1)), x12)])))
        (X2 ((IntKind.i64.wrap (s200 + 1)), s252)))
      (∃ (x15 : List (List UInt8)), strings_Fields x8 x15 ∧
      IfB (decide ((x15.length : Int) > (0 : Int)))
        (Fits (s252.length + [((IntKind.i64.wrap (s200 + 1)), x15)].length) 32 ∧
        X2 ((IntKind.i64.wrap (s200 + 1)), (s252 ++ [((IntKind.i64.wrap (s200 + 1)), x15)])))
        (X2 ((IntKind.i64.wrap (s200 + 1)), s252))))
    (r = (s252, 0))

def lines_All_L1 (p0 : List UInt8) (r : (List (Int × (List (List UInt8)))) × Int) (X1 : Nat → Prop) (s : Nat) : Prop := match s with
  | s151 =>
  IfB (decide (s151 < p0.length))
    (∃ (x2 : Bool), lines_may (runeAt p0 s151) x2 ∧
    IfB x2
      (X1 (s151 + runeLen p0 s151))
      (r = (([] : List (Int × (List (List UInt8)))), 2)))
    (∃ (x4 : List (List UInt8)), strings_Split p0 ([10] : List UInt8) x4 ∧
    LoopP (lines_All_L2 x4 r) ((0 : Int), ([] : List (Int × (List (List UInt8))))))

/-- offcut lines.All -/
def lines_All (p0 : List UInt8) (r : (List (Int × (List (List UInt8)))) × Int) : Prop :=
  IfB (decide ((p0.length : Int) > (65536 : Int)))
    (r = (([] : List (Int × (List (List UInt8)))), 4))
    (LoopP (lines_All_L1 p0 r) 0)

/-- offcut lines.Join -/
def lines_Join (p0 : List (List UInt8)) (r : (List UInt8)) : Prop :=
  ∃ (x1 : List UInt8), strings_Join p0 ([32] : List UInt8) x1 ∧
  r = x1

def offcutref07_Right_L1 (p0 : List UInt8) (r : Bool) (X1 : Int → Prop) (s : Int) : Prop := match s with
  | s100 =>
  IfB (decide (s100 < (p0.length : Int)))
    (∃ (c1 : UInt8), Idx p0 s100 c1 ∧
    IfB (((c1.toNat : Nat) : Int) != (10 : Int))
      (∃ (c3 : UInt8), Idx p0 s100 c3 ∧
      IfB (decide (((c3.toNat : Nat) : Int) < (32 : Int)))
        (r = false)
        (∃ (c5 : UInt8), Idx p0 s100 c5 ∧
        IfB (decide (((c5.toNat : Nat) : Int) > (126 : Int)))
          (r = false)
          (X1 (IntKind.i64.wrap (s100 + 1)))))
      (X1 (IntKind.i64.wrap (s100 + 1))))
    (r = true)

/-- offcut offcutref07.Right -/
def offcutref07_Right (p0 : List UInt8) (r : Bool) : Prop :=
  LoopP (offcutref07_Right_L1 p0 r) (0 : Int)

def offcutref07_All_L1 (p0 : List UInt8) (r : (List (Int × (List (List UInt8))))) (X1 : ((List UInt8) × Bool × Int × Int × (List (Int × (List (List UInt8)))) × (List (List UInt8))) → Prop) (s : (List UInt8) × Bool × Int × Int × (List (Int × (List (List UInt8)))) × (List (List UInt8))) : Prop := match s with
  | (s100, s101, s102, s103, s151, s152) =>
  IfB s101
    (IfB (decide (s102 ≤ (p0.length : Int)))
      (IfB (s102 == (p0.length : Int))
        (IfB (!(s100 == ([] : List UInt8)))
          (Fits (s152.length + [s100].length) 16 ∧
          IfB (decide (((s152 ++ [s100]).length : Int) > (0 : Int)))
            (Fits (s151.length + [(s103, (s152 ++ [s100]))].length) 32 ∧
            X1 (([] : List UInt8), false, (IntKind.i64.wrap (s102 + 1)), (IntKind.i64.wrap (s103 + 1)), (s151 ++ [(s103, (s152 ++ [s100]))]), ([] : List (List UInt8))))
            (X1 (([] : List UInt8), false, (IntKind.i64.wrap (s102 + 1)), (IntKind.i64.wrap (s103 + 1)), s151, ([] : List (List UInt8)))))
          (IfB (decide ((s152.length : Int) > (0 : Int)))
            (Fits (s151.length + [(s103, s152)].length) 32 ∧
            X1 (([] : List UInt8), false, (IntKind.i64.wrap (s102 + 1)), (IntKind.i64.wrap (s103 + 1)), (s151 ++ [(s103, s152)]), ([] : List (List UInt8))))
            (X1 (([] : List UInt8), false, (IntKind.i64.wrap (s102 + 1)), (IntKind.i64.wrap (s103 + 1)), s151, ([] : List (List UInt8))))))
        (∃ (c4 : UInt8), Idx p0 s102 c4 ∧
        IfB (((c4.toNat : Nat) : Int) == (10 : Int))
          (IfB (!(s100 == ([] : List UInt8)))
            (Fits (s152.length + [s100].length) 16 ∧
            IfB (decide (((s152 ++ [s100]).length : Int) > (0 : Int)))
              (Fits (s151.length + [(s103, (s152 ++ [s100]))].length) 32 ∧
              X1 (([] : List UInt8), false, (IntKind.i64.wrap (s102 + 1)), (IntKind.i64.wrap (s103 + 1)), (s151 ++ [(s103, (s152 ++ [s100]))]), ([] : List (List UInt8))))
              (X1 (([] : List UInt8), false, (IntKind.i64.wrap (s102 + 1)), (IntKind.i64.wrap (s103 + 1)), s151, ([] : List (List UInt8)))))
            (IfB (decide ((s152.length : Int) > (0 : Int)))
              (Fits (s151.length + [(s103, s152)].length) 32 ∧
              X1 (([] : List UInt8), false, (IntKind.i64.wrap (s102 + 1)), (IntKind.i64.wrap (s103 + 1)), (s151 ++ [(s103, s152)]), ([] : List (List UInt8))))
              (X1 (([] : List UInt8), false, (IntKind.i64.wrap (s102 + 1)), (IntKind.i64.wrap (s103 + 1)), s151, ([] : List (List UInt8))))))
          (∃ (c9 : UInt8), Idx p0 s102 c9 ∧
          IfB (((c9.toNat : Nat) : Int) == (35 : Int))
            (IfB (!(s100 == ([] : List UInt8)))
              (Fits (s152.length + [s100].length) 16 ∧
              X1 (([] : List UInt8), true, (IntKind.i64.wrap (s102 + 1)), s103, s151, (s152 ++ [s100])))
              (X1 (([] : List UInt8), true, (IntKind.i64.wrap (s102 + 1)), s103, s151, s152)))
            (IfB (!(s100 == ([] : List UInt8)))
              (Fits (s152.length + [s100].length) 16 ∧
              X1 (([] : List UInt8), true, (IntKind.i64.wrap (s102 + 1)), s103, s151, (s152 ++ [s100])))
              (X1 (([] : List UInt8), true, (IntKind.i64.wrap (s102 + 1)), s103, s151, s152))))))
      (r = s151))
    (IfB (decide (s102 ≤ (p0.length : Int)))
      (IfB (s102 == (p0.length : Int))
        (IfB (!(s100 == ([] : List UInt8)))
          (Fits (s152.length + [s100].length) 16 ∧
          IfB (decide (((s152 ++ [s100]).length : Int) > (0 : Int)))
            (Fits (s151.length + [(s103, (s152 ++ [s100]))].length) 32 ∧
            X1 (([] : List UInt8), false, (IntKind.i64.wrap (s102 + 1)), (IntKind.i64.wrap (s103 + 1)), (s151 ++ [(s103, (s152 ++ [s100]))]), ([] : List (List UInt8))))
            (X1 (([] : List UInt8), false, (IntKind.i64.wrap (s102 + 1)), (IntKind.i64.wrap (s103 + 1)), s151, ([] : List (List UInt8)))))
          (IfB (decide ((s152.length : Int) > (0 : Int)))
            (Fits (s151.length + [(s103, s152)].length) 32 ∧
            X1 (([] : List UInt8), false, (IntKind.i64.wrap (s102 + 1)), (IntKind.i64.wrap (s103 + 1)), (s151 ++ [(s103, s152)]), ([] : List (List UInt8))))
            (X1 (([] : List UInt8), false, (IntKind.i64.wrap (s102 + 1)), (IntKind.i64.wrap (s103 + 1)), s151, ([] : List (List UInt8))))))
        (∃ (c16 : UInt8), Idx p0 s102 c16 ∧
        IfB (((c16.toNat : Nat) : Int) == (10 : Int))
          (IfB (!(s100 == ([] : List UInt8)))
            (Fits (s152.length + [s100].length) 16 ∧
            IfB (decide (((s152 ++ [s100]).length : Int) > (0 : Int)))
              (Fits (s151.length + [(s103, (s152 ++ [s100]))].length) 32 ∧
              X1 (([] : List UInt8), false, (IntKind.i64.wrap (s102 + 1)), (IntKind.i64.wrap (s103 + 1)), (s151 ++ [(s103, (s152 ++ [s100]))]), ([] : List (List UInt8))))
              (X1 (([] : List UInt8), false, (IntKind.i64.wrap (s102 + 1)), (IntKind.i64.wrap (s103 + 1)), s151, ([] : List (List UInt8)))))
            (IfB (decide ((s152.length : Int) > (0 : Int)))
              (Fits (s151.length + [(s103, s152)].length) 32 ∧
              X1 (([] : List UInt8), false, (IntKind.i64.wrap (s102 + 1)), (IntKind.i64.wrap (s103 + 1)), (s151 ++ [(s103, s152)]), ([] : List (List UInt8))))
              (X1 (([] : List UInt8), false, (IntKind.i64.wrap (s102 + 1)), (IntKind.i64.wrap (s103 + 1)), s151, ([] : List (List UInt8))))))
          (∃ (c21 : UInt8), Idx p0 s102 c21 ∧
          IfB (((c21.toNat : Nat) : Int) == (35 : Int))
            (IfB (!(s100 == ([] : List UInt8)))
              (Fits (s152.length + [s100].length) 16 ∧
              X1 (([] : List UInt8), true, (IntKind.i64.wrap (s102 + 1)), s103, s151, (s152 ++ [s100])))
              (X1 (([] : List UInt8), true, (IntKind.i64.wrap (s102 + 1)), s103, s151, s152)))
            (∃ (c24 : UInt8), Idx p0 s102 c24 ∧
            IfB (((c24.toNat : Nat) : Int) == (32 : Int))
              (IfB (!(s100 == ([] : List UInt8)))
                (Fits (s152.length + [s100].length) 16 ∧
                X1 (([] : List UInt8), false, (IntKind.i64.wrap (s102 + 1)), s103, s151, (s152 ++ [s100])))
                (X1 (([] : List UInt8), false, (IntKind.i64.wrap (s102 + 1)), s103, s151, s152)))
              (SubOk p0 s102 (IntKind.i64.wrap (s102 + 1)) ∧
              Fits (s100.length + (sub p0 s102 (IntKind.i64.wrap (s102 + 1))).length) 1 ∧
              X1 ((s100 ++ (sub p0 s102 (IntKind.i64.wrap (s102 + 1)))), false, (IntKind.i64.wrap (s102 + 1)), s103, s151, s152))))))
      (r = s151))

/-- offcut offcutref07.All -/
def offcutref07_All (p0 : List UInt8) (r : (List (Int × (List (List UInt8))))) : Prop :=
  LoopP (offcutref07_All_L1 p0 r) (([] : List UInt8), false, (0 : Int), (1 : Int), ([] : List (Int × (List (List UInt8)))), ([] : List (List UInt8)))

def lines_Name_L1 (p0 : List UInt8) (r : Bool) (X1 : Nat → Prop) (s : Nat) : Prop := match s with
  | s150 =>
  IfB (decide (s150 < p0.length))
    (IfB (decide ((runeAt p0 s150) ≥ (97 : Int)))
      (IfB (decide ((runeAt p0 s150) ≤ (122 : Int)))
        (X1 (s150 + runeLen p0 s150))
        (IfB (((s150 : Nat) : Int) == (0 : Int))
          (r = false)
          (IfB ((runeAt p0 s150) != (95 : Int))
            (IfB (decide ((runeAt p0 s150) < (48 : Int)))
              (r = false)
              (IfB (decide ((runeAt p0 s150) > (57 : Int)))
                (r = false)
                (X1 (s150 + runeLen p0 s150))))
            (X1 (s150 + runeLen p0 s150)))))
      (IfB (((s150 : Nat) : Int) == (0 : Int))
        (r = false)
        (IfB ((runeAt p0 s150) != (95 : Int))
          (IfB (decide ((runeAt p0 s150) < (48 : Int)))
            (r = false)
            (IfB (decide ((runeAt p0 s150) > (57 : Int)))
              (r = false)
              (X1 (s150 + runeLen p0 s150))))
          (X1 (s150 + runeLen p0 s150)))))
    (IfB (decide ((p0.length : Int) ≥ (1 : Int)))
      (IfB (decide ((p0.length : Int) ≤ (16 : Int)))
        (r = true)
        (r = false))
      (r = false))

/-- offcut lines.Name -/
def lines_Name (p0 : List UInt8) (r : Bool) : Prop :=
  LoopP (lines_Name_L1 p0 r) 0

/-- offcut lines.Index -/
def lines_Index (p0 : List (List UInt8)) (p1 : List UInt8) (r : Int) : Prop :=
  ∃ (x1 : Int), slices_Index_string_string p0 p1 x1 ∧
  r = x1

def offcutref07_Name_L1 (p0 : List UInt8) (r : Bool) (X1 : Int → Prop) (s : Int) : Prop := match s with
  | s100 =>
  IfB (decide (s100 < (p0.length : Int)))
    (∃ (c1 : UInt8), Idx p0 s100 c1 ∧
    IfB (decide (((c1.toNat : Nat) : Int) ≥ (97 : Int)))
      (∃ (c3 : UInt8), Idx p0 s100 c3 ∧
      IfB (decide (((c3.toNat : Nat) : Int) ≤ (122 : Int)))
        (∃ (c5 : UInt8), Idx p0 s100 c5 ∧
        IfB (((c5.toNat : Nat) : Int) == (95 : Int))
          (X1 (IntKind.i64.wrap (s100 + 1)))
          (∃ (c7 : UInt8), Idx p0 s100 c7 ∧
          IfB (decide (((c7.toNat : Nat) : Int) ≥ (48 : Int)))
            (∃ (c9 : UInt8), Idx p0 s100 c9 ∧
            IfB (decide (((c9.toNat : Nat) : Int) ≤ (57 : Int)))
              (X1 (IntKind.i64.wrap (s100 + 1)))
              (X1 (IntKind.i64.wrap (s100 + 1))))
            (X1 (IntKind.i64.wrap (s100 + 1)))))
        (∃ (c11 : UInt8), Idx p0 s100 c11 ∧
        IfB (((c11.toNat : Nat) : Int) == (95 : Int))
          (IfB (s100 == (0 : Int))
            (r = false)
            (X1 (IntKind.i64.wrap (s100 + 1))))
          (∃ (c13 : UInt8), Idx p0 s100 c13 ∧
          IfB (decide (((c13.toNat : Nat) : Int) ≥ (48 : Int)))
            (∃ (c15 : UInt8), Idx p0 s100 c15 ∧
            IfB (decide (((c15.toNat : Nat) : Int) ≤ (57 : Int)))
              (IfB (s100 == (0 : Int))
                (r = false)
                (X1 (IntKind.i64.wrap (s100 + 1))))
              (IfB (s100 == (0 : Int))
                (r = false)
                (r = false)))
            (IfB (s100 == (0 : Int))
              (r = false)
              (r = false)))))
      (∃ (c17 : UInt8), Idx p0 s100 c17 ∧
      IfB (((c17.toNat : Nat) : Int) == (95 : Int))
        (IfB (s100 == (0 : Int))
          (r = false)
          (X1 (IntKind.i64.wrap (s100 + 1))))
        (∃ (c19 : UInt8), Idx p0 s100 c19 ∧
        IfB (decide (((c19.toNat : Nat) : Int) ≥ (48 : Int)))
          (∃ (c21 : UInt8), Idx p0 s100 c21 ∧
          IfB (decide (((c21.toNat : Nat) : Int) ≤ (57 : Int)))
            (IfB (s100 == (0 : Int))
              (r = false)
              (X1 (IntKind.i64.wrap (s100 + 1))))
            (IfB (s100 == (0 : Int))
              (r = false)
              (r = false)))
          (IfB (s100 == (0 : Int))
            (r = false)
            (r = false)))))
    (r = true)

/-- offcut offcutref07.Name -/
def offcutref07_Name (p0 : List UInt8) (r : Bool) : Prop :=
  IfB (decide ((p0.length : Int) < (1 : Int)))
    (r = false)
    (IfB (decide ((p0.length : Int) > (16 : Int)))
      (r = false)
      (LoopP (offcutref07_Name_L1 p0 r) (0 : Int)))

end Go.Abs
