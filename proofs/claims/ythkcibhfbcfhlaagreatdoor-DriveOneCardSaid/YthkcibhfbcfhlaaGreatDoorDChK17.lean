/- Part of a proof, in few files: D13p D13c B08n B08m. -/
import Derived.Test.YthkcibhfbcfhlaaGreatDoorDChK13
import Derived.Test.YthkcibhfbcfhlaaGreatDoorDChK16
import Derived.Test.YthkcibhfbcfhlaaGreatDoorDChK5

set_option linter.unusedVariables false
set_option linter.unusedSimpArgs false
set_option linter.unnecessarySimpa false
section
namespace Go.Abs
def proof_Right (p0 : Int) (p1 : List Fq) (p2 : List Fq) (p3 : List Fq) (r : Bool) : Prop :=
 IfB (p0 != 2)
  (IfB (p0 != 3)
  (IfB (decide ((p1.length : Int) > 180))
  (r = false)
  (IfB (decide ((p2.length : Int) > 180))
  (r = false)
  (IfB (decide ((p3.length : Int) > 0))
  (r = false)
  (IfB (decide (p0 ≥ 1))
  (IfB (decide (p0 ≤ 3))
  (r = true)
  (r = false))
  (r = false)))))
  (IfB (decide ((p1.length : Int) > 180))
  (r = false)
  (IfB (decide ((p2.length : Int) > 0))
  (r = false)
  (IfB (decide ((p3.length : Int) > 180))
  (r = false)
  (r = true)))))
  (IfB (decide ((p1.length : Int) > 0))
  (r = false)
  (IfB (decide ((p2.length : Int) > 180))
  (r = false)
  (IfB (decide ((p3.length : Int) > 0))
  (r = false)
  (r = true))))
def proof_words  (r : Bz × Bz × Bz × Bz) : Prop :=
 r = ([], ([111, 112, 116, 105, 109, 97, 108] : List UInt8), ([105, 110, 102, 101, 97, 115, 105, 98, 108, 101] : List UInt8), ([117, 110, 98, 111, 117, 110, 100, 101, 100] : List UInt8))
def lines_Number (p0 : List UInt8) (r : Bool × (List Int) × (List Int) × Bool) : Prop :=
 ∃ x1 x2 x3 x4, rat_Parse p0 (x1, x2, x3, x4) ∧
 IfB (x4 != 0)
  (∃ x7 x8 x9, rat_Int (0 : Int) (x7, x8, x9) ∧
  r = (x7, x8, x9, false))
  (r = (x1, x2, x3, true))
def proof_numbers_L1 (p0 : List Bz) (r : (List Fq) × Bool) (X1 : (Int × (List Fq)) → Prop) (s : Int × (List Fq)) : Prop := match s with
 | (s100, s151) =>
 IfB (decide (s100 < (p0.length : Int)))
  (∃ x2, Idx p0 s100 x2 ∧
  ∃ x4 x5 x6 x7, lines_Number x2 (x4, x5, x6, x7) ∧
  IfB x7
  (Fits (s151.length + [(x4, x5, x6)].length) 56 ∧
  X1 ((IntKind.i64.wrap (s100 + 1)), (s151 ++ [(x4, x5, x6)])))
  (r = ([], false)))
  (IfB (decide ((s151.length : Int) ≤ 180))
  (r = (s151, true))
  (r = (s151, false)))
def proof_numbers (p0 : List Bz) (r : (List Fq) × Bool) : Prop :=
 LoopP (proof_numbers_L1 p0 r) ((0 : Int), [])
def proof_Parse_L1 (x1 : List (Int × (List Bz))) (x6 : List UInt8) (x7 : List UInt8) (x8 : List UInt8) (x9 : List UInt8) (r : Int × (List Fq) × (List Fq) × (List Fq) × Int × Int) (X1 : (Int × Int) → Prop) (s : Int × Int) : Prop := match s with
 | (s100, s101) =>
 IfB (decide (s100 < 4))
  (∃ x12, Idx ([x6, x7, x8, x9] : List Bz) s100 x12 ∧
  IfB (decide (s100 > 0))
  (∃ x15 x16, Idx x1 0 (x15, x16) ∧
  IfB ((x16.length : Int) == 1)
  (∃ x19 x20, Idx x1 0 (x19, x20) ∧
  ∃ x22, Idx x20 0 x22 ∧
  IfB (x22 == x12)
  (X1 ((IntKind.i64.wrap (s100 + 1)), s100))
  (X1 ((IntKind.i64.wrap (s100 + 1)), s101)))
  (X1 ((IntKind.i64.wrap (s100 + 1)), s101)))
  (X1 ((IntKind.i64.wrap (s100 + 1)), s101)))
  (IfB (s101 == 0)
  (∃ x25 x26, Idx x1 0 (x25, x26) ∧
  r = (0, [], [], [], x25, 2))
  (∃ x28 x29, Idx x1 0 (x28, x29) ∧
  SubOk x1 1 x1.length ∧
  IfB (s101 != 2)
  (IfB (s101 != 3)
  (IfB (((sub x1 1 x1.length).length : Int) == 0)
  (r = (0, [], [], [], x28, 2))
  (∃ x35 x36, Idx (sub x1 1 x1.length) 0 (x35, x36) ∧
  SubOk x36 1 x36.length ∧
  ∃ x39 x40, proof_numbers (sub x36 1 x36.length) (x39, x40) ∧
  IfB x40
  (∃ x42 x43, Idx (sub x1 1 x1.length) 0 (x42, x43) ∧
  ∃ x45, Idx x43 0 x45 ∧
  IfB (!(x45 == ([120] : List UInt8)))
  (∃ x47 x48, Idx (sub x1 1 x1.length) 0 (x47, x48) ∧
  r = (0, [], [], [], x47, 2))
  (∃ x50 x51, Idx (sub x1 1 x1.length) 0 (x50, x51) ∧
  SubOk (sub x1 1 x1.length) (1 : Int) ((sub x1 1 x1.length).length : Int) ∧
  IfB (((sub (sub x1 1 x1.length) (1 : Int) ((sub x1 1 x1.length).length : Int)).length : Int) == 0)
  (r = (0, [], [], [], x50, 2))
  (∃ x55 x56, Idx (sub (sub x1 1 x1.length) (1 : Int) ((sub x1 1 x1.length).length : Int)) (0 : Int) (x55, x56) ∧
  SubOk x56 1 x56.length ∧
  ∃ x59 x60, proof_numbers (sub x56 1 x56.length) (x59, x60) ∧
  IfB x60
  (∃ x62 x63, Idx (sub (sub x1 1 x1.length) (1 : Int) ((sub x1 1 x1.length).length : Int)) (0 : Int) (x62, x63) ∧
  ∃ x65, Idx x63 0 x65 ∧
  IfB (!(x65 == ([121] : List UInt8)))
  (∃ x67 x68, Idx (sub (sub x1 1 x1.length) (1 : Int) ((sub x1 1 x1.length).length : Int)) (0 : Int) (x67, x68) ∧
  r = (0, [], [], [], x67, 2))
  (∃ x70 x71, Idx (sub (sub x1 1 x1.length) (1 : Int) ((sub x1 1 x1.length).length : Int)) (0 : Int) (x70, x71) ∧
  SubOk (sub (sub x1 1 x1.length) (1 : Int) ((sub x1 1 x1.length).length : Int)) (1 : Int) ((sub (sub x1 1 x1.length) (1 : Int) ((sub x1 1 x1.length).length : Int)).length : Int) ∧
  IfB (decide (((sub (sub (sub x1 1 x1.length) (1 : Int) ((sub x1 1 x1.length).length : Int)) (1 : Int) ((sub (sub x1 1 x1.length) (1 : Int) ((sub x1 1 x1.length).length : Int)).length : Int)).length : Int) > 0))
  (∃ x75 x76, Idx (sub (sub (sub x1 1 x1.length) (1 : Int) ((sub x1 1 x1.length).length : Int)) (1 : Int) ((sub (sub x1 1 x1.length) (1 : Int) ((sub x1 1 x1.length).length : Int)).length : Int)) (0 : Int) (x75, x76) ∧
  r = (0, [], [], [], x75, 2))
  (r = (s101, x39, x59, [], 0, 0))))
  (∃ x78 x79, Idx (sub (sub x1 1 x1.length) (1 : Int) ((sub x1 1 x1.length).length : Int)) (0 : Int) (x78, x79) ∧
  ∃ x81, Idx x79 0 x81 ∧
  IfB (!(x81 == ([121] : List UInt8)))
  (∃ x83 x84, Idx (sub (sub x1 1 x1.length) (1 : Int) ((sub x1 1 x1.length).length : Int)) (0 : Int) (x83, x84) ∧
  r = (0, [], [], [], x83, 2))
  (∃ x86 x87, Idx (sub (sub x1 1 x1.length) (1 : Int) ((sub x1 1 x1.length).length : Int)) (0 : Int) (x86, x87) ∧
  r = (0, [], [], [], x86, 2))))))
  (∃ x89 x90, Idx (sub x1 1 x1.length) 0 (x89, x90) ∧
  ∃ x92, Idx x90 0 x92 ∧
  IfB (!(x92 == ([120] : List UInt8)))
  (∃ x94 x95, Idx (sub x1 1 x1.length) 0 (x94, x95) ∧
  r = (0, [], [], [], x94, 2))
  (∃ x97 x98, Idx (sub x1 1 x1.length) 0 (x97, x98) ∧
  r = (0, [], [], [], x97, 2)))))
  (IfB (((sub x1 1 x1.length).length : Int) == 0)
  (r = (0, [], [], [], x28, 2))
  (∃ x101 x102, Idx (sub x1 1 x1.length) 0 (x101, x102) ∧
  SubOk x102 1 x102.length ∧
  ∃ x105 x106, proof_numbers (sub x102 1 x102.length) (x105, x106) ∧
  IfB x106
  (∃ x108 x109, Idx (sub x1 1 x1.length) 0 (x108, x109) ∧
  ∃ x111, Idx x109 0 x111 ∧
  IfB (!(x111 == ([120] : List UInt8)))
  (∃ x113 x114, Idx (sub x1 1 x1.length) 0 (x113, x114) ∧
  r = (0, [], [], [], x113, 2))
  (∃ x116 x117, Idx (sub x1 1 x1.length) 0 (x116, x117) ∧
  SubOk (sub x1 1 x1.length) (1 : Int) ((sub x1 1 x1.length).length : Int) ∧
  IfB (((sub (sub x1 1 x1.length) (1 : Int) ((sub x1 1 x1.length).length : Int)).length : Int) == 0)
  (r = (0, [], [], [], x116, 2))
  (∃ x121 x122, Idx (sub (sub x1 1 x1.length) (1 : Int) ((sub x1 1 x1.length).length : Int)) (0 : Int) (x121, x122) ∧
  SubOk x122 1 x122.length ∧
  ∃ x125 x126, proof_numbers (sub x122 1 x122.length) (x125, x126) ∧
  IfB x126
  (∃ x128 x129, Idx (sub (sub x1 1 x1.length) (1 : Int) ((sub x1 1 x1.length).length : Int)) (0 : Int) (x128, x129) ∧
  ∃ x131, Idx x129 0 x131 ∧
  IfB (!(x131 == ([114, 97, 121] : List UInt8)))
  (∃ x133 x134, Idx (sub (sub x1 1 x1.length) (1 : Int) ((sub x1 1 x1.length).length : Int)) (0 : Int) (x133, x134) ∧
  r = (0, [], [], [], x133, 2))
  (∃ x136 x137, Idx (sub (sub x1 1 x1.length) (1 : Int) ((sub x1 1 x1.length).length : Int)) (0 : Int) (x136, x137) ∧
  SubOk (sub (sub x1 1 x1.length) (1 : Int) ((sub x1 1 x1.length).length : Int)) (1 : Int) ((sub (sub x1 1 x1.length) (1 : Int) ((sub x1 1 x1.length).length : Int)).length : Int) ∧
  IfB (decide (((sub (sub (sub x1 1 x1.length) (1 : Int) ((sub x1 1 x1.length).length : Int)) (1 : Int) ((sub (sub x1 1 x1.length) (1 : Int) ((sub x1 1 x1.length).length : Int)).length : Int)).length : Int) > 0))
  (∃ x141 x142, Idx (sub (sub (sub x1 1 x1.length) (1 : Int) ((sub x1 1 x1.length).length : Int)) (1 : Int) ((sub (sub x1 1 x1.length) (1 : Int) ((sub x1 1 x1.length).length : Int)).length : Int)) (0 : Int) (x141, x142) ∧
  r = (0, [], [], [], x141, 2))
  (r = (s101, x105, [], x125, 0, 0))))
  (∃ x144 x145, Idx (sub (sub x1 1 x1.length) (1 : Int) ((sub x1 1 x1.length).length : Int)) (0 : Int) (x144, x145) ∧
  ∃ x147, Idx x145 0 x147 ∧
  IfB (!(x147 == ([114, 97, 121] : List UInt8)))
  (∃ x149 x150, Idx (sub (sub x1 1 x1.length) (1 : Int) ((sub x1 1 x1.length).length : Int)) (0 : Int) (x149, x150) ∧
  r = (0, [], [], [], x149, 2))
  (∃ x152 x153, Idx (sub (sub x1 1 x1.length) (1 : Int) ((sub x1 1 x1.length).length : Int)) (0 : Int) (x152, x153) ∧
  r = (0, [], [], [], x152, 2))))))
  (∃ x155 x156, Idx (sub x1 1 x1.length) 0 (x155, x156) ∧
  ∃ x158, Idx x156 0 x158 ∧
  IfB (!(x158 == ([120] : List UInt8)))
  (∃ x160 x161, Idx (sub x1 1 x1.length) 0 (x160, x161) ∧
  r = (0, [], [], [], x160, 2))
  (∃ x163 x164, Idx (sub x1 1 x1.length) 0 (x163, x164) ∧
  r = (0, [], [], [], x163, 2))))))
  (IfB (((sub x1 1 x1.length).length : Int) == 0)
  (r = (0, [], [], [], x28, 2))
  (∃ x167 x168, Idx (sub x1 1 x1.length) 0 (x167, x168) ∧
  SubOk x168 1 x168.length ∧
  ∃ x171 x172, proof_numbers (sub x168 1 x168.length) (x171, x172) ∧
  IfB x172
  (∃ x174 x175, Idx (sub x1 1 x1.length) 0 (x174, x175) ∧
  ∃ x177, Idx x175 0 x177 ∧
  IfB (!(x177 == ([121] : List UInt8)))
  (∃ x179 x180, Idx (sub x1 1 x1.length) 0 (x179, x180) ∧
  r = (0, [], [], [], x179, 2))
  (∃ x182 x183, Idx (sub x1 1 x1.length) 0 (x182, x183) ∧
  SubOk (sub x1 1 x1.length) (1 : Int) ((sub x1 1 x1.length).length : Int) ∧
  IfB (decide (((sub (sub x1 1 x1.length) (1 : Int) ((sub x1 1 x1.length).length : Int)).length : Int) > 0))
  (∃ x187 x188, Idx (sub (sub x1 1 x1.length) (1 : Int) ((sub x1 1 x1.length).length : Int)) (0 : Int) (x187, x188) ∧
  r = (0, [], [], [], x187, 2))
  (r = (s101, [], x171, [], 0, 0))))
  (∃ x190 x191, Idx (sub x1 1 x1.length) 0 (x190, x191) ∧
  ∃ x193, Idx x191 0 x193 ∧
  IfB (!(x193 == ([121] : List UInt8)))
  (∃ x195 x196, Idx (sub x1 1 x1.length) 0 (x195, x196) ∧
  r = (0, [], [], [], x195, 2))
  (∃ x198 x199, Idx (sub x1 1 x1.length) 0 (x198, x199) ∧
  r = (0, [], [], [], x198, 2)))))))
def proof_Parse (p0 : List UInt8) (r : Int × (List Fq) × (List Fq) × (List Fq) × Int × Int) : Prop :=
 ∃ x1 x2, lines_All p0 (x1, x2) ∧
 IfB (x2 != 0)
  (r = (0, [], [], [], 0, x2))
  (IfB ((x1.length : Int) == 0)
  (r = (0, [], [], [], 0, 2))
  (∃ x6 x7 x8 x9, proof_words (x6, x7, x8, x9) ∧
  LoopP (proof_Parse_L1 x1 x6 x7 x8 x9 r) ((0 : Int), (0 : Int))))
end Go.Abs
end

section
namespace Go.Abs
def shape_Right_L1 (p0 : List (List Fq)) (p2 : List Fq) (r : Bool) (X1 : Int → Prop) (s : Int) : Prop := match s with
 | s100 =>
 IfB (decide (s100 < (p0.length : Int)))
  (∃ x5, Idx p0 s100 x5 ∧
  IfB ((x5.length : Int) != (p2.length : Int))
  (IfB (decide (s100 ≥ 0))
  (r = false)
  (r = true))
  (X1 (IntKind.i64.wrap (s100 + 1))))
  (r = true)
def shape_Right (p0 : List (List Fq)) (p1 : List Fq) (p2 : List Fq) (r : Bool) : Prop :=
 IfB (decide ((p2.length : Int) ≤ 5000))
  (IfB (decide ((p0.length : Int) ≤ 90))
  (IfB ((p1.length : Int) == (p0.length : Int))
  (LoopP (shape_Right_L1 p0 p2 r) (0 : Int))
  (r = false))
  (r = false))
  (r = false)
def vec_Dot_L1 (p0 : List Fq) (p1 : List Fq) (r : Fq) (X1 : (Int × Fq) → Prop) (s : Int × Fq) : Prop := match s with
 | (s100, s101, s102, s103) =>
 IfB (decide (s100 < (if (p1.length : Int) < (p0.length : Int) then (p1.length : Int) else (p0.length : Int))))
  (∃ x6 x7 x8, Idx p0 s100 (x6, x7, x8) ∧
  ∃ x10 x11 x12, Idx p1 s100 (x10, x11, x12) ∧
  ∃ x14, rat_Sign x6 x7 x8 x14 ∧
  IfB (x14 != 0)
  (∃ x17, rat_Sign x10 x11 x12 x17 ∧
  IfB (x17 != 0)
  (∃ x20 x21 x22, rat_Mul x6 x7 x8 x10 x11 x12 (x20, x21, x22) ∧
  ∃ x24 x25 x26, rat_Add s101 s102 s103 x20 x21 x22 (x24, x25, x26) ∧
  X1 ((IntKind.i64.wrap (s100 + 1)), x24, x25, x26))
  (X1 ((IntKind.i64.wrap (s100 + 1)), s101, s102, s103)))
  (X1 ((IntKind.i64.wrap (s100 + 1)), s101, s102, s103)))
  (r = (s101, s102, s103))
def vec_Dot (p0 : List Fq) (p1 : List Fq) (r : Fq) : Prop :=
 ∃ x1 x2 x3, rat_Int (0 : Int) (x1, x2, x3) ∧
 LoopP (vec_Dot_L1 p0 p1 r) ((0 : Int), x1, x2, x3)
def vec_Ints_L1 (p0 : List Int) (r : (List Fq)) (X1 : (Int × (List Fq)) → Prop) (s : Int × (List Fq)) : Prop := match s with
 | (s100, s151) =>
 IfB (decide (s100 < (p0.length : Int)))
  (∃ x2, Idx p0 s100 x2 ∧
  ∃ x4 x5 x6, rat_Int x2 (x4, x5, x6) ∧
  Fits (s151.length + [(x4, x5, x6)].length) 56 ∧
  X1 ((IntKind.i64.wrap (s100 + 1)), (s151 ++ [(x4, x5, x6)])))
  (r = s151)
def vec_Ints (p0 : List Int) (r : (List Fq)) : Prop :=
 LoopP (vec_Ints_L1 p0 r) ((0 : Int), [])
def shape_Does_1 (p0 : Bool) (p1 : List Int) (p2 : List Int) (r : Bool) : Prop :=
 ∃ x1, rat_Sign p0 p1 p2 x1 ∧
 IfB (decide (x1 < 0))
  (r = true)
  (r = false)
def shape_Does_L2 (p0 : List (List Fq)) (p1 : List Fq) (p3 : List Fq) (r : Bool) (X2 : Int → Prop) (s : Int) : Prop := match s with
 | s200 =>
 IfB (decide (s200 < (p0.length : Int)))
  (∃ x13, Idx p0 s200 x13 ∧
  ∃ x15 x16 x17, vec_Dot x13 p3 (x15, x16, x17) ∧
  ∃ x19 x20 x21, Idx p1 s200 (x19, x20, x21) ∧
  ∃ x23, rat_Compare x15 x16 x17 x19 x20 x21 x23 ∧
  IfB (x23 != 0)
  (r = false)
  (X2 (IntKind.i64.wrap (s200 + 1))))
  (r = true)
def shape_Does_L3 (p0 : List (List Fq)) (p1 : List Fq) (p3 : List Fq) (r : Bool) (X3 : Int → Prop) (s : Int) : Prop := match s with
 | s300 =>
 IfB (decide (s300 < (p0.length : Int)))
  (∃ x27, Idx p0 s300 x27 ∧
  ∃ x29 x30 x31, vec_Dot x27 p3 (x29, x30, x31) ∧
  ∃ x33 x34 x35, Idx p1 s300 (x33, x34, x35) ∧
  ∃ x37, rat_Compare x29 x30 x31 x33 x34 x35 x37 ∧
  IfB (x37 != 0)
  (r = false)
  (X3 (IntKind.i64.wrap (s300 + 1))))
  (r = true)
def shape_Does_L1 (p0 : List (List Fq)) (p1 : List Fq) (p3 : List Fq) (r : Bool) (X1 : Int → Prop) (s : Int) : Prop := match s with
 | s100 =>
 IfB (decide (s100 < (p3.length : Int)))
  (∃ x5 x6 x7, Idx p3 s100 (x5, x6, x7) ∧
  ∃ x9, shape_Does_1 x5 x6 x7 x9 ∧
  IfB x9
  (IfB (decide (s100 ≥ 0))
  (r = false)
  (LoopP (shape_Does_L2 p0 p1 p3 r) (0 : Int)))
  (X1 (IntKind.i64.wrap (s100 + 1))))
  (LoopP (shape_Does_L3 p0 p1 p3 r) (0 : Int))
def shape_Does (p0 : List (List Fq)) (p1 : List Fq) (p2 : List Fq) (p3 : List Fq) (r : Bool) : Prop :=
 ∃ x1, shape_Right p0 p1 p2 x1 ∧
 IfB x1
  (IfB ((p3.length : Int) != (p2.length : Int))
  (r = false)
  (LoopP (shape_Does_L1 p0 p1 p3 r) (0 : Int)))
  (r = false)
def shape_Column_L1 (p0 : List (List Fq)) (p3 : Int) (r : (List Fq)) (X1 : (Int × (List Fq)) → Prop) (s : Int × (List Fq)) : Prop := match s with
 | (s100, s152) =>
 IfB (decide (s100 < (p0.length : Int)))
  (∃ x6, Idx p0 s100 x6 ∧
  ∃ x8 x9 x10, Idx x6 p3 (x8, x9, x10) ∧
  ∃ x12 x13 x14, Idx x6 p3 (x12, x13, x14) ∧
  ∃ x16 x17 x18, rat_Make x8 x9 x14 (x16, x17, x18) ∧
  Fits (s152.length + [(x16, x17, x18)].length) 56 ∧
  X1 ((IntKind.i64.wrap (s100 + 1)), (s152 ++ [(x16, x17, x18)])))
  (r = s152)
def shape_Column (p0 : List (List Fq)) (p1 : List Fq) (p2 : List Fq) (p3 : Int) (r : (List Fq)) : Prop :=
 ∃ x1, shape_Right p0 p1 p2 x1 ∧
 IfB x1
  (IfB (decide (p3 < 0))
  (r = [])
  (IfB (decide (p3 ≥ (p2.length : Int)))
  (r = [])
  (LoopP (shape_Column_L1 p0 p3 r) ((0 : Int), []))))
  (r = [])
def proof_Lower_L1 (p0 : List (List Fq)) (p1 : List Fq) (p2 : List Fq) (p3 : List Fq) (r : Bool × (List Int) × (List Int) × Bool) (X1 : Int → Prop) (s : Int) : Prop := match s with
 | s100 =>
 IfB (decide (s100 < (p2.length : Int)))
  (∃ x9, shape_Column p0 p1 p2 s100 x9 ∧
  ∃ x11 x12 x13, vec_Dot p3 x9 (x11, x12, x13) ∧
  ∃ x15 x16 x17, Idx p2 s100 (x15, x16, x17) ∧
  ∃ x19, rat_Compare x11 x12 x13 x15 x16 x17 x19 ∧
  IfB (decide (x19 > 0))
  (∃ x22 x23 x24, rat_Int (0 : Int) (x22, x23, x24) ∧
  r = (x22, x23, x24, false))
  (X1 (IntKind.i64.wrap (s100 + 1))))
  (∃ x26 x27 x28, vec_Dot p3 p1 (x26, x27, x28) ∧
  r = (x26, x27, x28, true))
def proof_Lower (p0 : List (List Fq)) (p1 : List Fq) (p2 : List Fq) (p3 : List Fq) (r : Bool × (List Int) × (List Int) × Bool) : Prop :=
 ∃ x1, shape_Right p0 p1 p2 x1 ∧
 IfB x1
  (IfB ((p3.length : Int) != (p0.length : Int))
  (∃ x4 x5 x6, rat_Int (0 : Int) (x4, x5, x6) ∧
  r = (x4, x5, x6, false))
  (LoopP (proof_Lower_L1 p0 p1 p2 p3 r) (0 : Int)))
  (∃ x30 x31 x32, rat_Int (0 : Int) (x30, x31, x32) ∧
  r = (x30, x31, x32, false))
def proof_holds_1 (p0 : Int) (r : Fq) : Prop :=
 ∃ x1 x2 x3, rat_Int (0 : Int) (x1, x2, x3) ∧
 r = (x1, x2, x3)
def proof_holds_L1 (p0 : List (List Fq)) (p1 : List Fq) (p2 : List Fq) (p5 : List Fq) (r : Bool) (X1 : Int → Prop) (s : Int) : Prop := match s with
 | s100 =>
 IfB (decide (s100 < (p2.length : Int)))
  (∃ x19, shape_Column p0 p1 p2 s100 x19 ∧
  ∃ x21 x22 x23, vec_Dot p5 x19 (x21, x22, x23) ∧
  ∃ x25 x26 x27, proof_holds_1 s100 (x25, x26, x27) ∧
  ∃ x29, rat_Compare x21 x22 x23 x25 x26 x27 x29 ∧
  IfB (decide (x29 > 0))
  (r = false)
  (X1 (IntKind.i64.wrap (s100 + 1))))
  (∃ x32 x33 x34, vec_Dot p5 p1 (x32, x33, x34) ∧
  ∃ x36, rat_Sign x32 x33 x34 x36 ∧
  IfB (decide (x36 > 0))
  (r = true)
  (r = false))
def proof_holds (p0 : List (List Fq)) (p1 : List Fq) (p2 : List Fq) (p3 : Int) (p4 : List Fq) (p5 : List Fq) (p6 : List Fq) (r : Bool) : Prop :=
 IfB (p3 == 1)
  (∃ x2 x3 x4 x5, proof_Lower p0 p1 p2 p5 (x2, x3, x4, x5) ∧
  IfB x5
  (∃ x7, shape_Does p0 p1 p2 p4 x7 ∧
  IfB x7
  (∃ x9 x10 x11, vec_Dot p2 p4 (x9, x10, x11) ∧
  ∃ x13, rat_Compare x2 x3 x4 x9 x10 x11 x13 ∧
  IfB (x13 == 0)
  (r = true)
  (r = false))
  (r = false))
  (r = false))
  (IfB (p3 == 2)
  (IfB ((p5.length : Int) != (p0.length : Int))
  (r = false)
  (LoopP (proof_holds_L1 p0 p1 p2 p5 r) (0 : Int)))
  ((0 ≤ (p1.length : Int) ∧ Fits (Int.toNat (p1.length : Int)) 8 ∧ Fits (Int.toNat (p1.length : Int)) 1) ∧
  ∃ x40, vec_Ints (List.replicate (Int.toNat (p1.length : Int)) (0 : Int)) x40 ∧
  ∃ x42, shape_Does p0 p1 p2 p4 x42 ∧
  IfB x42
  (∃ x44, shape_Does p0 x40 p2 p6 x44 ∧
  IfB x44
  (∃ x46 x47 x48, vec_Dot p2 p6 (x46, x47, x48) ∧
  ∃ x50, rat_Sign x46 x47 x48 x50 ∧
  IfB (decide (x50 < 0))
  (r = true)
  (r = false))
  (r = false))
  (r = false)))
def proof_Check (p0 : List (List Fq)) (p1 : List Fq) (p2 : List Fq) (p3 : Int) (p4 : List Fq) (p5 : List Fq) (p6 : List Fq) (r : Int) : Prop :=
 ∃ x1, shape_Right p0 p1 p2 x1 ∧
 IfB x1
  (∃ x3, proof_Right p3 p4 p5 p6 x3 ∧
  IfB x3
  (∃ x5, proof_holds p0 p1 p2 p3 p4 p5 p6 x5 ∧
  IfB x5
  (r = 0)
  (r = 12))
  (r = 1))
  (r = 1)
def vec_Scale_L1 (p0 : List Fq) (p1 : Bool) (p2 : List Int) (p3 : List Int) (r : (List Fq)) (X1 : (Int × (List Fq)) → Prop) (s : Int × (List Fq)) : Prop := match s with
 | (s100, s152) =>
 IfB (decide (s100 < (p0.length : Int)))
  (∃ x2 x3 x4, Idx p0 s100 (x2, x3, x4) ∧
  ∃ x6 x7 x8, rat_Mul x2 x3 x4 p1 p2 p3 (x6, x7, x8) ∧
  Fits (s152.length + [(x6, x7, x8)].length) 56 ∧
  X1 ((IntKind.i64.wrap (s100 + 1)), (s152 ++ [(x6, x7, x8)])))
  (r = s152)
def vec_Scale (p0 : List Fq) (p1 : Bool) (p2 : List Int) (p3 : List Int) (r : (List Fq)) : Prop :=
 LoopP (vec_Scale_L1 p0 p1 p2 p3 r) ((0 : Int), [])
end Go.Abs
end

section
namespace Go.Abs
end Go.Abs
end

section
namespace Go.Abs
def relsL : List (List UInt8 × Int) := [([60, 61], -1), ([61], 0), ([62, 61], 1)]
def model_rels (r : List (List UInt8 × Int)) : Prop := r = relsL
end Go.Abs
end
