/- Part of a proof, in few files: D13p. -/
import Derived.Test.YtdbfgnpobfbfmaaGreatDoorLawProofParsesK19
import Derived.Test.YtdbfgnpobfbfmaaGreatDoorLawProofParsesK32
import Derived.Test.YtdbfgnpobfbfmaaGreatDoorLawProofParsesK33
import Derived.Test.YtdbfgnpobfbfmaaGreatDoorLawProofParsesK34

section
/- Printed by gen.py: what functions come to, as conditions over numbers and lists. -/
namespace Go.Abs
set_option linter.unusedVariables false
set_option linter.unusedSimpArgs false
set_option linter.unnecessarySimpa false

/-- offcut proof.words -/
def proof_words  (r : (List UInt8) × (List UInt8) × (List UInt8) × (List UInt8)) : Prop :=
  r = (([] : List UInt8), ([111, 112, 116, 105, 109, 97, 108] : List UInt8), ([105, 110, 102, 101, 97, 115, 105, 98, 108, 101] : List UInt8), ([117, 110, 98, 111, 117, 110, 100, 101, 100] : List UInt8))

/-- offcut lines.Number -/
def lines_Number (p0 : List UInt8) (r : Bool × (List Int) × (List Int) × Bool) : Prop :=
  ∃ (x1 : Bool) (x2 : List Int) (x3 : List Int) (x4 : Int), rat_Parse p0 (x1, x2, x3, x4) ∧
  IfB (x4 != (0 : Int))
   (∃ (x7 : Bool) (x8 : List Int) (x9 : List Int), rat_Int (0 : Int) (x7, x8, x9) ∧
   r = (x7, x8, x9, false))
   (r = (x1, x2, x3, true))

def proof_numbers_L1 (p0 : List (List UInt8)) (r : (List (Bool × (List Int) × (List Int))) × Bool) (X1 : (Int × (List (Bool × (List Int) × (List Int)))) → Prop) (s : Int × (List (Bool × (List Int) × (List Int)))) : Prop := match s with
  | (s100, s151) =>
  IfB (decide (s100 < (p0.length : Int)))
   (∃ (x2 : List UInt8), Idx p0 s100 x2 ∧
   ∃ (x4 : Bool) (x5 : List Int) (x6 : List Int) (x7 : Bool), lines_Number x2 (x4, x5, x6, x7) ∧
   IfB x7
   (Fits (s151.length + [(x4, x5, x6)].length) 56 ∧
   X1 ((IntKind.i64.wrap (s100 + 1)), (s151 ++ [(x4, x5, x6)])))
   (r = (([] : List (Bool × (List Int) × (List Int))), false)))
   (IfB (decide ((s151.length : Int) ≤ (180 : Int)))
   (r = (s151, true))
   (r = (s151, false)))

/-- offcut proof.numbers -/
def proof_numbers (p0 : List (List UInt8)) (r : (List (Bool × (List Int) × (List Int))) × Bool) : Prop :=
  LoopP (proof_numbers_L1 p0 r) ((0 : Int), ([] : List (Bool × (List Int) × (List Int))))

def proof_Parse_L1 (x1 : List (Int × (List (List UInt8)))) (x6 : List UInt8) (x7 : List UInt8) (x8 : List UInt8) (x9 : List UInt8) (r : Int × (List (Bool × (List Int) × (List Int))) × (List (Bool × (List Int) × (List Int))) × (List (Bool × (List Int) × (List Int))) × Int × Int) (X1 : (Int × Int) → Prop) (s : Int × Int) : Prop := match s with
  | (s100, s101) =>
  IfB (decide (s100 < (4 : Int)))
   (∃ (x12 : List UInt8), Idx ([x6, x7, x8, x9] : List (List UInt8)) s100 x12 ∧
   IfB (decide (s100 > (0 : Int)))
   (∃ (x15 : Int) (x16 : List (List UInt8)), Idx x1 (0 : Int) (x15, x16) ∧
   IfB ((x16.length : Int) == (1 : Int))
   (∃ (x19 : Int) (x20 : List (List UInt8)), Idx x1 (0 : Int) (x19, x20) ∧
   ∃ (x22 : List UInt8), Idx x20 (0 : Int) x22 ∧
   IfB (x22 == x12)
   (X1 ((IntKind.i64.wrap (s100 + 1)), s100))
   (X1 ((IntKind.i64.wrap (s100 + 1)), s101)))
   (X1 ((IntKind.i64.wrap (s100 + 1)), s101)))
   (X1 ((IntKind.i64.wrap (s100 + 1)), s101)))
   (IfB (s101 == (0 : Int))
   (∃ (x25 : Int) (x26 : List (List UInt8)), Idx x1 (0 : Int) (x25, x26) ∧
   r = (0, ([] : List (Bool × (List Int) × (List Int))), ([] : List (Bool × (List Int) × (List Int))), ([] : List (Bool × (List Int) × (List Int))), x25, 2))
   (∃ (x28 : Int) (x29 : List (List UInt8)), Idx x1 (0 : Int) (x28, x29) ∧
   SubOk x1 (1 : Int) (x1.length : Int) ∧
   IfB (s101 != (2 : Int))
   (IfB (s101 != (3 : Int))
   (IfB (((sub x1 (1 : Int) (x1.length : Int)).length : Int) == (0 : Int))
   (r = (0, ([] : List (Bool × (List Int) × (List Int))), ([] : List (Bool × (List Int) × (List Int))), ([] : List (Bool × (List Int) × (List Int))), x28, 2))
   (∃ (x35 : Int) (x36 : List (List UInt8)), Idx (sub x1 (1 : Int) (x1.length : Int)) (0 : Int) (x35, x36) ∧
   SubOk x36 (1 : Int) (x36.length : Int) ∧
   ∃ (x39 : List (Bool × (List Int) × (List Int))) (x40 : Bool), proof_numbers (sub x36 (1 : Int) (x36.length : Int)) (x39, x40) ∧
   IfB x40
   (∃ (x42 : Int) (x43 : List (List UInt8)), Idx (sub x1 (1 : Int) (x1.length : Int)) (0 : Int) (x42, x43) ∧
   ∃ (x45 : List UInt8), Idx x43 (0 : Int) x45 ∧
   IfB (!(x45 == ([120] : List UInt8)))
   (∃ (x47 : Int) (x48 : List (List UInt8)), Idx (sub x1 (1 : Int) (x1.length : Int)) (0 : Int) (x47, x48) ∧
   r = (0, ([] : List (Bool × (List Int) × (List Int))), ([] : List (Bool × (List Int) × (List Int))), ([] : List (Bool × (List Int) × (List Int))), x47, 2))
   (∃ (x50 : Int) (x51 : List (List UInt8)), Idx (sub x1 (1 : Int) (x1.length : Int)) (0 : Int) (x50, x51) ∧
   SubOk (sub x1 (1 : Int) (x1.length : Int)) (1 : Int) ((sub x1 (1 : Int) (x1.length : Int)).length : Int) ∧
   IfB (((sub (sub x1 (1 : Int) (x1.length : Int)) (1 : Int) ((sub x1 (1 : Int) (x1.length : Int)).length : Int)).length : Int) == (0 : Int))
   (r = (0, ([] : List (Bool × (List Int) × (List Int))), ([] : List (Bool × (List Int) × (List Int))), ([] : List (Bool × (List Int) × (List Int))), x50, 2))
   (∃ (x55 : Int) (x56 : List (List UInt8)), Idx (sub (sub x1 (1 : Int) (x1.length : Int)) (1 : Int) ((sub x1 (1 : Int) (x1.length : Int)).length : Int)) (0 : Int) (x55, x56) ∧
   SubOk x56 (1 : Int) (x56.length : Int) ∧
   ∃ (x59 : List (Bool × (List Int) × (List Int))) (x60 : Bool), proof_numbers (sub x56 (1 : Int) (x56.length : Int)) (x59, x60) ∧
   IfB x60
   (∃ (x62 : Int) (x63 : List (List UInt8)), Idx (sub (sub x1 (1 : Int) (x1.length : Int)) (1 : Int) ((sub x1 (1 : Int) (x1.length : Int)).length : Int)) (0 : Int) (x62, x63) ∧
   ∃ (x65 : List UInt8), Idx x63 (0 : Int) x65 ∧
   IfB (!(x65 == ([121] : List UInt8)))
   (∃ (x67 : Int) (x68 : List (List UInt8)), Idx (sub (sub x1 (1 : Int) (x1.length : Int)) (1 : Int) ((sub x1 (1 : Int) (x1.length : Int)).length : Int)) (0 : Int) (x67, x68) ∧
   r = (0, ([] : List (Bool × (List Int) × (List Int))), ([] : List (Bool × (List Int) × (List Int))), ([] : List (Bool × (List Int) × (List Int))), x67, 2))
   (∃ (x70 : Int) (x71 : List (List UInt8)), Idx (sub (sub x1 (1 : Int) (x1.length : Int)) (1 : Int) ((sub x1 (1 : Int) (x1.length : Int)).length : Int)) (0 : Int) (x70, x71) ∧
   SubOk (sub (sub x1 (1 : Int) (x1.length : Int)) (1 : Int) ((sub x1 (1 : Int) (x1.length : Int)).length : Int)) (1 : Int) ((sub (sub x1 (1 : Int) (x1.length : Int)) (1 : Int) ((sub x1 (1 : Int) (x1.length : Int)).length : Int)).length : Int) ∧
   IfB (decide (((sub (sub (sub x1 (1 : Int) (x1.length : Int)) (1 : Int) ((sub x1 (1 : Int) (x1.length : Int)).length : Int)) (1 : Int) ((sub (sub x1 (1 : Int) (x1.length : Int)) (1 : Int) ((sub x1 (1 : Int) (x1.length : Int)).length : Int)).length : Int)).length : Int) > (0 : Int)))
   (∃ (x75 : Int) (x76 : List (List UInt8)), Idx (sub (sub (sub x1 (1 : Int) (x1.length : Int)) (1 : Int) ((sub x1 (1 : Int) (x1.length : Int)).length : Int)) (1 : Int) ((sub (sub x1 (1 : Int) (x1.length : Int)) (1 : Int) ((sub x1 (1 : Int) (x1.length : Int)).length : Int)).length : Int)) (0 : Int) (x75, x76) ∧
   r = (0, ([] : List (Bool × (List Int) × (List Int))), ([] : List (Bool × (List Int) × (List Int))), ([] : List (Bool × (List Int) × (List Int))), x75, 2))
   (r = (s101, x39, x59, ([] : List (Bool × (List Int) × (List Int))), 0, 0))))
   (∃ (x78 : Int) (x79 : List (List UInt8)), Idx (sub (sub x1 (1 : Int) (x1.length : Int)) (1 : Int) ((sub x1 (1 : Int) (x1.length : Int)).length : Int)) (0 : Int) (x78, x79) ∧
   ∃ (x81 : List UInt8), Idx x79 (0 : Int) x81 ∧
   IfB (!(x81 == ([121] : List UInt8)))
   (∃ (x83 : Int) (x84 : List (List UInt8)), Idx (sub (sub x1 (1 : Int) (x1.length : Int)) (1 : Int) ((sub x1 (1 : Int) (x1.length : Int)).length : Int)) (0 : Int) (x83, x84) ∧
   r = (0, ([] : List (Bool × (List Int) × (List Int))), ([] : List (Bool × (List Int) × (List Int))), ([] : List (Bool × (List Int) × (List Int))), x83, 2))
   (∃ (x86 : Int) (x87 : List (List UInt8)), Idx (sub (sub x1 (1 : Int) (x1.length : Int)) (1 : Int) ((sub x1 (1 : Int) (x1.length : Int)).length : Int)) (0 : Int) (x86, x87) ∧
   r = (0, ([] : List (Bool × (List Int) × (List Int))), ([] : List (Bool × (List Int) × (List Int))), ([] : List (Bool × (List Int) × (List Int))), x86, 2))))))
   (∃ (x89 : Int) (x90 : List (List UInt8)), Idx (sub x1 (1 : Int) (x1.length : Int)) (0 : Int) (x89, x90) ∧
   ∃ (x92 : List UInt8), Idx x90 (0 : Int) x92 ∧
   IfB (!(x92 == ([120] : List UInt8)))
   (∃ (x94 : Int) (x95 : List (List UInt8)), Idx (sub x1 (1 : Int) (x1.length : Int)) (0 : Int) (x94, x95) ∧
   r = (0, ([] : List (Bool × (List Int) × (List Int))), ([] : List (Bool × (List Int) × (List Int))), ([] : List (Bool × (List Int) × (List Int))), x94, 2))
   (∃ (x97 : Int) (x98 : List (List UInt8)), Idx (sub x1 (1 : Int) (x1.length : Int)) (0 : Int) (x97, x98) ∧
   r = (0, ([] : List (Bool × (List Int) × (List Int))), ([] : List (Bool × (List Int) × (List Int))), ([] : List (Bool × (List Int) × (List Int))), x97, 2)))))
   (IfB (((sub x1 (1 : Int) (x1.length : Int)).length : Int) == (0 : Int))
   (r = (0, ([] : List (Bool × (List Int) × (List Int))), ([] : List (Bool × (List Int) × (List Int))), ([] : List (Bool × (List Int) × (List Int))), x28, 2))
   (∃ (x101 : Int) (x102 : List (List UInt8)), Idx (sub x1 (1 : Int) (x1.length : Int)) (0 : Int) (x101, x102) ∧
   SubOk x102 (1 : Int) (x102.length : Int) ∧
   ∃ (x105 : List (Bool × (List Int) × (List Int))) (x106 : Bool), proof_numbers (sub x102 (1 : Int) (x102.length : Int)) (x105, x106) ∧
   IfB x106
   (∃ (x108 : Int) (x109 : List (List UInt8)), Idx (sub x1 (1 : Int) (x1.length : Int)) (0 : Int) (x108, x109) ∧
   ∃ (x111 : List UInt8), Idx x109 (0 : Int) x111 ∧
   IfB (!(x111 == ([120] : List UInt8)))
   (∃ (x113 : Int) (x114 : List (List UInt8)), Idx (sub x1 (1 : Int) (x1.length : Int)) (0 : Int) (x113, x114) ∧
   r = (0, ([] : List (Bool × (List Int) × (List Int))), ([] : List (Bool × (List Int) × (List Int))), ([] : List (Bool × (List Int) × (List Int))), x113, 2))
   (∃ (x116 : Int) (x117 : List (List UInt8)), Idx (sub x1 (1 : Int) (x1.length : Int)) (0 : Int) (x116, x117) ∧
   SubOk (sub x1 (1 : Int) (x1.length : Int)) (1 : Int) ((sub x1 (1 : Int) (x1.length : Int)).length : Int) ∧
   IfB (((sub (sub x1 (1 : Int) (x1.length : Int)) (1 : Int) ((sub x1 (1 : Int) (x1.length : Int)).length : Int)).length : Int) == (0 : Int))
   (r = (0, ([] : List (Bool × (List Int) × (List Int))), ([] : List (Bool × (List Int) × (List Int))), ([] : List (Bool × (List Int) × (List Int))), x116, 2))
   (∃ (x121 : Int) (x122 : List (List UInt8)), Idx (sub (sub x1 (1 : Int) (x1.length : Int)) (1 : Int) ((sub x1 (1 : Int) (x1.length : Int)).length : Int)) (0 : Int) (x121, x122) ∧
   SubOk x122 (1 : Int) (x122.length : Int) ∧
   ∃ (x125 : List (Bool × (List Int) × (List Int))) (x126 : Bool), proof_numbers (sub x122 (1 : Int) (x122.length : Int)) (x125, x126) ∧
   IfB x126
   (∃ (x128 : Int) (x129 : List (List UInt8)), Idx (sub (sub x1 (1 : Int) (x1.length : Int)) (1 : Int) ((sub x1 (1 : Int) (x1.length : Int)).length : Int)) (0 : Int) (x128, x129) ∧
   ∃ (x131 : List UInt8), Idx x129 (0 : Int) x131 ∧
   IfB (!(x131 == ([114, 97, 121] : List UInt8)))
   (∃ (x133 : Int) (x134 : List (List UInt8)), Idx (sub (sub x1 (1 : Int) (x1.length : Int)) (1 : Int) ((sub x1 (1 : Int) (x1.length : Int)).length : Int)) (0 : Int) (x133, x134) ∧
   r = (0, ([] : List (Bool × (List Int) × (List Int))), ([] : List (Bool × (List Int) × (List Int))), ([] : List (Bool × (List Int) × (List Int))), x133, 2))
   (∃ (x136 : Int) (x137 : List (List UInt8)), Idx (sub (sub x1 (1 : Int) (x1.length : Int)) (1 : Int) ((sub x1 (1 : Int) (x1.length : Int)).length : Int)) (0 : Int) (x136, x137) ∧
   SubOk (sub (sub x1 (1 : Int) (x1.length : Int)) (1 : Int) ((sub x1 (1 : Int) (x1.length : Int)).length : Int)) (1 : Int) ((sub (sub x1 (1 : Int) (x1.length : Int)) (1 : Int) ((sub x1 (1 : Int) (x1.length : Int)).length : Int)).length : Int) ∧
   IfB (decide (((sub (sub (sub x1 (1 : Int) (x1.length : Int)) (1 : Int) ((sub x1 (1 : Int) (x1.length : Int)).length : Int)) (1 : Int) ((sub (sub x1 (1 : Int) (x1.length : Int)) (1 : Int) ((sub x1 (1 : Int) (x1.length : Int)).length : Int)).length : Int)).length : Int) > (0 : Int)))
   (∃ (x141 : Int) (x142 : List (List UInt8)), Idx (sub (sub (sub x1 (1 : Int) (x1.length : Int)) (1 : Int) ((sub x1 (1 : Int) (x1.length : Int)).length : Int)) (1 : Int) ((sub (sub x1 (1 : Int) (x1.length : Int)) (1 : Int) ((sub x1 (1 : Int) (x1.length : Int)).length : Int)).length : Int)) (0 : Int) (x141, x142) ∧
   r = (0, ([] : List (Bool × (List Int) × (List Int))), ([] : List (Bool × (List Int) × (List Int))), ([] : List (Bool × (List Int) × (List Int))), x141, 2))
   (r = (s101, x105, ([] : List (Bool × (List Int) × (List Int))), x125, 0, 0))))
   (∃ (x144 : Int) (x145 : List (List UInt8)), Idx (sub (sub x1 (1 : Int) (x1.length : Int)) (1 : Int) ((sub x1 (1 : Int) (x1.length : Int)).length : Int)) (0 : Int) (x144, x145) ∧
   ∃ (x147 : List UInt8), Idx x145 (0 : Int) x147 ∧
   IfB (!(x147 == ([114, 97, 121] : List UInt8)))
   (∃ (x149 : Int) (x150 : List (List UInt8)), Idx (sub (sub x1 (1 : Int) (x1.length : Int)) (1 : Int) ((sub x1 (1 : Int) (x1.length : Int)).length : Int)) (0 : Int) (x149, x150) ∧
   r = (0, ([] : List (Bool × (List Int) × (List Int))), ([] : List (Bool × (List Int) × (List Int))), ([] : List (Bool × (List Int) × (List Int))), x149, 2))
   (∃ (x152 : Int) (x153 : List (List UInt8)), Idx (sub (sub x1 (1 : Int) (x1.length : Int)) (1 : Int) ((sub x1 (1 : Int) (x1.length : Int)).length : Int)) (0 : Int) (x152, x153) ∧
   r = (0, ([] : List (Bool × (List Int) × (List Int))), ([] : List (Bool × (List Int) × (List Int))), ([] : List (Bool × (List Int) × (List Int))), x152, 2))))))
   (∃ (x155 : Int) (x156 : List (List UInt8)), Idx (sub x1 (1 : Int) (x1.length : Int)) (0 : Int) (x155, x156) ∧
   ∃ (x158 : List UInt8), Idx x156 (0 : Int) x158 ∧
   IfB (!(x158 == ([120] : List UInt8)))
   (∃ (x160 : Int) (x161 : List (List UInt8)), Idx (sub x1 (1 : Int) (x1.length : Int)) (0 : Int) (x160, x161) ∧
   r = (0, ([] : List (Bool × (List Int) × (List Int))), ([] : List (Bool × (List Int) × (List Int))), ([] : List (Bool × (List Int) × (List Int))), x160, 2))
   (∃ (x163 : Int) (x164 : List (List UInt8)), Idx (sub x1 (1 : Int) (x1.length : Int)) (0 : Int) (x163, x164) ∧
   r = (0, ([] : List (Bool × (List Int) × (List Int))), ([] : List (Bool × (List Int) × (List Int))), ([] : List (Bool × (List Int) × (List Int))), x163, 2))))))
   (IfB (((sub x1 (1 : Int) (x1.length : Int)).length : Int) == (0 : Int))
   (r = (0, ([] : List (Bool × (List Int) × (List Int))), ([] : List (Bool × (List Int) × (List Int))), ([] : List (Bool × (List Int) × (List Int))), x28, 2))
   (∃ (x167 : Int) (x168 : List (List UInt8)), Idx (sub x1 (1 : Int) (x1.length : Int)) (0 : Int) (x167, x168) ∧
   SubOk x168 (1 : Int) (x168.length : Int) ∧
   ∃ (x171 : List (Bool × (List Int) × (List Int))) (x172 : Bool), proof_numbers (sub x168 (1 : Int) (x168.length : Int)) (x171, x172) ∧
   IfB x172
   (∃ (x174 : Int) (x175 : List (List UInt8)), Idx (sub x1 (1 : Int) (x1.length : Int)) (0 : Int) (x174, x175) ∧
   ∃ (x177 : List UInt8), Idx x175 (0 : Int) x177 ∧
   IfB (!(x177 == ([121] : List UInt8)))
   (∃ (x179 : Int) (x180 : List (List UInt8)), Idx (sub x1 (1 : Int) (x1.length : Int)) (0 : Int) (x179, x180) ∧
   r = (0, ([] : List (Bool × (List Int) × (List Int))), ([] : List (Bool × (List Int) × (List Int))), ([] : List (Bool × (List Int) × (List Int))), x179, 2))
   (∃ (x182 : Int) (x183 : List (List UInt8)), Idx (sub x1 (1 : Int) (x1.length : Int)) (0 : Int) (x182, x183) ∧
   SubOk (sub x1 (1 : Int) (x1.length : Int)) (1 : Int) ((sub x1 (1 : Int) (x1.length : Int)).length : Int) ∧
   IfB (decide (((sub (sub x1 (1 : Int) (x1.length : Int)) (1 : Int) ((sub x1 (1 : Int) (x1.length : Int)).length : Int)).length : Int) > (0 : Int)))
   (∃ (x187 : Int) (x188 : List (List UInt8)), Idx (sub (sub x1 (1 : Int) (x1.length : Int)) (1 : Int) ((sub x1 (1 : Int) (x1.length : Int)).length : Int)) (0 : Int) (x187, x188) ∧
   r = (0, ([] : List (Bool × (List Int) × (List Int))), ([] : List (Bool × (List Int) × (List Int))), ([] : List (Bool × (List Int) × (List Int))), x187, 2))
   (r = (s101, ([] : List (Bool × (List Int) × (List Int))), x171, ([] : List (Bool × (List Int) × (List Int))), 0, 0))))
   (∃ (x190 : Int) (x191 : List (List UInt8)), Idx (sub x1 (1 : Int) (x1.length : Int)) (0 : Int) (x190, x191) ∧
   ∃ (x193 : List UInt8), Idx x191 (0 : Int) x193 ∧
   IfB (!(x193 == ([121] : List UInt8)))
   (∃ (x195 : Int) (x196 : List (List UInt8)), Idx (sub x1 (1 : Int) (x1.length : Int)) (0 : Int) (x195, x196) ∧
   r = (0, ([] : List (Bool × (List Int) × (List Int))), ([] : List (Bool × (List Int) × (List Int))), ([] : List (Bool × (List Int) × (List Int))), x195, 2))
   (∃ (x198 : Int) (x199 : List (List UInt8)), Idx (sub x1 (1 : Int) (x1.length : Int)) (0 : Int) (x198, x199) ∧
   r = (0, ([] : List (Bool × (List Int) × (List Int))), ([] : List (Bool × (List Int) × (List Int))), ([] : List (Bool × (List Int) × (List Int))), x198, 2)))))))

/-- offcut proof.Parse -/
def proof_Parse (p0 : List UInt8) (r : Int × (List (Bool × (List Int) × (List Int))) × (List (Bool × (List Int) × (List Int))) × (List (Bool × (List Int) × (List Int))) × Int × Int) : Prop :=
  ∃ (x1 : List (Int × (List (List UInt8)))) (x2 : Int), lines_All p0 (x1, x2) ∧
  IfB (x2 != (0 : Int))
   (r = (0, ([] : List (Bool × (List Int) × (List Int))), ([] : List (Bool × (List Int) × (List Int))), ([] : List (Bool × (List Int) × (List Int))), 0, x2))
   (IfB ((x1.length : Int) == (0 : Int))
   (r = (0, ([] : List (Bool × (List Int) × (List Int))), ([] : List (Bool × (List Int) × (List Int))), ([] : List (Bool × (List Int) × (List Int))), 0, 2))
   (∃ (x6 : List UInt8) (x7 : List UInt8) (x8 : List UInt8) (x9 : List UInt8), proof_words (x6, x7, x8, x9) ∧
   LoopP (proof_Parse_L1 x1 x6 x7 x8 x9 r) ((0 : Int), (0 : Int))))

/-- offcut vec.Same 1 -/
def vec_Same_1 (p0 : Bool) (p1 : List Int) (p2 : List Int) (p3 : Bool) (p4 : List Int) (p5 : List Int) (r : Bool) : Prop :=
  ∃ (x1 : Int), rat_Compare p0 p1 p2 p3 p4 p5 x1 ∧
  IfB (x1 == (0 : Int))
   (r = true)
   (r = false)

def vec_Same_L1 (p0 : List (Bool × (List Int) × (List Int))) (p1 : List (Bool × (List Int) × (List Int))) (r : Bool) (X1 : Int → Prop) (s : Int) : Prop := match s with
  | s100 =>
  IfB (decide (s100 < (p0.length : Int)))
   (∃ (x3 : Bool) (x4 : List Int) (x5 : List Int), Idx p0 s100 (x3, x4, x5) ∧
   ∃ (x7 : Bool) (x8 : List Int) (x9 : List Int), Idx p1 s100 (x7, x8, x9) ∧
   ∃ (x11 : Bool), vec_Same_1 x3 x4 x5 x7 x8 x9 x11 ∧
   IfB x11
   (X1 (IntKind.i64.wrap (s100 + 1)))
   (r = false))
   (r = true)

/-- offcut vec.Same -/
def vec_Same (p0 : List (Bool × (List Int) × (List Int))) (p1 : List (Bool × (List Int) × (List Int))) (r : Bool) : Prop :=
  IfB ((p0.length : Int) != (p1.length : Int))
   (r = false)
   (LoopP (vec_Same_L1 p0 p1 r) (0 : Int))

/-- offcut proof.Same -/
def proof_Same (p0 : Int) (p1 : List (Bool × (List Int) × (List Int))) (p2 : List (Bool × (List Int) × (List Int))) (p3 : List (Bool × (List Int) × (List Int))) (p4 : Int) (p5 : List (Bool × (List Int) × (List Int))) (p6 : List (Bool × (List Int) × (List Int))) (p7 : List (Bool × (List Int) × (List Int))) (r : Bool) : Prop :=
  IfB (p0 == p4)
   (∃ (x2 : Bool), vec_Same p1 p5 x2 ∧
   IfB x2
   (∃ (x4 : Bool), vec_Same p2 p6 x4 ∧
   IfB x4
   (∃ (x6 : Bool), vec_Same p3 p7 x6 ∧
   IfB x6
   (r = true)
   (r = false))
   (r = false))
   (r = false))
   (r = false)

def offcutref08_digits_L1 (p0 : List UInt8) (r : Bool) (X1 : Int → Prop) (s : Int) : Prop := match s with
  | s100 =>
  IfB (decide (s100 < (p0.length : Int)))
   (∃ (c2 : UInt8), Idx p0 s100 c2 ∧
   IfB (decide (((c2.toNat : Nat) : Int) < (48 : Int)))
   (r = false)
   (∃ (c5 : UInt8), Idx p0 s100 c5 ∧
   IfB (decide (((c5.toNat : Nat) : Int) > (57 : Int)))
   (r = false)
   (X1 (IntKind.i64.wrap (s100 + 1)))))
   (IfB (decide ((p0.length : Int) > (0 : Int)))
   (IfB (decide ((p0.length : Int) ≤ (400 : Int)))
   (r = true)
   (r = false))
   (r = false))

/-- offcut offcutref08.digits -/
def offcutref08_digits (p0 : List UInt8) (r : Bool) : Prop :=
  LoopP (offcutref08_digits_L1 p0 r) (0 : Int)

def offcutref08_Number_L2 (p0 : List UInt8) (s100 : Int) (r : Bool) (X2 : (Bool × Int) → Prop) (s : Bool × Int) : Prop := match s with
  | (s200, s201) =>
  IfB s200
   (IfB (decide (s201 < ((sub (sub p0 (1 : Int) (p0.length : Int)) (IntKind.i64.wrap (s100 + 1)) ((sub p0 (1 : Int) (p0.length : Int)).length : Int)).length : Int)))
   (∃ (c12 : UInt8), Idx (sub (sub p0 (1 : Int) (p0.length : Int)) (IntKind.i64.wrap (s100 + 1)) ((sub p0 (1 : Int) (p0.length : Int)).length : Int)) s201 c12 ∧
   IfB (((c12.toNat : Nat) : Int) != (48 : Int))
   (X2 (false, (IntKind.i64.wrap (s201 + 1))))
   (X2 (true, (IntKind.i64.wrap (s201 + 1)))))
   (SubOk (sub p0 (1 : Int) (p0.length : Int)) 0 s100 ∧
   ∃ (x16 : Bool), offcutref08_digits (sub (sub p0 (1 : Int) (p0.length : Int)) 0 s100) x16 ∧
   IfB x16
   (∃ (x18 : Bool), offcutref08_digits (sub (sub p0 (1 : Int) (p0.length : Int)) (IntKind.i64.wrap (s100 + 1)) ((sub p0 (1 : Int) (p0.length : Int)).length : Int)) x18 ∧
   IfB x18
   (r = false)
   (r = false))
   (r = false)))
   (IfB (decide (s201 < ((sub (sub p0 (1 : Int) (p0.length : Int)) (IntKind.i64.wrap (s100 + 1)) ((sub p0 (1 : Int) (p0.length : Int)).length : Int)).length : Int)))
   (∃ (c21 : UInt8), Idx (sub (sub p0 (1 : Int) (p0.length : Int)) (IntKind.i64.wrap (s100 + 1)) ((sub p0 (1 : Int) (p0.length : Int)).length : Int)) s201 c21 ∧
   IfB (((c21.toNat : Nat) : Int) != (48 : Int))
   (X2 (false, (IntKind.i64.wrap (s201 + 1))))
   (X2 (false, (IntKind.i64.wrap (s201 + 1)))))
   (SubOk (sub p0 (1 : Int) (p0.length : Int)) 0 s100 ∧
   ∃ (x25 : Bool), offcutref08_digits (sub (sub p0 (1 : Int) (p0.length : Int)) 0 s100) x25 ∧
   IfB x25
   (∃ (x27 : Bool), offcutref08_digits (sub (sub p0 (1 : Int) (p0.length : Int)) (IntKind.i64.wrap (s100 + 1)) ((sub p0 (1 : Int) (p0.length : Int)).length : Int)) x27 ∧
   IfB x27
   (r = true)
   (r = false))
   (r = false)))

def offcutref08_Number_L1 (p0 : List UInt8) (r : Bool) (X1 : Int → Prop) (s : Int) : Prop := match s with
  | s100 =>
  IfB (decide (s100 < ((sub p0 (1 : Int) (p0.length : Int)).length : Int)))
   (∃ (c7 : UInt8), Idx (sub p0 (1 : Int) (p0.length : Int)) s100 c7 ∧
   IfB (((c7.toNat : Nat) : Int) == (47 : Int))
   (SubOk (sub p0 (1 : Int) (p0.length : Int)) (IntKind.i64.wrap (s100 + 1)) ((sub p0 (1 : Int) (p0.length : Int)).length : Int) ∧
   LoopP (offcutref08_Number_L2 p0 s100 r) (true, (0 : Int)))
   (X1 (IntKind.i64.wrap (s100 + 1))))
   (∃ (x29 : Bool), offcutref08_digits (sub p0 (1 : Int) (p0.length : Int)) x29 ∧
   IfB x29
   (r = true)
   (r = false))

def offcutref08_Number_L4 (p0 : List UInt8) (s300 : Int) (r : Bool) (X4 : (Bool × Int) → Prop) (s : Bool × Int) : Prop := match s with
  | (s400, s401) =>
  IfB s400
   (IfB (decide (s401 < ((sub p0 (IntKind.i64.wrap (s300 + 1)) (p0.length : Int)).length : Int)))
   (∃ (c37 : UInt8), Idx (sub p0 (IntKind.i64.wrap (s300 + 1)) (p0.length : Int)) s401 c37 ∧
   IfB (((c37.toNat : Nat) : Int) != (48 : Int))
   (X4 (false, (IntKind.i64.wrap (s401 + 1))))
   (X4 (true, (IntKind.i64.wrap (s401 + 1)))))
   (SubOk p0 0 s300 ∧
   ∃ (x41 : Bool), offcutref08_digits (sub p0 0 s300) x41 ∧
   IfB x41
   (∃ (x43 : Bool), offcutref08_digits (sub p0 (IntKind.i64.wrap (s300 + 1)) (p0.length : Int)) x43 ∧
   IfB x43
   (r = false)
   (r = false))
   (r = false)))
   (IfB (decide (s401 < ((sub p0 (IntKind.i64.wrap (s300 + 1)) (p0.length : Int)).length : Int)))
   (∃ (c46 : UInt8), Idx (sub p0 (IntKind.i64.wrap (s300 + 1)) (p0.length : Int)) s401 c46 ∧
   IfB (((c46.toNat : Nat) : Int) != (48 : Int))
   (X4 (false, (IntKind.i64.wrap (s401 + 1))))
   (X4 (false, (IntKind.i64.wrap (s401 + 1)))))
   (SubOk p0 0 s300 ∧
   ∃ (x50 : Bool), offcutref08_digits (sub p0 0 s300) x50 ∧
   IfB x50
   (∃ (x52 : Bool), offcutref08_digits (sub p0 (IntKind.i64.wrap (s300 + 1)) (p0.length : Int)) x52 ∧
   IfB x52
   (r = true)
   (r = false))
   (r = false)))

def offcutref08_Number_L3 (p0 : List UInt8) (r : Bool) (X3 : Int → Prop) (s : Int) : Prop := match s with
  | s300 =>
  IfB (decide (s300 < (p0.length : Int)))
   (∃ (c32 : UInt8), Idx p0 s300 c32 ∧
   IfB (((c32.toNat : Nat) : Int) == (47 : Int))
   (SubOk p0 (IntKind.i64.wrap (s300 + 1)) (p0.length : Int) ∧
   LoopP (offcutref08_Number_L4 p0 s300 r) (true, (0 : Int)))
   (X3 (IntKind.i64.wrap (s300 + 1))))
   (∃ (x54 : Bool), offcutref08_digits p0 x54 ∧
   IfB x54
   (r = true)
   (r = false))

def offcutref08_Number_L6 (p0 : List UInt8) (s500 : Int) (r : Bool) (X6 : (Bool × Int) → Prop) (s : Bool × Int) : Prop := match s with
  | (s600, s601) =>
  IfB s600
   (IfB (decide (s601 < ((sub p0 (IntKind.i64.wrap (s500 + 1)) (p0.length : Int)).length : Int)))
   (∃ (c62 : UInt8), Idx (sub p0 (IntKind.i64.wrap (s500 + 1)) (p0.length : Int)) s601 c62 ∧
   IfB (((c62.toNat : Nat) : Int) != (48 : Int))
   (X6 (false, (IntKind.i64.wrap (s601 + 1))))
   (X6 (true, (IntKind.i64.wrap (s601 + 1)))))
   (SubOk p0 0 s500 ∧
   ∃ (x66 : Bool), offcutref08_digits (sub p0 0 s500) x66 ∧
   IfB x66
   (∃ (x68 : Bool), offcutref08_digits (sub p0 (IntKind.i64.wrap (s500 + 1)) (p0.length : Int)) x68 ∧
   IfB x68
   (r = false)
   (r = false))
   (r = false)))
   (IfB (decide (s601 < ((sub p0 (IntKind.i64.wrap (s500 + 1)) (p0.length : Int)).length : Int)))
   (∃ (c71 : UInt8), Idx (sub p0 (IntKind.i64.wrap (s500 + 1)) (p0.length : Int)) s601 c71 ∧
   IfB (((c71.toNat : Nat) : Int) != (48 : Int))
   (X6 (false, (IntKind.i64.wrap (s601 + 1))))
   (X6 (false, (IntKind.i64.wrap (s601 + 1)))))
   (SubOk p0 0 s500 ∧
   ∃ (x75 : Bool), offcutref08_digits (sub p0 0 s500) x75 ∧
   IfB x75
   (∃ (x77 : Bool), offcutref08_digits (sub p0 (IntKind.i64.wrap (s500 + 1)) (p0.length : Int)) x77 ∧
   IfB x77
   (r = true)
   (r = false))
   (r = false)))

def offcutref08_Number_L5 (p0 : List UInt8) (r : Bool) (X5 : Int → Prop) (s : Int) : Prop := match s with
  | s500 =>
  IfB (decide (s500 < (p0.length : Int)))
   (∃ (c57 : UInt8), Idx p0 s500 c57 ∧
   IfB (((c57.toNat : Nat) : Int) == (47 : Int))
   (SubOk p0 (IntKind.i64.wrap (s500 + 1)) (p0.length : Int) ∧
   LoopP (offcutref08_Number_L6 p0 s500 r) (true, (0 : Int)))
   (X5 (IntKind.i64.wrap (s500 + 1))))
   (∃ (x79 : Bool), offcutref08_digits p0 x79 ∧
   IfB x79
   (r = true)
   (r = false))

def offcutref08_Number_L8 (p0 : List UInt8) (s700 : Int) (r : Bool) (X8 : (Bool × Int) → Prop) (s : Bool × Int) : Prop := match s with
  | (s800, s801) =>
  IfB s800
   (IfB (decide (s801 < ((sub p0 (IntKind.i64.wrap (s700 + 1)) (p0.length : Int)).length : Int)))
   (∃ (c87 : UInt8), Idx (sub p0 (IntKind.i64.wrap (s700 + 1)) (p0.length : Int)) s801 c87 ∧
   IfB (((c87.toNat : Nat) : Int) != (48 : Int))
   (X8 (false, (IntKind.i64.wrap (s801 + 1))))
   (X8 (true, (IntKind.i64.wrap (s801 + 1)))))
   (SubOk p0 0 s700 ∧
   ∃ (x91 : Bool), offcutref08_digits (sub p0 0 s700) x91 ∧
   IfB x91
   (∃ (x93 : Bool), offcutref08_digits (sub p0 (IntKind.i64.wrap (s700 + 1)) (p0.length : Int)) x93 ∧
   IfB x93
   (r = false)
   (r = false))
   (r = false)))
   (IfB (decide (s801 < ((sub p0 (IntKind.i64.wrap (s700 + 1)) (p0.length : Int)).length : Int)))
   (∃ (c96 : UInt8), Idx (sub p0 (IntKind.i64.wrap (s700 + 1)) (p0.length : Int)) s801 c96 ∧
   IfB (((c96.toNat : Nat) : Int) != (48 : Int))
   (X8 (false, (IntKind.i64.wrap (s801 + 1))))
   (X8 (false, (IntKind.i64.wrap (s801 + 1)))))
   (SubOk p0 0 s700 ∧
   ∃ (x100 : Bool), offcutref08_digits (sub p0 0 s700) x100 ∧
   IfB x100
   (∃ (x102 : Bool), offcutref08_digits (sub p0 (IntKind.i64.wrap (s700 + 1)) (p0.length : Int)) x102 ∧
   IfB x102
   (r = true)
   (r = false))
   (r = false)))

def offcutref08_Number_L7 (p0 : List UInt8) (r : Bool) (X7 : Int → Prop) (s : Int) : Prop := match s with
  | s700 =>
  IfB (decide (s700 < (p0.length : Int)))
   (∃ (c82 : UInt8), Idx p0 s700 c82 ∧
   IfB (((c82.toNat : Nat) : Int) == (47 : Int))
   (SubOk p0 (IntKind.i64.wrap (s700 + 1)) (p0.length : Int) ∧
   LoopP (offcutref08_Number_L8 p0 s700 r) (true, (0 : Int)))
   (X7 (IntKind.i64.wrap (s700 + 1))))
   (∃ (x104 : Bool), offcutref08_digits p0 x104 ∧
   IfB x104
   (r = true)
   (r = false))

/-- offcut offcutref08.Number -/
def offcutref08_Number (p0 : List UInt8) (p1 : Bool) (r : Bool) : Prop :=
  IfB p1
   (IfB (decide ((p0.length : Int) > (0 : Int)))
   (∃ (c2 : UInt8), Idx p0 (0 : Int) c2 ∧
   IfB (((c2.toNat : Nat) : Int) == (45 : Int))
   (SubOk p0 (1 : Int) (p0.length : Int) ∧
   LoopP (offcutref08_Number_L1 p0 r) (0 : Int))
   (LoopP (offcutref08_Number_L3 p0 r) (0 : Int)))
   (LoopP (offcutref08_Number_L5 p0 r) (0 : Int)))
   (LoopP (offcutref08_Number_L7 p0 r) (0 : Int))

def offcutref13_Parse_L2 (s100 : Int) (s101 : List (List UInt8)) (s102 : List (List UInt8)) (s103 : List (List UInt8)) (X1 : (Int × (List (List UInt8)) × (List (List UInt8)) × (List (List UInt8))) → Prop) (x18 : Int) (x19 : List (List UInt8)) (r : Int × Int × (List (List UInt8)) × (List (List UInt8)) × (List (List UInt8))) (X2 : Int → Prop) (s : Int) : Prop := match s with
  | s200 =>
  IfB (decide (s200 < (x19.length : Int)))
   (∃ (x27 : List UInt8), Idx x19 s200 x27 ∧
   ∃ (x29 : Bool), offcutref08_Number x27 true x29 ∧
   IfB x29
   (X2 (IntKind.i64.wrap (s200 + 1)))
   (r = (0, x18, ([] : List (List UInt8)), ([] : List (List UInt8)), ([] : List (List UInt8)))))
   (∃ (x31 : List UInt8), Idx [([120] : List UInt8), ([121] : List UInt8)] s100 x31 ∧
   IfB (x31 == ([121] : List UInt8))
   (∃ (x33 : List UInt8), Idx [([120] : List UInt8), ([121] : List UInt8)] s100 x33 ∧
   IfB (x33 == ([114, 97, 121] : List UInt8))
   (SubOk x19 (1 : Int) (x19.length : Int) ∧
   X1 ((IntKind.i64.wrap (s100 + 1)), s101, s102, (sub x19 (1 : Int) (x19.length : Int))))
   (SubOk x19 (1 : Int) (x19.length : Int) ∧
   X1 ((IntKind.i64.wrap (s100 + 1)), s101, (sub x19 (1 : Int) (x19.length : Int)), s103)))
   (∃ (x37 : List UInt8), Idx [([120] : List UInt8), ([121] : List UInt8)] s100 x37 ∧
   IfB (x37 == ([114, 97, 121] : List UInt8))
   (SubOk x19 (1 : Int) (x19.length : Int) ∧
   X1 ((IntKind.i64.wrap (s100 + 1)), s101, s102, (sub x19 (1 : Int) (x19.length : Int))))
   (SubOk x19 (1 : Int) (x19.length : Int) ∧
   X1 ((IntKind.i64.wrap (s100 + 1)), (sub x19 (1 : Int) (x19.length : Int)), s102, s103))))

def offcutref13_Parse_L1 (x1 : List (Int × (List (List UInt8)))) (r : Int × Int × (List (List UInt8)) × (List (List UInt8)) × (List (List UInt8))) (X1 : (Int × (List (List UInt8)) × (List (List UInt8)) × (List (List UInt8))) → Prop) (s : Int × (List (List UInt8)) × (List (List UInt8)) × (List (List UInt8))) : Prop := match s with
  | (s100, s101, s102, s103) =>
  IfB (decide (s100 < ([([120] : List UInt8), ([121] : List UInt8)].length : Int)))
   (IfB (decide ((IntKind.i64.wrap (s100 + 1)) ≥ (x1.length : Int)))
   (∃ (x15 : Int) (x16 : List (List UInt8)), Idx x1 (IntKind.i64.wrap ((x1.length : Int) - 1)) (x15, x16) ∧
   r = (0, x15, ([] : List (List UInt8)), ([] : List (List UInt8)), ([] : List (List UInt8))))
   (∃ (x18 : Int) (x19 : List (List UInt8)), Idx x1 (IntKind.i64.wrap (s100 + 1)) (x18, x19) ∧
   ∃ (x21 : List UInt8), Idx x19 (0 : Int) x21 ∧
   ∃ (x23 : List UInt8), Idx [([120] : List UInt8), ([121] : List UInt8)] s100 x23 ∧
   IfB (!(x21 == x23))
   (r = (0, x18, ([] : List (List UInt8)), ([] : List (List UInt8)), ([] : List (List UInt8))))
   (IfB (decide ((x19.length : Int) > (181 : Int)))
   (r = (0, x18, ([] : List (List UInt8)), ([] : List (List UInt8)), ([] : List (List UInt8))))
   (LoopP (offcutref13_Parse_L2 s100 s101 s102 s103 X1 x18 x19 r) (1 : Int)))))
   (IfB (decide ((x1.length : Int) > (IntKind.i64.wrap (([([120] : List UInt8), ([121] : List UInt8)].length : Int) + 1))))
   (∃ (x42 : Int) (x43 : List (List UInt8)), Idx x1 (IntKind.i64.wrap (([([120] : List UInt8), ([121] : List UInt8)].length : Int) + 1)) (x42, x43) ∧
   r = (0, x42, ([] : List (List UInt8)), ([] : List (List UInt8)), ([] : List (List UInt8))))
   (r = (1, 0, s101, s102, s103)))

def offcutref13_Parse_L4 (s300 : Int) (s301 : List (List UInt8)) (s302 : List (List UInt8)) (s303 : List (List UInt8)) (X3 : (Int × (List (List UInt8)) × (List (List UInt8)) × (List (List UInt8))) → Prop) (x50 : Int) (x51 : List (List UInt8)) (r : Int × Int × (List (List UInt8)) × (List (List UInt8)) × (List (List UInt8))) (X4 : Int → Prop) (s : Int) : Prop := match s with
  | s400 =>
  IfB (decide (s400 < (x51.length : Int)))
   (∃ (x59 : List UInt8), Idx x51 s400 x59 ∧
   ∃ (x61 : Bool), offcutref08_Number x59 true x61 ∧
   IfB x61
   (X4 (IntKind.i64.wrap (s400 + 1)))
   (r = (0, x50, ([] : List (List UInt8)), ([] : List (List UInt8)), ([] : List (List UInt8)))))
   (∃ (x63 : List UInt8), Idx [([121] : List UInt8)] s300 x63 ∧
   IfB (x63 == ([121] : List UInt8))
   (∃ (x65 : List UInt8), Idx [([121] : List UInt8)] s300 x65 ∧
   IfB (x65 == ([114, 97, 121] : List UInt8))
   (SubOk x51 (1 : Int) (x51.length : Int) ∧
   X3 ((IntKind.i64.wrap (s300 + 1)), s301, s302, (sub x51 (1 : Int) (x51.length : Int))))
   (SubOk x51 (1 : Int) (x51.length : Int) ∧
   X3 ((IntKind.i64.wrap (s300 + 1)), s301, (sub x51 (1 : Int) (x51.length : Int)), s303)))
   (∃ (x69 : List UInt8), Idx [([121] : List UInt8)] s300 x69 ∧
   IfB (x69 == ([114, 97, 121] : List UInt8))
   (SubOk x51 (1 : Int) (x51.length : Int) ∧
   X3 ((IntKind.i64.wrap (s300 + 1)), s301, s302, (sub x51 (1 : Int) (x51.length : Int))))
   (SubOk x51 (1 : Int) (x51.length : Int) ∧
   X3 ((IntKind.i64.wrap (s300 + 1)), (sub x51 (1 : Int) (x51.length : Int)), s302, s303))))

def offcutref13_Parse_L3 (x1 : List (Int × (List (List UInt8)))) (r : Int × Int × (List (List UInt8)) × (List (List UInt8)) × (List (List UInt8))) (X3 : (Int × (List (List UInt8)) × (List (List UInt8)) × (List (List UInt8))) → Prop) (s : Int × (List (List UInt8)) × (List (List UInt8)) × (List (List UInt8))) : Prop := match s with
  | (s300, s301, s302, s303) =>
  IfB (decide (s300 < ([([121] : List UInt8)].length : Int)))
   (IfB (decide ((IntKind.i64.wrap (s300 + 1)) ≥ (x1.length : Int)))
   (∃ (x47 : Int) (x48 : List (List UInt8)), Idx x1 (IntKind.i64.wrap ((x1.length : Int) - 1)) (x47, x48) ∧
   r = (0, x47, ([] : List (List UInt8)), ([] : List (List UInt8)), ([] : List (List UInt8))))
   (∃ (x50 : Int) (x51 : List (List UInt8)), Idx x1 (IntKind.i64.wrap (s300 + 1)) (x50, x51) ∧
   ∃ (x53 : List UInt8), Idx x51 (0 : Int) x53 ∧
   ∃ (x55 : List UInt8), Idx [([121] : List UInt8)] s300 x55 ∧
   IfB (!(x53 == x55))
   (r = (0, x50, ([] : List (List UInt8)), ([] : List (List UInt8)), ([] : List (List UInt8))))
   (IfB (decide ((x51.length : Int) > (181 : Int)))
   (r = (0, x50, ([] : List (List UInt8)), ([] : List (List UInt8)), ([] : List (List UInt8))))
   (LoopP (offcutref13_Parse_L4 s300 s301 s302 s303 X3 x50 x51 r) (1 : Int)))))
   (IfB (decide ((x1.length : Int) > (IntKind.i64.wrap (([([121] : List UInt8)].length : Int) + 1))))
   (∃ (x74 : Int) (x75 : List (List UInt8)), Idx x1 (IntKind.i64.wrap (([([121] : List UInt8)].length : Int) + 1)) (x74, x75) ∧
   r = (0, x74, ([] : List (List UInt8)), ([] : List (List UInt8)), ([] : List (List UInt8))))
   (r = (2, 0, s301, s302, s303)))

def offcutref13_Parse_L6 (s500 : Int) (s501 : List (List UInt8)) (s502 : List (List UInt8)) (s503 : List (List UInt8)) (X5 : (Int × (List (List UInt8)) × (List (List UInt8)) × (List (List UInt8))) → Prop) (x82 : Int) (x83 : List (List UInt8)) (r : Int × Int × (List (List UInt8)) × (List (List UInt8)) × (List (List UInt8))) (X6 : Int → Prop) (s : Int) : Prop := match s with
  | s600 =>
  IfB (decide (s600 < (x83.length : Int)))
   (∃ (x91 : List UInt8), Idx x83 s600 x91 ∧
   ∃ (x93 : Bool), offcutref08_Number x91 true x93 ∧
   IfB x93
   (X6 (IntKind.i64.wrap (s600 + 1)))
   (r = (0, x82, ([] : List (List UInt8)), ([] : List (List UInt8)), ([] : List (List UInt8)))))
   (∃ (x95 : List UInt8), Idx [([120] : List UInt8), ([114, 97, 121] : List UInt8)] s500 x95 ∧
   IfB (x95 == ([121] : List UInt8))
   (∃ (x97 : List UInt8), Idx [([120] : List UInt8), ([114, 97, 121] : List UInt8)] s500 x97 ∧
   IfB (x97 == ([114, 97, 121] : List UInt8))
   (SubOk x83 (1 : Int) (x83.length : Int) ∧
   X5 ((IntKind.i64.wrap (s500 + 1)), s501, s502, (sub x83 (1 : Int) (x83.length : Int))))
   (SubOk x83 (1 : Int) (x83.length : Int) ∧
   X5 ((IntKind.i64.wrap (s500 + 1)), s501, (sub x83 (1 : Int) (x83.length : Int)), s503)))
   (∃ (x101 : List UInt8), Idx [([120] : List UInt8), ([114, 97, 121] : List UInt8)] s500 x101 ∧
   IfB (x101 == ([114, 97, 121] : List UInt8))
   (SubOk x83 (1 : Int) (x83.length : Int) ∧
   X5 ((IntKind.i64.wrap (s500 + 1)), s501, s502, (sub x83 (1 : Int) (x83.length : Int))))
   (SubOk x83 (1 : Int) (x83.length : Int) ∧
   X5 ((IntKind.i64.wrap (s500 + 1)), (sub x83 (1 : Int) (x83.length : Int)), s502, s503))))

def offcutref13_Parse_L5 (x1 : List (Int × (List (List UInt8)))) (r : Int × Int × (List (List UInt8)) × (List (List UInt8)) × (List (List UInt8))) (X5 : (Int × (List (List UInt8)) × (List (List UInt8)) × (List (List UInt8))) → Prop) (s : Int × (List (List UInt8)) × (List (List UInt8)) × (List (List UInt8))) : Prop := match s with
  | (s500, s501, s502, s503) =>
  IfB (decide (s500 < ([([120] : List UInt8), ([114, 97, 121] : List UInt8)].length : Int)))
   (IfB (decide ((IntKind.i64.wrap (s500 + 1)) ≥ (x1.length : Int)))
   (∃ (x79 : Int) (x80 : List (List UInt8)), Idx x1 (IntKind.i64.wrap ((x1.length : Int) - 1)) (x79, x80) ∧
   r = (0, x79, ([] : List (List UInt8)), ([] : List (List UInt8)), ([] : List (List UInt8))))
   (∃ (x82 : Int) (x83 : List (List UInt8)), Idx x1 (IntKind.i64.wrap (s500 + 1)) (x82, x83) ∧
   ∃ (x85 : List UInt8), Idx x83 (0 : Int) x85 ∧
   ∃ (x87 : List UInt8), Idx [([120] : List UInt8), ([114, 97, 121] : List UInt8)] s500 x87 ∧
   IfB (!(x85 == x87))
   (r = (0, x82, ([] : List (List UInt8)), ([] : List (List UInt8)), ([] : List (List UInt8))))
   (IfB (decide ((x83.length : Int) > (181 : Int)))
   (r = (0, x82, ([] : List (List UInt8)), ([] : List (List UInt8)), ([] : List (List UInt8))))
   (LoopP (offcutref13_Parse_L6 s500 s501 s502 s503 X5 x82 x83 r) (1 : Int)))))
   (IfB (decide ((x1.length : Int) > (IntKind.i64.wrap (([([120] : List UInt8), ([114, 97, 121] : List UInt8)].length : Int) + 1))))
   (∃ (x106 : Int) (x107 : List (List UInt8)), Idx x1 (IntKind.i64.wrap (([([120] : List UInt8), ([114, 97, 121] : List UInt8)].length : Int) + 1)) (x106, x107) ∧
   r = (0, x106, ([] : List (List UInt8)), ([] : List (List UInt8)), ([] : List (List UInt8))))
   (r = (3, 0, s501, s502, s503)))

/-- offcut offcutref13.Parse -/
def offcutref13_Parse (p0 : List UInt8) (r : Int × Int × (List (List UInt8)) × (List (List UInt8)) × (List (List UInt8))) : Prop :=
  ∃ (x1 : List (Int × (List (List UInt8)))), offcutref07_All p0 x1 ∧
  IfB ((x1.length : Int) == (0 : Int))
   (r = (0, 0, ([] : List (List UInt8)), ([] : List (List UInt8)), ([] : List (List UInt8))))
   (∃ (x4 : Int) (x5 : List (List UInt8)), Idx x1 (0 : Int) (x4, x5) ∧
   IfB ((x5.length : Int) == (1 : Int))
   (∃ (x8 : Int) (x9 : List (List UInt8)), Idx x1 (0 : Int) (x8, x9) ∧
   ∃ (x11 : List UInt8), Idx x9 (0 : Int) x11 ∧
   IfB (x11 == ([111, 112, 116, 105, 109, 97, 108] : List UInt8))
   (LoopP (offcutref13_Parse_L1 x1 r) ((0 : Int), ([] : List (List UInt8)), ([] : List (List UInt8)), ([] : List (List UInt8))))
   (IfB (x11 == ([105, 110, 102, 101, 97, 115, 105, 98, 108, 101] : List UInt8))
   (LoopP (offcutref13_Parse_L3 x1 r) ((0 : Int), ([] : List (List UInt8)), ([] : List (List UInt8)), ([] : List (List UInt8))))
   (IfB (x11 == ([117, 110, 98, 111, 117, 110, 100, 101, 100] : List UInt8))
   (LoopP (offcutref13_Parse_L5 x1 r) ((0 : Int), ([] : List (List UInt8)), ([] : List (List UInt8)), ([] : List (List UInt8))))
   (∃ (x109 : Int) (x110 : List (List UInt8)), Idx x1 (0 : Int) (x109, x110) ∧
   r = (0, x109, ([] : List (List UInt8)), ([] : List (List UInt8)), ([] : List (List UInt8)))))))
   (∃ (x112 : Int) (x113 : List (List UInt8)), Idx x1 (0 : Int) (x112, x113) ∧
   r = (0, x112, ([] : List (List UInt8)), ([] : List (List UInt8)), ([] : List (List UInt8)))))

def offcutlaw13_ProofParses_L3 (x4 : Int) (x5 : List (Bool × (List Int) × (List Int))) (x6 : List (Bool × (List Int) × (List Int))) (x7 : List (Bool × (List Int) × (List Int))) (x8 : Int) (x9 : Int) (x13 : Int) (x17 : List (List UInt8)) (s152 : List (Bool × (List Int) × (List Int))) (s253 : List (Bool × (List Int) × (List Int))) (r : Bool) (X3 : (Int × (List (Bool × (List Int) × (List Int)))) → Prop) (s : Int × (List (Bool × (List Int) × (List Int)))) : Prop := match s with
  | (s300, s354) =>
  IfB (decide (s300 < (x17.length : Int)))
   (∃ (x45 : List UInt8), Idx x17 s300 x45 ∧
   ∃ (x47 : Bool) (x48 : List Int) (x49 : List Int) (x50 : Int), rat_Parse x45 (x47, x48, x49, x50) ∧
   Fits (s354.length + [(x47, x48, x49)].length) 56 ∧
   X3 ((IntKind.i64.wrap (s300 + 1)), (s354 ++ [(x47, x48, x49)])))
   (IfB (x9 == (0 : Int))
   (IfB (x8 == (0 : Int))
   (∃ (x55 : Bool), proof_Same x4 x5 x6 x7 x13 s152 s253 s354 x55 ∧
   IfB x55
   (∃ (x57 : Bool), offcutlaw13_awake x57 ∧
   IfB x57
   (r = true)
   (r = false))
   (r = false))
   (r = false))
   (r = false))

def offcutlaw13_ProofParses_L2 (x4 : Int) (x5 : List (Bool × (List Int) × (List Int))) (x6 : List (Bool × (List Int) × (List Int))) (x7 : List (Bool × (List Int) × (List Int))) (x8 : Int) (x9 : Int) (x13 : Int) (x16 : List (List UInt8)) (x17 : List (List UInt8)) (s152 : List (Bool × (List Int) × (List Int))) (r : Bool) (X2 : (Int × (List (Bool × (List Int) × (List Int)))) → Prop) (s : Int × (List (Bool × (List Int) × (List Int)))) : Prop := match s with
  | (s200, s253) =>
  IfB (decide (s200 < (x16.length : Int)))
   (∃ (x36 : List UInt8), Idx x16 s200 x36 ∧
   ∃ (x38 : Bool) (x39 : List Int) (x40 : List Int) (x41 : Int), rat_Parse x36 (x38, x39, x40, x41) ∧
   Fits (s253.length + [(x38, x39, x40)].length) 56 ∧
   X2 ((IntKind.i64.wrap (s200 + 1)), (s253 ++ [(x38, x39, x40)])))
   (LoopP (offcutlaw13_ProofParses_L3 x4 x5 x6 x7 x8 x9 x13 x17 s152 s253 r) ((0 : Int), ([] : List (Bool × (List Int) × (List Int)))))

def offcutlaw13_ProofParses_L1 (x4 : Int) (x5 : List (Bool × (List Int) × (List Int))) (x6 : List (Bool × (List Int) × (List Int))) (x7 : List (Bool × (List Int) × (List Int))) (x8 : Int) (x9 : Int) (x13 : Int) (x15 : List (List UInt8)) (x16 : List (List UInt8)) (x17 : List (List UInt8)) (r : Bool) (X1 : (Int × (List (Bool × (List Int) × (List Int)))) → Prop) (s : Int × (List (Bool × (List Int) × (List Int)))) : Prop := match s with
  | (s100, s152) =>
  IfB (decide (s100 < (x15.length : Int)))
   (∃ (x27 : List UInt8), Idx x15 s100 x27 ∧
   ∃ (x29 : Bool) (x30 : List Int) (x31 : List Int) (x32 : Int), rat_Parse x27 (x29, x30, x31, x32) ∧
   Fits (s152.length + [(x29, x30, x31)].length) 56 ∧
   X1 ((IntKind.i64.wrap (s100 + 1)), (s152 ++ [(x29, x30, x31)])))
   (LoopP (offcutlaw13_ProofParses_L2 x4 x5 x6 x7 x8 x9 x13 x16 x17 s152 r) ((0 : Int), ([] : List (Bool × (List Int) × (List Int)))))

/-- offcut offcutlaw13.ProofParses -/
def offcutlaw13_ProofParses (p0 : List UInt8) (r : Bool) : Prop :=
  IfB (decide ((p0.length : Int) > (3000 : Int)))
   (∃ (x2 : Bool), offcutlaw13_awake x2 ∧
   IfB x2
   (r = true)
   (r = false))
   (∃ (x4 : Int) (x5 : List (Bool × (List Int) × (List Int))) (x6 : List (Bool × (List Int) × (List Int))) (x7 : List (Bool × (List Int) × (List Int))) (x8 : Int) (x9 : Int), proof_Parse p0 (x4, x5, x6, x7, x8, x9) ∧
   ∃ (x11 : Bool), offcutref07_Right p0 x11 ∧
   IfB x11
   (∃ (x13 : Int) (x14 : Int) (x15 : List (List UInt8)) (x16 : List (List UInt8)) (x17 : List (List UInt8)), offcutref13_Parse p0 (x13, x14, x15, x16, x17) ∧
   IfB (x13 == (0 : Int))
   (∃ (x20 : Bool), proof_Same x4 x5 x6 x7 (0 : Int) ([] : List (Bool × (List Int) × (List Int))) ([] : List (Bool × (List Int) × (List Int))) ([] : List (Bool × (List Int) × (List Int))) x20 ∧
   IfB x20
   (IfB (x8 == x14)
   (IfB (x9 == (2 : Int))
   (∃ (x24 : Bool), offcutlaw13_awake x24 ∧
   IfB x24
   (r = true)
   (r = false))
   (r = false))
   (r = false))
   (r = false))
   (LoopP (offcutlaw13_ProofParses_L1 x4 x5 x6 x7 x8 x9 x13 x15 x16 x17 r) ((0 : Int), ([] : List (Bool × (List Int) × (List Int))))))
   (∃ (x59 : Bool), proof_Same x4 x5 x6 x7 (0 : Int) ([] : List (Bool × (List Int) × (List Int))) ([] : List (Bool × (List Int) × (List Int))) ([] : List (Bool × (List Int) × (List Int))) x59 ∧
   IfB x59
   (IfB (x8 == (0 : Int))
   (IfB (x9 == (2 : Int))
   (∃ (x63 : Bool), offcutlaw13_awake x63 ∧
   IfB x63
   (r = true)
   (r = false))
   (r = false))
   (r = false))
   (r = false)))

end Go.Abs
end
