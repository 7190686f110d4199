/- Part of a proof, in few files: D08b D11 B21n D21. -/
import Derived.Test.YthkcibhfbcfhlaaGreatDoorDChK13
import Derived.Test.YthkcibhfbcfhlaaGreatDoorDChK17

set_option linter.unusedVariables false
set_option linter.unusedSimpArgs false
set_option linter.unnecessarySimpa false
section
namespace Go.Abs
def model_sum_L1 (r : (List (Bz × Fq)) × Bool) (X1 : ((List Bz) × Bool × (List (Bz × Fq))) → Prop) (s : (List Bz) × Bool × (List (Bz × Fq))) : Prop := match s with
 | (s100, s101, s151) =>
 IfB s101
  (∃ x4 x5 x6, rat_Int (1 : Int) (x4, x5, x6) ∧
  IfB (decide ((s100.length : Int) > 0))
  (∃ x9, Idx s100 0 x9 ∧
  IfB (x9 == ([45] : List UInt8))
  (∃ x11 x12 x13, rat_Int (-1 : Int) (x11, x12, x13) ∧
  SubOk s100 1 s100.length ∧
  ∃ x16 x17 x18, rat_Int (1 : Int) (x16, x17, x18) ∧
  IfB (decide (((sub s100 1 s100.length).length : Int) > 0))
  (∃ x21, Idx (sub s100 1 s100.length) 0 x21 ∧
  ∃ x23, strings_Contains x21 ([45] : List UInt8) x23 ∧
  IfB x23
  (∃ x25, Idx (sub s100 1 s100.length) 0 x25 ∧
  ∃ x27, lines_Name x25 x27 ∧
  IfB x27
  (∃ x29, Idx (sub s100 1 s100.length) 0 x29 ∧
  ∃ x31 x32 x33, rat_Mul x11 x12 x13 x16 x17 x18 (x31, x32, x33) ∧
  Fits (s151.length + [(x29, x31, x32, x33)].length) 72 ∧
  SubOk (sub s100 1 s100.length) (1 : Int) ((sub s100 1 s100.length).length : Int) ∧
  X1 ((sub (sub s100 1 s100.length) (1 : Int) ((sub s100 1 s100.length).length : Int)), false, (s151 ++ [(x29, x31, x32, x33)])))
  (r = ([], false)))
  (∃ x37, Idx (sub s100 1 s100.length) 0 x37 ∧
  ∃ x39 x40 x41 x42, lines_Number x37 (x39, x40, x41, x42) ∧
  IfB x42
  (SubOk (sub s100 1 s100.length) (1 : Int) ((sub s100 1 s100.length).length : Int) ∧
  IfB (((sub (sub s100 1 s100.length) (1 : Int) ((sub s100 1 s100.length).length : Int)).length : Int) == 0)
  (r = ([], false))
  (∃ x46, Idx (sub (sub s100 1 s100.length) (1 : Int) ((sub s100 1 s100.length).length : Int)) (0 : Int) x46 ∧
  ∃ x48, lines_Name x46 x48 ∧
  IfB x48
  (∃ x50, Idx (sub (sub s100 1 s100.length) (1 : Int) ((sub s100 1 s100.length).length : Int)) (0 : Int) x50 ∧
  ∃ x52 x53 x54, rat_Mul x11 x12 x13 x39 x40 x41 (x52, x53, x54) ∧
  Fits (s151.length + [(x50, x52, x53, x54)].length) 72 ∧
  SubOk (sub (sub s100 1 s100.length) (1 : Int) ((sub s100 1 s100.length).length : Int)) (1 : Int) ((sub (sub s100 1 s100.length) (1 : Int) ((sub s100 1 s100.length).length : Int)).length : Int) ∧
  X1 ((sub (sub (sub s100 1 s100.length) (1 : Int) ((sub s100 1 s100.length).length : Int)) (1 : Int) ((sub (sub s100 1 s100.length) (1 : Int) ((sub s100 1 s100.length).length : Int)).length : Int)), false, (s151 ++ [(x50, x52, x53, x54)])))
  (r = ([], false))))
  (∃ x58, Idx (sub s100 1 s100.length) 0 x58 ∧
  ∃ x60, lines_Name x58 x60 ∧
  IfB x60
  (∃ x62, Idx (sub s100 1 s100.length) 0 x62 ∧
  ∃ x64 x65 x66, rat_Mul x11 x12 x13 x16 x17 x18 (x64, x65, x66) ∧
  Fits (s151.length + [(x62, x64, x65, x66)].length) 72 ∧
  SubOk (sub s100 1 s100.length) (1 : Int) ((sub s100 1 s100.length).length : Int) ∧
  X1 ((sub (sub s100 1 s100.length) (1 : Int) ((sub s100 1 s100.length).length : Int)), false, (s151 ++ [(x62, x64, x65, x66)])))
  (r = ([], false)))))
  (IfB (((sub s100 1 s100.length).length : Int) == 0)
  (r = ([], false))
  (∃ x71, Idx (sub s100 1 s100.length) 0 x71 ∧
  ∃ x73, lines_Name x71 x73 ∧
  IfB x73
  (∃ x75, Idx (sub s100 1 s100.length) 0 x75 ∧
  ∃ x77 x78 x79, rat_Mul x11 x12 x13 x16 x17 x18 (x77, x78, x79) ∧
  Fits (s151.length + [(x75, x77, x78, x79)].length) 72 ∧
  SubOk (sub s100 1 s100.length) (1 : Int) ((sub s100 1 s100.length).length : Int) ∧
  X1 ((sub (sub s100 1 s100.length) (1 : Int) ((sub s100 1 s100.length).length : Int)), false, (s151 ++ [(x75, x77, x78, x79)])))
  (r = ([], false)))))
  (∃ x83, Idx s100 0 x83 ∧
  IfB (x83 == ([43] : List UInt8))
  (∃ x85 x86 x87, rat_Int (1 : Int) (x85, x86, x87) ∧
  ∃ x89, Idx s100 0 x89 ∧
  ∃ x91, strings_Contains x89 ([45] : List UInt8) x91 ∧
  IfB x91
  (∃ x93, Idx s100 0 x93 ∧
  ∃ x95, lines_Name x93 x95 ∧
  IfB x95
  (∃ x97, Idx s100 0 x97 ∧
  ∃ x99 x100 x101, rat_Mul x4 x5 x6 x85 x86 x87 (x99, x100, x101) ∧
  Fits (s151.length + [(x97, x99, x100, x101)].length) 72 ∧
  SubOk s100 1 s100.length ∧
  X1 ((sub s100 1 s100.length), false, (s151 ++ [(x97, x99, x100, x101)])))
  (r = ([], false)))
  (∃ x105, Idx s100 0 x105 ∧
  ∃ x107 x108 x109 x110, lines_Number x105 (x107, x108, x109, x110) ∧
  IfB x110
  (SubOk s100 1 s100.length ∧
  IfB (((sub s100 1 s100.length).length : Int) == 0)
  (r = ([], false))
  (∃ x114, Idx (sub s100 1 s100.length) 0 x114 ∧
  ∃ x116, lines_Name x114 x116 ∧
  IfB x116
  (∃ x118, Idx (sub s100 1 s100.length) 0 x118 ∧
  ∃ x120 x121 x122, rat_Mul x4 x5 x6 x107 x108 x109 (x120, x121, x122) ∧
  Fits (s151.length + [(x118, x120, x121, x122)].length) 72 ∧
  SubOk (sub s100 1 s100.length) (1 : Int) ((sub s100 1 s100.length).length : Int) ∧
  X1 ((sub (sub s100 1 s100.length) (1 : Int) ((sub s100 1 s100.length).length : Int)), false, (s151 ++ [(x118, x120, x121, x122)])))
  (r = ([], false))))
  (∃ x126, Idx s100 0 x126 ∧
  ∃ x128, lines_Name x126 x128 ∧
  IfB x128
  (∃ x130, Idx s100 0 x130 ∧
  ∃ x132 x133 x134, rat_Mul x4 x5 x6 x85 x86 x87 (x132, x133, x134) ∧
  Fits (s151.length + [(x130, x132, x133, x134)].length) 72 ∧
  SubOk s100 1 s100.length ∧
  X1 ((sub s100 1 s100.length), false, (s151 ++ [(x130, x132, x133, x134)])))
  (r = ([], false)))))
  (∃ x138 x139 x140, rat_Int (1 : Int) (x138, x139, x140) ∧
  ∃ x142, Idx s100 0 x142 ∧
  ∃ x144, strings_Contains x142 ([45] : List UInt8) x144 ∧
  IfB x144
  (∃ x146, Idx s100 0 x146 ∧
  ∃ x148, lines_Name x146 x148 ∧
  IfB x148
  (∃ x150, Idx s100 0 x150 ∧
  ∃ x152 x153 x154, rat_Mul x4 x5 x6 x138 x139 x140 (x152, x153, x154) ∧
  Fits (s151.length + [(x150, x152, x153, x154)].length) 72 ∧
  SubOk s100 1 s100.length ∧
  X1 ((sub s100 1 s100.length), false, (s151 ++ [(x150, x152, x153, x154)])))
  (r = ([], false)))
  (∃ x158, Idx s100 0 x158 ∧
  ∃ x160 x161 x162 x163, lines_Number x158 (x160, x161, x162, x163) ∧
  IfB x163
  (SubOk s100 1 s100.length ∧
  IfB (((sub s100 1 s100.length).length : Int) == 0)
  (r = ([], false))
  (∃ x167, Idx (sub s100 1 s100.length) 0 x167 ∧
  ∃ x169, lines_Name x167 x169 ∧
  IfB x169
  (∃ x171, Idx (sub s100 1 s100.length) 0 x171 ∧
  ∃ x173 x174 x175, rat_Mul x4 x5 x6 x160 x161 x162 (x173, x174, x175) ∧
  Fits (s151.length + [(x171, x173, x174, x175)].length) 72 ∧
  SubOk (sub s100 1 s100.length) (1 : Int) ((sub s100 1 s100.length).length : Int) ∧
  X1 ((sub (sub s100 1 s100.length) (1 : Int) ((sub s100 1 s100.length).length : Int)), false, (s151 ++ [(x171, x173, x174, x175)])))
  (r = ([], false))))
  (∃ x179, Idx s100 0 x179 ∧
  ∃ x181, lines_Name x179 x181 ∧
  IfB x181
  (∃ x183, Idx s100 0 x183 ∧
  ∃ x185 x186 x187, rat_Mul x4 x5 x6 x138 x139 x140 (x185, x186, x187) ∧
  Fits (s151.length + [(x183, x185, x186, x187)].length) 72 ∧
  SubOk s100 1 s100.length ∧
  X1 ((sub s100 1 s100.length), false, (s151 ++ [(x183, x185, x186, x187)])))
  (r = ([], false)))))))
  (∃ x191 x192 x193, rat_Int (1 : Int) (x191, x192, x193) ∧
  IfB ((s100.length : Int) == 0)
  (r = ([], false))
  (∃ x196, Idx s100 0 x196 ∧
  ∃ x198, lines_Name x196 x198 ∧
  IfB x198
  (∃ x200, Idx s100 0 x200 ∧
  ∃ x202 x203 x204, rat_Mul x4 x5 x6 x191 x192 x193 (x202, x203, x204) ∧
  Fits (s151.length + [(x200, x202, x203, x204)].length) 72 ∧
  SubOk s100 1 s100.length ∧
  X1 ((sub s100 1 s100.length), false, (s151 ++ [(x200, x202, x203, x204)])))
  (r = ([], false)))))
  (IfB (decide ((s100.length : Int) > 0))
  (∃ x209 x210 x211, rat_Int (1 : Int) (x209, x210, x211) ∧
  ∃ x213, Idx s100 0 x213 ∧
  IfB (x213 == ([45] : List UInt8))
  (∃ x215 x216 x217, rat_Int (-1 : Int) (x215, x216, x217) ∧
  SubOk s100 1 s100.length ∧
  ∃ x220 x221 x222, rat_Int (1 : Int) (x220, x221, x222) ∧
  IfB (decide (((sub s100 1 s100.length).length : Int) > 0))
  (∃ x225, Idx (sub s100 1 s100.length) 0 x225 ∧
  ∃ x227, strings_Contains x225 ([45] : List UInt8) x227 ∧
  IfB x227
  (∃ x229, Idx (sub s100 1 s100.length) 0 x229 ∧
  ∃ x231, lines_Name x229 x231 ∧
  IfB x231
  (∃ x233, Idx (sub s100 1 s100.length) 0 x233 ∧
  ∃ x235 x236 x237, rat_Mul x215 x216 x217 x220 x221 x222 (x235, x236, x237) ∧
  Fits (s151.length + [(x233, x235, x236, x237)].length) 72 ∧
  SubOk (sub s100 1 s100.length) (1 : Int) ((sub s100 1 s100.length).length : Int) ∧
  X1 ((sub (sub s100 1 s100.length) (1 : Int) ((sub s100 1 s100.length).length : Int)), false, (s151 ++ [(x233, x235, x236, x237)])))
  (r = ([], false)))
  (∃ x241, Idx (sub s100 1 s100.length) 0 x241 ∧
  ∃ x243 x244 x245 x246, lines_Number x241 (x243, x244, x245, x246) ∧
  IfB x246
  (SubOk (sub s100 1 s100.length) (1 : Int) ((sub s100 1 s100.length).length : Int) ∧
  IfB (((sub (sub s100 1 s100.length) (1 : Int) ((sub s100 1 s100.length).length : Int)).length : Int) == 0)
  (r = ([], false))
  (∃ x250, Idx (sub (sub s100 1 s100.length) (1 : Int) ((sub s100 1 s100.length).length : Int)) (0 : Int) x250 ∧
  ∃ x252, lines_Name x250 x252 ∧
  IfB x252
  (∃ x254, Idx (sub (sub s100 1 s100.length) (1 : Int) ((sub s100 1 s100.length).length : Int)) (0 : Int) x254 ∧
  ∃ x256 x257 x258, rat_Mul x215 x216 x217 x243 x244 x245 (x256, x257, x258) ∧
  Fits (s151.length + [(x254, x256, x257, x258)].length) 72 ∧
  SubOk (sub (sub s100 1 s100.length) (1 : Int) ((sub s100 1 s100.length).length : Int)) (1 : Int) ((sub (sub s100 1 s100.length) (1 : Int) ((sub s100 1 s100.length).length : Int)).length : Int) ∧
  X1 ((sub (sub (sub s100 1 s100.length) (1 : Int) ((sub s100 1 s100.length).length : Int)) (1 : Int) ((sub (sub s100 1 s100.length) (1 : Int) ((sub s100 1 s100.length).length : Int)).length : Int)), false, (s151 ++ [(x254, x256, x257, x258)])))
  (r = ([], false))))
  (∃ x262, Idx (sub s100 1 s100.length) 0 x262 ∧
  ∃ x264, lines_Name x262 x264 ∧
  IfB x264
  (∃ x266, Idx (sub s100 1 s100.length) 0 x266 ∧
  ∃ x268 x269 x270, rat_Mul x215 x216 x217 x220 x221 x222 (x268, x269, x270) ∧
  Fits (s151.length + [(x266, x268, x269, x270)].length) 72 ∧
  SubOk (sub s100 1 s100.length) (1 : Int) ((sub s100 1 s100.length).length : Int) ∧
  X1 ((sub (sub s100 1 s100.length) (1 : Int) ((sub s100 1 s100.length).length : Int)), false, (s151 ++ [(x266, x268, x269, x270)])))
  (r = ([], false)))))
  (IfB (((sub s100 1 s100.length).length : Int) == 0)
  (r = ([], false))
  (∃ x275, Idx (sub s100 1 s100.length) 0 x275 ∧
  ∃ x277, lines_Name x275 x277 ∧
  IfB x277
  (∃ x279, Idx (sub s100 1 s100.length) 0 x279 ∧
  ∃ x281 x282 x283, rat_Mul x215 x216 x217 x220 x221 x222 (x281, x282, x283) ∧
  Fits (s151.length + [(x279, x281, x282, x283)].length) 72 ∧
  SubOk (sub s100 1 s100.length) (1 : Int) ((sub s100 1 s100.length).length : Int) ∧
  X1 ((sub (sub s100 1 s100.length) (1 : Int) ((sub s100 1 s100.length).length : Int)), false, (s151 ++ [(x279, x281, x282, x283)])))
  (r = ([], false)))))
  (∃ x287, Idx s100 0 x287 ∧
  IfB (x287 == ([43] : List UInt8))
  (SubOk s100 1 s100.length ∧
  ∃ x290 x291 x292, rat_Int (1 : Int) (x290, x291, x292) ∧
  IfB (decide (((sub s100 1 s100.length).length : Int) > 0))
  (∃ x295, Idx (sub s100 1 s100.length) 0 x295 ∧
  ∃ x297, strings_Contains x295 ([45] : List UInt8) x297 ∧
  IfB x297
  (∃ x299, Idx (sub s100 1 s100.length) 0 x299 ∧
  ∃ x301, lines_Name x299 x301 ∧
  IfB x301
  (∃ x303, Idx (sub s100 1 s100.length) 0 x303 ∧
  ∃ x305 x306 x307, rat_Mul x209 x210 x211 x290 x291 x292 (x305, x306, x307) ∧
  Fits (s151.length + [(x303, x305, x306, x307)].length) 72 ∧
  SubOk (sub s100 1 s100.length) (1 : Int) ((sub s100 1 s100.length).length : Int) ∧
  X1 ((sub (sub s100 1 s100.length) (1 : Int) ((sub s100 1 s100.length).length : Int)), false, (s151 ++ [(x303, x305, x306, x307)])))
  (r = ([], false)))
  (∃ x311, Idx (sub s100 1 s100.length) 0 x311 ∧
  ∃ x313 x314 x315 x316, lines_Number x311 (x313, x314, x315, x316) ∧
  IfB x316
  (SubOk (sub s100 1 s100.length) (1 : Int) ((sub s100 1 s100.length).length : Int) ∧
  IfB (((sub (sub s100 1 s100.length) (1 : Int) ((sub s100 1 s100.length).length : Int)).length : Int) == 0)
  (r = ([], false))
  (∃ x320, Idx (sub (sub s100 1 s100.length) (1 : Int) ((sub s100 1 s100.length).length : Int)) (0 : Int) x320 ∧
  ∃ x322, lines_Name x320 x322 ∧
  IfB x322
  (∃ x324, Idx (sub (sub s100 1 s100.length) (1 : Int) ((sub s100 1 s100.length).length : Int)) (0 : Int) x324 ∧
  ∃ x326 x327 x328, rat_Mul x209 x210 x211 x313 x314 x315 (x326, x327, x328) ∧
  Fits (s151.length + [(x324, x326, x327, x328)].length) 72 ∧
  SubOk (sub (sub s100 1 s100.length) (1 : Int) ((sub s100 1 s100.length).length : Int)) (1 : Int) ((sub (sub s100 1 s100.length) (1 : Int) ((sub s100 1 s100.length).length : Int)).length : Int) ∧
  X1 ((sub (sub (sub s100 1 s100.length) (1 : Int) ((sub s100 1 s100.length).length : Int)) (1 : Int) ((sub (sub s100 1 s100.length) (1 : Int) ((sub s100 1 s100.length).length : Int)).length : Int)), false, (s151 ++ [(x324, x326, x327, x328)])))
  (r = ([], false))))
  (∃ x332, Idx (sub s100 1 s100.length) 0 x332 ∧
  ∃ x334, lines_Name x332 x334 ∧
  IfB x334
  (∃ x336, Idx (sub s100 1 s100.length) 0 x336 ∧
  ∃ x338 x339 x340, rat_Mul x209 x210 x211 x290 x291 x292 (x338, x339, x340) ∧
  Fits (s151.length + [(x336, x338, x339, x340)].length) 72 ∧
  SubOk (sub s100 1 s100.length) (1 : Int) ((sub s100 1 s100.length).length : Int) ∧
  X1 ((sub (sub s100 1 s100.length) (1 : Int) ((sub s100 1 s100.length).length : Int)), false, (s151 ++ [(x336, x338, x339, x340)])))
  (r = ([], false)))))
  (IfB (((sub s100 1 s100.length).length : Int) == 0)
  (r = ([], false))
  (∃ x345, Idx (sub s100 1 s100.length) 0 x345 ∧
  ∃ x347, lines_Name x345 x347 ∧
  IfB x347
  (∃ x349, Idx (sub s100 1 s100.length) 0 x349 ∧
  ∃ x351 x352 x353, rat_Mul x209 x210 x211 x290 x291 x292 (x351, x352, x353) ∧
  Fits (s151.length + [(x349, x351, x352, x353)].length) 72 ∧
  SubOk (sub s100 1 s100.length) (1 : Int) ((sub s100 1 s100.length).length : Int) ∧
  X1 ((sub (sub s100 1 s100.length) (1 : Int) ((sub s100 1 s100.length).length : Int)), false, (s151 ++ [(x349, x351, x352, x353)])))
  (r = ([], false)))))
  (r = ([], false))))
  (r = (s151, true)))
def model_sum_L2 (r : (List (Bz × Fq)) × Bool) (X2 : ((List Bz) × Bool × (List (Bz × Fq))) → Prop) (s : (List Bz) × Bool × (List (Bz × Fq))) : Prop := match s with
 | (s200, s201, s251) =>
 IfB s201
  (∃ x357 x358 x359, rat_Int (1 : Int) (x357, x358, x359) ∧
  IfB (decide ((s200.length : Int) > 0))
  (∃ x362, Idx s200 0 x362 ∧
  IfB (x362 == ([45] : List UInt8))
  (∃ x364 x365 x366, rat_Int (-1 : Int) (x364, x365, x366) ∧
  SubOk s200 1 s200.length ∧
  ∃ x369 x370 x371, rat_Int (1 : Int) (x369, x370, x371) ∧
  IfB (decide (((sub s200 1 s200.length).length : Int) > 0))
  (∃ x374, Idx (sub s200 1 s200.length) 0 x374 ∧
  ∃ x376, strings_Contains x374 ([45] : List UInt8) x376 ∧
  IfB x376
  (∃ x378, Idx (sub s200 1 s200.length) 0 x378 ∧
  ∃ x380, lines_Name x378 x380 ∧
  IfB x380
  (∃ x382, Idx (sub s200 1 s200.length) 0 x382 ∧
  ∃ x384 x385 x386, rat_Mul x364 x365 x366 x369 x370 x371 (x384, x385, x386) ∧
  Fits (s251.length + [(x382, x384, x385, x386)].length) 72 ∧
  SubOk (sub s200 1 s200.length) (1 : Int) ((sub s200 1 s200.length).length : Int) ∧
  X2 ((sub (sub s200 1 s200.length) (1 : Int) ((sub s200 1 s200.length).length : Int)), false, (s251 ++ [(x382, x384, x385, x386)])))
  (r = ([], false)))
  (∃ x390, Idx (sub s200 1 s200.length) 0 x390 ∧
  ∃ x392 x393 x394 x395, lines_Number x390 (x392, x393, x394, x395) ∧
  IfB x395
  (SubOk (sub s200 1 s200.length) (1 : Int) ((sub s200 1 s200.length).length : Int) ∧
  IfB (((sub (sub s200 1 s200.length) (1 : Int) ((sub s200 1 s200.length).length : Int)).length : Int) == 0)
  (r = ([], false))
  (∃ x399, Idx (sub (sub s200 1 s200.length) (1 : Int) ((sub s200 1 s200.length).length : Int)) (0 : Int) x399 ∧
  ∃ x401, lines_Name x399 x401 ∧
  IfB x401
  (∃ x403, Idx (sub (sub s200 1 s200.length) (1 : Int) ((sub s200 1 s200.length).length : Int)) (0 : Int) x403 ∧
  ∃ x405 x406 x407, rat_Mul x364 x365 x366 x392 x393 x394 (x405, x406, x407) ∧
  Fits (s251.length + [(x403, x405, x406, x407)].length) 72 ∧
  SubOk (sub (sub s200 1 s200.length) (1 : Int) ((sub s200 1 s200.length).length : Int)) (1 : Int) ((sub (sub s200 1 s200.length) (1 : Int) ((sub s200 1 s200.length).length : Int)).length : Int) ∧
  X2 ((sub (sub (sub s200 1 s200.length) (1 : Int) ((sub s200 1 s200.length).length : Int)) (1 : Int) ((sub (sub s200 1 s200.length) (1 : Int) ((sub s200 1 s200.length).length : Int)).length : Int)), false, (s251 ++ [(x403, x405, x406, x407)])))
  (r = ([], false))))
  (∃ x411, Idx (sub s200 1 s200.length) 0 x411 ∧
  ∃ x413, lines_Name x411 x413 ∧
  IfB x413
  (∃ x415, Idx (sub s200 1 s200.length) 0 x415 ∧
  ∃ x417 x418 x419, rat_Mul x364 x365 x366 x369 x370 x371 (x417, x418, x419) ∧
  Fits (s251.length + [(x415, x417, x418, x419)].length) 72 ∧
  SubOk (sub s200 1 s200.length) (1 : Int) ((sub s200 1 s200.length).length : Int) ∧
  X2 ((sub (sub s200 1 s200.length) (1 : Int) ((sub s200 1 s200.length).length : Int)), false, (s251 ++ [(x415, x417, x418, x419)])))
  (r = ([], false)))))
  (IfB (((sub s200 1 s200.length).length : Int) == 0)
  (r = ([], false))
  (∃ x424, Idx (sub s200 1 s200.length) 0 x424 ∧
  ∃ x426, lines_Name x424 x426 ∧
  IfB x426
  (∃ x428, Idx (sub s200 1 s200.length) 0 x428 ∧
  ∃ x430 x431 x432, rat_Mul x364 x365 x366 x369 x370 x371 (x430, x431, x432) ∧
  Fits (s251.length + [(x428, x430, x431, x432)].length) 72 ∧
  SubOk (sub s200 1 s200.length) (1 : Int) ((sub s200 1 s200.length).length : Int) ∧
  X2 ((sub (sub s200 1 s200.length) (1 : Int) ((sub s200 1 s200.length).length : Int)), false, (s251 ++ [(x428, x430, x431, x432)])))
  (r = ([], false)))))
  (∃ x436, Idx s200 0 x436 ∧
  IfB (x436 == ([43] : List UInt8))
  (∃ x438 x439 x440, rat_Int (1 : Int) (x438, x439, x440) ∧
  ∃ x442, Idx s200 0 x442 ∧
  ∃ x444, strings_Contains x442 ([45] : List UInt8) x444 ∧
  IfB x444
  (∃ x446, Idx s200 0 x446 ∧
  ∃ x448, lines_Name x446 x448 ∧
  IfB x448
  (∃ x450, Idx s200 0 x450 ∧
  ∃ x452 x453 x454, rat_Mul x357 x358 x359 x438 x439 x440 (x452, x453, x454) ∧
  Fits (s251.length + [(x450, x452, x453, x454)].length) 72 ∧
  SubOk s200 1 s200.length ∧
  X2 ((sub s200 1 s200.length), false, (s251 ++ [(x450, x452, x453, x454)])))
  (r = ([], false)))
  (∃ x458, Idx s200 0 x458 ∧
  ∃ x460 x461 x462 x463, lines_Number x458 (x460, x461, x462, x463) ∧
  IfB x463
  (SubOk s200 1 s200.length ∧
  IfB (((sub s200 1 s200.length).length : Int) == 0)
  (r = ([], false))
  (∃ x467, Idx (sub s200 1 s200.length) 0 x467 ∧
  ∃ x469, lines_Name x467 x469 ∧
  IfB x469
  (∃ x471, Idx (sub s200 1 s200.length) 0 x471 ∧
  ∃ x473 x474 x475, rat_Mul x357 x358 x359 x460 x461 x462 (x473, x474, x475) ∧
  Fits (s251.length + [(x471, x473, x474, x475)].length) 72 ∧
  SubOk (sub s200 1 s200.length) (1 : Int) ((sub s200 1 s200.length).length : Int) ∧
  X2 ((sub (sub s200 1 s200.length) (1 : Int) ((sub s200 1 s200.length).length : Int)), false, (s251 ++ [(x471, x473, x474, x475)])))
  (r = ([], false))))
  (∃ x479, Idx s200 0 x479 ∧
  ∃ x481, lines_Name x479 x481 ∧
  IfB x481
  (∃ x483, Idx s200 0 x483 ∧
  ∃ x485 x486 x487, rat_Mul x357 x358 x359 x438 x439 x440 (x485, x486, x487) ∧
  Fits (s251.length + [(x483, x485, x486, x487)].length) 72 ∧
  SubOk s200 1 s200.length ∧
  X2 ((sub s200 1 s200.length), false, (s251 ++ [(x483, x485, x486, x487)])))
  (r = ([], false)))))
  (∃ x491 x492 x493, rat_Int (1 : Int) (x491, x492, x493) ∧
  ∃ x495, Idx s200 0 x495 ∧
  ∃ x497, strings_Contains x495 ([45] : List UInt8) x497 ∧
  IfB x497
  (∃ x499, Idx s200 0 x499 ∧
  ∃ x501, lines_Name x499 x501 ∧
  IfB x501
  (∃ x503, Idx s200 0 x503 ∧
  ∃ x505 x506 x507, rat_Mul x357 x358 x359 x491 x492 x493 (x505, x506, x507) ∧
  Fits (s251.length + [(x503, x505, x506, x507)].length) 72 ∧
  SubOk s200 1 s200.length ∧
  X2 ((sub s200 1 s200.length), false, (s251 ++ [(x503, x505, x506, x507)])))
  (r = ([], false)))
  (∃ x511, Idx s200 0 x511 ∧
  ∃ x513 x514 x515 x516, lines_Number x511 (x513, x514, x515, x516) ∧
  IfB x516
  (SubOk s200 1 s200.length ∧
  IfB (((sub s200 1 s200.length).length : Int) == 0)
  (r = ([], false))
  (∃ x520, Idx (sub s200 1 s200.length) 0 x520 ∧
  ∃ x522, lines_Name x520 x522 ∧
  IfB x522
  (∃ x524, Idx (sub s200 1 s200.length) 0 x524 ∧
  ∃ x526 x527 x528, rat_Mul x357 x358 x359 x513 x514 x515 (x526, x527, x528) ∧
  Fits (s251.length + [(x524, x526, x527, x528)].length) 72 ∧
  SubOk (sub s200 1 s200.length) (1 : Int) ((sub s200 1 s200.length).length : Int) ∧
  X2 ((sub (sub s200 1 s200.length) (1 : Int) ((sub s200 1 s200.length).length : Int)), false, (s251 ++ [(x524, x526, x527, x528)])))
  (r = ([], false))))
  (∃ x532, Idx s200 0 x532 ∧
  ∃ x534, lines_Name x532 x534 ∧
  IfB x534
  (∃ x536, Idx s200 0 x536 ∧
  ∃ x538 x539 x540, rat_Mul x357 x358 x359 x491 x492 x493 (x538, x539, x540) ∧
  Fits (s251.length + [(x536, x538, x539, x540)].length) 72 ∧
  SubOk s200 1 s200.length ∧
  X2 ((sub s200 1 s200.length), false, (s251 ++ [(x536, x538, x539, x540)])))
  (r = ([], false)))))))
  (∃ x544 x545 x546, rat_Int (1 : Int) (x544, x545, x546) ∧
  IfB ((s200.length : Int) == 0)
  (r = ([], false))
  (∃ x549, Idx s200 0 x549 ∧
  ∃ x551, lines_Name x549 x551 ∧
  IfB x551
  (∃ x553, Idx s200 0 x553 ∧
  ∃ x555 x556 x557, rat_Mul x357 x358 x359 x544 x545 x546 (x555, x556, x557) ∧
  Fits (s251.length + [(x553, x555, x556, x557)].length) 72 ∧
  SubOk s200 1 s200.length ∧
  X2 ((sub s200 1 s200.length), false, (s251 ++ [(x553, x555, x556, x557)])))
  (r = ([], false)))))
  (IfB (decide ((s200.length : Int) > 0))
  (∃ x562 x563 x564, rat_Int (1 : Int) (x562, x563, x564) ∧
  ∃ x566, Idx s200 0 x566 ∧
  IfB (x566 == ([45] : List UInt8))
  (∃ x568 x569 x570, rat_Int (-1 : Int) (x568, x569, x570) ∧
  SubOk s200 1 s200.length ∧
  ∃ x573 x574 x575, rat_Int (1 : Int) (x573, x574, x575) ∧
  IfB (decide (((sub s200 1 s200.length).length : Int) > 0))
  (∃ x578, Idx (sub s200 1 s200.length) 0 x578 ∧
  ∃ x580, strings_Contains x578 ([45] : List UInt8) x580 ∧
  IfB x580
  (∃ x582, Idx (sub s200 1 s200.length) 0 x582 ∧
  ∃ x584, lines_Name x582 x584 ∧
  IfB x584
  (∃ x586, Idx (sub s200 1 s200.length) 0 x586 ∧
  ∃ x588 x589 x590, rat_Mul x568 x569 x570 x573 x574 x575 (x588, x589, x590) ∧
  Fits (s251.length + [(x586, x588, x589, x590)].length) 72 ∧
  SubOk (sub s200 1 s200.length) (1 : Int) ((sub s200 1 s200.length).length : Int) ∧
  X2 ((sub (sub s200 1 s200.length) (1 : Int) ((sub s200 1 s200.length).length : Int)), false, (s251 ++ [(x586, x588, x589, x590)])))
  (r = ([], false)))
  (∃ x594, Idx (sub s200 1 s200.length) 0 x594 ∧
  ∃ x596 x597 x598 x599, lines_Number x594 (x596, x597, x598, x599) ∧
  IfB x599
  (SubOk (sub s200 1 s200.length) (1 : Int) ((sub s200 1 s200.length).length : Int) ∧
  IfB (((sub (sub s200 1 s200.length) (1 : Int) ((sub s200 1 s200.length).length : Int)).length : Int) == 0)
  (r = ([], false))
  (∃ x603, Idx (sub (sub s200 1 s200.length) (1 : Int) ((sub s200 1 s200.length).length : Int)) (0 : Int) x603 ∧
  ∃ x605, lines_Name x603 x605 ∧
  IfB x605
  (∃ x607, Idx (sub (sub s200 1 s200.length) (1 : Int) ((sub s200 1 s200.length).length : Int)) (0 : Int) x607 ∧
  ∃ x609 x610 x611, rat_Mul x568 x569 x570 x596 x597 x598 (x609, x610, x611) ∧
  Fits (s251.length + [(x607, x609, x610, x611)].length) 72 ∧
  SubOk (sub (sub s200 1 s200.length) (1 : Int) ((sub s200 1 s200.length).length : Int)) (1 : Int) ((sub (sub s200 1 s200.length) (1 : Int) ((sub s200 1 s200.length).length : Int)).length : Int) ∧
  X2 ((sub (sub (sub s200 1 s200.length) (1 : Int) ((sub s200 1 s200.length).length : Int)) (1 : Int) ((sub (sub s200 1 s200.length) (1 : Int) ((sub s200 1 s200.length).length : Int)).length : Int)), false, (s251 ++ [(x607, x609, x610, x611)])))
  (r = ([], false))))
  (∃ x615, Idx (sub s200 1 s200.length) 0 x615 ∧
  ∃ x617, lines_Name x615 x617 ∧
  IfB x617
  (∃ x619, Idx (sub s200 1 s200.length) 0 x619 ∧
  ∃ x621 x622 x623, rat_Mul x568 x569 x570 x573 x574 x575 (x621, x622, x623) ∧
  Fits (s251.length + [(x619, x621, x622, x623)].length) 72 ∧
  SubOk (sub s200 1 s200.length) (1 : Int) ((sub s200 1 s200.length).length : Int) ∧
  X2 ((sub (sub s200 1 s200.length) (1 : Int) ((sub s200 1 s200.length).length : Int)), false, (s251 ++ [(x619, x621, x622, x623)])))
  (r = ([], false)))))
  (IfB (((sub s200 1 s200.length).length : Int) == 0)
  (r = ([], false))
  (∃ x628, Idx (sub s200 1 s200.length) 0 x628 ∧
  ∃ x630, lines_Name x628 x630 ∧
  IfB x630
  (∃ x632, Idx (sub s200 1 s200.length) 0 x632 ∧
  ∃ x634 x635 x636, rat_Mul x568 x569 x570 x573 x574 x575 (x634, x635, x636) ∧
  Fits (s251.length + [(x632, x634, x635, x636)].length) 72 ∧
  SubOk (sub s200 1 s200.length) (1 : Int) ((sub s200 1 s200.length).length : Int) ∧
  X2 ((sub (sub s200 1 s200.length) (1 : Int) ((sub s200 1 s200.length).length : Int)), false, (s251 ++ [(x632, x634, x635, x636)])))
  (r = ([], false)))))
  (∃ x640, Idx s200 0 x640 ∧
  IfB (x640 == ([43] : List UInt8))
  (SubOk s200 1 s200.length ∧
  ∃ x643 x644 x645, rat_Int (1 : Int) (x643, x644, x645) ∧
  IfB (decide (((sub s200 1 s200.length).length : Int) > 0))
  (∃ x648, Idx (sub s200 1 s200.length) 0 x648 ∧
  ∃ x650, strings_Contains x648 ([45] : List UInt8) x650 ∧
  IfB x650
  (∃ x652, Idx (sub s200 1 s200.length) 0 x652 ∧
  ∃ x654, lines_Name x652 x654 ∧
  IfB x654
  (∃ x656, Idx (sub s200 1 s200.length) 0 x656 ∧
  ∃ x658 x659 x660, rat_Mul x562 x563 x564 x643 x644 x645 (x658, x659, x660) ∧
  Fits (s251.length + [(x656, x658, x659, x660)].length) 72 ∧
  SubOk (sub s200 1 s200.length) (1 : Int) ((sub s200 1 s200.length).length : Int) ∧
  X2 ((sub (sub s200 1 s200.length) (1 : Int) ((sub s200 1 s200.length).length : Int)), false, (s251 ++ [(x656, x658, x659, x660)])))
  (r = ([], false)))
  (∃ x664, Idx (sub s200 1 s200.length) 0 x664 ∧
  ∃ x666 x667 x668 x669, lines_Number x664 (x666, x667, x668, x669) ∧
  IfB x669
  (SubOk (sub s200 1 s200.length) (1 : Int) ((sub s200 1 s200.length).length : Int) ∧
  IfB (((sub (sub s200 1 s200.length) (1 : Int) ((sub s200 1 s200.length).length : Int)).length : Int) == 0)
  (r = ([], false))
  (∃ x673, Idx (sub (sub s200 1 s200.length) (1 : Int) ((sub s200 1 s200.length).length : Int)) (0 : Int) x673 ∧
  ∃ x675, lines_Name x673 x675 ∧
  IfB x675
  (∃ x677, Idx (sub (sub s200 1 s200.length) (1 : Int) ((sub s200 1 s200.length).length : Int)) (0 : Int) x677 ∧
  ∃ x679 x680 x681, rat_Mul x562 x563 x564 x666 x667 x668 (x679, x680, x681) ∧
  Fits (s251.length + [(x677, x679, x680, x681)].length) 72 ∧
  SubOk (sub (sub s200 1 s200.length) (1 : Int) ((sub s200 1 s200.length).length : Int)) (1 : Int) ((sub (sub s200 1 s200.length) (1 : Int) ((sub s200 1 s200.length).length : Int)).length : Int) ∧
  X2 ((sub (sub (sub s200 1 s200.length) (1 : Int) ((sub s200 1 s200.length).length : Int)) (1 : Int) ((sub (sub s200 1 s200.length) (1 : Int) ((sub s200 1 s200.length).length : Int)).length : Int)), false, (s251 ++ [(x677, x679, x680, x681)])))
  (r = ([], false))))
  (∃ x685, Idx (sub s200 1 s200.length) 0 x685 ∧
  ∃ x687, lines_Name x685 x687 ∧
  IfB x687
  (∃ x689, Idx (sub s200 1 s200.length) 0 x689 ∧
  ∃ x691 x692 x693, rat_Mul x562 x563 x564 x643 x644 x645 (x691, x692, x693) ∧
  Fits (s251.length + [(x689, x691, x692, x693)].length) 72 ∧
  SubOk (sub s200 1 s200.length) (1 : Int) ((sub s200 1 s200.length).length : Int) ∧
  X2 ((sub (sub s200 1 s200.length) (1 : Int) ((sub s200 1 s200.length).length : Int)), false, (s251 ++ [(x689, x691, x692, x693)])))
  (r = ([], false)))))
  (IfB (((sub s200 1 s200.length).length : Int) == 0)
  (r = ([], false))
  (∃ x698, Idx (sub s200 1 s200.length) 0 x698 ∧
  ∃ x700, lines_Name x698 x700 ∧
  IfB x700
  (∃ x702, Idx (sub s200 1 s200.length) 0 x702 ∧
  ∃ x704 x705 x706, rat_Mul x562 x563 x564 x643 x644 x645 (x704, x705, x706) ∧
  Fits (s251.length + [(x702, x704, x705, x706)].length) 72 ∧
  SubOk (sub s200 1 s200.length) (1 : Int) ((sub s200 1 s200.length).length : Int) ∧
  X2 ((sub (sub s200 1 s200.length) (1 : Int) ((sub s200 1 s200.length).length : Int)), false, (s251 ++ [(x702, x704, x705, x706)])))
  (r = ([], false)))))
  (r = ([], false))))
  (r = (s251, true)))
def model_sum (p0 : List Bz) (r : (List (Bz × Fq)) × Bool) : Prop :=
 IfB ((p0.length : Int) == 1)
  (∃ x2, Idx p0 0 x2 ∧
  IfB (x2 == ([48] : List UInt8))
  (r = ([], true))
  (LoopP (model_sum_L1 r) (p0, true, [])))
  (LoopP (model_sum_L2 r) (p0, true, []))
def model_row (p0 : List Bz) (r : Bz × (List (Bz × Fq)) × Int × Bool × (List Int) × (List Int) × Bool) : Prop :=
 IfB (decide ((p0.length : Int) < 4))
  (r = ([], [], 0, false, [], [], false))
  (∃ x2, Idx p0 0 x2 ∧
  ∃ x4 x5, strings_CutSuffix x2 ([58] : List UInt8) (x4, x5) ∧
  IfB x5
  (∃ x7, model_rels x7 ∧
  ∃ x9, Idx p0 (IntKind.i64.wrap ((p0.length : Int) - 2)) x9 ∧
  ∃ x11 x12, mpGet x7 x9 = (x11, x12) ∧
  IfB x12
  (∃ x14, Idx p0 (IntKind.i64.wrap ((p0.length : Int) - 1)) x14 ∧
  ∃ x16 x17 x18 x19, lines_Number x14 (x16, x17, x18, x19) ∧
  IfB x19
  (SubOk p0 (1 : Int) (IntKind.i64.wrap ((p0.length : Int) - 2)) ∧
  ∃ x22 x23, model_sum (sub p0 (1 : Int) (IntKind.i64.wrap ((p0.length : Int) - 2))) (x22, x23) ∧
  IfB x23
  (∃ x25, lines_Name x4 x25 ∧
  IfB x25
  (r = (x4, x22, x11, x16, x17, x18, true))
  (r = (x4, x22, x11, x16, x17, x18, false)))
  (∃ x27, lines_Name x4 x27 ∧
  IfB x27
  (r = (x4, x22, x11, x16, x17, x18, false))
  (r = (x4, x22, x11, x16, x17, x18, false))))
  (SubOk p0 (1 : Int) (IntKind.i64.wrap ((p0.length : Int) - 2)) ∧
  ∃ x30 x31, model_sum (sub p0 (1 : Int) (IntKind.i64.wrap ((p0.length : Int) - 2))) (x30, x31) ∧
  IfB x31
  (∃ x33, lines_Name x4 x33 ∧
  IfB x33
  (r = (x4, x30, x11, x16, x17, x18, false))
  (r = (x4, x30, x11, x16, x17, x18, false)))
  (∃ x35, lines_Name x4 x35 ∧
  IfB x35
  (r = (x4, x30, x11, x16, x17, x18, false))
  (r = (x4, x30, x11, x16, x17, x18, false)))))
  (∃ x37, Idx p0 (IntKind.i64.wrap ((p0.length : Int) - 1)) x37 ∧
  ∃ x39 x40 x41 x42, lines_Number x37 (x39, x40, x41, x42) ∧
  IfB x42
  (SubOk p0 (1 : Int) (IntKind.i64.wrap ((p0.length : Int) - 2)) ∧
  ∃ x45 x46, model_sum (sub p0 (1 : Int) (IntKind.i64.wrap ((p0.length : Int) - 2))) (x45, x46) ∧
  IfB x46
  (∃ x48, lines_Name x4 x48 ∧
  IfB x48
  (r = (x4, x45, x11, x39, x40, x41, false))
  (r = (x4, x45, x11, x39, x40, x41, false)))
  (∃ x50, lines_Name x4 x50 ∧
  IfB x50
  (r = (x4, x45, x11, x39, x40, x41, false))
  (r = (x4, x45, x11, x39, x40, x41, false))))
  (SubOk p0 (1 : Int) (IntKind.i64.wrap ((p0.length : Int) - 2)) ∧
  ∃ x53 x54, model_sum (sub p0 (1 : Int) (IntKind.i64.wrap ((p0.length : Int) - 2))) (x53, x54) ∧
  IfB x54
  (∃ x56, lines_Name x4 x56 ∧
  IfB x56
  (r = (x4, x53, x11, x39, x40, x41, false))
  (r = (x4, x53, x11, x39, x40, x41, false)))
  (∃ x58, lines_Name x4 x58 ∧
  IfB x58
  (r = (x4, x53, x11, x39, x40, x41, false))
  (r = (x4, x53, x11, x39, x40, x41, false))))))
  (∃ x60, model_rels x60 ∧
  ∃ x62, Idx p0 (IntKind.i64.wrap ((p0.length : Int) - 2)) x62 ∧
  ∃ x64 x65, mpGet x60 x62 = (x64, x65) ∧
  IfB x65
  (∃ x67, Idx p0 (IntKind.i64.wrap ((p0.length : Int) - 1)) x67 ∧
  ∃ x69 x70 x71 x72, lines_Number x67 (x69, x70, x71, x72) ∧
  IfB x72
  (SubOk p0 (1 : Int) (IntKind.i64.wrap ((p0.length : Int) - 2)) ∧
  ∃ x75 x76, model_sum (sub p0 (1 : Int) (IntKind.i64.wrap ((p0.length : Int) - 2))) (x75, x76) ∧
  IfB x76
  (r = (x4, x75, x64, x69, x70, x71, false))
  (r = (x4, x75, x64, x69, x70, x71, false)))
  (SubOk p0 (1 : Int) (IntKind.i64.wrap ((p0.length : Int) - 2)) ∧
  ∃ x79 x80, model_sum (sub p0 (1 : Int) (IntKind.i64.wrap ((p0.length : Int) - 2))) (x79, x80) ∧
  IfB x80
  (r = (x4, x79, x64, x69, x70, x71, false))
  (r = (x4, x79, x64, x69, x70, x71, false))))
  (∃ x82, Idx p0 (IntKind.i64.wrap ((p0.length : Int) - 1)) x82 ∧
  ∃ x84 x85 x86 x87, lines_Number x82 (x84, x85, x86, x87) ∧
  IfB x87
  (SubOk p0 (1 : Int) (IntKind.i64.wrap ((p0.length : Int) - 2)) ∧
  ∃ x90 x91, model_sum (sub p0 (1 : Int) (IntKind.i64.wrap ((p0.length : Int) - 2))) (x90, x91) ∧
  IfB x91
  (r = (x4, x90, x64, x84, x85, x86, false))
  (r = (x4, x90, x64, x84, x85, x86, false)))
  (SubOk p0 (1 : Int) (IntKind.i64.wrap ((p0.length : Int) - 2)) ∧
  ∃ x94 x95, model_sum (sub p0 (1 : Int) (IntKind.i64.wrap ((p0.length : Int) - 2))) (x94, x95) ∧
  IfB x95
  (r = (x4, x94, x64, x84, x85, x86, false))
  (r = (x4, x94, x64, x84, x85, x86, false))))))
def model_first (p0 : List Bz) (r : Bz × (List (Bz × Fq)) × Int × Bool × (List Int) × (List Int) × Bool) : Prop :=
 ∃ x1, Idx p0 0 x1 ∧
 IfB (!(x1 == ([109, 105, 110] : List UInt8)))
  (r = ([], [], 0, false, [], [], false))
  (SubOk p0 1 p0.length ∧
  ∃ x4 x5, model_sum (sub p0 1 p0.length) (x4, x5) ∧
  IfB x5
  (r = ([], x4, 0, false, [], [], true))
  (r = ([], x4, 0, false, [], [], false)))
def model_twice_L2 (p0 : List (Bz × Fq)) (s100 : Int) (X1 : Int → Prop) (x2 : List UInt8) (r : Bool) (X2 : Int → Prop) (s : Int) : Prop := match s with
 | s200 =>
 IfB (decide (s200 < ((sub p0 0 s100).length : Int)))
  (∃ x9 x10 x11 x12, Idx (sub p0 0 s100) s200 (x9, x10, x11, x12) ∧
  IfB (x9 == x2)
  (IfB (decide (s200 ≥ 0))
  (r = true)
  (X1 (IntKind.i64.wrap (s100 + 1))))
  (X2 (IntKind.i64.wrap (s200 + 1))))
  (X1 (IntKind.i64.wrap (s100 + 1)))
def model_twice_L1 (p0 : List (Bz × Fq)) (r : Bool) (X1 : Int → Prop) (s : Int) : Prop := match s with
 | s100 =>
 IfB (decide (s100 < (p0.length : Int)))
  (∃ x2 x3 x4 x5, Idx p0 s100 (x2, x3, x4, x5) ∧
  SubOk p0 0 s100 ∧
  LoopP (model_twice_L2 p0 s100 X1 x2 r) (0 : Int))
  (r = false)
def model_twice (p0 : List (Bz × Fq)) (r : Bool) : Prop :=
 LoopP (model_twice_L1 p0 r) (0 : Int)
def model_Parse_L2 (s100 : Int) (s152 : List (Bz × (List Fq) × Int × Fq)) (s153 : List (List (Bz × Fq))) (X1 : (Int × (List Bz) × (List (Bz × (List Fq) × Int × Fq)) × (List (List (Bz × Fq)))) → Prop) (x7 : Int) (x12 : List (Bz × Fq)) (r : (List Bz) × (List Fq) × (List (Bz × (List Fq) × Int × Fq)) × Int × Int) (X2 : (Int × (List Bz)) → Prop) (s : Int × (List Bz)) : Prop := match s with
 | (s200, s251) =>
 IfB (decide (s200 < (x12.length : Int)))
  (∃ x22 x23 x24 x25, Idx x12 s200 (x22, x23, x24, x25) ∧
  ∃ x27, lines_Index s251 x22 x27 ∧
  IfB (decide (x27 < 0))
  (Fits (s251.length + [x22].length) 16 ∧
  X2 ((IntKind.i64.wrap (s200 + 1)), (s251 ++ [x22])))
  (X2 ((IntKind.i64.wrap (s200 + 1)), s251)))
  (IfB (decide ((s251.length : Int) > 60))
  (r = ([], [], [], x7, 4))
  (Fits (s153.length + [x12].length) 24 ∧
  X1 ((IntKind.i64.wrap (s100 + 1)), s251, s152, (s153 ++ [x12]))))
def model_Parse_L3 (s152 : List (Bz × (List Fq) × Int × Fq)) (y44 : List Bz) (X3 : (Int × (List Bz)) → Prop) (s : Int × (List Bz)) : Prop := match s with
 | (s300, s359) =>
 IfB (decide (s300 < (s152.length : Int)))
  (∃ x47 x48 x49 x50 x51 x52, Idx s152 s300 (x47, x48, x49, x50, x51, x52) ∧
  Fits (s359.length + [x47].length) 16 ∧
  X3 ((IntKind.i64.wrap (s300 + 1)), (s359 ++ [x47])))
  (y44 = s359)
def model_Parse_L4 (s100 : Int) (s152 : List (Bz × (List Fq) × Int × Fq)) (s153 : List (List (Bz × Fq))) (X1 : (Int × (List Bz) × (List (Bz × (List Fq) × Int × Fq)) × (List (List (Bz × Fq)))) → Prop) (x7 : Int) (x33 : List UInt8) (x34 : List (Bz × Fq)) (x35 : Int) (x36 : Bool) (x37 : List Int) (x38 : List Int) (r : (List Bz) × (List Fq) × (List (Bz × (List Fq) × Int × Fq)) × Int × Int) (X4 : (Int × (List Bz)) → Prop) (s : Int × (List Bz)) : Prop := match s with
 | (s400, s451) =>
 IfB (decide (s400 < (x34.length : Int)))
  (∃ x59 x60 x61 x62, Idx x34 s400 (x59, x60, x61, x62) ∧
  ∃ x64, lines_Index s451 x59 x64 ∧
  IfB (decide (x64 < 0))
  (Fits (s451.length + [x59].length) 16 ∧
  X4 ((IntKind.i64.wrap (s400 + 1)), (s451 ++ [x59])))
  (X4 ((IntKind.i64.wrap (s400 + 1)), s451)))
  (IfB (decide ((s451.length : Int) > 60))
  (r = ([], [], [], x7, 4))
  (IfB (decide ((s152.length : Int) ≥ 60))
  (r = ([], [], [], x7, 4))
  (Fits (s153.length + [x34].length) 24 ∧
  Fits (s152.length + [(x33, ([] : List Fq), x35, x36, x37, x38)].length) 104 ∧
  X1 ((IntKind.i64.wrap (s100 + 1)), s451, (s152 ++ [(x33, [], x35, x36, x37, x38)]), (s153 ++ [x34])))))
def model_Parse_L9 (s151 : List Bz) (x98 : List (Bz × Fq)) (y100 : List Fq) (X9 : (Int × (List Fq)) → Prop) (s : Int × (List Fq)) : Prop := match s with
 | (s900, s960) =>
 IfB (decide (s900 < (x98.length : Int)))
  (∃ x114 x115 x116 x117, Idx x98 s900 (x114, x115, x116, x117) ∧
  ∃ x119, lines_Index s151 x114 x119 ∧
  ∃ x121 x122 x123, Idx s960 x119 (x121, x122, x123) ∧
  X9 ((IntKind.i64.wrap (s900 + 1)), (s960.set (Int.toNat x119) (x115, x116, x117))))
  (y100 = s960)
def model_Parse_L8 (s151 : List Bz) (x98 : List (Bz × Fq)) (y100 : List Fq) (X8 : (Int × (List Fq)) → Prop) (s : Int × (List Fq)) : Prop := match s with
 | (s800, s860) =>
 IfB (decide (s800 < ((List.replicate (Int.toNat (s151.length : Int)) (0 : Int)).length : Int)))
  (∃ x106, Idx (List.replicate (Int.toNat (s151.length : Int)) (0 : Int)) s800 x106 ∧
  ∃ x108 x109 x110, rat_Int x106 (x108, x109, x110) ∧
  Fits (s860.length + [(x108, x109, x110)].length) 56 ∧
  X8 ((IntKind.i64.wrap (s800 + 1)), (s860 ++ [(x108, x109, x110)])))
  (LoopP (model_Parse_L9 s151 x98 y100) ((0 : Int), s860))
def model_Parse_L7 (s151 : List Bz) (s152 : List (Bz × (List Fq) × Int × Fq)) (s153 : List (List (Bz × Fq))) (s657 : List Fq) (r : (List Bz) × (List Fq) × (List (Bz × (List Fq) × Int × Fq)) × Int × Int) (X7 : (Int × (List (Bz × (List Fq) × Int × Fq))) → Prop) (s : Int × (List (Bz × (List Fq) × Int × Fq))) : Prop := match s with
 | (s700, s752) =>
 IfB (decide (s700 < (s152.length : Int)))
  (∃ x98, Idx s153 (IntKind.i64.wrap (s700 + 1)) x98 ∧
  ∃ y100, ((0 ≤ (s151.length : Int) ∧ Fits (Int.toNat (s151.length : Int)) 8 ∧ Fits (Int.toNat (s151.length : Int)) 1) ∧
  LoopP (model_Parse_L8 s151 x98 y100) ((0 : Int), [])) ∧
  ∃ x125 x126 x127 x128 x129 x130, Idx s752 s700 (x125, x126, x127, x128, x129, x130) ∧
  X7 ((IntKind.i64.wrap (s700 + 1)), (s752.set (Int.toNat s700) (x125, y100, x127, x128, x129, x130))))
  (r = (s151, s657, s752, 0, 0))
def model_Parse_L6 (s151 : List Bz) (s152 : List (Bz × (List Fq) × Int × Fq)) (s153 : List (List (Bz × Fq))) (x72 : List (Bz × Fq)) (r : (List Bz) × (List Fq) × (List (Bz × (List Fq) × Int × Fq)) × Int × Int) (X6 : (Int × (List Fq)) → Prop) (s : Int × (List Fq)) : Prop := match s with
 | (s600, s657) =>
 IfB (decide (s600 < (x72.length : Int)))
  (∃ x86 x87 x88 x89, Idx x72 s600 (x86, x87, x88, x89) ∧
  ∃ x91, lines_Index s151 x86 x91 ∧
  ∃ x93 x94 x95, Idx s657 x91 (x93, x94, x95) ∧
  X6 ((IntKind.i64.wrap (s600 + 1)), (s657.set (Int.toNat x91) (x87, x88, x89))))
  (LoopP (model_Parse_L7 s151 s152 s153 s657 r) ((0 : Int), s152))
def model_Parse_L5 (s151 : List Bz) (s152 : List (Bz × (List Fq) × Int × Fq)) (s153 : List (List (Bz × Fq))) (x72 : List (Bz × Fq)) (r : (List Bz) × (List Fq) × (List (Bz × (List Fq) × Int × Fq)) × Int × Int) (X5 : (Int × (List Fq)) → Prop) (s : Int × (List Fq)) : Prop := match s with
 | (s500, s557) =>
 IfB (decide (s500 < ((List.replicate (Int.toNat (s151.length : Int)) (0 : Int)).length : Int)))
  (∃ x78, Idx (List.replicate (Int.toNat (s151.length : Int)) (0 : Int)) s500 x78 ∧
  ∃ x80 x81 x82, rat_Int x78 (x80, x81, x82) ∧
  Fits (s557.length + [(x80, x81, x82)].length) 56 ∧
  X5 ((IntKind.i64.wrap (s500 + 1)), (s557 ++ [(x80, x81, x82)])))
  (LoopP (model_Parse_L6 s151 s152 s153 x72 r) ((0 : Int), s557))
def model_Parse_L1 (x1 : List (Int × (List Bz))) (r : (List Bz) × (List Fq) × (List (Bz × (List Fq) × Int × Fq)) × Int × Int) (X1 : (Int × (List Bz) × (List (Bz × (List Fq) × Int × Fq)) × (List (List (Bz × Fq)))) → Prop) (s : Int × (List Bz) × (List (Bz × (List Fq) × Int × Fq)) × (List (List (Bz × Fq)))) : Prop := match s with
 | (s100, s151, s152, s153) =>
 IfB (decide (s100 < (x1.length : Int)))
  (∃ x7 x8, Idx x1 s100 (x7, x8) ∧
  IfB (s100 == 0)
  (∃ x11 x12 x13 x14 x15 x16 x17, model_first x8 (x11, x12, x13, x14, x15, x16, x17) ∧
  IfB x17
  (∃ x19, model_twice x12 x19 ∧
  IfB x19
  (r = ([], [], [], x7, 3))
  (LoopP (model_Parse_L2 s100 s152 s153 X1 x7 x12 r) ((0 : Int), s151)))
  (r = ([], [], [], x7, 2)))
  (∃ x33 x34 x35 x36 x37 x38 x39, model_row x8 (x33, x34, x35, x36, x37, x38, x39) ∧
  IfB x39
  (IfB (decide (s100 > 0))
  (∃ x42, model_twice x34 x42 ∧
  IfB x42
  (r = ([], [], [], x7, 3))
  (∃ y44, (LoopP (model_Parse_L3 s152 y44) ((0 : Int), [])) ∧
  ∃ x55, lines_Index y44 x33 x55 ∧
  IfB (decide (x55 ≥ 0))
  (r = ([], [], [], x7, 3))
  (LoopP (model_Parse_L4 s100 s152 s153 X1 x7 x33 x34 x35 x36 x37 x38 r) ((0 : Int), s151))))
  (False))
  (r = ([], [], [], x7, 2))))
  (∃ x72, Idx s153 0 x72 ∧
  (0 ≤ (s151.length : Int) ∧ Fits (Int.toNat (s151.length : Int)) 8 ∧ Fits (Int.toNat (s151.length : Int)) 1) ∧
  LoopP (model_Parse_L5 s151 s152 s153 x72 r) ((0 : Int), []))
def model_Parse (p0 : List UInt8) (r : (List Bz) × (List Fq) × (List (Bz × (List Fq) × Int × Fq)) × Int × Int) : Prop :=
 ∃ x1 x2, lines_All p0 (x1, x2) ∧
 IfB (x2 != 0)
  (r = ([], [], [], 0, x2))
  (IfB ((x1.length : Int) == 0)
  (r = ([], [], [], 0, 2))
  (LoopP (model_Parse_L1 x1 r) ((0 : Int), [], [], [])))
def model_names_L1 (p0 : List Bz) (r : Bool) (X1 : Int → Prop) (s : Int) : Prop := match s with
 | s100 =>
 IfB (decide (s100 < (p0.length : Int)))
  (∃ x2, Idx p0 s100 x2 ∧
  ∃ x4, lines_Name x2 x4 ∧
  IfB x4
  (∃ x6, lines_Index p0 x2 x6 ∧
  IfB (x6 != s100)
  (r = false)
  (X1 (IntKind.i64.wrap (s100 + 1))))
  (r = false))
  (r = true)
def model_names (p0 : List Bz) (r : Bool) : Prop :=
 LoopP (model_names_L1 p0 r) (0 : Int)
def model_Right_L2 (p0 : List Bz) (p2 : List (Bz × (List Fq) × Int × Fq)) (r : Bool) (X2 : Int → Prop) (s : Int) : Prop := match s with
 | s200 =>
 IfB (decide (s200 < (p2.length : Int)))
  (∃ x18 x19 x20 x21 x22 x23, Idx p2 s200 (x18, x19, x20, x21, x22, x23) ∧
  IfB ((x19.length : Int) != (p0.length : Int))
  (IfB (decide (s200 ≥ 0))
  (r = false)
  (r = true))
  (IfB (decide (x20 < (-1)))
  (IfB (decide (s200 ≥ 0))
  (r = false)
  (r = true))
  (IfB (decide (x20 > 1))
  (IfB (decide (s200 ≥ 0))
  (r = false)
  (r = true))
  (X2 (IntKind.i64.wrap (s200 + 1))))))
  (r = true)
def model_Right_L1 (p0 : List Bz) (p2 : List (Bz × (List Fq) × Int × Fq)) (r : Bool) (X1 : (Int × (List Bz)) → Prop) (s : Int × (List Bz)) : Prop := match s with
 | (s100, s153) =>
 IfB (decide (s100 < (p2.length : Int)))
  (∃ x7 x8 x9 x10 x11 x12, Idx p2 s100 (x7, x8, x9, x10, x11, x12) ∧
  Fits (s153.length + [x7].length) 16 ∧
  X1 ((IntKind.i64.wrap (s100 + 1)), (s153 ++ [x7])))
  (∃ x15, model_names s153 x15 ∧
  IfB x15
  (LoopP (model_Right_L2 p0 p2 r) (0 : Int))
  (r = false))
def model_Right (p0 : List Bz) (p1 : List Fq) (p2 : List (Bz × (List Fq) × Int × Fq)) (r : Bool) : Prop :=
 IfB (decide ((p0.length : Int) ≤ 60))
  (IfB ((p1.length : Int) == (p0.length : Int))
  (IfB (decide ((p2.length : Int) ≤ 60))
  (∃ x4, model_names p0 x4 ∧
  IfB x4
  (LoopP (model_Right_L1 p0 p2 r) ((0 : Int), []))
  (r = false))
  (r = false))
  (r = false))
  (r = false)
end Go.Abs
end

section
namespace Go.Abs
def shape_Of_L4 (s101 : Int) (s300 : Int) (s301 : Int) (s357 : List (List Fq)) (s358 : List Fq) (X3 : (Int × Int × (List (List Fq)) × (List Fq)) → Prop) (x31 : List Fq) (x32 : Int) (x33 : Bool) (x34 : List Int) (x35 : List Int) (X4 : (Int × (List Fq)) → Prop) (s : Int × (List Fq)) : Prop := match s with
 | (s400, s464) =>
 IfB (decide (s400 < ((List.replicate (Int.toNat s101) (0 : Int)).length : Int)))
  (∃ x41, Idx (List.replicate (Int.toNat s101) (0 : Int)) s400 x41 ∧
  ∃ x43 x44 x45, rat_Int x41 (x43, x44, x45) ∧
  Fits (s464.length + [(x43, x44, x45)].length) 56 ∧
  X4 ((IntKind.i64.wrap (s400 + 1)), (s464 ++ [(x43, x44, x45)])))
  (∃ x48 x49 x50, rat_Int (1 : Int) (x48, x49, x50) ∧
  ∃ x52, vec_Scale x31 x48 x49 x50 x52 ∧
  IfB (x32 != 0)
  (∃ x55 x56 x57, rat_Int (IntKind.i64.wrap (0 - x32)) (x55, x56, x57) ∧
  ∃ x59 x60 x61, Idx (cpyL x52 s464) s300 (x59, x60, x61) ∧
  Fits (s357.length + [((cpyL x52 s464).set (Int.toNat s300) (x55, x56, x57))].length) 24 ∧
  ∃ x64 x65 x66, rat_Make x33 x34 x35 (x64, x65, x66) ∧
  Fits (s358.length + [(x64, x65, x66)].length) 56 ∧
  X3 ((IntKind.i64.wrap (s300 + 1)), (IntKind.i64.wrap (s301 + 1)), (s357 ++ [((cpyL x52 s464).set (Int.toNat s300) (x55, x56, x57))]), (s358 ++ [(x64, x65, x66)])))
  (Fits (s357.length + [(cpyL x52 s464)].length) 24 ∧
  ∃ x70 x71 x72, rat_Make x33 x34 x35 (x70, x71, x72) ∧
  Fits (s358.length + [(x70, x71, x72)].length) 56 ∧
  X3 (s300, (IntKind.i64.wrap (s301 + 1)), (s357 ++ [(cpyL x52 s464)]), (s358 ++ [(x70, x71, x72)]))))
def shape_Of_L3 (p2 : List (Bz × (List Fq) × Int × Fq)) (s101 : Int) (s256 : List Fq) (x27 : List Fq) (r : (List (List Fq)) × (List Fq) × (List Fq) × Int) (X3 : (Int × Int × (List (List Fq)) × (List Fq)) → Prop) (s : Int × Int × (List (List Fq)) × (List Fq)) : Prop := match s with
 | (s300, s301, s357, s358) =>
 IfB (decide (s301 < (p2.length : Int)))
  (∃ x30 x31 x32 x33 x34 x35, Idx p2 s301 (x30, x31, x32, x33, x34, x35) ∧
  (0 ≤ s101 ∧ Fits (Int.toNat s101) 8 ∧ Fits (Int.toNat s101) 1) ∧
  LoopP (shape_Of_L4 s101 s300 s301 s357 s358 X3 x31 x32 x33 x34 x35) ((0 : Int), []))
  (r = (s357, s358, (cpyL x27 s256), 0))
def shape_Of_L2 (p0 : List Bz) (p1 : List Fq) (p2 : List (Bz × (List Fq) × Int × Fq)) (s101 : Int) (r : (List (List Fq)) × (List Fq) × (List Fq) × Int) (X2 : (Int × (List Fq)) → Prop) (s : Int × (List Fq)) : Prop := match s with
 | (s200, s256) =>
 IfB (decide (s200 < ((List.replicate (Int.toNat s101) (0 : Int)).length : Int)))
  (∃ x16, Idx (List.replicate (Int.toNat s101) (0 : Int)) s200 x16 ∧
  ∃ x18 x19 x20, rat_Int x16 (x18, x19, x20) ∧
  Fits (s256.length + [(x18, x19, x20)].length) 56 ∧
  X2 ((IntKind.i64.wrap (s200 + 1)), (s256 ++ [(x18, x19, x20)])))
  (∃ x23 x24 x25, rat_Int (1 : Int) (x23, x24, x25) ∧
  ∃ x27, vec_Scale p1 x23 x24 x25 x27 ∧
  LoopP (shape_Of_L3 p2 s101 s256 x27 r) ((p0.length : Int), (0 : Int), [], []))
def shape_Of_L1 (p0 : List Bz) (p1 : List Fq) (p2 : List (Bz × (List Fq) × Int × Fq)) (r : (List (List Fq)) × (List Fq) × (List Fq) × Int) (X1 : (Int × Int) → Prop) (s : Int × Int) : Prop := match s with
 | (s100, s101) =>
 IfB (decide (s100 < (p2.length : Int)))
  (∃ x4 x5 x6 x7 x8 x9, Idx p2 s100 (x4, x5, x6, x7, x8, x9) ∧
  IfB (x6 != 0)
  (X1 ((IntKind.i64.wrap (s100 + 1)), (IntKind.i64.wrap (s101 + 1))))
  (X1 ((IntKind.i64.wrap (s100 + 1)), s101)))
  ((0 ≤ s101 ∧ Fits (Int.toNat s101) 8 ∧ Fits (Int.toNat s101) 1) ∧
  LoopP (shape_Of_L2 p0 p1 p2 s101 r) ((0 : Int), []))
def shape_Of (p0 : List Bz) (p1 : List Fq) (p2 : List (Bz × (List Fq) × Int × Fq)) (r : (List (List Fq)) × (List Fq) × (List Fq) × Int) : Prop :=
 ∃ x1, model_Right p0 p1 p2 x1 ∧
 IfB x1
  (LoopP (shape_Of_L1 p0 p1 p2 r) ((0 : Int), (p0.length : Int)))
  (r = ([], [], [], 1))
end Go.Abs
end

section
namespace Go.Abs
def offcutlaw21_awake (r : Bool) : Prop := r = true
end Go.Abs
end

section
namespace Go.Abs
def drive_Check (p0 : List UInt8) (p1 : List UInt8) (r : Int) : Prop :=
 ∃ x1 x2 x3 x4 x5, model_Parse p0 (x1, x2, x3, x4, x5) ∧
 IfB (x5 != 0)
  (r = x5)
  (∃ x8 x9 x10 x11 x12 x13, proof_Parse p1 (x8, x9, x10, x11, x12, x13) ∧
  IfB (x13 != 0)
  (r = x13)
  (∃ x16 x17 x18 x19, shape_Of x1 x2 x3 (x16, x17, x18, x19) ∧
  IfB (x19 != 0)
  (r = x19)
  (∃ x22, proof_Check x16 x17 x18 x8 x9 x10 x11 x22 ∧
  r = x22)))
def offcutlaw21_DriveChecks (p0 : List UInt8) (p1 : List UInt8) (r : Bool) : Prop :=
 IfB (decide ((p0.length : Int) > 1500))
  (∃ x2, offcutlaw21_awake x2 ∧
  IfB x2
  (r = true)
  (r = false))
  (IfB (decide ((p1.length : Int) > 1500))
  (∃ x5, offcutlaw21_awake x5 ∧
  IfB x5
  (r = true)
  (r = false))
  (∃ x7, drive_Check p0 p1 x7 ∧
  ∃ x9 x10 x11 x12 x13, model_Parse p0 (x9, x10, x11, x12, x13) ∧
  IfB (x13 != 0)
  (IfB (x7 == x13)
  (∃ x17, offcutlaw21_awake x17 ∧
  IfB x17
  (r = true)
  (r = false))
  (r = false))
  (∃ x19 x20 x21 x22 x23 x24, proof_Parse p1 (x19, x20, x21, x22, x23, x24) ∧
  IfB (x24 != 0)
  (IfB (x7 == x24)
  (∃ x28, offcutlaw21_awake x28 ∧
  IfB x28
  (r = true)
  (r = false))
  (r = false))
  (∃ x30 x31 x32 x33, shape_Of x9 x10 x11 (x30, x31, x32, x33) ∧
  ∃ x35, proof_Check x30 x31 x32 x19 x20 x21 x22 x35 ∧
  IfB (x7 == x35)
  (∃ x38, offcutlaw21_awake x38 ∧
  IfB x38
  (r = true)
  (r = false))
  (r = false)))))
def offcutlaw21_DriveOne (p0 : List UInt8) (p1 : List UInt8) (p2 : List UInt8) (r : Bool) : Prop :=
 IfB (decide ((p0.length : Int) > 1500))
  (∃ x2, offcutlaw21_awake x2 ∧
  IfB x2
  (r = true)
  (r = false))
  (IfB (decide ((p1.length : Int) > 1500))
  (∃ x5, offcutlaw21_awake x5 ∧
  IfB x5
  (r = true)
  (r = false))
  (IfB (decide ((p2.length : Int) > 1500))
  (∃ x8, offcutlaw21_awake x8 ∧
  IfB x8
  (r = true)
  (r = false))
  (∃ x10, drive_Check p0 p1 x10 ∧
  IfB (x10 != 0)
  (∃ x13, offcutlaw21_awake x13 ∧
  IfB x13
  (r = true)
  (r = false))
  (∃ x15, drive_Check p0 p2 x15 ∧
  IfB (x15 != 0)
  (∃ x18, offcutlaw21_awake x18 ∧
  IfB x18
  (r = true)
  (r = false))
  (∃ x20 x21 x22 x23 x24 x25, proof_Parse p1 (x20, x21, x22, x23, x24, x25) ∧
  ∃ x27 x28 x29 x30 x31 x32, proof_Parse p2 (x27, x28, x29, x30, x31, x32) ∧
  IfB (x20 == x27)
  (IfB (decide (x20 ≥ 1))
  (∃ x36, offcutlaw21_awake x36 ∧
  IfB x36
  (r = true)
  (r = false))
  (r = false))
  (r = false))))))
end Go.Abs
end
