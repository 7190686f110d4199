/- Part of a proof, in few files: SH BSw RT RD. -/
import Derived.Shelf.Strings.Builder1
import Derived.Shelf.Strings.Builder2
import Derived.Shelf.Strings.OnBuilder
import Derived.Shelf.Small.Bits
import Derived.Shelf.Small.Wraps
import Derived.Shelf.Strings.BuilderF
import Derived.Shelf.Strings.BuilderK
import Derived.Shelf.Utf8.RuneCount
import Derived.Shelf.Strconv.Itoa0
import Derived.Shelf.Strings.Search1
import Derived.Shelf.Strings.Search2
import Derived.Shelf.Strings.Search3
import Derived.Shelf.Strings.Cut
import Derived.Shelf.Strings.Count
import Derived.Shelf.LaysM
import Derived.Shelf.Strings.Shaped
import Derived.Shelf.Strings.Split
import Derived.Shelf.Strings.Fields
import Derived.Shelf.Strings.SplitShaped
import Derived.Shelf.Unicode.Latin
import Derived.Shelf.Unicode.Decode
import Derived.Shelf.Strings.RuneCount
import Derived.Shelf.Strings.Explode
import Derived.Shelf.Bits.Mul64
import Derived.Shelf.Unicode.DecodeSlow
import Derived.Shelf.Unicode.DecodeAny
import Derived.Shelf.Unicode.Is16White
import Derived.Shelf.Unicode.IsSpaceAny
import Derived.Shelf.Unicode.Is16Any
import Derived.Shelf.Unicode.Is32Any
import Derived.Shelf.Unicode.ExclAny
import Derived.Shelf.Slices.Turned
import Derived.Shelf.Slices.Equal
import Derived.Ground.Names2Prog
import Derived.Shelf.Slices.SearchI
import Derived.Shelf.Slices.Empties2
import Derived.Test.YtojdnnogpffhpaaGreatDoorProg
import Derived.Test.YtojdnnogpffhpaaGreatDoorNPaK11
import Derived.Test.YtojdnnogpffhpaaGreatDoorNPaK12
import Derived.Test.YtojdnnogpffhpaaGreatDoorCards
import Derived.Test.YtojdnnogpffhpaaGreatDoorTie
import Derived.WalkKit
import Derived.ProofKit
import Derived.OpenShut
import Derived.Below
import Derived.Lay
import Derived.Deep.DeepHandedRow
import Derived.Deep.DeepWitnessRowRef
import Derived.Lib.LaidTab
import Derived.SliceStrings
import Derived.ChangeMaps5
import Derived.Deep.Slices
import Derived.ChangeArms

section
namespace Go.Proofs
open Go.Shelf
def Tryz.lays156_ren : Go.Shelf.Ren := ⟨fun | 156 => 57 | 165 => 81 | 166 => 82 | 169 => 83 | 240 => 106 | 241 => 107 | 276 => 126 | 277 => 127 | n => n, fun | 31 => 22 | 9 => 9 | 3 => 3 | 4 => 4 | 0 => 0 | 20 => 20 | 72 => 132 | 76 => 136 | 70 => 129 | 37 => 130 | 75 => 135 | 127 => 162 | 164 => 192 | 5 => 5 | 80 => 138 | n => n, fun | n => n⟩
theorem Tryz.lays156 : Go.Proofs.Lays.n156 Tryz.prog Tryz.lays156_ren := {
  mixed := by kernel_rfl
  f156 := Tryz.func57.trans (congrArg some (by kernel_rfl))
  f165 := Tryz.func81.trans (congrArg some (by kernel_rfl))
  f166 := Tryz.func82.trans (congrArg some (by kernel_rfl))
  f169 := Tryz.func83.trans (congrArg some (by kernel_rfl))
  f240 := Tryz.func106.trans (congrArg some (by kernel_rfl))
  f241 := Tryz.func107.trans (congrArg some (by kernel_rfl))
  f276 := Tryz.func126.trans (congrArg some (by kernel_rfl))
  f277 := Tryz.func127.trans (congrArg some (by kernel_rfl))
  t0 := Tryz.underlying0
  a0 := Tryz.isAgg0
  z0 := Tryz.sizeOf0
  v0 := Tryz.zeroValue0
  t3 := Tryz.underlying3
  a3 := Tryz.isAgg3
  z3 := Tryz.sizeOf3
  v3 := Tryz.zeroValue3
  t4 := Tryz.underlying4
  a4 := Tryz.isAgg4
  z4 := Tryz.sizeOf4
  v4 := Tryz.zeroValue4
  t9 := Tryz.underlying9
  a9 := Tryz.isAgg9
  z9 := Tryz.sizeOf9
  v9 := Tryz.zeroValue9
  t20 := Tryz.underlying20
  a20 := Tryz.isAgg20
  z20 := Tryz.sizeOf20
  v20 := Tryz.zeroValue20
  t31 := Tryz.underlying22
  a31 := Tryz.isAgg22
  z31 := Tryz.sizeOf22
  v31 := Tryz.zeroValue22
  t37 := Tryz.underlying130
  a37 := Tryz.isAgg130
  z37 := Tryz.sizeOf130
  v37 := Tryz.zeroValue130
  t70 := Tryz.underlying129
  a70 := Tryz.isAgg129
  z70 := Tryz.sizeOf129
  v70 := Tryz.zeroValue129
  t72 := Tryz.underlying132
  a72 := Tryz.isAgg132
  z72 := Tryz.sizeOf132
  v72 := Tryz.zeroValue132
  t75 := Tryz.underlying135
  a75 := Tryz.isAgg135
  z75 := Tryz.sizeOf135
  v75 := Tryz.zeroValue135
  t76 := Tryz.underlying136
  a76 := Tryz.isAgg136
  z76 := Tryz.sizeOf136
  v76 := Tryz.zeroValue136
  t127 := Tryz.underlying162
  a127 := Tryz.isAgg162
  z127 := Tryz.sizeOf162
  v127 := Tryz.zeroValue162
  t164 := Tryz.underlying192
  a164 := Tryz.isAgg192
  z164 := Tryz.sizeOf192
  v164 := Tryz.zeroValue192 }
theorem Tryz.Builder_Extra_156 : Builder.Extra Tryz.prog Tryz.lays156_ren := {
  sizeBuilder := by kernel_rfl
  liesBuilder := by kernel_rfl
  t5 := Tryz.underlying5
  a5 := Tryz.isAgg5
  z5 := Tryz.sizeOf5
  v5 := Tryz.zeroValue5
  infoByte := by kernel_rfl
  cellsByte := by kernel_rfl
  sizeByte := by kernel_rfl
  neB5 := by decide }
open Go.RowKit in
theorem Tryz.strings_Join_none (a : Option Addr) (c : Nat) (sep : ByteArray) (w : World) :
    Calls Tryz.prog 57 #[.slice a 0 c, .string sep] w fun e w' => e = .returned (.string ⟨#[]⟩) ∧ w' = w := Any.strings_Join_none Tryz.lays156 Tryz.Builder_Extra_156 a c sep w
open Go.RowKit in
theorem Tryz.strings_Join (bk o c : Nat) (xs : List ByteArray) (sep : ByteArray) (w : World) (hcells : ∀ (j : Nat) x, xs[j]? = some x → w.cell? ⟨bk, o + j, none⟩ = some (.string x)) (hbk : bk < w.heap.size) (hN : xs.length ≤ 140737488355328) (hcap : xs.length ≤ c) (hlen : (Lib.join (xs.map (·.data.toList)) sep.data.toList).length ≤ 140737488355328) :
    Calls Tryz.prog 57 #[.slice (some ⟨bk, o, none⟩) xs.length c, .string sep] w fun e w' => e = .returned (.string ⟨(Lib.join (xs.map (·.data.toList)) sep.data.toList).toArray⟩) ∧ Below w.heap.size w w' := Any.strings_Join Tryz.lays156 Tryz.Builder_Extra_156 bk o c xs sep w hcells hbk hN hcap hlen
def Tryz.lays215_ren : Go.Shelf.Ren := ⟨fun | 215 => 77 | n => n, fun | 3 => 3 | 4 => 4 | n => n, fun | n => n⟩
theorem Tryz.lays215 : Go.Proofs.Lays.n215 Tryz.prog Tryz.lays215_ren := {
  mixed := by kernel_rfl
  f215 := Tryz.func77.trans (congrArg some (by kernel_rfl))
  t3 := Tryz.underlying3
  a3 := Tryz.isAgg3
  z3 := Tryz.sizeOf3
  v3 := Tryz.zeroValue3
  t4 := Tryz.underlying4
  a4 := Tryz.isAgg4
  z4 := Tryz.sizeOf4
  v4 := Tryz.zeroValue4 }
open Go.RowKit in
theorem Tryz.cmp_isNaN_int (x : Int) (w : World) :
    Calls Tryz.prog 77 #[.int .i64 x] w fun e w' => e = .returned (.bool false) ∧ w' = w := Any.cmp_isNaN_int Tryz.lays215 x w
def Tryz.lays145_ren : Go.Shelf.Ren := ⟨fun | 145 => 46 | 220 => 62 | 219 => 91 | 217 => 116 | 225 => 117 | 224 => 118 | 267 => 119 | 266 => 131 | 314 => 132 | n => n, fun | 9 => 9 | 4 => 4 | 59 => 91 | 3 => 3 | 5 => 5 | 46 => 97 | 146 => 124 | 51 => 121 | n => n, fun | 1 => 2 | n => n⟩
theorem Tryz.lays145 : Go.Proofs.Lays.n145 Tryz.prog Tryz.lays145_ren := {
  mixed := by kernel_rfl
  f145 := Tryz.func46.trans (congrArg some (by kernel_rfl))
  f217 := Tryz.func116.trans (congrArg some (by kernel_rfl))
  f219 := Tryz.func91.trans (congrArg some (by kernel_rfl))
  f220 := Tryz.func62.trans (congrArg some (by kernel_rfl))
  f224 := Tryz.func118.trans (congrArg some (by kernel_rfl))
  f225 := Tryz.func117.trans (congrArg some (by kernel_rfl))
  f266 := Tryz.func131.trans (congrArg some (by kernel_rfl))
  f267 := Tryz.func119.trans (congrArg some (by kernel_rfl))
  f314 := Tryz.func132.trans (congrArg some (by kernel_rfl))
  t3 := Tryz.underlying3
  a3 := Tryz.isAgg3
  z3 := Tryz.sizeOf3
  v3 := Tryz.zeroValue3
  t4 := Tryz.underlying4
  a4 := Tryz.isAgg4
  z4 := Tryz.sizeOf4
  v4 := Tryz.zeroValue4
  t5 := Tryz.underlying5
  a5 := Tryz.isAgg5
  z5 := Tryz.sizeOf5
  v5 := Tryz.zeroValue5
  t9 := Tryz.underlying9
  a9 := Tryz.isAgg9
  z9 := Tryz.sizeOf9
  v9 := Tryz.zeroValue9
  t46 := Tryz.underlying97
  a46 := Tryz.isAgg97
  z46 := Tryz.sizeOf97
  v46 := Tryz.zeroValue97
  t51 := Tryz.underlying121
  a51 := Tryz.isAgg121
  z51 := Tryz.sizeOf121
  v51 := Tryz.zeroValue121
  t59 := Tryz.underlying91
  a59 := Tryz.isAgg91
  z59 := Tryz.sizeOf91
  v59 := Tryz.zeroValue91
  t146 := Tryz.underlying124
  a146 := Tryz.isAgg124
  z146 := Tryz.sizeOf124
  v146 := Tryz.zeroValue124
  g1 := by kernel_rfl }
open Go.RowKit Go.Lib in
theorem Tryz.strings_Cut (s sep : ByteArray) (m : Int) (w : World) (hs : s.size < 4294967281) (hm : w.cell? ⟨2, 0, none⟩ = some (.int .i64 m)) :
    Calls Tryz.prog 46 #[.string s, .string sep] w fun e w' => e = .returned (.tuple #[.string ⟨(Lib.cut s.data.toList sep.data.toList).1.toArray⟩, .string ⟨(Lib.cut s.data.toList sep.data.toList).2.1.toArray⟩, .bool (Lib.cut s.data.toList sep.data.toList).2.2]) ∧ ∃ n, w' = w.drewN n := Any.strings_Cut Tryz.lays145 s sep m w hs hm
def Tryz.laysM145_ren : Go.Shelf.Ren := ⟨fun | 145 => 46 | 220 => 62 | 219 => 91 | 217 => 116 | 225 => 117 | 224 => 118 | 267 => 119 | 266 => 131 | 314 => 132 | n => n, fun | 9 => 9 | 4 => 4 | 59 => 91 | 3 => 3 | 5 => 5 | 46 => 97 | 146 => 124 | 51 => 121 | n => n, fun | 1 => 2 | n => n⟩
theorem Tryz.laysM145 : Go.Proofs.LaysM.n145 Tryz.prog Tryz.laysM145_ren := {
  mixed := by kernel_rfl
  f145 := Tryz.func46.trans (congrArg some (by kernel_rfl))
  f217 := Tryz.func116.trans (congrArg some (by kernel_rfl))
  f219 := Tryz.func91.trans (congrArg some (by kernel_rfl))
  f220 := Tryz.func62.trans (congrArg some (by kernel_rfl))
  f224 := Tryz.func118.trans (congrArg some (by kernel_rfl))
  f225 := Tryz.func117.trans (congrArg some (by kernel_rfl))
  f266 := Tryz.func131.trans (congrArg some (by kernel_rfl))
  f267 := Tryz.func119.trans (congrArg some (by kernel_rfl))
  f314 := Tryz.func132.trans (congrArg some (by kernel_rfl))
  t3 := Tryz.underlying3
  a3 := Tryz.isAgg3
  z3 := Tryz.sizeOf3
  v3 := Tryz.zeroValue3
  t4 := Tryz.underlying4
  a4 := Tryz.isAgg4
  z4 := Tryz.sizeOf4
  v4 := Tryz.zeroValue4
  t5 := Tryz.underlying5
  a5 := Tryz.isAgg5
  z5 := Tryz.sizeOf5
  v5 := Tryz.zeroValue5
  t9 := Tryz.underlying9
  a9 := Tryz.isAgg9
  z9 := Tryz.sizeOf9
  v9 := Tryz.zeroValue9
  t46 := Tryz.underlying97
  a46 := Tryz.isAgg97
  z46 := Tryz.sizeOf97
  v46 := Tryz.zeroValue97
  t51 := Tryz.underlying121
  a51 := Tryz.isAgg121
  z51 := Tryz.sizeOf121
  v51 := Tryz.zeroValue121
  t59 := Tryz.underlying91
  a59 := Tryz.isAgg91
  z59 := Tryz.sizeOf91
  v59 := Tryz.zeroValue91
  t146 := Tryz.underlying124
  a146 := Tryz.isAgg124
  z146 := Tryz.sizeOf124
  v146 := Tryz.zeroValue124
  g1 := by kernel_rfl
  i3 := by kernel_rfl
  i4 := by kernel_rfl
  i5 := by kernel_rfl
  i9 := by kernel_rfl
  i46 := by kernel_rfl
  i51 := by kernel_rfl
  i59 := by kernel_rfl
  i146 := by kernel_rfl
  m1 := by kernel_rfl
  s1_3 := fun w h => Go.Proofs.cell_of_shapedOpen_int (zero := #[.int .i64 0]) (t := 3) h (of_decide_eq_true (by kernel_rfl)) (by kernel_rfl) rfl (by kernel_rfl) (by kernel_rfl) Tryz.underlying3 }
def Tryz.lays146_ren : Go.Shelf.Ren := ⟨fun | 146 => 45 | 221 => 61 | 268 => 88 | 138 => 89 | 143 => 90 | 195 => 113 | 197 => 114 | 218 => 115 | 219 => 91 | 260 => 130 | 217 => 116 | 225 => 117 | 224 => 118 | 267 => 119 | 266 => 131 | 314 => 132 | n => n, fun | 9 => 9 | 31 => 22 | 3 => 3 | 4 => 4 | 0 => 0 | 105 => 172 | 21 => 21 | 5 => 5 | 46 => 97 | 119 => 110 | 139 => 206 | 138 => 205 | 146 => 124 | 51 => 121 | n => n, fun | 1 => 2 | 3 => 3 | 4 => 4 | n => n⟩
theorem Tryz.lays146 : Go.Proofs.Lays.n146 Tryz.prog Tryz.lays146_ren := {
  mixed := by kernel_rfl
  f138 := Tryz.func89.trans (congrArg some (by kernel_rfl))
  f143 := Tryz.func90.trans (congrArg some (by kernel_rfl))
  f146 := Tryz.func45.trans (congrArg some (by kernel_rfl))
  f195 := Tryz.func113.trans (congrArg some (by kernel_rfl))
  f197 := Tryz.func114.trans (congrArg some (by kernel_rfl))
  f217 := Tryz.func116.trans (congrArg some (by kernel_rfl))
  f218 := Tryz.func115.trans (congrArg some (by kernel_rfl))
  f219 := Tryz.func91.trans (congrArg some (by kernel_rfl))
  f221 := Tryz.func61.trans (congrArg some (by kernel_rfl))
  f224 := Tryz.func118.trans (congrArg some (by kernel_rfl))
  f225 := Tryz.func117.trans (congrArg some (by kernel_rfl))
  f260 := Tryz.func130.trans (congrArg some (by kernel_rfl))
  f266 := Tryz.func131.trans (congrArg some (by kernel_rfl))
  f267 := Tryz.func119.trans (congrArg some (by kernel_rfl))
  f268 := Tryz.func88.trans (congrArg some (by kernel_rfl))
  f314 := Tryz.func132.trans (congrArg some (by kernel_rfl))
  t0 := Tryz.underlying0
  a0 := Tryz.isAgg0
  z0 := Tryz.sizeOf0
  v0 := Tryz.zeroValue0
  t3 := Tryz.underlying3
  a3 := Tryz.isAgg3
  z3 := Tryz.sizeOf3
  v3 := Tryz.zeroValue3
  t4 := Tryz.underlying4
  a4 := Tryz.isAgg4
  z4 := Tryz.sizeOf4
  v4 := Tryz.zeroValue4
  t5 := Tryz.underlying5
  a5 := Tryz.isAgg5
  z5 := Tryz.sizeOf5
  v5 := Tryz.zeroValue5
  t9 := Tryz.underlying9
  a9 := Tryz.isAgg9
  z9 := Tryz.sizeOf9
  v9 := Tryz.zeroValue9
  t21 := Tryz.underlying21
  a21 := Tryz.isAgg21
  z21 := Tryz.sizeOf21
  v21 := Tryz.zeroValue21
  t31 := Tryz.underlying22
  a31 := Tryz.isAgg22
  z31 := Tryz.sizeOf22
  v31 := Tryz.zeroValue22
  t46 := Tryz.underlying97
  a46 := Tryz.isAgg97
  z46 := Tryz.sizeOf97
  v46 := Tryz.zeroValue97
  t51 := Tryz.underlying121
  a51 := Tryz.isAgg121
  z51 := Tryz.sizeOf121
  v51 := Tryz.zeroValue121
  t105 := Tryz.underlying172
  a105 := Tryz.isAgg172
  z105 := Tryz.sizeOf172
  v105 := Tryz.zeroValue172
  t119 := Tryz.underlying110
  a119 := Tryz.isAgg110
  z119 := Tryz.sizeOf110
  t138 := Tryz.underlying205
  a138 := Tryz.isAgg205
  z138 := Tryz.sizeOf205
  v138 := Tryz.zeroValue205
  t139 := Tryz.underlying206
  a139 := Tryz.isAgg206
  z139 := Tryz.sizeOf206
  v139 := Tryz.zeroValue206
  t146 := Tryz.underlying124
  a146 := Tryz.isAgg124
  z146 := Tryz.sizeOf124
  v146 := Tryz.zeroValue124
  g1 := by kernel_rfl
  g3 := by kernel_rfl
  g4 := by kernel_rfl }
open Go.RowKit Go.Lib in
theorem Tryz.strings_Split (s sep : ByteArray) (m : Int) (w : World) (hs : s.size < 4294967281) (hm : w.cell? ⟨2, 0, none⟩ = some (.int .i64 m)) (h1 : 1 ≤ sep.size) :
    Calls Tryz.prog 45 #[.string s, .string sep] w fun e w' =>
      e = .returned (.slice (some ⟨w.heap.size, 0, none⟩) (Lib.countB s sep + 1) (Lib.countB s sep + 1)) ∧ w' = w.alloc (.cells ((Lib.splitB sep 0 (Lib.countB s sep) s).map Value.string).toArray 9) := Any.strings_Split Tryz.lays146 (by kernel_rfl) s sep m w hs hm h1
def Tryz.lays157_ren : Go.Shelf.Ren := ⟨fun | 157 => 47 | 229 => 63 | 199 => 64 | 261 => 92 | 311 => 120 | 312 => 121 | n => n, fun | 9 => 9 | 31 => 22 | 3 => 3 | 5 => 5 | 4 => 4 | 119 => 110 | 0 => 0 | 40 => 89 | 152 => 146 | 21 => 21 | 154 => 148 | 51 => 121 | 141 => 150 | 196 => 179 | 193 => 176 | 198 => 182 | 49 => 180 | 194 => 177 | 201 => 185 | 226 => 199 | 46 => 97 | 227 => 200 | n => n, fun | 0 => 0 | 6 => 1 | n => n⟩
theorem Tryz.lays157 : Go.Proofs.Lays.n157 Tryz.prog Tryz.lays157_ren := {
  mixed := by kernel_rfl
  f157 := Tryz.func47.trans (congrArg some (by kernel_rfl))
  f199 := Tryz.func64.trans (congrArg some (by kernel_rfl))
  f229 := Tryz.func63.trans (congrArg some (by kernel_rfl))
  f261 := Tryz.func92.trans (congrArg some (by kernel_rfl))
  f311 := Tryz.func120.trans (congrArg some (by kernel_rfl))
  f312 := Tryz.func121.trans (congrArg some (by kernel_rfl))
  t0 := Tryz.underlying0
  a0 := Tryz.isAgg0
  z0 := Tryz.sizeOf0
  v0 := Tryz.zeroValue0
  t3 := Tryz.underlying3
  a3 := Tryz.isAgg3
  z3 := Tryz.sizeOf3
  v3 := Tryz.zeroValue3
  t4 := Tryz.underlying4
  a4 := Tryz.isAgg4
  z4 := Tryz.sizeOf4
  v4 := Tryz.zeroValue4
  t5 := Tryz.underlying5
  a5 := Tryz.isAgg5
  z5 := Tryz.sizeOf5
  v5 := Tryz.zeroValue5
  t9 := Tryz.underlying9
  a9 := Tryz.isAgg9
  z9 := Tryz.sizeOf9
  v9 := Tryz.zeroValue9
  t21 := Tryz.underlying21
  a21 := Tryz.isAgg21
  z21 := Tryz.sizeOf21
  v21 := Tryz.zeroValue21
  t31 := Tryz.underlying22
  a31 := Tryz.isAgg22
  z31 := Tryz.sizeOf22
  v31 := Tryz.zeroValue22
  t40 := Tryz.underlying89
  a40 := Tryz.isAgg89
  z40 := Tryz.sizeOf89
  v40 := Tryz.zeroValue89
  t46 := Tryz.underlying97
  a46 := Tryz.isAgg97
  z46 := Tryz.sizeOf97
  v46 := Tryz.zeroValue97
  t49 := Tryz.underlying180
  a49 := Tryz.isAgg180
  z49 := Tryz.sizeOf180
  v49 := Tryz.zeroValue180
  t51 := Tryz.underlying121
  a51 := Tryz.isAgg121
  z51 := Tryz.sizeOf121
  v51 := Tryz.zeroValue121
  t119 := Tryz.underlying110
  a119 := Tryz.isAgg110
  z119 := Tryz.sizeOf110
  t141 := Tryz.underlying150
  a141 := Tryz.isAgg150
  z141 := Tryz.sizeOf150
  v141 := Tryz.zeroValue150
  t152 := Tryz.underlying146
  a152 := Tryz.isAgg146
  z152 := Tryz.sizeOf146
  v152 := Tryz.zeroValue146
  t154 := Tryz.underlying148
  a154 := Tryz.isAgg148
  z154 := Tryz.sizeOf148
  v154 := Tryz.zeroValue148
  t193 := Tryz.underlying176
  a193 := Tryz.isAgg176
  z193 := Tryz.sizeOf176
  v193 := Tryz.zeroValue176
  t194 := Tryz.underlying177
  a194 := Tryz.isAgg177
  z194 := Tryz.sizeOf177
  v194 := Tryz.zeroValue177
  t196 := Tryz.underlying179
  a196 := Tryz.isAgg179
  z196 := Tryz.sizeOf179
  v196 := Tryz.zeroValue179
  t198 := Tryz.underlying182
  a198 := Tryz.isAgg182
  z198 := Tryz.sizeOf182
  v198 := Tryz.zeroValue182
  t201 := Tryz.underlying185
  a201 := Tryz.isAgg185
  z201 := Tryz.sizeOf185
  v201 := Tryz.zeroValue185
  t226 := Tryz.underlying199
  a226 := Tryz.isAgg199
  z226 := Tryz.sizeOf199
  v226 := Tryz.zeroValue199
  t227 := Tryz.underlying200
  a227 := Tryz.isAgg200
  z227 := Tryz.sizeOf200
  v227 := Tryz.zeroValue200
  g0 := by kernel_rfl
  g6 := by kernel_rfl }
open Go.RowKit Go.Lib in
theorem Tryz.strings_Fields (s : ByteArray) (w : World) (hs : s.size < 4294967281) (hascii : ∀ (j : Nat) b, s.data.toList[j]? = some b → b.toNat < 128) (htab : Lib.TabIs Tryz.prog w "strings.asciiSpace" .u8 Lib.asciiSpaceTab) :
    Calls Tryz.prog 47 #[.string s] w fun e w' =>
      e = .returned (.slice (some ⟨w.heap.size, 0, none⟩) (Lib.fields s.data.toList).length (Lib.fields s.data.toList).length) ∧ w' = w.alloc (.cells ((Lib.fields s.data.toList).map fun l => Value.string ⟨l.toArray⟩).toArray 9) := Any.strings_Fields Tryz.lays157 (by kernel_rfl) (by kernel_rfl) s w hs hascii htab
def Tryz.laysM157_ren : Go.Shelf.Ren := ⟨fun | 157 => 47 | 229 => 63 | 199 => 64 | 261 => 92 | 311 => 120 | 312 => 121 | n => n, fun | 9 => 9 | 31 => 22 | 3 => 3 | 5 => 5 | 4 => 4 | 119 => 110 | 0 => 0 | 40 => 89 | 152 => 146 | 21 => 21 | 154 => 148 | 51 => 121 | 141 => 150 | 196 => 179 | 193 => 176 | 198 => 182 | 49 => 180 | 194 => 177 | 201 => 185 | 226 => 199 | 46 => 97 | 227 => 200 | n => n, fun | 0 => 0 | 6 => 1 | n => n⟩
theorem Tryz.laysM157 : Go.Proofs.LaysM.n157 Tryz.prog Tryz.laysM157_ren := {
  mixed := by kernel_rfl
  f157 := Tryz.func47.trans (congrArg some (by kernel_rfl))
  f199 := Tryz.func64.trans (congrArg some (by kernel_rfl))
  f229 := Tryz.func63.trans (congrArg some (by kernel_rfl))
  f261 := Tryz.func92.trans (congrArg some (by kernel_rfl))
  f311 := Tryz.func120.trans (congrArg some (by kernel_rfl))
  f312 := Tryz.func121.trans (congrArg some (by kernel_rfl))
  t0 := Tryz.underlying0
  a0 := Tryz.isAgg0
  z0 := Tryz.sizeOf0
  v0 := Tryz.zeroValue0
  t3 := Tryz.underlying3
  a3 := Tryz.isAgg3
  z3 := Tryz.sizeOf3
  v3 := Tryz.zeroValue3
  t4 := Tryz.underlying4
  a4 := Tryz.isAgg4
  z4 := Tryz.sizeOf4
  v4 := Tryz.zeroValue4
  t5 := Tryz.underlying5
  a5 := Tryz.isAgg5
  z5 := Tryz.sizeOf5
  v5 := Tryz.zeroValue5
  t9 := Tryz.underlying9
  a9 := Tryz.isAgg9
  z9 := Tryz.sizeOf9
  v9 := Tryz.zeroValue9
  t21 := Tryz.underlying21
  a21 := Tryz.isAgg21
  z21 := Tryz.sizeOf21
  v21 := Tryz.zeroValue21
  t31 := Tryz.underlying22
  a31 := Tryz.isAgg22
  z31 := Tryz.sizeOf22
  v31 := Tryz.zeroValue22
  t40 := Tryz.underlying89
  a40 := Tryz.isAgg89
  z40 := Tryz.sizeOf89
  v40 := Tryz.zeroValue89
  t46 := Tryz.underlying97
  a46 := Tryz.isAgg97
  z46 := Tryz.sizeOf97
  v46 := Tryz.zeroValue97
  t49 := Tryz.underlying180
  a49 := Tryz.isAgg180
  z49 := Tryz.sizeOf180
  v49 := Tryz.zeroValue180
  t51 := Tryz.underlying121
  a51 := Tryz.isAgg121
  z51 := Tryz.sizeOf121
  v51 := Tryz.zeroValue121
  t119 := Tryz.underlying110
  a119 := Tryz.isAgg110
  z119 := Tryz.sizeOf110
  t141 := Tryz.underlying150
  a141 := Tryz.isAgg150
  z141 := Tryz.sizeOf150
  v141 := Tryz.zeroValue150
  t152 := Tryz.underlying146
  a152 := Tryz.isAgg146
  z152 := Tryz.sizeOf146
  v152 := Tryz.zeroValue146
  t154 := Tryz.underlying148
  a154 := Tryz.isAgg148
  z154 := Tryz.sizeOf148
  v154 := Tryz.zeroValue148
  t193 := Tryz.underlying176
  a193 := Tryz.isAgg176
  z193 := Tryz.sizeOf176
  v193 := Tryz.zeroValue176
  t194 := Tryz.underlying177
  a194 := Tryz.isAgg177
  z194 := Tryz.sizeOf177
  v194 := Tryz.zeroValue177
  t196 := Tryz.underlying179
  a196 := Tryz.isAgg179
  z196 := Tryz.sizeOf179
  v196 := Tryz.zeroValue179
  t198 := Tryz.underlying182
  a198 := Tryz.isAgg182
  z198 := Tryz.sizeOf182
  v198 := Tryz.zeroValue182
  t201 := Tryz.underlying185
  a201 := Tryz.isAgg185
  z201 := Tryz.sizeOf185
  v201 := Tryz.zeroValue185
  t226 := Tryz.underlying199
  a226 := Tryz.isAgg199
  z226 := Tryz.sizeOf199
  v226 := Tryz.zeroValue199
  t227 := Tryz.underlying200
  a227 := Tryz.isAgg200
  z227 := Tryz.sizeOf200
  v227 := Tryz.zeroValue200
  g0 := by kernel_rfl
  g6 := by kernel_rfl
  i0 := by kernel_rfl
  i3 := by kernel_rfl
  i4 := by kernel_rfl
  i5 := by kernel_rfl
  i9 := by kernel_rfl
  i21 := by kernel_rfl
  i31 := by kernel_rfl
  i40 := by kernel_rfl
  i46 := by kernel_rfl
  i49 := by kernel_rfl
  i51 := by kernel_rfl
  i141 := by kernel_rfl
  i152 := by kernel_rfl
  i154 := by kernel_rfl
  i193 := by kernel_rfl
  i194 := by kernel_rfl
  i196 := by kernel_rfl
  i198 := by kernel_rfl
  i201 := by kernel_rfl
  i226 := by kernel_rfl
  i227 := by kernel_rfl
  m0 := by kernel_rfl
  m6 := by kernel_rfl }
open Go.RowKit Go.Lib in
theorem Tryz.strings_Fields_laid (s : ByteArray) (w : World) (hs : s.size < 4294967281) (hascii : ∀ (j : Nat) b, s.data.toList[j]? = some b → b.toNat < 128) (htab : Lib.TabIs Tryz.prog w "strings.asciiSpace" .u8 Lib.asciiSpaceTab) :
    Calls Tryz.prog 47 #[.string s] w fun e w' =>
      e = .returned (.slice (some ⟨w.heap.size, 0, none⟩) (Lib.fields s.data.toList).length (Lib.fields s.data.toList).length) ∧ w' = w.alloc (.cells ((Lib.fields s.data.toList).map fun l => Value.string ⟨l.toArray⟩).toArray 9) := Any.strings_Fields_laid Tryz.laysM157 s w hs hascii htab
def Tryz.lays109_ren : Go.Shelf.Ren := ⟨fun | 109 => 65 | n => n, fun | 31 => 22 | 9 => 9 | 3 => 3 | 0 => 0 | 4 => 4 | n => n, fun | n => n⟩
theorem Tryz.lays109 : Go.Proofs.Lays.n109 Tryz.prog Tryz.lays109_ren := {
  mixed := by kernel_rfl
  f109 := Tryz.func65.trans (congrArg some (by kernel_rfl))
  t0 := Tryz.underlying0
  a0 := Tryz.isAgg0
  z0 := Tryz.sizeOf0
  v0 := Tryz.zeroValue0
  t3 := Tryz.underlying3
  a3 := Tryz.isAgg3
  z3 := Tryz.sizeOf3
  v3 := Tryz.zeroValue3
  t4 := Tryz.underlying4
  a4 := Tryz.isAgg4
  z4 := Tryz.sizeOf4
  v4 := Tryz.zeroValue4
  t9 := Tryz.underlying9
  a9 := Tryz.isAgg9
  z9 := Tryz.sizeOf9
  v9 := Tryz.zeroValue9
  t31 := Tryz.underlying22
  a31 := Tryz.isAgg22
  z31 := Tryz.sizeOf22
  v31 := Tryz.zeroValue22 }
open Go.Lib in
theorem Tryz.slices_Index_string (b off n c : Nat) (zs : List ByteArray) (x : ByteArray) (w : World) (hz : n ≤ zs.length) (hbig : n ≤ 9223372036854775807) (hc : ∀ j, j < zs.length → w.cell? ⟨b, off + j, none⟩ = some (.string (zs.getD j ByteArray.empty))) :
    Calls Tryz.prog 65 #[.slice (some ⟨b, off, none⟩) n c, .string x] w fun e w' => e = .returned (.int .i64 (Lib.idxOfS (zs.take n) x)) ∧ w' = w := Any.slices_Index_string Tryz.lays109 b off n c zs x w hz hbig hc
open Go.Lib in
theorem Tryz.slices_Index_string_empty (a : Option Addr) (c : Nat) (x : ByteArray) (w : World) :
    Calls Tryz.prog 65 #[.slice a 0 c, .string x] w fun e w' => e = .returned (.int .i64 (Lib.idxOfS [] x)) ∧ w' = w := Any.slices_Index_string_empty Tryz.lays109 a c x w
end Go.Proofs
end

section
namespace Go.Abs
open Go.RowKit Go.Proofs
set_option maxRecDepth 20000
theorem mixedT : Tryz.prog.follows .mixedOrders = true := by kernel_rfl
theorem namesT : Tryz.prog.funcs.all (fun fn => !(fn.name == "runtime.NumGoroutine")) = true := by kernel_rfl
theorem hasT (f : Nat) (h : hasBody Tryz.prog f = true) : Enters Tryz.prog f := entersB namesT h
theorem strings_Split_ok (m : Tp) (s sep : List UInt8) {r : List (List UInt8)} (h : strings_Split s sep r) : ASpec Tryz.prog (gtT m) 45 [.pd (.str s), .pd (.str sep)] (· = .pd (.sl (r.map PD.str))) := by
  obtain ⟨hs, c, rfl, rfl⟩ := h
  refine strs_spec fun cx w vs hA hG => ?_
  obtain ⟨v0, h0, r0⟩ := args_at hA 0 rfl
  obtain ⟨v1, h1, r1⟩ := args_at hA 1 rfl
  rw [str_inv r0] at h0; rw [str_inv r1] at h1
  rw [vs2 hA.1 h0 h1]
  have hm := glob_int (g := 2) (k := .i64) (m := m.1) hG rfl
  have hk := Tryz.strings_Split ⟨s.toArray⟩ ⟨[c].toArray⟩ m.1 w hs hm (Nat.le_refl _)
  have e1 : Lib.countB ⟨s.toArray⟩ ⟨[c].toArray⟩ = s.count c := Lib.count_one c s
  have e2 := Lib.splitB_data ⟨[c].toArray⟩ 0 (s.count c) ⟨s.toArray⟩
  have e3 : (Lib.splitB ⟨[c].toArray⟩ 0 (s.count c) ⟨s.toArray⟩).map (·.data.toList) = splitC c s := by rw [e2]; exact split_one c s
  have e4 := Lib.splitB_all ⟨[c].toArray⟩ (Nat.le_refl _) 0 (s.count c) ⟨s.toArray⟩ e1
  have e5 : (splitC c s).length = s.count c + 1 := by rw [← e3, List.length_map, e4]
  have e6 : (splitC c s).map (fun l => Value.string ⟨l.toArray⟩) = (Lib.splitB ⟨[c].toArray⟩ 0 (s.count c) ⟨s.toArray⟩).map Value.string := by
    rw [← e3, List.map_map]
    refine List.map_congr_left fun x _ => ?_
    simp
  rw [e1] at hk
  exact ⟨9, by rw [e5, e6]; exact hk⟩
theorem strings_Cut_ok (m : Tp) (s sep : List UInt8) {r : List UInt8 × List UInt8 × Bool} (h : strings_Cut s sep r) : ASpec Tryz.prog (gtT m) 46 [.pd (.str s), .pd (.str sep)] (· = .tup [.pd (.str r.1), .pd (.str r.2.1), .pd (.bool r.2.2)]) := by
  obtain ⟨hs, c, rfl, rfl⟩ := h
  refine ASpec.of_calls _ (by simp [AV.pure]) fun cx w vs hA hG hlt => ?_
  obtain ⟨v0, h0, r0⟩ := args_at hA 0 rfl
  obtain ⟨v1, h1, r1⟩ := args_at hA 1 rfl
  rw [str_inv r0] at h0; rw [str_inv r1] at h1
  rw [vs2 hA.1 h0 h1]
  have hm := glob_int (g := 2) (k := .i64) (m := m.1) hG rfl
  refine (Tryz.strings_Cut ⟨s.toArray⟩ ⟨[c].toArray⟩ m.1 w hs hm).mono ?_
  rintro e w' ⟨rfl, n, rfl⟩
  refine ⟨_, rfl, below_drewN _, .tup _ _ rfl fun i v x q1 q2 => ?_⟩
  match i with
  | 0 => simp at q1 q2; subst q1; subst q2; exact .pd _ _ (.str _)
  | 1 => simp at q1 q2; subst q1; subst q2; exact .pd _ _ (.str _)
  | 2 => simp at q1 q2; subst q1; subst q2; exact .pd _ _ (.bool _)
  | i + 3 => simp at q1
theorem strings_Fields_ok (m : Tp) (s : List UInt8) {r : List (List UInt8)} (h : strings_Fields s r) : ASpec Tryz.prog (gtT m) 47 [.pd (.str s)] (· = .pd (.sl (r.map PD.str))) := by
  obtain ⟨hs, ha, rfl⟩ := h
  refine strs_spec fun cx w vs hA hG => ?_
  obtain ⟨v0, h0, r0⟩ := args_at hA 0 rfl
  rw [str_inv r0] at h0
  rw [vs1 hA.1 h0]
  exact ⟨9, Tryz.strings_Fields_laid ⟨s.toArray⟩ w hs (fun j b hb => ha b (List.mem_of_getElem? hb)) (glob_tab (g := 0) hG rfl (by kernel_rfl))⟩
theorem strings_Join_ok (m : Tp) (l : List (List UInt8)) (sep : List UInt8) {r : List UInt8} (h : strings_Join l sep r) : ASpec Tryz.prog (gtT m) 57 [.pd (.sl (l.map PD.str)), .pd (.str sep)] (· = .pd (.str r)) := by
  obtain ⟨hn, hj, rfl⟩ := h
  refine str_spec fun cx w vs hA hG hlt => ?_
  obtain ⟨v0, h0, r0⟩ := args_at hA 0 rfl
  obtain ⟨v1, h1, r1⟩ := args_at hA 1 rfl
  rw [str_inv r1] at h1
  have hp : PRep cx.imm w v0 (.sl (l.map PD.str)) := by cases r0 with | pd v x h => exact h
  rcases strs_inv hp with ⟨rfl, rfl⟩ | ⟨a, cap, rfl, hcap, hI, hc⟩
  · rw [vs2 hA.1 h0 h1]
    refine (Tryz.strings_Join_none none 0 ⟨sep.toArray⟩ w).mono ?_
    rintro e w' ⟨rfl, rfl⟩
    exact ⟨rfl, Below.refl _ _⟩
  · rw [vs2 hA.1 h0 h1]
    cases l with
    | nil =>
      refine (Tryz.strings_Join_none (some a) cap ⟨sep.toArray⟩ w).mono ?_
      rintro e w' ⟨rfl, rfl⟩
      exact ⟨rfl, Below.refl _ _⟩
    | cons x t =>
      obtain ⟨hsp, hIa⟩ := hI (by simp)
      have ea : a = ⟨a.block, a.off, none⟩ := by cases a; simp at hsp; subst hsp; rfl
      have e1 : ((x :: t).map fun s => (⟨s.toArray⟩ : ByteArray)).map (·.data.toList) = x :: t := by rw [List.map_map]; simp [Function.comp_def]
      have := Tryz.strings_Join a.block a.off cap ((x :: t).map fun s => ⟨s.toArray⟩) ⟨sep.toArray⟩ w (fun j b hb => ?_) (hlt _ hIa) (by simpa using hn) (by simpa using hcap) (by rw [e1]; exact hj)
      · rw [e1, List.length_map] at this
        rw [ea]; exact this
      · simp only [List.getElem?_map, Option.map_eq_some_iff] at hb
        obtain ⟨s, hs, rfl⟩ := hb
        exact hc j s hs
end Go.Abs
end

section
namespace Go.Proofs.YtojdnnogpffhpaaGreatDoor.RT
open Go.ChangeShapes Go.WideShapes Go.ChangeAt Go.RowKit Go.Abs
set_option maxRecDepth 20000
theorem own : ownKnob Tryz.prog.godebug = none := by kernel_rfl
theorem laidOut : laidOutB Tryz.prog = true := by kernel_rfl
theorem gA : Tryz.prog.globalNamed "strings.asciiSpace" = some 0 := by kernel_rfl
noncomputable abbrev L : List (String × DataW Unit) := Rows.notesSameRow.laid
theorem tabs {W : World} (h : laidMetH Tryz.prog L W) (hsh : W.ShapedOpen Tryz.prog) : ∃ m, GRep (gtT m) (ctx0 W) W := by
  have h : laidMet Tryz.prog L W := h
  have tA : Lib.TabIs Tryz.prog W "strings.asciiSpace" .u8 Lib.asciiSpaceTab := by
    exact Lib.tabIs_of_head (rest := [("unicode/utf8.first", Rows.laid_unicode_utf8_first)]) gA (t := 110) (by kernel_rfl) Tryz.underlying110 Tryz.underlying5 (by kernel_rfl) (by kernel_rfl) (laid_tail (x := ("unicode.White_Space", Rows.laid_unicode_White_Space)) (laid_tail (x := ("unicode/utf8.acceptRanges", Rows.laid_unicode_utf8_acceptRanges)) h))
  obtain ⟨m, hm⟩ : ∃ m, W.cell? ⟨2, 0, none⟩ = some (.int .i64 m) := Tryz.laysM145.s1_3 W hsh
  obtain ⟨cs, hh, hs, hr⟩ := hsh.1 2 #[.int .i64 0] 3 (of_decide_eq_true (by kernel_rfl)) (by kernel_rfl)
  refine ⟨(m, ()), ?_⟩
  intro g l hg
  unfold gtT at hg
  split at hg
  · cases hg; exact rd_of_tab tA gA (by decide)
  · cases hg
    have hb : ∃ cs e z, W.heap[2]? = some (.cells cs e z) ∧ cs.size = 1 := ⟨cs, 3, _, hh, hs⟩
    have hlt : 2 < W.heap.size := by
      obtain ⟨_, _, _, h1, _⟩ := hb
      exact (Array.getElem?_eq_some_iff.1 h1).1
    refine ⟨.rd _ _ (fun _ => .int .i64 m) rfl (fun _ => hlt) (fun j hj => ?_) (fun j y hy => ?_), hlt, hb⟩
    · obtain rfl : j = 0 := by simpa using hj
      exact hm
    · cases j with
      | zero => simp at hy; subst hy; exact .int _ _
      | succ j => simp at hy
  · cases hg
noncomputable def start10 (os : Os) : World := World.laidAll Tryz.prog os L
theorem laid_met (os : Os) (args : Array Value) : laidMetH Tryz.prog L ((start10 os).forCall (fun _ _ => 0) ⟨#[], args, []⟩).memory := by
  rw [MakeChecks.laidMetH_plain _ _ _ (by kernel_rfl)]
  exact laidMet_laidAll _ (by kernel_rfl) (by kernel_rfl)
theorem str_rep {c : Ctx} {M : Mem} {w : World} (a : ByteArray) : ARep c M w (.string a) (.pd (.str a.data.toList)) := .pd _ _ (show PRep c.imm w (.string ⟨a.data.toList.toArray⟩) (.str a.data.toList) from .str a.data.toList)
end Go.Proofs.YtojdnnogpffhpaaGreatDoor.RT
end

section
namespace Go.Abs
open Go.ChangeShapes Go.WideShapes Go.Deep
set_option linter.unusedVariables false
inductive TS where
  | int (k : IntKind)
  | bool
  | str
  | sl (agg : Bool) (ls : List TS)
def elemP (agg : Bool) (xs : List PD) : PD := if agg then .agg xs else xs.headD (.bool false)
inductive Sh : TS → PD → Prop
  | int (k : IntKind) (z : Int) (h : (Lit.int k z).wf = true) : Sh (.int k) (.int k z)
  | bool (b : Bool) : Sh .bool (.bool b)
  | str (s : List UInt8) (h : s.length ≤ maxLen) : Sh .str (.str s)
  | sl (agg : Bool) (ls : List TS) (xss : List (List PD)) (hm : xss.length ≤ maxLen) (hn : ∀ xs, xs ∈ xss → xs.length = ls.length)
      (h : ∀ (i j : Nat) (xs : List PD) (u : TS) (z : PD), xss[i]? = some xs → ls[j]? = some u → xs[j]? = some z → Sh u z) : Sh (.sl agg ls) (.sl (xss.map (elemP agg)))
def isSt (P : Program) (t : TypeId) : Bool := match P.underlying t with | some (.struct _) => true | _ => false
def shapeF (P : Program) (g : TypeId → Option (List TS)) : List Field → Nat → Option (List TS)
  | [], _ => some []
  | f :: r, off =>
    if f.offset = off then
      match g f.type with
      | some l => if P.cellsOf f.type = l.length then (shapeF P g r (off + l.length)).map (l ++ ·) else none
      | none => none
    else none
def shapeT (P : Program) : Nat → TypeId → Option (List TS)
  | 0, _ => none
  | n + 1, t =>
    match P.underlying t with
    | some (.int k) => some [.int k]
    | some .bool => some [.bool]
    | some .string => some [.str]
    | some (.slice e) => (shapeT P n e).bind fun ls => if P.cellsOf e = ls.length && (isSt P e || ls.length == 1) && Nat.blt 0 ls.length then some [.sl (isSt P e) ls] else none
    | some (.struct fs) => (shapeF P (shapeT P n) fs.toList 0).bind fun ls => if P.cellsOf t = ls.length then some ls else none
    | _ => none
variable {H : Type} {enc : TypeId × Value → H} {P : Program} {w : World} {sp : Nat → Bool} {held : Bool}
theorem cells_at {a : Addr} {n : Nat} {cs : List Value} (h : w.cells? 0 a n = some cs) : cs.length = n ∧ ∀ j v, cs[j]? = some v → w.cell? (a.add j) = some v := by
  unfold World.cells? at h
  rw [if_pos (Nat.zero_le _)] at h
  obtain ⟨h1, h2⟩ := mapM_some h
  rw [List.length_range] at h1
  refine ⟨h1, fun j v hj => ?_⟩
  have hlt : j < n := by rw [← h1]; exact (List.getElem?_eq_some_iff.1 hj).1
  obtain ⟨b, hb, hf⟩ := h2 j j (by simp [hlt])
  rw [hj] at hb; cases hb
  exact hf
theorem spot_none {a : Addr} {v : Value} (h : w.cell? a = some v) : a.spot = none ∧ a.block < w.heap.size := by
  unfold World.cell? at h
  cases hb : w.heap[a.block]? with
  | none => simp [hb] at h
  | some o =>
    refine ⟨?_, (Array.getElem?_eq_some_iff.1 hb).1⟩
    rw [hb] at h
    cases o with
    | cells c _ _ =>
      simp only at h
      cases hs : a.spot with
      | none => rfl
      | some s => simp [hs] at h
    | _ => simp at h
theorem add_eq {a : Addr} (h : a.spot = none) (j : Nat) : a.add j = ⟨a.block, a.off + j, none⟩ := addr_add a j h
abbrev Iw (w : World) : Nat → Prop := (ctx0 w).imm
def CellsSh (w : World) (ls : List TS) (cs : List Value) : Prop := cs.length = ls.length ∧ ∀ (i : Nat) (u : TS) (v : Value), ls[i]? = some u → cs[i]? = some v → ∃ y, Sh u y ∧ PRep (Iw w) w v y
theorem CellsSh.one {u : TS} {v : Value} {y : PD} (h1 : Sh u y) (h2 : PRep (Iw w) w v y) : CellsSh w [u] [v] := by
  refine ⟨rfl, fun i u' v' q1 q2 => ?_⟩
  cases i with
  | zero => simp at q1 q2; subst q1; subst q2; exact ⟨y, h1, h2⟩
  | succ i => simp at q1
theorem leaves_st {agg : Bool} {xs : List PD} (h : agg = true ∨ xs.length = 1) (hx : agg = false → ∀ x, x ∈ xs → ∀ l, x ≠ .agg l) : (elemP agg xs).leaves = xs := by
  cases agg with
  | true => rfl
  | false =>
    have hl := h.resolve_left (by simp)
    match xs, hl with
    | [x], _ =>
      have := hx rfl x (by simp)
      unfold elemP
      simp only [Bool.false_eq_true, if_false, List.headD_cons]
      cases x <;> first | rfl | exact absurd rfl (this _)
theorem Sh.notAgg {u : TS} {y : PD} (h : Sh u y) : ∀ l, y ≠ .agg l := by cases h <;> (intro l e; cases e)
theorem trod_sh : ∀ (N : Nat) (t : TypeId) (fuel : Nat) (cs : List Value) (x : DataW H × List MemPlace) (ls : List TS), DataW.trod enc P w 0 sp held fuel t cs = some x → shapeT P N t = some ls → CellsSh w ls cs
  | 0, _, _, _, _, _, _, h => by simp [shapeT] at h
  | N + 1, t, fuel, cs, x, ls, hx, hs => by
    unfold shapeT at hs
    split at hs
    · rename_i k hu
      cases hs
      obtain ⟨z, rfl, _, hwf⟩ := DataW.trod_int hu hx
      exact CellsSh.one (.int k z hwf) (.int k z)
    · rename_i hu
      cases hs
      obtain ⟨b, rfl, _⟩ := DataW.trod_bool hu hx
      exact CellsSh.one (.bool b) (.bool b)
    · rename_i hu
      cases hs
      obtain ⟨s, rfl, _, hlen⟩ := DataW.trod_string hu hx
      exact CellsSh.one (.str s.data.toList (by rw [Array.length_toList]; exact hlen)) (show PRep _ w (.string ⟨s.data.toList.toArray⟩) _ from .str _)
    · rename_i e hu
      rw [Option.bind_eq_some_iff] at hs
      obtain ⟨es, he, hs⟩ := hs
      split at hs
      · rename_i hc
        cases hs
        simp only [Bool.and_eq_true, decide_eq_true_eq, Bool.or_eq_true, beq_iff_eq, Nat.blt_eq] at hc
        obtain ⟨⟨hce, hag⟩, hpos⟩ := hc
        rcases open_slice hu hx with ⟨rfl, _⟩ | ⟨a, len, cap, m, n, D, Pl, rfl, _, hlc, hcm, hm, _, hel⟩
        · exact CellsSh.one (.sl (isSt P e) es [] (Nat.zero_le _) (fun _ h => by cases h) (fun _ _ _ _ _ h => by cases h)) .nil
        · have hle : len ≤ m := by rw [hm]; split <;> omega
          -- each element's cells
          have each : ∀ i, i < len → ∃ cs', w.cells? 0 (a.add (i * P.cellsOf e)) (P.cellsOf e) = some cs' ∧ CellsSh w es cs' := fun i hi => by
            obtain ⟨cs', h1, h2⟩ := hel i (by omega)
            exact ⟨cs', h1, trod_sh N e n cs' _ es h2 he⟩
          have sp0 : 0 < len → a.spot = none ∧ a.block < w.heap.size := fun h0 => by
            obtain ⟨cs', h1, h2, _⟩ := each 0 h0
            obtain ⟨g1, g2⟩ := cells_at h1
            have : 0 < cs'.length := by omega
            have hv := g2 0 cs'[0] (List.getElem?_eq_getElem this)
            have e0 : (a.add (0 * P.cellsOf e)).add 0 = a := by simp [Addr.add]
            rw [e0] at hv
            exact spot_none hv
          -- their plain data
          have pick : ∀ i, i < len → ∃ xs : List PD, xs.length = es.length ∧ ∀ j u z, es[j]? = some u → xs[j]? = some z → Sh u z ∧ ∃ v, w.cell? ⟨a.block, a.off + i * es.length + j, none⟩ = some v ∧ PRep (Iw w) w v z := fun i hi => by
            obtain ⟨cs', h1, h2, h3⟩ := each i hi
            obtain ⟨g1, g2⟩ := cells_at h1
            obtain ⟨f, hf⟩ := choose_lt (α := PD) (n := es.length) (p := fun j z => ∀ u v, es[j]? = some u → cs'[j]? = some v → Sh u z ∧ PRep (Iw w) w v z) (fun j hj => by
              obtain ⟨y, q1, q2⟩ := h3 j es[j] cs'[j] (List.getElem?_eq_getElem hj) (List.getElem?_eq_getElem (by omega))
              exact ⟨y, fun u v hu hv => by
                rw [List.getElem?_eq_getElem hj] at hu; cases hu
                rw [List.getElem?_eq_getElem (by omega)] at hv; cases hv
                exact ⟨q1, q2⟩⟩)
            refine ⟨(List.range es.length).map f, by simp, fun j u z hu hz => ?_⟩
            have hj : j < es.length := (List.getElem?_eq_some_iff.1 hu).1
            simp [hj] at hz
            subst hz
            have hv : cs'[j]? = some cs'[j] := List.getElem?_eq_getElem (by omega)
            obtain ⟨r1, r2⟩ := hf j hj u _ hu hv
            refine ⟨r1, _, ?_, r2⟩
            have := g2 j _ hv
            rw [add_add, add_eq (sp0 (by omega)).1, hce] at this
            rw [← Nat.add_assoc] at this
            exact this
          obtain ⟨F, hF⟩ := choose_lt (α := List PD) pick
          have fx : ∃ V : Nat → Nat → Value, ∀ i j, i < len → j < es.length → w.cell? ⟨a.block, a.off + i * es.length + j, none⟩ = some (V i j) ∧ ∀ z, (F i)[j]? = some z → PRep (Iw w) w (V i j) z := by
            refine ⟨fun i j => (w.cell? ⟨a.block, a.off + i * es.length + j, none⟩).getD .nilIface, fun i j hi hj => ?_⟩
            obtain ⟨g1, g2⟩ := hF i hi
            have hjF : j < (F i).length := by omega
            obtain ⟨_, v, hv, hp⟩ := g2 j es[j] (F i)[j] (List.getElem?_eq_getElem hj) (List.getElem?_eq_getElem hjF)
            simp only [hv, Option.getD_some]
            refine ⟨trivial, fun z hz => ?_⟩
            rw [List.getElem?_eq_getElem hjF] at hz
            cases hz
            exact hp
          obtain ⟨V, hV⟩ := fx
          have hlv : ∀ i, i < len → (elemP (isSt P e) (F i)).leaves = F i := fun i hi => by
            obtain ⟨g1, g2⟩ := hF i hi
            refine leaves_st (hag.imp id fun h => by omega) fun _ x hx => ?_
            obtain ⟨j, hj, rfl⟩ := List.getElem_of_mem hx
            exact (g2 j es[j] (F i)[j] (List.getElem?_eq_getElem (by omega)) (List.getElem?_eq_getElem hj)).1.notAgg
          refine CellsSh.one (y := .sl (((List.range len).map F).map (elemP (isSt P e)))) (.sl (isSt P e) es _ ?_ ?_ ?_) (.sl a len cap es.length _ V (fun h => (sp0 h).1) (by simp) hlc (fun h => (sp0 h).2) ?_ (fun i j hi hj => (hV i j hi hj).1) ?_)
          · simp only [List.length_map, List.length_range]; omega
          · intro xs hxs
            obtain ⟨i, hi, rfl⟩ := List.mem_map.1 hxs
            exact (hF i (List.mem_range.1 hi)).1
          · intro i j xs u z hxs hu hz
            simp only [List.getElem?_map, Option.map_eq_some_iff] at hxs
            obtain ⟨i', hi', rfl⟩ := hxs
            have hi2 : i < len := by have := (List.getElem?_eq_some_iff.1 hi').1; simpa using this
            simp [hi2] at hi'
            subst hi'
            exact ((hF i hi2).2 j u z hu hz).1
          · intro i y hy
            simp only [List.getElem?_map, Option.map_eq_some_iff] at hy
            obtain ⟨xs, ⟨i', hi', rfl⟩, rfl⟩ := hy
            have hi2 : i < len := by have := (List.getElem?_eq_some_iff.1 hi').1; simpa using this
            simp [hi2] at hi'
            subst hi'
            rw [hlv i hi2, (hF i hi2).1]
          · intro i j y z hy hz
            simp only [List.getElem?_map, Option.map_eq_some_iff] at hy
            obtain ⟨xs, ⟨i', hi', rfl⟩, rfl⟩ := hy
            have hi2 : i < len := by have := (List.getElem?_eq_some_iff.1 hi').1; simpa using this
            simp [hi2] at hi'
            subst hi'
            rw [hlv i hi2] at hz
            have hj : j < es.length := by rw [← (hF i hi2).1]; exact (List.getElem?_eq_some_iff.1 hz).1
            exact (hV i j hi2 hj).2 z hz
      · cases hs
    · rename_i fs hu
      rw [Option.bind_eq_some_iff] at hs
      obtain ⟨ls', hls, hs⟩ := hs
      split at hs
      · rename_i hc
        cases hs
        obtain ⟨xs, n, _, _, hlen, hxl, hf⟩ := DataW.trod_struct hu hx
        refine ⟨by omega, ?_⟩
        -- field by field
        have fld : ∀ (fl : List Field) (k off : Nat) (l : List TS), fs.toList.drop k = fl → shapeF P (shapeT P N) fl off = some l → ∀ (i : Nat) (u : TS) (v : Value), l[i]? = some u → cs[off + i]? = some v → ∃ y, Sh u y ∧ PRep (Iw w) w v y := by
          intro fl
          induction fl with
          | nil => intro k off l _ hl i u v hu _; cases hl; simp at hu
          | cons f r ih =>
            intro k off l hk hl i u v hu hv
            unfold shapeF at hl
            split at hl
            · rename_i ho
              subst ho
              split at hl
              · rename_i lf hlf
                split at hl
                · rename_i hcf
                  rw [Option.map_eq_some_iff] at hl
                  obtain ⟨l2, hl2, rfl⟩ := hl
                  have hfk : fs[k]? = some f := by
                    have : (fs.toList.drop k)[0]? = some f := by rw [hk]; rfl
                    rw [List.getElem?_drop] at this
                    simpa using this
                  have hread := hf k f hfk
                  have hkx : k < xs.length := by rw [hxl]; exact (Array.getElem?_eq_some_iff.1 hfk).1
                  rw [List.getElem?_eq_getElem hkx] at hread
                  obtain ⟨g1, g2⟩ := trod_sh N f.type n _ _ lf hread hlf
                  by_cases hi : i < lf.length
                  · rw [List.getElem?_append_left hi] at hu
                    refine g2 i u v hu ?_
                    rw [List.getElem?_take_of_lt (by omega), List.getElem?_drop]
                    exact hv
                  · rw [List.getElem?_append_right (by omega)] at hu
                    refine ih (k + 1) (f.offset + lf.length) l2 ?_ hl2 (i - lf.length) u v hu ?_
                    · rw [← List.tail_drop, hk]; rfl
                    · rw [show f.offset + lf.length + (i - lf.length) = f.offset + i by omega]; exact hv
                · cases hl
              · cases hl
            · cases hl
        intro i u v hu' hv
        exact fld fs.toList 0 0 ls (by simp) hls i u v hu' (by simpa using hv)
      · cases hs
    · cases hs
theorem sh_int {k : IntKind} {y : PD} (h : Sh (.int k) y) : ∃ z, y = .int k z ∧ (Lit.int k z).wf = true := by cases h with | int k z h => exact ⟨z, rfl, h⟩
theorem sh_bool {y : PD} (h : Sh .bool y) : ∃ b, y = .bool b ∧ True := by cases h with | bool b => exact ⟨b, rfl, trivial⟩
theorem sh_str {y : PD} (h : Sh .str y) : ∃ s, y = .str s ∧ s.length ≤ maxLen := by cases h with | str s h => exact ⟨s, rfl, h⟩
theorem sh_sl {α : Type} {el : α → PD} {wf : α → Prop} {agg : Bool} {ls : List TS} (hel : ∀ xs : List PD, xs.length = ls.length → (∀ (j : Nat) (u : TS) (z : PD), ls[j]? = some u → xs[j]? = some z → Sh u z) → ∃ e, elemP agg xs = el e ∧ wf e) {y : PD} (h : Sh (.sl agg ls) y) :
    ∃ l : List α, y = .sl (l.map el) ∧ (l.length ≤ maxLen ∧ ∀ x, x ∈ l → wf x) := by
  cases h with
  | sl agg ls xss hm hn h =>
    have : ∀ xss : List (List PD), (∀ xs, xs ∈ xss → ∃ e, elemP agg xs = el e ∧ wf e) → ∃ l : List α, xss.map (elemP agg) = l.map el ∧ l.length = xss.length ∧ ∀ x, x ∈ l → wf x := by
      intro xss
      induction xss with
      | nil => intro _; exact ⟨[], rfl, rfl, fun _ h => by cases h⟩
      | cons xs r ih =>
        intro hx
        obtain ⟨e, h1, h2⟩ := hx xs (by simp)
        obtain ⟨l, h3, h4, h5⟩ := ih fun y hy => hx y (by simp [hy])
        refine ⟨e :: l, by simp [h1, h3], by simp [h4], fun x hx => ?_⟩
        rcases List.mem_cons.1 hx with rfl | hx
        · exact h2
        · exact h5 x hx
    obtain ⟨l, h1, h2, h3⟩ := this xss fun xs hxs => by
      obtain ⟨i, hi, e⟩ := List.getElem_of_mem hxs
      exact hel xs (hn xs hxs) fun j u z hu hz => h i j xs u z (by rw [List.getElem?_eq_getElem hi, e]) hu hz
    exact ⟨l, by rw [h1], by rw [h2]; exact hm, h3⟩
theorem get1 {xs : List PD} (h : xs.length = 1) : ∃ a, xs = [a] := by match xs, h with | [a], _ => exact ⟨a, rfl⟩
theorem get3 {xs : List PD} (h : xs.length = 3) : ∃ a b c, xs = [a, b, c] := by match xs, h with | [a, b, c], _ => exact ⟨a, b, c, rfl⟩
theorem get6 {xs : List PD} (h : xs.length = 6) : ∃ a b c d e f, xs = [a, b, c, d, e, f] := by match xs, h with | [a, b, c, d, e, f], _ => exact ⟨a, b, c, d, e, f, rfl⟩
theorem agg_rep {cs : Array Value} {ls : List TS} {ys : List AV} (h : CellsSh w ls cs.toList) (hl : ys.length = ls.length) (hy : ∀ (i : Nat) (u : TS) (v : Value) (y : AV), ls[i]? = some u → cs.toList[i]? = some v → ys[i]? = some y → ARep (ctx0 w) [] w v y) : ARep (ctx0 w) [] w (.agg cs) (.agg ys) := by
  refine .agg _ _ (by have := h.1; simp at this; omega) fun i v y h1 h2 => ?_
  have hi : i < ls.length := by rw [← hl]; exact (List.getElem?_eq_some_iff.1 h2).1
  exact hy i ls[i] v y (List.getElem?_eq_getElem hi) (by simpa using h1) h2
end Go.Abs
end
