/- Part of a proof, in few files: SH BSw RT RD. -/
import Derived.Shelf.Strings.Builder1
import Derived.Shelf.Strings.Builder2
import Derived.Shelf.Strings.OnBuilder
import Derived.Shelf.Small.Bits
import Derived.Shelf.Small.Wraps
import Derived.Shelf.Strings.BuilderF
import Derived.Shelf.Strings.BuilderK
import Derived.Shelf.Utf8.RuneCount
import Derived.Shelf.Strings.Search1
import Derived.Shelf.Strings.Search2
import Derived.Shelf.Strings.Search3
import Derived.Shelf.Strings.Cut
import Derived.Shelf.Strings.Count
import Derived.Shelf.LaysM
import Derived.Shelf.Strings.Shaped
import Derived.Shelf.Strings.Prefix
import Derived.Shelf.Strings.Split
import Derived.Shelf.Strings.Fields
import Derived.Shelf.Strings.SplitShaped
import Derived.Shelf.Unicode.Latin
import Derived.Shelf.Unicode.Decode
import Derived.Shelf.Strings.RuneCount
import Derived.Shelf.Strings.Explode
import Derived.Shelf.Unicode.DecodeSlow
import Derived.Shelf.Unicode.DecodeAny
import Derived.Shelf.Unicode.Is16White
import Derived.Shelf.Unicode.IsSpaceAny
import Derived.Shelf.Unicode.Is16Any
import Derived.Shelf.Unicode.Is32Any
import Derived.Shelf.Unicode.ExclAny
import Derived.Shelf.Slices.Turned
import Derived.Shelf.Slices.Equal
import Derived.Shelf.Slices.Empties2
import Derived.Test.YtdbfgnpobfbfmaaGreatDoorProg
import Derived.Test.YtdbfgnpobfbfmaaGreatDoorMAgK11
import Derived.Test.YtdbfgnpobfbfmaaGreatDoorMAgK12
import Derived.Test.YtdbfgnpobfbfmaaGreatDoorCards
import Derived.Test.YtdbfgnpobfbfmaaGreatDoorTie
import Derived.WalkKit
import Derived.ProofKit
import Derived.OpenShut
import Derived.Below
import Derived.Lay
import Derived.Deep.DeepHandedRow
import Derived.Deep.DeepWitnessRowRef
import Derived.Lib.LaidTab
import Derived.SliceStrings
import Derived.ChangeMaps5
import Derived.Deep.Slices
import Derived.ChangeArms

section
namespace Go.Proofs
open Go.Shelf
def Tryz.lays156_ren : Go.Shelf.Ren := ⟨fun | 156 => 105 | 165 => 137 | 166 => 138 | 169 => 139 | 240 => 157 | 241 => 158 | 276 => 170 | 277 => 171 | n => n, fun | 31 => 57 | 9 => 9 | 3 => 3 | 4 => 4 | 0 => 0 | 20 => 20 | 72 => 209 | 76 => 213 | 70 => 206 | 37 => 207 | 75 => 212 | 127 => 231 | 164 => 241 | 5 => 5 | 80 => 215 | n => n, fun | n => n⟩
theorem Tryz.lays156 : Go.Proofs.Lays.n156 Tryz.prog Tryz.lays156_ren := {
  mixed := by kernel_rfl
  f156 := Tryz.func105.trans (congrArg some (by kernel_rfl))
  f165 := Tryz.func137.trans (congrArg some (by kernel_rfl))
  f166 := Tryz.func138.trans (congrArg some (by kernel_rfl))
  f169 := Tryz.func139.trans (congrArg some (by kernel_rfl))
  f240 := Tryz.func157.trans (congrArg some (by kernel_rfl))
  f241 := Tryz.func158.trans (congrArg some (by kernel_rfl))
  f276 := Tryz.func170.trans (congrArg some (by kernel_rfl))
  f277 := Tryz.func171.trans (congrArg some (by kernel_rfl))
  t0 := Tryz.underlying0
  a0 := Tryz.isAgg0
  z0 := Tryz.sizeOf0
  v0 := Tryz.zeroValue0
  t3 := Tryz.underlying3
  a3 := Tryz.isAgg3
  z3 := Tryz.sizeOf3
  v3 := Tryz.zeroValue3
  t4 := Tryz.underlying4
  a4 := Tryz.isAgg4
  z4 := Tryz.sizeOf4
  v4 := Tryz.zeroValue4
  t9 := Tryz.underlying9
  a9 := Tryz.isAgg9
  z9 := Tryz.sizeOf9
  v9 := Tryz.zeroValue9
  t20 := Tryz.underlying20
  a20 := Tryz.isAgg20
  z20 := Tryz.sizeOf20
  v20 := Tryz.zeroValue20
  t31 := Tryz.underlying57
  a31 := Tryz.isAgg57
  z31 := Tryz.sizeOf57
  v31 := Tryz.zeroValue57
  t37 := Tryz.underlying207
  a37 := Tryz.isAgg207
  z37 := Tryz.sizeOf207
  v37 := Tryz.zeroValue207
  t70 := Tryz.underlying206
  a70 := Tryz.isAgg206
  z70 := Tryz.sizeOf206
  v70 := Tryz.zeroValue206
  t72 := Tryz.underlying209
  a72 := Tryz.isAgg209
  z72 := Tryz.sizeOf209
  v72 := Tryz.zeroValue209
  t75 := Tryz.underlying212
  a75 := Tryz.isAgg212
  z75 := Tryz.sizeOf212
  v75 := Tryz.zeroValue212
  t76 := Tryz.underlying213
  a76 := Tryz.isAgg213
  z76 := Tryz.sizeOf213
  v76 := Tryz.zeroValue213
  t127 := Tryz.underlying231
  a127 := Tryz.isAgg231
  z127 := Tryz.sizeOf231
  v127 := Tryz.zeroValue231
  t164 := Tryz.underlying241
  a164 := Tryz.isAgg241
  z164 := Tryz.sizeOf241
  v164 := Tryz.zeroValue241 }
theorem Tryz.Builder_Extra_156 : Builder.Extra Tryz.prog Tryz.lays156_ren := {
  sizeBuilder := by kernel_rfl
  liesBuilder := by kernel_rfl
  t5 := Tryz.underlying5
  a5 := Tryz.isAgg5
  z5 := Tryz.sizeOf5
  v5 := Tryz.zeroValue5
  infoByte := by kernel_rfl
  cellsByte := by kernel_rfl
  sizeByte := by kernel_rfl
  neB5 := by decide }
open Go.RowKit in
theorem Tryz.strings_Join_none (a : Option Addr) (c : Nat) (sep : ByteArray) (w : World) :
    Calls Tryz.prog 105 #[.slice a 0 c, .string sep] w fun e w' => e = .returned (.string ⟨#[]⟩) ∧ w' = w := Any.strings_Join_none Tryz.lays156 Tryz.Builder_Extra_156 a c sep w
open Go.RowKit in
theorem Tryz.strings_Join (bk o c : Nat) (xs : List ByteArray) (sep : ByteArray) (w : World) (hcells : ∀ (j : Nat) x, xs[j]? = some x → w.cell? ⟨bk, o + j, none⟩ = some (.string x)) (hbk : bk < w.heap.size) (hN : xs.length ≤ 140737488355328) (hcap : xs.length ≤ c) (hlen : (Lib.join (xs.map (·.data.toList)) sep.data.toList).length ≤ 140737488355328) :
    Calls Tryz.prog 105 #[.slice (some ⟨bk, o, none⟩) xs.length c, .string sep] w fun e w' => e = .returned (.string ⟨(Lib.join (xs.map (·.data.toList)) sep.data.toList).toArray⟩) ∧ Below w.heap.size w w' := Any.strings_Join Tryz.lays156 Tryz.Builder_Extra_156 bk o c xs sep w hcells hbk hN hcap hlen
def Tryz.lays103_ren : Go.Shelf.Ren := ⟨fun | 103 => 112 | 210 => 144 | 206 => 167 | n => n, fun | 9 => 9 | 4 => 4 | 24 => 174 | 3 => 3 | n => n, fun | n => n⟩
theorem Tryz.lays103 : Go.Proofs.Lays.n103 Tryz.prog Tryz.lays103_ren := {
  mixed := by kernel_rfl
  f103 := Tryz.func112.trans (congrArg some (by kernel_rfl))
  f206 := Tryz.func167.trans (congrArg some (by kernel_rfl))
  f210 := Tryz.func144.trans (congrArg some (by kernel_rfl))
  t3 := Tryz.underlying3
  a3 := Tryz.isAgg3
  z3 := Tryz.sizeOf3
  v3 := Tryz.zeroValue3
  t4 := Tryz.underlying4
  a4 := Tryz.isAgg4
  z4 := Tryz.sizeOf4
  v4 := Tryz.zeroValue4
  t9 := Tryz.underlying9
  a9 := Tryz.isAgg9
  z9 := Tryz.sizeOf9
  v9 := Tryz.zeroValue9
  t24 := Tryz.underlying174
  a24 := Tryz.isAgg174
  z24 := Tryz.sizeOf174
  v24 := Tryz.zeroValue174 }
open Go.RowKit in
theorem Tryz.strings_CutPrefix (s p : ByteArray) (w : World) :
    Calls Tryz.prog 112 #[.string s, .string p] w fun e w' => e = .returned (.tuple #[.string ⟨(Lib.trimPrefix s.data.toList p.data.toList).toArray⟩, .bool (Lib.hasPrefix s.data.toList p.data.toList)]) ∧ w' = w := Any.strings_CutPrefix Tryz.lays103 s p w
def Tryz.lays104_ren : Go.Shelf.Ren := ⟨fun | 104 => 119 | 211 => 149 | 207 => 168 | n => n, fun | 9 => 9 | 4 => 4 | 24 => 174 | 3 => 3 | n => n, fun | n => n⟩
theorem Tryz.lays104 : Go.Proofs.Lays.n104 Tryz.prog Tryz.lays104_ren := {
  mixed := by kernel_rfl
  f104 := Tryz.func119.trans (congrArg some (by kernel_rfl))
  f207 := Tryz.func168.trans (congrArg some (by kernel_rfl))
  f211 := Tryz.func149.trans (congrArg some (by kernel_rfl))
  t3 := Tryz.underlying3
  a3 := Tryz.isAgg3
  z3 := Tryz.sizeOf3
  v3 := Tryz.zeroValue3
  t4 := Tryz.underlying4
  a4 := Tryz.isAgg4
  z4 := Tryz.sizeOf4
  v4 := Tryz.zeroValue4
  t9 := Tryz.underlying9
  a9 := Tryz.isAgg9
  z9 := Tryz.sizeOf9
  v9 := Tryz.zeroValue9
  t24 := Tryz.underlying174
  a24 := Tryz.isAgg174
  z24 := Tryz.sizeOf174
  v24 := Tryz.zeroValue174 }
open Go.RowKit in
theorem Tryz.strings_CutSuffix (s p : ByteArray) (w : World) (hs : s.size ≤ 9223372036854775807) :
    Calls Tryz.prog 119 #[.string s, .string p] w fun e w' => e = .returned (.tuple #[.string ⟨(Lib.trimSuffix s.data.toList p.data.toList).toArray⟩, .bool (Lib.hasSuffix s.data.toList p.data.toList)]) ∧ w' = w := Any.strings_CutSuffix Tryz.lays104 s p w hs
def Tryz.lays144_ren : Go.Shelf.Ren := ⟨fun | 144 => 150 | 143 => 161 | 219 => 143 | 217 => 163 | 225 => 164 | 224 => 165 | 267 => 166 | 266 => 177 | 314 => 178 | n => n, fun | 9 => 9 | 4 => 4 | 3 => 3 | 5 => 5 | 46 => 199 | 146 => 258 | 51 => 179 | n => n, fun | 1 => 2 | n => n⟩
theorem Tryz.lays144 : Go.Proofs.Lays.n144 Tryz.prog Tryz.lays144_ren := {
  mixed := by kernel_rfl
  f143 := Tryz.func161.trans (congrArg some (by kernel_rfl))
  f144 := Tryz.func150.trans (congrArg some (by kernel_rfl))
  f217 := Tryz.func163.trans (congrArg some (by kernel_rfl))
  f219 := Tryz.func143.trans (congrArg some (by kernel_rfl))
  f224 := Tryz.func165.trans (congrArg some (by kernel_rfl))
  f225 := Tryz.func164.trans (congrArg some (by kernel_rfl))
  f266 := Tryz.func177.trans (congrArg some (by kernel_rfl))
  f267 := Tryz.func166.trans (congrArg some (by kernel_rfl))
  f314 := Tryz.func178.trans (congrArg some (by kernel_rfl))
  t3 := Tryz.underlying3
  a3 := Tryz.isAgg3
  z3 := Tryz.sizeOf3
  v3 := Tryz.zeroValue3
  t4 := Tryz.underlying4
  a4 := Tryz.isAgg4
  z4 := Tryz.sizeOf4
  v4 := Tryz.zeroValue4
  t5 := Tryz.underlying5
  a5 := Tryz.isAgg5
  z5 := Tryz.sizeOf5
  v5 := Tryz.zeroValue5
  t9 := Tryz.underlying9
  a9 := Tryz.isAgg9
  z9 := Tryz.sizeOf9
  v9 := Tryz.zeroValue9
  t46 := Tryz.underlying199
  a46 := Tryz.isAgg199
  z46 := Tryz.sizeOf199
  v46 := Tryz.zeroValue199
  t51 := Tryz.underlying179
  a51 := Tryz.isAgg179
  z51 := Tryz.sizeOf179
  v51 := Tryz.zeroValue179
  t146 := Tryz.underlying258
  a146 := Tryz.isAgg258
  z146 := Tryz.sizeOf258
  v146 := Tryz.zeroValue258
  g1 := by kernel_rfl }
open Go.RowKit Go.Lib in
theorem Tryz.strings_Contains (s sub : ByteArray) (m : Int) (w : World) (hs : s.size < 4294967281) (hm : w.cell? ⟨2, 0, none⟩ = some (.int .i64 m)) :
    Calls Tryz.prog 150 #[.string s, .string sub] w fun e w' => e = .returned (.bool (Lib.contains s.data.toList sub.data.toList)) ∧ w' = w := Any.strings_Contains Tryz.lays144 s sub m w hs hm
def Tryz.lays145_ren : Go.Shelf.Ren := ⟨fun | 145 => 65 | 220 => 111 | 219 => 143 | 217 => 163 | 225 => 164 | 224 => 165 | 267 => 166 | 266 => 177 | 314 => 178 | n => n, fun | 9 => 9 | 4 => 4 | 59 => 116 | 3 => 3 | 5 => 5 | 46 => 199 | 146 => 258 | 51 => 179 | n => n, fun | 1 => 2 | n => n⟩
theorem Tryz.lays145 : Go.Proofs.Lays.n145 Tryz.prog Tryz.lays145_ren := {
  mixed := by kernel_rfl
  f145 := Tryz.func65.trans (congrArg some (by kernel_rfl))
  f217 := Tryz.func163.trans (congrArg some (by kernel_rfl))
  f219 := Tryz.func143.trans (congrArg some (by kernel_rfl))
  f220 := Tryz.func111.trans (congrArg some (by kernel_rfl))
  f224 := Tryz.func165.trans (congrArg some (by kernel_rfl))
  f225 := Tryz.func164.trans (congrArg some (by kernel_rfl))
  f266 := Tryz.func177.trans (congrArg some (by kernel_rfl))
  f267 := Tryz.func166.trans (congrArg some (by kernel_rfl))
  f314 := Tryz.func178.trans (congrArg some (by kernel_rfl))
  t3 := Tryz.underlying3
  a3 := Tryz.isAgg3
  z3 := Tryz.sizeOf3
  v3 := Tryz.zeroValue3
  t4 := Tryz.underlying4
  a4 := Tryz.isAgg4
  z4 := Tryz.sizeOf4
  v4 := Tryz.zeroValue4
  t5 := Tryz.underlying5
  a5 := Tryz.isAgg5
  z5 := Tryz.sizeOf5
  v5 := Tryz.zeroValue5
  t9 := Tryz.underlying9
  a9 := Tryz.isAgg9
  z9 := Tryz.sizeOf9
  v9 := Tryz.zeroValue9
  t46 := Tryz.underlying199
  a46 := Tryz.isAgg199
  z46 := Tryz.sizeOf199
  v46 := Tryz.zeroValue199
  t51 := Tryz.underlying179
  a51 := Tryz.isAgg179
  z51 := Tryz.sizeOf179
  v51 := Tryz.zeroValue179
  t59 := Tryz.underlying116
  a59 := Tryz.isAgg116
  z59 := Tryz.sizeOf116
  v59 := Tryz.zeroValue116
  t146 := Tryz.underlying258
  a146 := Tryz.isAgg258
  z146 := Tryz.sizeOf258
  v146 := Tryz.zeroValue258
  g1 := by kernel_rfl }
open Go.RowKit Go.Lib in
theorem Tryz.strings_Cut (s sep : ByteArray) (m : Int) (w : World) (hs : s.size < 4294967281) (hm : w.cell? ⟨2, 0, none⟩ = some (.int .i64 m)) :
    Calls Tryz.prog 65 #[.string s, .string sep] w fun e w' => e = .returned (.tuple #[.string ⟨(Lib.cut s.data.toList sep.data.toList).1.toArray⟩, .string ⟨(Lib.cut s.data.toList sep.data.toList).2.1.toArray⟩, .bool (Lib.cut s.data.toList sep.data.toList).2.2]) ∧ ∃ n, w' = w.drewN n := Any.strings_Cut Tryz.lays145 s sep m w hs hm
def Tryz.laysM145_ren : Go.Shelf.Ren := ⟨fun | 145 => 65 | 220 => 111 | 219 => 143 | 217 => 163 | 225 => 164 | 224 => 165 | 267 => 166 | 266 => 177 | 314 => 178 | n => n, fun | 9 => 9 | 4 => 4 | 59 => 116 | 3 => 3 | 5 => 5 | 46 => 199 | 146 => 258 | 51 => 179 | n => n, fun | 1 => 2 | n => n⟩
theorem Tryz.laysM145 : Go.Proofs.LaysM.n145 Tryz.prog Tryz.laysM145_ren := {
  mixed := by kernel_rfl
  f145 := Tryz.func65.trans (congrArg some (by kernel_rfl))
  f217 := Tryz.func163.trans (congrArg some (by kernel_rfl))
  f219 := Tryz.func143.trans (congrArg some (by kernel_rfl))
  f220 := Tryz.func111.trans (congrArg some (by kernel_rfl))
  f224 := Tryz.func165.trans (congrArg some (by kernel_rfl))
  f225 := Tryz.func164.trans (congrArg some (by kernel_rfl))
  f266 := Tryz.func177.trans (congrArg some (by kernel_rfl))
  f267 := Tryz.func166.trans (congrArg some (by kernel_rfl))
  f314 := Tryz.func178.trans (congrArg some (by kernel_rfl))
  t3 := Tryz.underlying3
  a3 := Tryz.isAgg3
  z3 := Tryz.sizeOf3
  v3 := Tryz.zeroValue3
  t4 := Tryz.underlying4
  a4 := Tryz.isAgg4
  z4 := Tryz.sizeOf4
  v4 := Tryz.zeroValue4
  t5 := Tryz.underlying5
  a5 := Tryz.isAgg5
  z5 := Tryz.sizeOf5
  v5 := Tryz.zeroValue5
  t9 := Tryz.underlying9
  a9 := Tryz.isAgg9
  z9 := Tryz.sizeOf9
  v9 := Tryz.zeroValue9
  t46 := Tryz.underlying199
  a46 := Tryz.isAgg199
  z46 := Tryz.sizeOf199
  v46 := Tryz.zeroValue199
  t51 := Tryz.underlying179
  a51 := Tryz.isAgg179
  z51 := Tryz.sizeOf179
  v51 := Tryz.zeroValue179
  t59 := Tryz.underlying116
  a59 := Tryz.isAgg116
  z59 := Tryz.sizeOf116
  v59 := Tryz.zeroValue116
  t146 := Tryz.underlying258
  a146 := Tryz.isAgg258
  z146 := Tryz.sizeOf258
  v146 := Tryz.zeroValue258
  g1 := by kernel_rfl
  i3 := by kernel_rfl
  i4 := by kernel_rfl
  i5 := by kernel_rfl
  i9 := by kernel_rfl
  i46 := by kernel_rfl
  i51 := by kernel_rfl
  i59 := by kernel_rfl
  i146 := by kernel_rfl
  m1 := by kernel_rfl
  s1_3 := fun w h => Go.Proofs.cell_of_shapedOpen_int (zero := #[.int .i64 0]) (t := 3) h (of_decide_eq_true (by kernel_rfl)) (by kernel_rfl) rfl (by kernel_rfl) (by kernel_rfl) Tryz.underlying3 }
def Tryz.lays146_ren : Go.Shelf.Ren := ⟨fun | 146 => 107 | 221 => 140 | 268 => 159 | 138 => 160 | 143 => 161 | 195 => 172 | 197 => 173 | 218 => 174 | 219 => 143 | 260 => 179 | 217 => 163 | 225 => 164 | 224 => 165 | 267 => 166 | 266 => 177 | 314 => 178 | n => n, fun | 9 => 9 | 31 => 57 | 3 => 3 | 4 => 4 | 0 => 0 | 105 => 245 | 21 => 21 | 5 => 5 | 46 => 199 | 119 => 217 | 139 => 264 | 138 => 263 | 146 => 258 | 51 => 179 | n => n, fun | 1 => 2 | 3 => 3 | 4 => 4 | n => n⟩
theorem Tryz.lays146 : Go.Proofs.Lays.n146 Tryz.prog Tryz.lays146_ren := {
  mixed := by kernel_rfl
  f138 := Tryz.func160.trans (congrArg some (by kernel_rfl))
  f143 := Tryz.func161.trans (congrArg some (by kernel_rfl))
  f146 := Tryz.func107.trans (congrArg some (by kernel_rfl))
  f195 := Tryz.func172.trans (congrArg some (by kernel_rfl))
  f197 := Tryz.func173.trans (congrArg some (by kernel_rfl))
  f217 := Tryz.func163.trans (congrArg some (by kernel_rfl))
  f218 := Tryz.func174.trans (congrArg some (by kernel_rfl))
  f219 := Tryz.func143.trans (congrArg some (by kernel_rfl))
  f221 := Tryz.func140.trans (congrArg some (by kernel_rfl))
  f224 := Tryz.func165.trans (congrArg some (by kernel_rfl))
  f225 := Tryz.func164.trans (congrArg some (by kernel_rfl))
  f260 := Tryz.func179.trans (congrArg some (by kernel_rfl))
  f266 := Tryz.func177.trans (congrArg some (by kernel_rfl))
  f267 := Tryz.func166.trans (congrArg some (by kernel_rfl))
  f268 := Tryz.func159.trans (congrArg some (by kernel_rfl))
  f314 := Tryz.func178.trans (congrArg some (by kernel_rfl))
  t0 := Tryz.underlying0
  a0 := Tryz.isAgg0
  z0 := Tryz.sizeOf0
  v0 := Tryz.zeroValue0
  t3 := Tryz.underlying3
  a3 := Tryz.isAgg3
  z3 := Tryz.sizeOf3
  v3 := Tryz.zeroValue3
  t4 := Tryz.underlying4
  a4 := Tryz.isAgg4
  z4 := Tryz.sizeOf4
  v4 := Tryz.zeroValue4
  t5 := Tryz.underlying5
  a5 := Tryz.isAgg5
  z5 := Tryz.sizeOf5
  v5 := Tryz.zeroValue5
  t9 := Tryz.underlying9
  a9 := Tryz.isAgg9
  z9 := Tryz.sizeOf9
  v9 := Tryz.zeroValue9
  t21 := Tryz.underlying21
  a21 := Tryz.isAgg21
  z21 := Tryz.sizeOf21
  v21 := Tryz.zeroValue21
  t31 := Tryz.underlying57
  a31 := Tryz.isAgg57
  z31 := Tryz.sizeOf57
  v31 := Tryz.zeroValue57
  t46 := Tryz.underlying199
  a46 := Tryz.isAgg199
  z46 := Tryz.sizeOf199
  v46 := Tryz.zeroValue199
  t51 := Tryz.underlying179
  a51 := Tryz.isAgg179
  z51 := Tryz.sizeOf179
  v51 := Tryz.zeroValue179
  t105 := Tryz.underlying245
  a105 := Tryz.isAgg245
  z105 := Tryz.sizeOf245
  v105 := Tryz.zeroValue245
  t119 := Tryz.underlying217
  a119 := Tryz.isAgg217
  z119 := Tryz.sizeOf217
  t138 := Tryz.underlying263
  a138 := Tryz.isAgg263
  z138 := Tryz.sizeOf263
  v138 := Tryz.zeroValue263
  t139 := Tryz.underlying264
  a139 := Tryz.isAgg264
  z139 := Tryz.sizeOf264
  v139 := Tryz.zeroValue264
  t146 := Tryz.underlying258
  a146 := Tryz.isAgg258
  z146 := Tryz.sizeOf258
  v146 := Tryz.zeroValue258
  g1 := by kernel_rfl
  g3 := by kernel_rfl
  g4 := by kernel_rfl }
open Go.RowKit Go.Lib in
theorem Tryz.strings_Split (s sep : ByteArray) (m : Int) (w : World) (hs : s.size < 4294967281) (hm : w.cell? ⟨2, 0, none⟩ = some (.int .i64 m)) (h1 : 1 ≤ sep.size) :
    Calls Tryz.prog 107 #[.string s, .string sep] w fun e w' =>
      e = .returned (.slice (some ⟨w.heap.size, 0, none⟩) (Lib.countB s sep + 1) (Lib.countB s sep + 1)) ∧ w' = w.alloc (.cells ((Lib.splitB sep 0 (Lib.countB s sep) s).map Value.string).toArray 9) := Any.strings_Split Tryz.lays146 (by kernel_rfl) s sep m w hs hm h1
def Tryz.lays157_ren : Go.Shelf.Ren := ⟨fun | 157 => 108 | 229 => 141 | 199 => 142 | 261 => 162 | 311 => 175 | 312 => 176 | n => n, fun | 9 => 9 | 31 => 57 | 3 => 3 | 5 => 5 | 4 => 4 | 119 => 217 | 0 => 0 | 40 => 170 | 152 => 233 | 21 => 21 | 154 => 235 | 51 => 179 | 141 => 237 | 196 => 250 | 193 => 247 | 198 => 253 | 49 => 251 | 194 => 248 | 201 => 256 | 226 => 260 | 46 => 199 | 227 => 261 | n => n, fun | 0 => 0 | 6 => 1 | n => n⟩
theorem Tryz.lays157 : Go.Proofs.Lays.n157 Tryz.prog Tryz.lays157_ren := {
  mixed := by kernel_rfl
  f157 := Tryz.func108.trans (congrArg some (by kernel_rfl))
  f199 := Tryz.func142.trans (congrArg some (by kernel_rfl))
  f229 := Tryz.func141.trans (congrArg some (by kernel_rfl))
  f261 := Tryz.func162.trans (congrArg some (by kernel_rfl))
  f311 := Tryz.func175.trans (congrArg some (by kernel_rfl))
  f312 := Tryz.func176.trans (congrArg some (by kernel_rfl))
  t0 := Tryz.underlying0
  a0 := Tryz.isAgg0
  z0 := Tryz.sizeOf0
  v0 := Tryz.zeroValue0
  t3 := Tryz.underlying3
  a3 := Tryz.isAgg3
  z3 := Tryz.sizeOf3
  v3 := Tryz.zeroValue3
  t4 := Tryz.underlying4
  a4 := Tryz.isAgg4
  z4 := Tryz.sizeOf4
  v4 := Tryz.zeroValue4
  t5 := Tryz.underlying5
  a5 := Tryz.isAgg5
  z5 := Tryz.sizeOf5
  v5 := Tryz.zeroValue5
  t9 := Tryz.underlying9
  a9 := Tryz.isAgg9
  z9 := Tryz.sizeOf9
  v9 := Tryz.zeroValue9
  t21 := Tryz.underlying21
  a21 := Tryz.isAgg21
  z21 := Tryz.sizeOf21
  v21 := Tryz.zeroValue21
  t31 := Tryz.underlying57
  a31 := Tryz.isAgg57
  z31 := Tryz.sizeOf57
  v31 := Tryz.zeroValue57
  t40 := Tryz.underlying170
  a40 := Tryz.isAgg170
  z40 := Tryz.sizeOf170
  v40 := Tryz.zeroValue170
  t46 := Tryz.underlying199
  a46 := Tryz.isAgg199
  z46 := Tryz.sizeOf199
  v46 := Tryz.zeroValue199
  t49 := Tryz.underlying251
  a49 := Tryz.isAgg251
  z49 := Tryz.sizeOf251
  v49 := Tryz.zeroValue251
  t51 := Tryz.underlying179
  a51 := Tryz.isAgg179
  z51 := Tryz.sizeOf179
  v51 := Tryz.zeroValue179
  t119 := Tryz.underlying217
  a119 := Tryz.isAgg217
  z119 := Tryz.sizeOf217
  t141 := Tryz.underlying237
  a141 := Tryz.isAgg237
  z141 := Tryz.sizeOf237
  v141 := Tryz.zeroValue237
  t152 := Tryz.underlying233
  a152 := Tryz.isAgg233
  z152 := Tryz.sizeOf233
  v152 := Tryz.zeroValue233
  t154 := Tryz.underlying235
  a154 := Tryz.isAgg235
  z154 := Tryz.sizeOf235
  v154 := Tryz.zeroValue235
  t193 := Tryz.underlying247
  a193 := Tryz.isAgg247
  z193 := Tryz.sizeOf247
  v193 := Tryz.zeroValue247
  t194 := Tryz.underlying248
  a194 := Tryz.isAgg248
  z194 := Tryz.sizeOf248
  v194 := Tryz.zeroValue248
  t196 := Tryz.underlying250
  a196 := Tryz.isAgg250
  z196 := Tryz.sizeOf250
  v196 := Tryz.zeroValue250
  t198 := Tryz.underlying253
  a198 := Tryz.isAgg253
  z198 := Tryz.sizeOf253
  v198 := Tryz.zeroValue253
  t201 := Tryz.underlying256
  a201 := Tryz.isAgg256
  z201 := Tryz.sizeOf256
  v201 := Tryz.zeroValue256
  t226 := Tryz.underlying260
  a226 := Tryz.isAgg260
  z226 := Tryz.sizeOf260
  v226 := Tryz.zeroValue260
  t227 := Tryz.underlying261
  a227 := Tryz.isAgg261
  z227 := Tryz.sizeOf261
  v227 := Tryz.zeroValue261
  g0 := by kernel_rfl
  g6 := by kernel_rfl }
open Go.RowKit Go.Lib in
theorem Tryz.strings_Fields (s : ByteArray) (w : World) (hs : s.size < 4294967281) (hascii : ∀ (j : Nat) b, s.data.toList[j]? = some b → b.toNat < 128) (htab : Lib.TabIs Tryz.prog w "strings.asciiSpace" .u8 Lib.asciiSpaceTab) :
    Calls Tryz.prog 108 #[.string s] w fun e w' =>
      e = .returned (.slice (some ⟨w.heap.size, 0, none⟩) (Lib.fields s.data.toList).length (Lib.fields s.data.toList).length) ∧ w' = w.alloc (.cells ((Lib.fields s.data.toList).map fun l => Value.string ⟨l.toArray⟩).toArray 9) := Any.strings_Fields Tryz.lays157 (by kernel_rfl) (by kernel_rfl) s w hs hascii htab
def Tryz.laysM157_ren : Go.Shelf.Ren := ⟨fun | 157 => 108 | 229 => 141 | 199 => 142 | 261 => 162 | 311 => 175 | 312 => 176 | n => n, fun | 9 => 9 | 31 => 57 | 3 => 3 | 5 => 5 | 4 => 4 | 119 => 217 | 0 => 0 | 40 => 170 | 152 => 233 | 21 => 21 | 154 => 235 | 51 => 179 | 141 => 237 | 196 => 250 | 193 => 247 | 198 => 253 | 49 => 251 | 194 => 248 | 201 => 256 | 226 => 260 | 46 => 199 | 227 => 261 | n => n, fun | 0 => 0 | 6 => 1 | n => n⟩
theorem Tryz.laysM157 : Go.Proofs.LaysM.n157 Tryz.prog Tryz.laysM157_ren := {
  mixed := by kernel_rfl
  f157 := Tryz.func108.trans (congrArg some (by kernel_rfl))
  f199 := Tryz.func142.trans (congrArg some (by kernel_rfl))
  f229 := Tryz.func141.trans (congrArg some (by kernel_rfl))
  f261 := Tryz.func162.trans (congrArg some (by kernel_rfl))
  f311 := Tryz.func175.trans (congrArg some (by kernel_rfl))
  f312 := Tryz.func176.trans (congrArg some (by kernel_rfl))
  t0 := Tryz.underlying0
  a0 := Tryz.isAgg0
  z0 := Tryz.sizeOf0
  v0 := Tryz.zeroValue0
  t3 := Tryz.underlying3
  a3 := Tryz.isAgg3
  z3 := Tryz.sizeOf3
  v3 := Tryz.zeroValue3
  t4 := Tryz.underlying4
  a4 := Tryz.isAgg4
  z4 := Tryz.sizeOf4
  v4 := Tryz.zeroValue4
  t5 := Tryz.underlying5
  a5 := Tryz.isAgg5
  z5 := Tryz.sizeOf5
  v5 := Tryz.zeroValue5
  t9 := Tryz.underlying9
  a9 := Tryz.isAgg9
  z9 := Tryz.sizeOf9
  v9 := Tryz.zeroValue9
  t21 := Tryz.underlying21
  a21 := Tryz.isAgg21
  z21 := Tryz.sizeOf21
  v21 := Tryz.zeroValue21
  t31 := Tryz.underlying57
  a31 := Tryz.isAgg57
  z31 := Tryz.sizeOf57
  v31 := Tryz.zeroValue57
  t40 := Tryz.underlying170
  a40 := Tryz.isAgg170
  z40 := Tryz.sizeOf170
  v40 := Tryz.zeroValue170
  t46 := Tryz.underlying199
  a46 := Tryz.isAgg199
  z46 := Tryz.sizeOf199
  v46 := Tryz.zeroValue199
  t49 := Tryz.underlying251
  a49 := Tryz.isAgg251
  z49 := Tryz.sizeOf251
  v49 := Tryz.zeroValue251
  t51 := Tryz.underlying179
  a51 := Tryz.isAgg179
  z51 := Tryz.sizeOf179
  v51 := Tryz.zeroValue179
  t119 := Tryz.underlying217
  a119 := Tryz.isAgg217
  z119 := Tryz.sizeOf217
  t141 := Tryz.underlying237
  a141 := Tryz.isAgg237
  z141 := Tryz.sizeOf237
  v141 := Tryz.zeroValue237
  t152 := Tryz.underlying233
  a152 := Tryz.isAgg233
  z152 := Tryz.sizeOf233
  v152 := Tryz.zeroValue233
  t154 := Tryz.underlying235
  a154 := Tryz.isAgg235
  z154 := Tryz.sizeOf235
  v154 := Tryz.zeroValue235
  t193 := Tryz.underlying247
  a193 := Tryz.isAgg247
  z193 := Tryz.sizeOf247
  v193 := Tryz.zeroValue247
  t194 := Tryz.underlying248
  a194 := Tryz.isAgg248
  z194 := Tryz.sizeOf248
  v194 := Tryz.zeroValue248
  t196 := Tryz.underlying250
  a196 := Tryz.isAgg250
  z196 := Tryz.sizeOf250
  v196 := Tryz.zeroValue250
  t198 := Tryz.underlying253
  a198 := Tryz.isAgg253
  z198 := Tryz.sizeOf253
  v198 := Tryz.zeroValue253
  t201 := Tryz.underlying256
  a201 := Tryz.isAgg256
  z201 := Tryz.sizeOf256
  v201 := Tryz.zeroValue256
  t226 := Tryz.underlying260
  a226 := Tryz.isAgg260
  z226 := Tryz.sizeOf260
  v226 := Tryz.zeroValue260
  t227 := Tryz.underlying261
  a227 := Tryz.isAgg261
  z227 := Tryz.sizeOf261
  v227 := Tryz.zeroValue261
  g0 := by kernel_rfl
  g6 := by kernel_rfl
  i0 := by kernel_rfl
  i3 := by kernel_rfl
  i4 := by kernel_rfl
  i5 := by kernel_rfl
  i9 := by kernel_rfl
  i21 := by kernel_rfl
  i31 := by kernel_rfl
  i40 := by kernel_rfl
  i46 := by kernel_rfl
  i49 := by kernel_rfl
  i51 := by kernel_rfl
  i141 := by kernel_rfl
  i152 := by kernel_rfl
  i154 := by kernel_rfl
  i193 := by kernel_rfl
  i194 := by kernel_rfl
  i196 := by kernel_rfl
  i198 := by kernel_rfl
  i201 := by kernel_rfl
  i226 := by kernel_rfl
  i227 := by kernel_rfl
  m0 := by kernel_rfl
  m6 := by kernel_rfl }
open Go.RowKit Go.Lib in
theorem Tryz.strings_Fields_laid (s : ByteArray) (w : World) (hs : s.size < 4294967281) (hascii : ∀ (j : Nat) b, s.data.toList[j]? = some b → b.toNat < 128) (htab : Lib.TabIs Tryz.prog w "strings.asciiSpace" .u8 Lib.asciiSpaceTab) :
    Calls Tryz.prog 108 #[.string s] w fun e w' =>
      e = .returned (.slice (some ⟨w.heap.size, 0, none⟩) (Lib.fields s.data.toList).length (Lib.fields s.data.toList).length) ∧ w' = w.alloc (.cells ((Lib.fields s.data.toList).map fun l => Value.string ⟨l.toArray⟩).toArray 9) := Any.strings_Fields_laid Tryz.laysM157 s w hs hascii htab
def Tryz.lays109_ren : Go.Shelf.Ren := ⟨fun | 109 => 153 | n => n, fun | 31 => 57 | 9 => 9 | 3 => 3 | 0 => 0 | 4 => 4 | n => n, fun | n => n⟩
theorem Tryz.lays109 : Go.Proofs.Lays.n109 Tryz.prog Tryz.lays109_ren := {
  mixed := by kernel_rfl
  f109 := Tryz.func153.trans (congrArg some (by kernel_rfl))
  t0 := Tryz.underlying0
  a0 := Tryz.isAgg0
  z0 := Tryz.sizeOf0
  v0 := Tryz.zeroValue0
  t3 := Tryz.underlying3
  a3 := Tryz.isAgg3
  z3 := Tryz.sizeOf3
  v3 := Tryz.zeroValue3
  t4 := Tryz.underlying4
  a4 := Tryz.isAgg4
  z4 := Tryz.sizeOf4
  v4 := Tryz.zeroValue4
  t9 := Tryz.underlying9
  a9 := Tryz.isAgg9
  z9 := Tryz.sizeOf9
  v9 := Tryz.zeroValue9
  t31 := Tryz.underlying57
  a31 := Tryz.isAgg57
  z31 := Tryz.sizeOf57
  v31 := Tryz.zeroValue57 }
open Go.Lib in
theorem Tryz.slices_Index_string (b off n c : Nat) (zs : List ByteArray) (x : ByteArray) (w : World) (hz : n ≤ zs.length) (hbig : n ≤ 9223372036854775807) (hc : ∀ j, j < zs.length → w.cell? ⟨b, off + j, none⟩ = some (.string (zs.getD j ByteArray.empty))) :
    Calls Tryz.prog 153 #[.slice (some ⟨b, off, none⟩) n c, .string x] w fun e w' => e = .returned (.int .i64 (Lib.idxOfS (zs.take n) x)) ∧ w' = w := Any.slices_Index_string Tryz.lays109 b off n c zs x w hz hbig hc
open Go.Lib in
theorem Tryz.slices_Index_string_empty (a : Option Addr) (c : Nat) (x : ByteArray) (w : World) :
    Calls Tryz.prog 153 #[.slice a 0 c, .string x] w fun e w' => e = .returned (.int .i64 (Lib.idxOfS [] x)) ∧ w' = w := Any.slices_Index_string_empty Tryz.lays109 a c x w
end Go.Proofs
end

section
namespace Go.Abs
open Go.RowKit Go.Proofs
set_option maxRecDepth 20000
theorem mixedT : Tryz.prog.follows .mixedOrders = true := by kernel_rfl
theorem namesT : Tryz.prog.funcs.all (fun fn => !(fn.name == "runtime.NumGoroutine")) = true := by kernel_rfl
theorem hasT (f : Nat) (h : hasBody Tryz.prog f = true) : Enters Tryz.prog f := entersB namesT h
theorem strings_Split_ok (m : Tp) (s sep : List UInt8) {r : List (List UInt8)} (h : strings_Split s sep r) : ASpec Tryz.prog (gtT m) 107 [.pd (.str s), .pd (.str sep)] (· = .pd (.sl (r.map PD.str))) := by
  obtain ⟨hs, c, rfl, rfl⟩ := h
  refine strs_spec fun cx w vs hA hG => ?_
  obtain ⟨v0, h0, r0⟩ := args_at hA 0 rfl
  obtain ⟨v1, h1, r1⟩ := args_at hA 1 rfl
  rw [str_inv r0] at h0; rw [str_inv r1] at h1
  rw [vs2 hA.1 h0 h1]
  have hm := glob_int (g := 2) (k := .i64) (m := m.1) hG rfl
  have hk := Tryz.strings_Split ⟨s.toArray⟩ ⟨[c].toArray⟩ m.1 w hs hm (Nat.le_refl _)
  have e1 : Lib.countB ⟨s.toArray⟩ ⟨[c].toArray⟩ = s.count c := Lib.count_one c s
  have e2 := Lib.splitB_data ⟨[c].toArray⟩ 0 (s.count c) ⟨s.toArray⟩
  have e3 : (Lib.splitB ⟨[c].toArray⟩ 0 (s.count c) ⟨s.toArray⟩).map (·.data.toList) = splitC c s := by rw [e2]; exact split_one c s
  have e4 := Lib.splitB_all ⟨[c].toArray⟩ (Nat.le_refl _) 0 (s.count c) ⟨s.toArray⟩ e1
  have e5 : (splitC c s).length = s.count c + 1 := by rw [← e3, List.length_map, e4]
  have e6 : (splitC c s).map (fun l => Value.string ⟨l.toArray⟩) = (Lib.splitB ⟨[c].toArray⟩ 0 (s.count c) ⟨s.toArray⟩).map Value.string := by
    rw [← e3, List.map_map]
    refine List.map_congr_left fun x _ => ?_
    simp
  rw [e1] at hk
  exact ⟨9, by rw [e5, e6]; exact hk⟩
theorem strings_Cut_ok (m : Tp) (s sep : List UInt8) {r : List UInt8 × List UInt8 × Bool} (h : strings_Cut s sep r) : ASpec Tryz.prog (gtT m) 65 [.pd (.str s), .pd (.str sep)] (· = .tup [.pd (.str r.1), .pd (.str r.2.1), .pd (.bool r.2.2)]) := by
  obtain ⟨hs, c, rfl, rfl⟩ := h
  refine ASpec.of_calls _ (by simp [AV.pure]) fun cx w vs hA hG hlt => ?_
  obtain ⟨v0, h0, r0⟩ := args_at hA 0 rfl
  obtain ⟨v1, h1, r1⟩ := args_at hA 1 rfl
  rw [str_inv r0] at h0; rw [str_inv r1] at h1
  rw [vs2 hA.1 h0 h1]
  have hm := glob_int (g := 2) (k := .i64) (m := m.1) hG rfl
  refine (Tryz.strings_Cut ⟨s.toArray⟩ ⟨[c].toArray⟩ m.1 w hs hm).mono ?_
  rintro e w' ⟨rfl, n, rfl⟩
  refine ⟨_, rfl, below_drewN _, .tup _ _ rfl fun i v x q1 q2 => ?_⟩
  match i with
  | 0 => simp at q1 q2; subst q1; subst q2; exact .pd _ _ (.str _)
  | 1 => simp at q1 q2; subst q1; subst q2; exact .pd _ _ (.str _)
  | 2 => simp at q1 q2; subst q1; subst q2; exact .pd _ _ (.bool _)
  | i + 3 => simp at q1
theorem strings_Fields_ok (m : Tp) (s : List UInt8) {r : List (List UInt8)} (h : strings_Fields s r) : ASpec Tryz.prog (gtT m) 108 [.pd (.str s)] (· = .pd (.sl (r.map PD.str))) := by
  obtain ⟨hs, ha, rfl⟩ := h
  refine strs_spec fun cx w vs hA hG => ?_
  obtain ⟨v0, h0, r0⟩ := args_at hA 0 rfl
  rw [str_inv r0] at h0
  rw [vs1 hA.1 h0]
  exact ⟨9, Tryz.strings_Fields_laid ⟨s.toArray⟩ w hs (fun j b hb => ha b (List.mem_of_getElem? hb)) (glob_tab (g := 0) hG rfl (by kernel_rfl))⟩
theorem strings_Join_ok (m : Tp) (l : List (List UInt8)) (sep : List UInt8) {r : List UInt8} (h : strings_Join l sep r) : ASpec Tryz.prog (gtT m) 105 [.pd (.sl (l.map PD.str)), .pd (.str sep)] (· = .pd (.str r)) := by
  obtain ⟨hn, hj, rfl⟩ := h
  refine str_spec fun cx w vs hA hG hlt => ?_
  obtain ⟨v0, h0, r0⟩ := args_at hA 0 rfl
  obtain ⟨v1, h1, r1⟩ := args_at hA 1 rfl
  rw [str_inv r1] at h1
  have hp : PRep cx.imm w v0 (.sl (l.map PD.str)) := by cases r0 with | pd v x h => exact h
  rcases strs_inv hp with ⟨rfl, rfl⟩ | ⟨a, cap, rfl, hcap, hI, hc⟩
  · rw [vs2 hA.1 h0 h1]
    refine (Tryz.strings_Join_none none 0 ⟨sep.toArray⟩ w).mono ?_
    rintro e w' ⟨rfl, rfl⟩
    exact ⟨rfl, Below.refl _ _⟩
  · rw [vs2 hA.1 h0 h1]
    cases l with
    | nil =>
      refine (Tryz.strings_Join_none (some a) cap ⟨sep.toArray⟩ w).mono ?_
      rintro e w' ⟨rfl, rfl⟩
      exact ⟨rfl, Below.refl _ _⟩
    | cons x t =>
      obtain ⟨hsp, hIa⟩ := hI (by simp)
      have ea : a = ⟨a.block, a.off, none⟩ := by cases a; simp at hsp; subst hsp; rfl
      have e1 : ((x :: t).map fun s => (⟨s.toArray⟩ : ByteArray)).map (·.data.toList) = x :: t := by rw [List.map_map]; simp [Function.comp_def]
      have := Tryz.strings_Join a.block a.off cap ((x :: t).map fun s => ⟨s.toArray⟩) ⟨sep.toArray⟩ w (fun j b hb => ?_) (hlt _ hIa) (by simpa using hn) (by simpa using hcap) (by rw [e1]; exact hj)
      · rw [e1, List.length_map] at this
        rw [ea]; exact this
      · simp only [List.getElem?_map, Option.map_eq_some_iff] at hb
        obtain ⟨s, hs, rfl⟩ := hb
        exact hc j s hs
end Go.Abs
end

section
namespace Go.Proofs.YtdbfgnpobfbfmaaGreatDoor.RT
open Go.ChangeShapes Go.WideShapes Go.ChangeAt Go.RowKit Go.Abs
set_option maxRecDepth 20000
theorem own : ownKnob Tryz.prog.godebug = none := by kernel_rfl
theorem gA : Tryz.prog.globalNamed "strings.asciiSpace" = some 0 := by kernel_rfl
noncomputable abbrev L : List (String × DataW Unit) := Rows.proofParsesRow.laid
theorem tabs {W : World} (h : laidMetH Tryz.prog L W) (hsh : W.ShapedOpen Tryz.prog) : ∃ m, GRep (gtT m) (ctx0 W) W := by
  have h : laidMet Tryz.prog L W := h
  have tA : Lib.TabIs Tryz.prog W "strings.asciiSpace" .u8 Lib.asciiSpaceTab := by
    exact Lib.tabIs_of_head (rest := [("unicode/utf8.first", Rows.laid_unicode_utf8_first)]) gA (t := 217) (by kernel_rfl) Tryz.underlying217 Tryz.underlying5 (by kernel_rfl) (by kernel_rfl) (laid_tail (x := ("unicode.White_Space", Rows.laid_unicode_White_Space)) (laid_tail (x := ("unicode/utf8.acceptRanges", Rows.laid_unicode_utf8_acceptRanges)) h))
  obtain ⟨m, hm⟩ : ∃ m, W.cell? ⟨2, 0, none⟩ = some (.int .i64 m) := Tryz.laysM145.s1_3 W hsh
  obtain ⟨cs, hh, hs, hr⟩ := hsh.1 2 #[.int .i64 0] 3 (of_decide_eq_true (by kernel_rfl)) (by kernel_rfl)
  refine ⟨(m, ()), ?_⟩
  intro g l hg
  unfold gtT at hg
  split at hg
  · cases hg; exact rd_of_tab tA gA (by decide)
  · cases hg
    have hb : ∃ cs e z, W.heap[2]? = some (.cells cs e z) ∧ cs.size = 1 := ⟨cs, 3, _, hh, hs⟩
    have hlt : 2 < W.heap.size := by
      obtain ⟨_, _, _, h1, _⟩ := hb
      exact (Array.getElem?_eq_some_iff.1 h1).1
    refine ⟨.rd _ _ (fun _ => .int .i64 m) rfl (fun _ => hlt) (fun j hj => ?_) (fun j y hy => ?_), hlt, hb⟩
    · obtain rfl : j = 0 := by simpa using hj
      exact hm
    · cases j with
      | zero => simp at hy; subst hy; exact .int _ _
      | succ j => simp at hy
  · cases hg
noncomputable def start10 (os : Os) : World := World.laidAll Tryz.prog os L
theorem laid_met (os : Os) (args : Array Value) : laidMetH Tryz.prog L ((start10 os).forCall (fun _ _ => 0) ⟨#[], args, []⟩).memory := by
  rw [MakeChecks.laidMetH_plain _ _ _ (by kernel_rfl)]
  exact laidMet_laidAll _ (by kernel_rfl) (by kernel_rfl)
theorem str_rep {c : Ctx} {M : Mem} {w : World} (a : ByteArray) : ARep c M w (.string a) (.pd (.str a.data.toList)) := .pd _ _ (show PRep c.imm w (.string ⟨a.data.toList.toArray⟩) (.str a.data.toList) from .str a.data.toList)
end Go.Proofs.YtdbfgnpobfbfmaaGreatDoor.RT
end

section
namespace Go.Abs
open Go.ChangeShapes Go.WideShapes Go.Deep
set_option linter.unusedVariables false
inductive TS where
  | int (k : IntKind)
  | bool
  | str
  | sl (agg : Bool) (ls : List TS)
def elemP (agg : Bool) (xs : List PD) : PD := if agg then .agg xs else xs.headD (.bool false)
inductive Sh : TS → PD → Prop
  | int (k : IntKind) (z : Int) (h : (Lit.int k z).wf = true) : Sh (.int k) (.int k z)
  | bool (b : Bool) : Sh .bool (.bool b)
  | str (s : List UInt8) (h : s.length ≤ maxLen) : Sh .str (.str s)
  | sl (agg : Bool) (ls : List TS) (xss : List (List PD)) (hm : xss.length ≤ maxLen) (hn : ∀ xs, xs ∈ xss → xs.length = ls.length)
      (h : ∀ (i j : Nat) (xs : List PD) (u : TS) (z : PD), xss[i]? = some xs → ls[j]? = some u → xs[j]? = some z → Sh u z) : Sh (.sl agg ls) (.sl (xss.map (elemP agg)))
variable {H : Type} {enc : TypeId × Value → H} {P : Program} {w : World} {sp : Nat → Bool} {held : Bool}
abbrev Iw (w : World) : Nat → Prop := (ctx0 w).imm
def CellsSh (w : World) (ls : List TS) (cs : List Value) : Prop := cs.length = ls.length ∧ ∀ (i : Nat) (u : TS) (v : Value), ls[i]? = some u → cs[i]? = some v → ∃ y, Sh u y ∧ PRep (Iw w) w v y
theorem CellsSh.one {u : TS} {v : Value} {y : PD} (h1 : Sh u y) (h2 : PRep (Iw w) w v y) : CellsSh w [u] [v] := by
  refine ⟨rfl, fun i u' v' q1 q2 => ?_⟩
  cases i with
  | zero => simp at q1 q2; subst q1; subst q2; exact ⟨y, h1, h2⟩
  | succ i => simp at q1
end Go.Abs
end
