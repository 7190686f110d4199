/- Part of a proof, in few files: SH BSw RT RD Abs30. -/
import Derived.Shelf.Strings.Builder1
import Derived.Shelf.Strings.Builder2
import Derived.Shelf.Strings.OnBuilder
import Derived.Shelf.Small.Bits
import Derived.Shelf.Small.Wraps
import Derived.Shelf.Strconv.Itoa0
import Derived.Shelf.Strconv.Itoa1
import Derived.Shelf.LaysM
import Derived.Shelf.Strconv.Itoa2
import Derived.Shelf.Strconv.Itoa3
import Derived.Shelf.Strings.Search1
import Derived.Shelf.Strings.Search2
import Derived.Shelf.Strings.Search3
import Derived.Shelf.Strings.Cut
import Derived.Shelf.Strings.Count
import Derived.Shelf.Strings.Shaped
import Derived.Shelf.Strings.Prefix
import Derived.Shelf.Strings.Split
import Derived.Shelf.Strings.Fields
import Derived.Shelf.Strings.SplitShaped
import Derived.Shelf.Unicode.Latin
import Derived.Shelf.Bits.Mul64
import Derived.Shelf.Unicode.DecodeSlow
import Derived.Shelf.Unicode.Is16White
import Derived.Shelf.Unicode.IsSpaceAny
import Derived.Shelf.Unicode.Is16Any
import Derived.Shelf.Unicode.Is32Any
import Derived.Shelf.Unicode.ExclAny
import Derived.Shelf.Slices.Turned
import Derived.Ground.Names2Prog
import Derived.Shelf.Slices.Clone
import Derived.Test.YthkcibhfbcfhlaaGreatDoorProg
import Derived.Test.YthkcibhfbcfhlaaGreatDoorDChK13
import Derived.Test.YthkcibhfbcfhlaaGreatDoorDChK14
import Derived.Test.YthkcibhfbcfhlaaGreatDoorCards
import Derived.Test.YthkcibhfbcfhlaaGreatDoorTie
import Derived.WalkKit
import Derived.ProofKit
import Derived.OpenShut
import Derived.Below
import Derived.Lay
import Derived.Deep.DeepHandedRow
import Derived.Deep.DeepWitnessRowRef
import Derived.Lib.LaidTab
import Derived.SliceStrings
import Derived.ChangeMaps5
import Derived.Deep.Slices
import Derived.ChangeArms

set_option linter.unusedVariables false
set_option linter.unusedSimpArgs false
set_option linter.unnecessarySimpa false
section
namespace Go.Proofs
open Go.Shelf
def Tryz.lays156_ren : Go.Shelf.Ren := ⟨fun | 156 => 85 | 165 => 141 | 166 => 142 | 169 => 143 | 240 => 191 | 241 => 192 | 276 => 232 | 277 => 233 | n => n, fun | 31 => 25 | 9 => 9 | 3 => 3 | 4 => 4 | 0 => 0 | 20 => 20 | 72 => 251 | 76 => 255 | 70 => 249 | 37 => 246 | 75 => 254 | 127 => 304 | 164 => 349 | 5 => 5 | 80 => 257 | n => n, fun | n => n⟩
theorem Tryz.lays156 : Go.Proofs.Lays.n156 Tryz.prog Tryz.lays156_ren := {
 mixed := by kernel_rfl
 f156 := Tryz.func85.trans (congrArg some (by kernel_rfl))
 f165 := Tryz.func141.trans (congrArg some (by kernel_rfl))
 f166 := Tryz.func142.trans (congrArg some (by kernel_rfl))
 f169 := Tryz.func143.trans (congrArg some (by kernel_rfl))
 f240 := Tryz.func191.trans (congrArg some (by kernel_rfl))
 f241 := Tryz.func192.trans (congrArg some (by kernel_rfl))
 f276 := Tryz.func232.trans (congrArg some (by kernel_rfl))
 f277 := Tryz.func233.trans (congrArg some (by kernel_rfl))
 t0 := Tryz.underlying0
 a0 := Tryz.isAgg0
 z0 := Tryz.sizeOf0
 v0 := Tryz.zeroValue0
 t3 := Tryz.underlying3
 a3 := Tryz.isAgg3
 z3 := Tryz.sizeOf3
 v3 := Tryz.zeroValue3
 t4 := Tryz.underlying4
 a4 := Tryz.isAgg4
 z4 := Tryz.sizeOf4
 v4 := Tryz.zeroValue4
 t9 := Tryz.underlying9
 a9 := Tryz.isAgg9
 z9 := Tryz.sizeOf9
 v9 := Tryz.zeroValue9
 t20 := Tryz.underlying20
 a20 := Tryz.isAgg20
 z20 := Tryz.sizeOf20
 v20 := Tryz.zeroValue20
 t31 := Tryz.underlying25
 a31 := Tryz.isAgg25
 z31 := Tryz.sizeOf25
 v31 := Tryz.zeroValue25
 t37 := Tryz.underlying246
 a37 := Tryz.isAgg246
 z37 := Tryz.sizeOf246
 v37 := Tryz.zeroValue246
 t70 := Tryz.underlying249
 a70 := Tryz.isAgg249
 z70 := Tryz.sizeOf249
 v70 := Tryz.zeroValue249
 t72 := Tryz.underlying251
 a72 := Tryz.isAgg251
 z72 := Tryz.sizeOf251
 v72 := Tryz.zeroValue251
 t75 := Tryz.underlying254
 a75 := Tryz.isAgg254
 z75 := Tryz.sizeOf254
 v75 := Tryz.zeroValue254
 t76 := Tryz.underlying255
 a76 := Tryz.isAgg255
 z76 := Tryz.sizeOf255
 v76 := Tryz.zeroValue255
 t127 := Tryz.underlying304
 a127 := Tryz.isAgg304
 z127 := Tryz.sizeOf304
 v127 := Tryz.zeroValue304
 t164 := Tryz.underlying349
 a164 := Tryz.isAgg349
 z164 := Tryz.sizeOf349
 v164 := Tryz.zeroValue349 }
theorem Tryz.Builder_Extra_156 : Builder.Extra Tryz.prog Tryz.lays156_ren := {
 sizeBuilder := by kernel_rfl
 liesBuilder := by kernel_rfl
 t5 := Tryz.underlying5
 a5 := Tryz.isAgg5
 z5 := Tryz.sizeOf5
 v5 := Tryz.zeroValue5
 infoByte := by kernel_rfl
 cellsByte := by kernel_rfl
 sizeByte := by kernel_rfl
 neB5 := by decide }
open Go.RowKit in
theorem Tryz.strings_Join_none (a : Option Addr) (c : Nat) (sep : ByteArray) (w : World) :
  Calls Tryz.prog 85 #[.slice a 0 c, .string sep] w fun e w' => e = .returned (.string ⟨#[]⟩) ∧ w' = w := Any.strings_Join_none Tryz.lays156 Tryz.Builder_Extra_156 a c sep w
open Go.RowKit in
theorem Tryz.strings_Join (bk o c : Nat) (xs : List ByteArray) (sep : ByteArray) (w : World) (hcells : ∀ (j : Nat) x, xs[j]? = some x → w.cell? ⟨bk, o + j, none⟩ = some (.string x)) (hbk : bk < w.heap.size) (hN : xs.length ≤ 140737488355328) (hcap : xs.length ≤ c) (hlen : (Lib.join (xs.map (·.data.toList)) sep.data.toList).length ≤ 140737488355328) :
  Calls Tryz.prog 85 #[.slice (some ⟨bk, o, none⟩) xs.length c, .string sep] w fun e w' => e = .returned (.string ⟨(Lib.join (xs.map (·.data.toList)) sep.data.toList).toArray⟩) ∧ Below w.heap.size w w' := Any.strings_Join Tryz.lays156 Tryz.Builder_Extra_156 bk o c xs sep w hcells hbk hN hcap hlen
def Tryz.lays103_ren : Go.Shelf.Ren := ⟨fun | 103 => 202 | 210 => 237 | 206 => 250 | n => n, fun | 9 => 9 | 4 => 4 | 24 => 114 | 3 => 3 | n => n, fun | n => n⟩
theorem Tryz.lays103 : Go.Proofs.Lays.n103 Tryz.prog Tryz.lays103_ren := {
 mixed := by kernel_rfl
 f103 := Tryz.func202.trans (congrArg some (by kernel_rfl))
 f206 := Tryz.func250.trans (congrArg some (by kernel_rfl))
 f210 := Tryz.func237.trans (congrArg some (by kernel_rfl))
 t3 := Tryz.underlying3
 a3 := Tryz.isAgg3
 z3 := Tryz.sizeOf3
 v3 := Tryz.zeroValue3
 t4 := Tryz.underlying4
 a4 := Tryz.isAgg4
 z4 := Tryz.sizeOf4
 v4 := Tryz.zeroValue4
 t9 := Tryz.underlying9
 a9 := Tryz.isAgg9
 z9 := Tryz.sizeOf9
 v9 := Tryz.zeroValue9
 t24 := Tryz.underlying114
 a24 := Tryz.isAgg114
 z24 := Tryz.sizeOf114
 v24 := Tryz.zeroValue114 }
open Go.RowKit in
theorem Tryz.strings_CutPrefix (s p : ByteArray) (w : World) :
  Calls Tryz.prog 202 #[.string s, .string p] w fun e w' => e = .returned (.tuple #[.string ⟨(Lib.trimPrefix s.data.toList p.data.toList).toArray⟩, .bool (Lib.hasPrefix s.data.toList p.data.toList)]) ∧ w' = w := Any.strings_CutPrefix Tryz.lays103 s p w
def Tryz.lays104_ren : Go.Shelf.Ren := ⟨fun | 104 => 42 | 211 => 90 | 207 => 149 | n => n, fun | 9 => 9 | 4 => 4 | 24 => 114 | 3 => 3 | n => n, fun | n => n⟩
theorem Tryz.lays104 : Go.Proofs.Lays.n104 Tryz.prog Tryz.lays104_ren := {
 mixed := by kernel_rfl
 f104 := Tryz.func42.trans (congrArg some (by kernel_rfl))
 f207 := Tryz.func149.trans (congrArg some (by kernel_rfl))
 f211 := Tryz.func90.trans (congrArg some (by kernel_rfl))
 t3 := Tryz.underlying3
 a3 := Tryz.isAgg3
 z3 := Tryz.sizeOf3
 v3 := Tryz.zeroValue3
 t4 := Tryz.underlying4
 a4 := Tryz.isAgg4
 z4 := Tryz.sizeOf4
 v4 := Tryz.zeroValue4
 t9 := Tryz.underlying9
 a9 := Tryz.isAgg9
 z9 := Tryz.sizeOf9
 v9 := Tryz.zeroValue9
 t24 := Tryz.underlying114
 a24 := Tryz.isAgg114
 z24 := Tryz.sizeOf114
 v24 := Tryz.zeroValue114 }
open Go.RowKit in
theorem Tryz.strings_CutSuffix (s p : ByteArray) (w : World) (hs : s.size ≤ 9223372036854775807) :
  Calls Tryz.prog 42 #[.string s, .string p] w fun e w' => e = .returned (.tuple #[.string ⟨(Lib.trimSuffix s.data.toList p.data.toList).toArray⟩, .bool (Lib.hasSuffix s.data.toList p.data.toList)]) ∧ w' = w := Any.strings_CutSuffix Tryz.lays104 s p w hs
def Tryz.lays144_ren : Go.Shelf.Ren := ⟨fun | 144 => 92 | 143 => 146 | 219 => 147 | 217 => 196 | 225 => 197 | 224 => 198 | 267 => 199 | 266 => 235 | 314 => 236 | n => n, fun | 9 => 9 | 4 => 4 | 3 => 3 | 5 => 5 | 46 => 190 | 146 => 352 | 51 => 189 | n => n, fun | 1 => 2 | n => n⟩
theorem Tryz.lays144 : Go.Proofs.Lays.n144 Tryz.prog Tryz.lays144_ren := {
 mixed := by kernel_rfl
 f143 := Tryz.func146.trans (congrArg some (by kernel_rfl))
 f144 := Tryz.func92.trans (congrArg some (by kernel_rfl))
 f217 := Tryz.func196.trans (congrArg some (by kernel_rfl))
 f219 := Tryz.func147.trans (congrArg some (by kernel_rfl))
 f224 := Tryz.func198.trans (congrArg some (by kernel_rfl))
 f225 := Tryz.func197.trans (congrArg some (by kernel_rfl))
 f266 := Tryz.func235.trans (congrArg some (by kernel_rfl))
 f267 := Tryz.func199.trans (congrArg some (by kernel_rfl))
 f314 := Tryz.func236.trans (congrArg some (by kernel_rfl))
 t3 := Tryz.underlying3
 a3 := Tryz.isAgg3
 z3 := Tryz.sizeOf3
 v3 := Tryz.zeroValue3
 t4 := Tryz.underlying4
 a4 := Tryz.isAgg4
 z4 := Tryz.sizeOf4
 v4 := Tryz.zeroValue4
 t5 := Tryz.underlying5
 a5 := Tryz.isAgg5
 z5 := Tryz.sizeOf5
 v5 := Tryz.zeroValue5
 t9 := Tryz.underlying9
 a9 := Tryz.isAgg9
 z9 := Tryz.sizeOf9
 v9 := Tryz.zeroValue9
 t46 := Tryz.underlying190
 a46 := Tryz.isAgg190
 z46 := Tryz.sizeOf190
 v46 := Tryz.zeroValue190
 t51 := Tryz.underlying189
 a51 := Tryz.isAgg189
 z51 := Tryz.sizeOf189
 v51 := Tryz.zeroValue189
 t146 := Tryz.underlying352
 a146 := Tryz.isAgg352
 z146 := Tryz.sizeOf352
 v146 := Tryz.zeroValue352
 g1 := by kernel_rfl }
open Go.RowKit Go.Lib in
theorem Tryz.strings_Contains (s sub : ByteArray) (m : Int) (w : World) (hs : s.size < 4294967281) (hm : w.cell? ⟨2, 0, none⟩ = some (.int .i64 m)) :
  Calls Tryz.prog 92 #[.string s, .string sub] w fun e w' => e = .returned (.bool (Lib.contains s.data.toList sub.data.toList)) ∧ w' = w := Any.strings_Contains Tryz.lays144 s sub m w hs hm
def Tryz.lays145_ren : Go.Shelf.Ren := ⟨fun | 145 => 40 | 220 => 87 | 219 => 147 | 217 => 196 | 225 => 197 | 224 => 198 | 267 => 199 | 266 => 235 | 314 => 236 | n => n, fun | 9 => 9 | 4 => 4 | 59 => 111 | 3 => 3 | 5 => 5 | 46 => 190 | 146 => 352 | 51 => 189 | n => n, fun | 1 => 2 | n => n⟩
theorem Tryz.lays145 : Go.Proofs.Lays.n145 Tryz.prog Tryz.lays145_ren := {
 mixed := by kernel_rfl
 f145 := Tryz.func40.trans (congrArg some (by kernel_rfl))
 f217 := Tryz.func196.trans (congrArg some (by kernel_rfl))
 f219 := Tryz.func147.trans (congrArg some (by kernel_rfl))
 f220 := Tryz.func87.trans (congrArg some (by kernel_rfl))
 f224 := Tryz.func198.trans (congrArg some (by kernel_rfl))
 f225 := Tryz.func197.trans (congrArg some (by kernel_rfl))
 f266 := Tryz.func235.trans (congrArg some (by kernel_rfl))
 f267 := Tryz.func199.trans (congrArg some (by kernel_rfl))
 f314 := Tryz.func236.trans (congrArg some (by kernel_rfl))
 t3 := Tryz.underlying3
 a3 := Tryz.isAgg3
 z3 := Tryz.sizeOf3
 v3 := Tryz.zeroValue3
 t4 := Tryz.underlying4
 a4 := Tryz.isAgg4
 z4 := Tryz.sizeOf4
 v4 := Tryz.zeroValue4
 t5 := Tryz.underlying5
 a5 := Tryz.isAgg5
 z5 := Tryz.sizeOf5
 v5 := Tryz.zeroValue5
 t9 := Tryz.underlying9
 a9 := Tryz.isAgg9
 z9 := Tryz.sizeOf9
 v9 := Tryz.zeroValue9
 t46 := Tryz.underlying190
 a46 := Tryz.isAgg190
 z46 := Tryz.sizeOf190
 v46 := Tryz.zeroValue190
 t51 := Tryz.underlying189
 a51 := Tryz.isAgg189
 z51 := Tryz.sizeOf189
 v51 := Tryz.zeroValue189
 t59 := Tryz.underlying111
 a59 := Tryz.isAgg111
 z59 := Tryz.sizeOf111
 v59 := Tryz.zeroValue111
 t146 := Tryz.underlying352
 a146 := Tryz.isAgg352
 z146 := Tryz.sizeOf352
 v146 := Tryz.zeroValue352
 g1 := by kernel_rfl }
open Go.RowKit Go.Lib in
theorem Tryz.strings_Cut (s sep : ByteArray) (m : Int) (w : World) (hs : s.size < 4294967281) (hm : w.cell? ⟨2, 0, none⟩ = some (.int .i64 m)) :
  Calls Tryz.prog 40 #[.string s, .string sep] w fun e w' => e = .returned (.tuple #[.string ⟨(Lib.cut s.data.toList sep.data.toList).1.toArray⟩, .string ⟨(Lib.cut s.data.toList sep.data.toList).2.1.toArray⟩, .bool (Lib.cut s.data.toList sep.data.toList).2.2]) ∧ ∃ n, w' = w.drewN n := Any.strings_Cut Tryz.lays145 s sep m w hs hm
def Tryz.laysM145_ren : Go.Shelf.Ren := ⟨fun | 145 => 40 | 220 => 87 | 219 => 147 | 217 => 196 | 225 => 197 | 224 => 198 | 267 => 199 | 266 => 235 | 314 => 236 | n => n, fun | 9 => 9 | 4 => 4 | 59 => 111 | 3 => 3 | 5 => 5 | 46 => 190 | 146 => 352 | 51 => 189 | n => n, fun | 1 => 2 | n => n⟩
theorem Tryz.laysM145 : Go.Proofs.LaysM.n145 Tryz.prog Tryz.laysM145_ren := {
 mixed := by kernel_rfl
 f145 := Tryz.func40.trans (congrArg some (by kernel_rfl))
 f217 := Tryz.func196.trans (congrArg some (by kernel_rfl))
 f219 := Tryz.func147.trans (congrArg some (by kernel_rfl))
 f220 := Tryz.func87.trans (congrArg some (by kernel_rfl))
 f224 := Tryz.func198.trans (congrArg some (by kernel_rfl))
 f225 := Tryz.func197.trans (congrArg some (by kernel_rfl))
 f266 := Tryz.func235.trans (congrArg some (by kernel_rfl))
 f267 := Tryz.func199.trans (congrArg some (by kernel_rfl))
 f314 := Tryz.func236.trans (congrArg some (by kernel_rfl))
 t3 := Tryz.underlying3
 a3 := Tryz.isAgg3
 z3 := Tryz.sizeOf3
 v3 := Tryz.zeroValue3
 t4 := Tryz.underlying4
 a4 := Tryz.isAgg4
 z4 := Tryz.sizeOf4
 v4 := Tryz.zeroValue4
 t5 := Tryz.underlying5
 a5 := Tryz.isAgg5
 z5 := Tryz.sizeOf5
 v5 := Tryz.zeroValue5
 t9 := Tryz.underlying9
 a9 := Tryz.isAgg9
 z9 := Tryz.sizeOf9
 v9 := Tryz.zeroValue9
 t46 := Tryz.underlying190
 a46 := Tryz.isAgg190
 z46 := Tryz.sizeOf190
 v46 := Tryz.zeroValue190
 t51 := Tryz.underlying189
 a51 := Tryz.isAgg189
 z51 := Tryz.sizeOf189
 v51 := Tryz.zeroValue189
 t59 := Tryz.underlying111
 a59 := Tryz.isAgg111
 z59 := Tryz.sizeOf111
 v59 := Tryz.zeroValue111
 t146 := Tryz.underlying352
 a146 := Tryz.isAgg352
 z146 := Tryz.sizeOf352
 v146 := Tryz.zeroValue352
 g1 := by kernel_rfl
 i3 := by kernel_rfl
 i4 := by kernel_rfl
 i5 := by kernel_rfl
 i9 := by kernel_rfl
 i46 := by kernel_rfl
 i51 := by kernel_rfl
 i59 := by kernel_rfl
 i146 := by kernel_rfl
 m1 := by kernel_rfl
 s1_3 := fun w h => Go.Proofs.cell_of_shapedOpen_int (zero := #[.int .i64 0]) (t := 3) h (of_decide_eq_true (by kernel_rfl)) (by kernel_rfl) rfl (by kernel_rfl) (by kernel_rfl) Tryz.underlying3 }
def Tryz.lays146_ren : Go.Shelf.Ren := ⟨fun | 146 => 39 | 221 => 86 | 268 => 144 | 138 => 145 | 143 => 146 | 195 => 193 | 197 => 194 | 218 => 195 | 219 => 147 | 260 => 234 | 217 => 196 | 225 => 197 | 224 => 198 | 267 => 199 | 266 => 235 | 314 => 236 | n => n, fun | 9 => 9 | 31 => 25 | 3 => 3 | 4 => 4 | 0 => 0 | 105 => 306 | 21 => 21 | 5 => 5 | 46 => 190 | 119 => 180 | 139 => 371 | 138 => 370 | 146 => 352 | 51 => 189 | n => n, fun | 1 => 2 | 3 => 4 | 4 => 5 | n => n⟩
theorem Tryz.lays146 : Go.Proofs.Lays.n146 Tryz.prog Tryz.lays146_ren := {
 mixed := by kernel_rfl
 f138 := Tryz.func145.trans (congrArg some (by kernel_rfl))
 f143 := Tryz.func146.trans (congrArg some (by kernel_rfl))
 f146 := Tryz.func39.trans (congrArg some (by kernel_rfl))
 f195 := Tryz.func193.trans (congrArg some (by kernel_rfl))
 f197 := Tryz.func194.trans (congrArg some (by kernel_rfl))
 f217 := Tryz.func196.trans (congrArg some (by kernel_rfl))
 f218 := Tryz.func195.trans (congrArg some (by kernel_rfl))
 f219 := Tryz.func147.trans (congrArg some (by kernel_rfl))
 f221 := Tryz.func86.trans (congrArg some (by kernel_rfl))
 f224 := Tryz.func198.trans (congrArg some (by kernel_rfl))
 f225 := Tryz.func197.trans (congrArg some (by kernel_rfl))
 f260 := Tryz.func234.trans (congrArg some (by kernel_rfl))
 f266 := Tryz.func235.trans (congrArg some (by kernel_rfl))
 f267 := Tryz.func199.trans (congrArg some (by kernel_rfl))
 f268 := Tryz.func144.trans (congrArg some (by kernel_rfl))
 f314 := Tryz.func236.trans (congrArg some (by kernel_rfl))
 t0 := Tryz.underlying0
 a0 := Tryz.isAgg0
 z0 := Tryz.sizeOf0
 v0 := Tryz.zeroValue0
 t3 := Tryz.underlying3
 a3 := Tryz.isAgg3
 z3 := Tryz.sizeOf3
 v3 := Tryz.zeroValue3
 t4 := Tryz.underlying4
 a4 := Tryz.isAgg4
 z4 := Tryz.sizeOf4
 v4 := Tryz.zeroValue4
 t5 := Tryz.underlying5
 a5 := Tryz.isAgg5
 z5 := Tryz.sizeOf5
 v5 := Tryz.zeroValue5
 t9 := Tryz.underlying9
 a9 := Tryz.isAgg9
 z9 := Tryz.sizeOf9
 v9 := Tryz.zeroValue9
 t21 := Tryz.underlying21
 a21 := Tryz.isAgg21
 z21 := Tryz.sizeOf21
 v21 := Tryz.zeroValue21
 t31 := Tryz.underlying25
 a31 := Tryz.isAgg25
 z31 := Tryz.sizeOf25
 v31 := Tryz.zeroValue25
 t46 := Tryz.underlying190
 a46 := Tryz.isAgg190
 z46 := Tryz.sizeOf190
 v46 := Tryz.zeroValue190
 t51 := Tryz.underlying189
 a51 := Tryz.isAgg189
 z51 := Tryz.sizeOf189
 v51 := Tryz.zeroValue189
 t105 := Tryz.underlying306
 a105 := Tryz.isAgg306
 z105 := Tryz.sizeOf306
 v105 := Tryz.zeroValue306
 t119 := Tryz.underlying180
 a119 := Tryz.isAgg180
 z119 := Tryz.sizeOf180
 t138 := Tryz.underlying370
 a138 := Tryz.isAgg370
 z138 := Tryz.sizeOf370
 v138 := Tryz.zeroValue370
 t139 := Tryz.underlying371
 a139 := Tryz.isAgg371
 z139 := Tryz.sizeOf371
 v139 := Tryz.zeroValue371
 t146 := Tryz.underlying352
 a146 := Tryz.isAgg352
 z146 := Tryz.sizeOf352
 v146 := Tryz.zeroValue352
 g1 := by kernel_rfl
 g3 := by kernel_rfl
 g4 := by kernel_rfl }
open Go.RowKit Go.Lib in
theorem Tryz.strings_Split (s sep : ByteArray) (m : Int) (w : World) (hs : s.size < 4294967281) (hm : w.cell? ⟨2, 0, none⟩ = some (.int .i64 m)) (h1 : 1 ≤ sep.size) :
  Calls Tryz.prog 39 #[.string s, .string sep] w fun e w' =>
   e = .returned (.slice (some ⟨w.heap.size, 0, none⟩) (Lib.countB s sep + 1) (Lib.countB s sep + 1)) ∧ w' = w.alloc (.cells ((Lib.splitB sep 0 (Lib.countB s sep) s).map Value.string).toArray 9) := Any.strings_Split Tryz.lays146 (by kernel_rfl) s sep m w hs hm h1
def Tryz.lays157_ren : Go.Shelf.Ren := ⟨fun | 157 => 41 | 229 => 88 | 199 => 89 | 261 => 148 | 311 => 200 | 312 => 201 | n => n, fun | 9 => 9 | 31 => 25 | 3 => 3 | 5 => 5 | 4 => 4 | 119 => 180 | 0 => 0 | 40 => 109 | 152 => 260 | 21 => 21 | 154 => 262 | 51 => 189 | 141 => 264 | 196 => 313 | 193 => 310 | 198 => 316 | 49 => 314 | 194 => 311 | 201 => 319 | 226 => 354 | 46 => 190 | 227 => 355 | n => n, fun | 0 => 0 | 6 => 1 | n => n⟩
theorem Tryz.lays157 : Go.Proofs.Lays.n157 Tryz.prog Tryz.lays157_ren := {
 mixed := by kernel_rfl
 f157 := Tryz.func41.trans (congrArg some (by kernel_rfl))
 f199 := Tryz.func89.trans (congrArg some (by kernel_rfl))
 f229 := Tryz.func88.trans (congrArg some (by kernel_rfl))
 f261 := Tryz.func148.trans (congrArg some (by kernel_rfl))
 f311 := Tryz.func200.trans (congrArg some (by kernel_rfl))
 f312 := Tryz.func201.trans (congrArg some (by kernel_rfl))
 t0 := Tryz.underlying0
 a0 := Tryz.isAgg0
 z0 := Tryz.sizeOf0
 v0 := Tryz.zeroValue0
 t3 := Tryz.underlying3
 a3 := Tryz.isAgg3
 z3 := Tryz.sizeOf3
 v3 := Tryz.zeroValue3
 t4 := Tryz.underlying4
 a4 := Tryz.isAgg4
 z4 := Tryz.sizeOf4
 v4 := Tryz.zeroValue4
 t5 := Tryz.underlying5
 a5 := Tryz.isAgg5
 z5 := Tryz.sizeOf5
 v5 := Tryz.zeroValue5
 t9 := Tryz.underlying9
 a9 := Tryz.isAgg9
 z9 := Tryz.sizeOf9
 v9 := Tryz.zeroValue9
 t21 := Tryz.underlying21
 a21 := Tryz.isAgg21
 z21 := Tryz.sizeOf21
 v21 := Tryz.zeroValue21
 t31 := Tryz.underlying25
 a31 := Tryz.isAgg25
 z31 := Tryz.sizeOf25
 v31 := Tryz.zeroValue25
 t40 := Tryz.underlying109
 a40 := Tryz.isAgg109
 z40 := Tryz.sizeOf109
 v40 := Tryz.zeroValue109
 t46 := Tryz.underlying190
 a46 := Tryz.isAgg190
 z46 := Tryz.sizeOf190
 v46 := Tryz.zeroValue190
 t49 := Tryz.underlying314
 a49 := Tryz.isAgg314
 z49 := Tryz.sizeOf314
 v49 := Tryz.zeroValue314
 t51 := Tryz.underlying189
 a51 := Tryz.isAgg189
 z51 := Tryz.sizeOf189
 v51 := Tryz.zeroValue189
 t119 := Tryz.underlying180
 a119 := Tryz.isAgg180
 z119 := Tryz.sizeOf180
 t141 := Tryz.underlying264
 a141 := Tryz.isAgg264
 z141 := Tryz.sizeOf264
 v141 := Tryz.zeroValue264
 t152 := Tryz.underlying260
 a152 := Tryz.isAgg260
 z152 := Tryz.sizeOf260
 v152 := Tryz.zeroValue260
 t154 := Tryz.underlying262
 a154 := Tryz.isAgg262
 z154 := Tryz.sizeOf262
 v154 := Tryz.zeroValue262
 t193 := Tryz.underlying310
 a193 := Tryz.isAgg310
 z193 := Tryz.sizeOf310
 v193 := Tryz.zeroValue310
 t194 := Tryz.underlying311
 a194 := Tryz.isAgg311
 z194 := Tryz.sizeOf311
 v194 := Tryz.zeroValue311
 t196 := Tryz.underlying313
 a196 := Tryz.isAgg313
 z196 := Tryz.sizeOf313
 v196 := Tryz.zeroValue313
 t198 := Tryz.underlying316
 a198 := Tryz.isAgg316
 z198 := Tryz.sizeOf316
 v198 := Tryz.zeroValue316
 t201 := Tryz.underlying319
 a201 := Tryz.isAgg319
 z201 := Tryz.sizeOf319
 v201 := Tryz.zeroValue319
 t226 := Tryz.underlying354
 a226 := Tryz.isAgg354
 z226 := Tryz.sizeOf354
 v226 := Tryz.zeroValue354
 t227 := Tryz.underlying355
 a227 := Tryz.isAgg355
 z227 := Tryz.sizeOf355
 v227 := Tryz.zeroValue355
 g0 := by kernel_rfl
 g6 := by kernel_rfl }
open Go.RowKit Go.Lib in
theorem Tryz.strings_Fields (s : ByteArray) (w : World) (hs : s.size < 4294967281) (hascii : ∀ (j : Nat) b, s.data.toList[j]? = some b → b.toNat < 128) (htab : Lib.TabIs Tryz.prog w "strings.asciiSpace" .u8 Lib.asciiSpaceTab) :
  Calls Tryz.prog 41 #[.string s] w fun e w' =>
   e = .returned (.slice (some ⟨w.heap.size, 0, none⟩) (Lib.fields s.data.toList).length (Lib.fields s.data.toList).length) ∧ w' = w.alloc (.cells ((Lib.fields s.data.toList).map fun l => Value.string ⟨l.toArray⟩).toArray 9) := Any.strings_Fields Tryz.lays157 (by kernel_rfl) (by kernel_rfl) s w hs hascii htab
def Tryz.laysM157_ren : Go.Shelf.Ren := ⟨fun | 157 => 41 | 229 => 88 | 199 => 89 | 261 => 148 | 311 => 200 | 312 => 201 | n => n, fun | 9 => 9 | 31 => 25 | 3 => 3 | 5 => 5 | 4 => 4 | 119 => 180 | 0 => 0 | 40 => 109 | 152 => 260 | 21 => 21 | 154 => 262 | 51 => 189 | 141 => 264 | 196 => 313 | 193 => 310 | 198 => 316 | 49 => 314 | 194 => 311 | 201 => 319 | 226 => 354 | 46 => 190 | 227 => 355 | n => n, fun | 0 => 0 | 6 => 1 | n => n⟩
theorem Tryz.laysM157 : Go.Proofs.LaysM.n157 Tryz.prog Tryz.laysM157_ren := {
 mixed := by kernel_rfl
 f157 := Tryz.func41.trans (congrArg some (by kernel_rfl))
 f199 := Tryz.func89.trans (congrArg some (by kernel_rfl))
 f229 := Tryz.func88.trans (congrArg some (by kernel_rfl))
 f261 := Tryz.func148.trans (congrArg some (by kernel_rfl))
 f311 := Tryz.func200.trans (congrArg some (by kernel_rfl))
 f312 := Tryz.func201.trans (congrArg some (by kernel_rfl))
 t0 := Tryz.underlying0
 a0 := Tryz.isAgg0
 z0 := Tryz.sizeOf0
 v0 := Tryz.zeroValue0
 t3 := Tryz.underlying3
 a3 := Tryz.isAgg3
 z3 := Tryz.sizeOf3
 v3 := Tryz.zeroValue3
 t4 := Tryz.underlying4
 a4 := Tryz.isAgg4
 z4 := Tryz.sizeOf4
 v4 := Tryz.zeroValue4
 t5 := Tryz.underlying5
 a5 := Tryz.isAgg5
 z5 := Tryz.sizeOf5
 v5 := Tryz.zeroValue5
 t9 := Tryz.underlying9
 a9 := Tryz.isAgg9
 z9 := Tryz.sizeOf9
 v9 := Tryz.zeroValue9
 t21 := Tryz.underlying21
 a21 := Tryz.isAgg21
 z21 := Tryz.sizeOf21
 v21 := Tryz.zeroValue21
 t31 := Tryz.underlying25
 a31 := Tryz.isAgg25
 z31 := Tryz.sizeOf25
 v31 := Tryz.zeroValue25
 t40 := Tryz.underlying109
 a40 := Tryz.isAgg109
 z40 := Tryz.sizeOf109
 v40 := Tryz.zeroValue109
 t46 := Tryz.underlying190
 a46 := Tryz.isAgg190
 z46 := Tryz.sizeOf190
 v46 := Tryz.zeroValue190
 t49 := Tryz.underlying314
 a49 := Tryz.isAgg314
 z49 := Tryz.sizeOf314
 v49 := Tryz.zeroValue314
 t51 := Tryz.underlying189
 a51 := Tryz.isAgg189
 z51 := Tryz.sizeOf189
 v51 := Tryz.zeroValue189
 t119 := Tryz.underlying180
 a119 := Tryz.isAgg180
 z119 := Tryz.sizeOf180
 t141 := Tryz.underlying264
 a141 := Tryz.isAgg264
 z141 := Tryz.sizeOf264
 v141 := Tryz.zeroValue264
 t152 := Tryz.underlying260
 a152 := Tryz.isAgg260
 z152 := Tryz.sizeOf260
 v152 := Tryz.zeroValue260
 t154 := Tryz.underlying262
 a154 := Tryz.isAgg262
 z154 := Tryz.sizeOf262
 v154 := Tryz.zeroValue262
 t193 := Tryz.underlying310
 a193 := Tryz.isAgg310
 z193 := Tryz.sizeOf310
 v193 := Tryz.zeroValue310
 t194 := Tryz.underlying311
 a194 := Tryz.isAgg311
 z194 := Tryz.sizeOf311
 v194 := Tryz.zeroValue311
 t196 := Tryz.underlying313
 a196 := Tryz.isAgg313
 z196 := Tryz.sizeOf313
 v196 := Tryz.zeroValue313
 t198 := Tryz.underlying316
 a198 := Tryz.isAgg316
 z198 := Tryz.sizeOf316
 v198 := Tryz.zeroValue316
 t201 := Tryz.underlying319
 a201 := Tryz.isAgg319
 z201 := Tryz.sizeOf319
 v201 := Tryz.zeroValue319
 t226 := Tryz.underlying354
 a226 := Tryz.isAgg354
 z226 := Tryz.sizeOf354
 v226 := Tryz.zeroValue354
 t227 := Tryz.underlying355
 a227 := Tryz.isAgg355
 z227 := Tryz.sizeOf355
 v227 := Tryz.zeroValue355
 g0 := by kernel_rfl
 g6 := by kernel_rfl
 i0 := by kernel_rfl
 i3 := by kernel_rfl
 i4 := by kernel_rfl
 i5 := by kernel_rfl
 i9 := by kernel_rfl
 i21 := by kernel_rfl
 i31 := by kernel_rfl
 i40 := by kernel_rfl
 i46 := by kernel_rfl
 i49 := by kernel_rfl
 i51 := by kernel_rfl
 i141 := by kernel_rfl
 i152 := by kernel_rfl
 i154 := by kernel_rfl
 i193 := by kernel_rfl
 i194 := by kernel_rfl
 i196 := by kernel_rfl
 i198 := by kernel_rfl
 i201 := by kernel_rfl
 i226 := by kernel_rfl
 i227 := by kernel_rfl
 m0 := by kernel_rfl
 m6 := by kernel_rfl }
open Go.RowKit Go.Lib in
theorem Tryz.strings_Fields_laid (s : ByteArray) (w : World) (hs : s.size < 4294967281) (hascii : ∀ (j : Nat) b, s.data.toList[j]? = some b → b.toNat < 128) (htab : Lib.TabIs Tryz.prog w "strings.asciiSpace" .u8 Lib.asciiSpaceTab) :
  Calls Tryz.prog 41 #[.string s] w fun e w' =>
   e = .returned (.slice (some ⟨w.heap.size, 0, none⟩) (Lib.fields s.data.toList).length (Lib.fields s.data.toList).length) ∧ w' = w.alloc (.cells ((Lib.fields s.data.toList).map fun l => Value.string ⟨l.toArray⟩).toArray 9) := Any.strings_Fields_laid Tryz.laysM157 s w hs hascii htab
def Tryz.lays109_ren : Go.Shelf.Ren := ⟨fun | 109 => 95 | n => n, fun | 31 => 25 | 9 => 9 | 3 => 3 | 0 => 0 | 4 => 4 | n => n, fun | n => n⟩
theorem Tryz.lays109 : Go.Proofs.Lays.n109 Tryz.prog Tryz.lays109_ren := {
 mixed := by kernel_rfl
 f109 := Tryz.func95.trans (congrArg some (by kernel_rfl))
 t0 := Tryz.underlying0
 a0 := Tryz.isAgg0
 z0 := Tryz.sizeOf0
 v0 := Tryz.zeroValue0
 t3 := Tryz.underlying3
 a3 := Tryz.isAgg3
 z3 := Tryz.sizeOf3
 v3 := Tryz.zeroValue3
 t4 := Tryz.underlying4
 a4 := Tryz.isAgg4
 z4 := Tryz.sizeOf4
 v4 := Tryz.zeroValue4
 t9 := Tryz.underlying9
 a9 := Tryz.isAgg9
 z9 := Tryz.sizeOf9
 v9 := Tryz.zeroValue9
 t31 := Tryz.underlying25
 a31 := Tryz.isAgg25
 z31 := Tryz.sizeOf25
 v31 := Tryz.zeroValue25 }
open Go.Lib in
theorem Tryz.slices_Index_string (b off n c : Nat) (zs : List ByteArray) (x : ByteArray) (w : World) (hz : n ≤ zs.length) (hbig : n ≤ 9223372036854775807) (hc : ∀ j, j < zs.length → w.cell? ⟨b, off + j, none⟩ = some (.string (zs.getD j ByteArray.empty))) :
  Calls Tryz.prog 95 #[.slice (some ⟨b, off, none⟩) n c, .string x] w fun e w' => e = .returned (.int .i64 (Lib.idxOfS (zs.take n) x)) ∧ w' = w := Any.slices_Index_string Tryz.lays109 b off n c zs x w hz hbig hc
open Go.Lib in
theorem Tryz.slices_Index_string_empty (a : Option Addr) (c : Nat) (x : ByteArray) (w : World) :
  Calls Tryz.prog 95 #[.slice a 0 c, .string x] w fun e w' => e = .returned (.int .i64 (Lib.idxOfS [] x)) ∧ w' = w := Any.slices_Index_string_empty Tryz.lays109 a c x w
end Go.Proofs
end

section
namespace Go.Abs
open Go.RowKit Go.Proofs
set_option maxRecDepth 20000
theorem mixedT : Tryz.prog.follows .mixedOrders = true := by kernel_rfl
theorem namesT : Tryz.prog.funcs.all (fun fn => !(fn.name == "runtime.NumGoroutine")) = true := by kernel_rfl
theorem hasT (f : Nat) (h : hasBody Tryz.prog f = true) : Enters Tryz.prog f := entersB namesT h
theorem strings_Split_ok (m : Tp) (s sep : List UInt8) {r : List Bz} (h : strings_Split s sep r) : ASpec Tryz.prog (gtT m) 39 [.pd (.str s), .pd (.str sep)] (· = .pd (.sl (r.map PD.str))) := by
 obtain ⟨hs, c, rfl, rfl⟩ := h
 refine strs_spec fun cx w vs hA hG => ?_
 obtain ⟨v0, h0, r0⟩ := args_at hA 0 rfl
 obtain ⟨v1, h1, r1⟩ := args_at hA 1 rfl
 rw [str_inv r0] at h0; rw [str_inv r1] at h1
 rw [vs2 hA.1 h0 h1]
 have hm := glob_int (g := 2) (k := .i64) (m := m.1) hG rfl
 have hk := Tryz.strings_Split ⟨s.toArray⟩ ⟨[c].toArray⟩ m.1 w hs hm (Nat.le_refl _)
 have e1 : Lib.countB ⟨s.toArray⟩ ⟨[c].toArray⟩ = s.count c := Lib.count_one c s
 have e2 := Lib.splitB_data ⟨[c].toArray⟩ 0 (s.count c) ⟨s.toArray⟩
 have e3 : (Lib.splitB ⟨[c].toArray⟩ 0 (s.count c) ⟨s.toArray⟩).map (·.data.toList) = splitC c s := by rw [e2]; exact split_one c s
 have e4 := Lib.splitB_all ⟨[c].toArray⟩ (Nat.le_refl _) 0 (s.count c) ⟨s.toArray⟩ e1
 have e5 : (splitC c s).length = s.count c + 1 := by rw [← e3, List.length_map, e4]
 have e6 : (splitC c s).map (fun l => Value.string ⟨l.toArray⟩) = (Lib.splitB ⟨[c].toArray⟩ 0 (s.count c) ⟨s.toArray⟩).map Value.string := by
  rw [← e3, List.map_map]
  refine List.map_congr_left fun x _ => ?_
  simp
 rw [e1] at hk
 exact ⟨9, by rw [e5, e6]; exact hk⟩
theorem strings_Cut_ok (m : Tp) (s sep : List UInt8) {r : List UInt8 × List UInt8 × Bool} (h : strings_Cut s sep r) : ASpec Tryz.prog (gtT m) 40 [.pd (.str s), .pd (.str sep)] (· = .tup [.pd (.str r.1), .pd (.str r.2.1), .pd (.bool r.2.2)]) := by
 obtain ⟨hs, c, rfl, rfl⟩ := h
 refine ASpec.of_calls _ (by simp [AV.pure]) fun cx w vs hA hG hlt => ?_
 obtain ⟨v0, h0, r0⟩ := args_at hA 0 rfl
 obtain ⟨v1, h1, r1⟩ := args_at hA 1 rfl
 rw [str_inv r0] at h0; rw [str_inv r1] at h1
 rw [vs2 hA.1 h0 h1]
 have hm := glob_int (g := 2) (k := .i64) (m := m.1) hG rfl
 refine (Tryz.strings_Cut ⟨s.toArray⟩ ⟨[c].toArray⟩ m.1 w hs hm).mono ?_
 rintro e w' ⟨rfl, n, rfl⟩
 refine ⟨_, rfl, below_drewN _, .tup _ _ rfl fun i v x q1 q2 => ?_⟩
 match i with
 | 0 => simp at q1 q2; subst q1; subst q2; exact .pd _ _ (.str _)
 | 1 => simp at q1 q2; subst q1; subst q2; exact .pd _ _ (.str _)
 | 2 => simp at q1 q2; subst q1; subst q2; exact .pd _ _ (.bool _)
 | i + 3 => simp at q1
theorem strings_Fields_ok (m : Tp) (s : List UInt8) {r : List Bz} (h : strings_Fields s r) : ASpec Tryz.prog (gtT m) 41 [.pd (.str s)] (· = .pd (.sl (r.map PD.str))) := by
 obtain ⟨hs, ha, rfl⟩ := h
 refine strs_spec fun cx w vs hA hG => ?_
 obtain ⟨v0, h0, r0⟩ := args_at hA 0 rfl
 rw [str_inv r0] at h0
 rw [vs1 hA.1 h0]
 exact ⟨9, Tryz.strings_Fields_laid ⟨s.toArray⟩ w hs (fun j b hb => ha b (List.mem_of_getElem? hb)) (glob_tab (g := 0) hG rfl (by kernel_rfl))⟩
theorem strings_Join_ok (m : Tp) (l : List Bz) (sep : List UInt8) {r : List UInt8} (h : strings_Join l sep r) : ASpec Tryz.prog (gtT m) 85 [.pd (.sl (l.map PD.str)), .pd (.str sep)] (· = .pd (.str r)) := by
 obtain ⟨hn, hj, rfl⟩ := h
 refine str_spec fun cx w vs hA hG hlt => ?_
 obtain ⟨v0, h0, r0⟩ := args_at hA 0 rfl
 obtain ⟨v1, h1, r1⟩ := args_at hA 1 rfl
 rw [str_inv r1] at h1
 have hp : PRep cx.imm w v0 (.sl (l.map PD.str)) := by cases r0 with | pd v x h => exact h
 rcases strs_inv hp with ⟨rfl, rfl⟩ | ⟨a, cap, rfl, hcap, hI, hc⟩
 ·rw [vs2 hA.1 h0 h1]
  refine (Tryz.strings_Join_none none 0 ⟨sep.toArray⟩ w).mono ?_
  rintro e w' ⟨rfl, rfl⟩
  exact ⟨rfl, Below.refl _ _⟩
 ·rw [vs2 hA.1 h0 h1]
  cases l with
  | nil =>
   refine (Tryz.strings_Join_none (some a) cap ⟨sep.toArray⟩ w).mono ?_
   rintro e w' ⟨rfl, rfl⟩
   exact ⟨rfl, Below.refl _ _⟩
  | cons x t =>
   obtain ⟨hsp, hIa⟩ := hI (by simp)
   have ea : a = ⟨a.block, a.off, none⟩ := by cases a; simp at hsp; subst hsp; rfl
   have e1 : ((x :: t).map fun s => (⟨s.toArray⟩ : ByteArray)).map (·.data.toList) = x :: t := by rw [List.map_map]; simp [Function.comp_def]
   have := Tryz.strings_Join a.block a.off cap ((x :: t).map fun s => ⟨s.toArray⟩) ⟨sep.toArray⟩ w (fun j b hb => ?_) (hlt _ hIa) (by simpa using hn) (by simpa using hcap) (by rw [e1]; exact hj)
   ·rw [e1, List.length_map] at this
    rw [ea]; exact this
   ·simp only [List.getElem?_map, Option.map_eq_some_iff] at hb
    obtain ⟨s, hs, rfl⟩ := hb
    exact hc j s hs
end Go.Abs
end

section
namespace Go.Proofs.YthkcibhfbcfhlaaGreatDoor.RT
open Go.ChangeShapes Go.WideShapes Go.ChangeAt Go.RowKit Go.Abs
set_option maxRecDepth 20000
theorem own : ownKnob Tryz.prog.godebug = none := by kernel_rfl
theorem gA : Tryz.prog.globalNamed "strings.asciiSpace" = some 0 := by kernel_rfl
noncomputable abbrev L : List (String × DataW Unit) := Rows.driveChecksRow.laid
theorem tabs {W : World} (h : laidMetH Tryz.prog L W) (hsh : W.ShapedOpen Tryz.prog) : ∃ m, GRep (gtT m) (ctx0 W) W := by
 have h : laidMet Tryz.prog L W := h
 have tA : Lib.TabIs Tryz.prog W "strings.asciiSpace" .u8 Lib.asciiSpaceTab := by
  exact Lib.tabIs_of_head (rest := [("unicode/utf8.first", Rows.laid_unicode_utf8_first)]) gA (t := 180) (by kernel_rfl) Tryz.underlying180 Tryz.underlying5 (by kernel_rfl) (by kernel_rfl) (laid_tail (x := ("unicode.White_Space", Rows.laid_unicode_White_Space)) (laid_tail (x := ("unicode/utf8.acceptRanges", Rows.laid_unicode_utf8_acceptRanges)) (laid_tail (x := ("internal/strconv.uint64pow10", Rows.laid_internal_strconv_uint64pow10)) (laid_tail (x := ("math/bits.deBruijn64tab", Rows.laid_math_bits_deBruijn64tab)) (laid_tail (x := ("math/bits.deBruijn32tab", Rows.laid_math_bits_deBruijn32tab)) h)))))
 obtain ⟨m, hm⟩ : ∃ m, W.cell? ⟨2, 0, none⟩ = some (.int .i64 m) := Tryz.laysM145.s1_3 W hsh
 obtain ⟨cs, hh, hs, hr⟩ := hsh.1 2 #[.int .i64 0] 3 (of_decide_eq_true (by kernel_rfl)) (by kernel_rfl)
 refine ⟨(m, ()), ?_⟩
 intro g l hg
 unfold gtT at hg
 split at hg
 ·cases hg; exact rd_of_tab tA gA (by decide)
 ·cases hg
  have hb : ∃ cs e z, W.heap[2]? = some (.cells cs e z) ∧ cs.size = 1 := ⟨cs, 3, _, hh, hs⟩
  have hlt : 2 < W.heap.size := by
   obtain ⟨_, _, _, h1, _⟩ := hb
   exact (Array.getElem?_eq_some_iff.1 h1).1
  refine ⟨.rd _ _ (fun _ => .int .i64 m) rfl (fun _ => hlt) (fun j hj => ?_) (fun j y hy => ?_), hlt, hb⟩
  ·obtain rfl : j = 0 := by simpa using hj
   exact hm
  ·cases j with
   | zero => simp at hy; subst hy; exact .int _ _
   | succ j => simp at hy
 ·cases hg
noncomputable def start10 (os : Os) : World := World.laidAll Tryz.prog os L
theorem laid_met (os : Os) (args : Array Value) : laidMetH Tryz.prog L ((start10 os).forCall (fun _ _ => 0) ⟨#[], args, []⟩).memory := by
 rw [MakeChecks.laidMetH_plain _ _ _ (by kernel_rfl)]
 exact laidMet_laidAll _ (by kernel_rfl) (by kernel_rfl)
theorem str_rep {c : Ctx} {M : Mem} {w : World} (a : ByteArray) : ARep c M w (.string a) (.pd (.str a.data.toList)) := .pd _ _ (show PRep c.imm w (.string ⟨a.data.toList.toArray⟩) (.str a.data.toList) from .str a.data.toList)
end Go.Proofs.YthkcibhfbcfhlaaGreatDoor.RT
end

section
namespace Go.Abs
open Go.ChangeShapes Go.WideShapes Go.Deep
inductive TS where
 | int (k : IntKind)
 | bool
 | str
 | sl (agg : Bool) (ls : List TS)
def elemP (agg : Bool) (xs : List PD) : PD := if agg then .agg xs else xs.headD (.bool false)
inductive Sh : TS → PD → Prop
 | int (k : IntKind) (z : Int) (h : (Lit.int k z).wf = true) : Sh (.int k) (.int k z)
 | bool (b : Bool) : Sh .bool (.bool b)
 | str (s : List UInt8) (h : s.length ≤ maxLen) : Sh .str (.str s)
 | sl (agg : Bool) (ls : List TS) (xss : List (List PD)) (hm : xss.length ≤ maxLen) (hn : ∀ xs, xs ∈ xss → xs.length = ls.length)
   (h : ∀ (i j : Nat) (xs : List PD) (u : TS) (z : PD), xss[i]? = some xs → ls[j]? = some u → xs[j]? = some z → Sh u z) : Sh (.sl agg ls) (.sl (xss.map (elemP agg)))
variable {H : Type} {enc : TypeId × Value → H} {P : Program} {w : World} {sp : Nat → Bool} {held : Bool}
abbrev Iw (w : World) : Nat → Prop := (ctx0 w).imm
def CellsSh (w : World) (ls : List TS) (cs : List Value) : Prop := cs.length = ls.length ∧ ∀ (i : Nat) (u : TS) (v : Value), ls[i]? = some u → cs[i]? = some v → ∃ y, Sh u y ∧ PRep (Iw w) w v y
theorem CellsSh.one {u : TS} {v : Value} {y : PD} (h1 : Sh u y) (h2 : PRep (Iw w) w v y) : CellsSh w [u] [v] := by
 refine ⟨rfl, fun i u' v' q1 q2 => ?_⟩
 cases i with
 | zero => simp at q1 q2; subst q1; subst q2; exact ⟨y, h1, h2⟩
 | succ i => simp at q1
end Go.Abs
end

section
namespace Go.Abs
open Go.RowKit Go.Proofs
variable {P : Program} {GT : Tabs} {Q : Exit → S → Prop} {w : W}
def VStep (M M1 : Mem) : Prop := ∀ (B : Nat) (I0 : Nat → Prop) (c : Ctx) (w : World), Sim B I0 c M w → Sim B I0 c M1 w ∧ Ext c M c M1
theorem VStep.new (M : Mem) (sz : Nat) : VStep M (M ++ [.vrow sz 0]) := fun _ _ _ _ h => h.pushV sz 0
theorem PartsRep.mono {B : Nat} {c c' : Ctx} {M M' : Mem} {u u' : World} (he : Ext c M c' M') (hs : Stp B c u c' u') : ∀ {vs : List (Nat × Value)} {xs : List (Nat × AV)}, PartsRep c M u vs xs → PartsRep c' M' u' vs xs
 | [], [], _ => trivial
 | (i, v) :: vs, (j, x) :: xs, ⟨h1, h2, h3⟩ => ⟨h1, h2.mono he hs, PartsRep.mono he hs h3⟩
 | [], _ :: _, h => h.elim
 | _ :: _, [], h => h.elim
theorem zLeaf_nil {y : Value} (h : zLeaf y = some (.fixed [])) : y = .slice none 0 0 := by
 unfold zLeaf at h
 split at h <;> simp at h
 rfl
theorem zcell_nil {v y : Value} {z : AV} {zs : List AV} {j : Nat} (h2 : zAV v = some z) (hzs : z.cells = some zs) (hj : zs[j]? = some (.fixed [])) (hy : v.cells[j]? = some y) : y = .slice none 0 0 := by
 by_cases hv : ∃ cs, v = .agg cs
 ·obtain ⟨cs, rfl⟩ := hv
  simp only [zAV, Option.map_eq_some_iff] at h2
  obtain ⟨l, hl, rfl⟩ := h2
  obtain ⟨h1, h2⟩ := mapM_some hl
  cases hzs
  obtain ⟨b, q1, q2⟩ := h2 j y (by simpa [Value.cells] using hy)
  rw [hj] at q1; cases q1
  exact zLeaf_nil q2
 ·have e : zAV v = zLeaf v := by cases v <;> first | rfl | (exact absurd ⟨_, rfl⟩ hv)
  rw [e] at h2
  have hz1 : z.cells = some [z] := by
   unfold zLeaf at h2
   split at h2 <;> first | (cases h2; rfl) | cases h2
  rw [hz1] at hzs
  cases hzs
  have e2 : v.cells = #[v] := by cases v <;> first | rfl | (exact absurd ⟨_, rfl⟩ hv)
  rw [e2] at hy
  cases j with
  | zero =>
   simp at hj hy
   subst hj; subst hy
   exact zLeaf_nil h2
  | succ j => simp at hj
variable {α : Type} {lv : α → List PD} {sz : Nat} {e : List α} {ver : Nat} {z : Bool} {o : Ob}
theorem RowIs.isRow (h : RowIs o lv sz e ver z) : o.isRow = true ∧ o.ver = ver := by
 rcases h with rfl | ⟨_, rfl, _⟩ <;> exact ⟨rfl, rfl⟩
theorem ok_own {M : Mem} {b n : Nat} (hM : M[b]? = some o) (hr : RowIs o lv sz e ver z) : AV.okCell M (.own b n ver) = true := by
 simp [AV.okCell, verOf, hM, hr.isRow.2]
theorem ask_storeC {M M2 : Mem} {t : TypeId} {b off v n s : Nat} {l xs : List AV} {x : AV} (hb : M[b]? = some (.cells l s v false)) (hn : szOf P t = some n) (hx : x.cells = some xs) (hl : (Nat.beq xs.length n && Nat.ble (off + n) l.length) = true) (hok : xs.all (·.okCell M) = true) (hM : M.set b (.cells (l.take off ++ xs ++ l.drop (off + n)) s v false) = M2) :
  (aStore P M t (.ptr b off v) x).map (AV.junk, ·) = some (.junk, M2) := by
 rw [Bool.and_eq_true] at hl
 have h1 := Nat.eq_of_beq_eq_true hl.1
 have h2 := Nat.le_of_ble_eq_true hl.2
 unfold aStore
 simp only [hn, hx, hb]
 rw [if_pos ⟨trivial, h1, h2, hok⟩, hM]
 rfl
theorem H_bldS0 {t : TypeId} {n : Nat} {parts : List (Nat × AV)} {M0 : Mem} (x : AV) (hv : w.view = .bld true t n parts M0) (hx : aBuildSlice P M0 t n parts = some x) (h : (w.back x M0).holds P GT Q) : w.holds P GT Q :=
 H_bld x M0 hv (fun _ _ _ _ _ hS hp => aBuildSlice_ok hS hp hx) h
inductive Fz (b len ver : Nat) (x0 : PD) : AV → AV → Prop
 | keep (x : AV) : Fz b len ver x0 x x
 | cut : Fz b len ver x0 (.own b len ver) (.pd x0)
inductive FzL (b len ver : Nat) (x0 : PD) : List AV → List AV → Prop
 | nil : FzL b len ver x0 [] []
 | cons {x y : AV} {l m : List AV} (h : Fz b len ver x0 x y) (t : FzL b len ver x0 l m) : FzL b len ver x0 (x :: l) (y :: m)
inductive FzP (b len ver : Nat) (x0 : PD) : AV → AV → Prop
 | agg {l m : List AV} (h : FzL b len ver x0 l m) : FzP b len ver x0 (.agg l) (.agg m)
 | one {x y : AV} (h : Fz b len ver x0 x y) : FzP b len ver x0 x y
inductive FzS (b len ver : Nat) (x0 : PD) : List (Nat × AV) → List (Nat × AV) → Prop
 | nil : FzS b len ver x0 [] []
 | cons {i : Nat} {x y : AV} {l m : List (Nat × AV)} (h : FzP b len ver x0 x y) (t : FzS b len ver x0 l m) : FzS b len ver x0 ((i, x) :: l) ((i, y) :: m)
theorem Fz.ok {B : Nat} {c c' : Ctx} {M M' : Mem} {u u' : World} {b len ver : Nat} {x0 : PD} {v : Value} {x y : AV} (he : Ext c M c' M') (hs : Stp B c u c' u') (hp : ∀ v, ARep c M u v (.own b len ver) → PRep c'.imm u' v x0) (hf : Fz b len ver x0 x y) (h : ARep c M u v x) : ARep c' M' u' v y := by
 cases hf with
 | keep => exact h.mono he hs
 | cut => exact .pd _ _ (hp v h)
theorem FzL.ok {b len ver : Nat} {x0 : PD} : ∀ {l m : List AV}, FzL b len ver x0 l m → l.length = m.length ∧ ∀ (i : Nat) (y : AV), m[i]? = some y → ∃ x, l[i]? = some x ∧ Fz b len ver x0 x y
 | [], _, .nil => ⟨rfl, fun i y h => by simp at h⟩
 | x :: l, _, .cons h t => by
  obtain ⟨h1, h2⟩ := t.ok
  refine ⟨by simp [h1], fun i y hy => ?_⟩
  cases i with
  | zero => simp at hy; subst hy; exact ⟨x, rfl, h⟩
  | succ i => simp at hy ⊢; exact h2 i y hy
theorem FzP.ok {B : Nat} {c c' : Ctx} {M M' : Mem} {u u' : World} {b len ver : Nat} {x0 : PD} {v : Value} {x y : AV} (he : Ext c M c' M') (hs : Stp B c u c' u') (hp : ∀ v, ARep c M u v (.own b len ver) → PRep c'.imm u' v x0) (hf : FzP b len ver x0 x y) (h : ARep c M u v x) : ARep c' M' u' v y := by
 cases hf with
 | agg hl =>
  obtain ⟨g1, g2⟩ := hl.ok
  cases h with
  | agg vs l hs' h =>
   refine .agg vs _ (by omega) fun i u y q1 q2 => ?_
   obtain ⟨x, q3, q4⟩ := g2 i y q2
   exact q4.ok he hs hp (h i u x q1 q3)
 | one h1 => exact h1.ok he hs hp h
theorem FzS.ok {B : Nat} {c c' : Ctx} {M M' : Mem} {u u' : World} {b len ver : Nat} {x0 : PD} (he : Ext c M c' M') (hs : Stp B c u c' u') (hp : ∀ v, ARep c M u v (.own b len ver) → PRep c'.imm u' v x0) : ∀ {xs ys : List (Nat × AV)} {vs : List (Nat × Value)}, FzS b len ver x0 xs ys → PartsRep c M u vs xs → PartsRep c' M' u' vs ys
 | [], _, [], .nil, _ => trivial
 | [], _, _ :: _, .nil, h => h.elim
 | (_, _) :: _, _, [], .cons _ _, h => h.elim
 | (i, x) :: xs, _, (j, v) :: vs, .cons h1 t, ⟨e, h2, h3⟩ => ⟨e, h1.ok he hs hp h2, FzS.ok he hs hp t h3⟩
theorem VStep.refl (M : Mem) : VStep M M := fun _ _ _ _ h => ⟨h, Ext.refl _ _⟩
theorem VStep.trans {M M1 M2 : Mem} (h : VStep M M1) (k : VStep M1 M2) : VStep M M2 := fun B I0 c w hS => by
 obtain ⟨h1, h2⟩ := h B I0 c w hS
 obtain ⟨h3, h4⟩ := k B I0 c w h1
 exact ⟨h3, h2.trans h4⟩
theorem VStep.to {M M1 M2 : Mem} (h : VStep M M1) (e : M1 = M2) : VStep M M2 := e ▸ h
def vset (M : Mem) : List (Nat × Option Nat) → List AV → Option (List AV)
 | [], zs => some zs
 | (j, none) :: r, zs =>
  match zs[j]? with
  | some (.fixed []) => vset M r (zs.set j (.pd (.sl [])))
  | _ => none
 | (j, some b) :: r, zs =>
  match zs[j]?, M[b]? with
  | some (.fixed []), some (.vrow _ ver') => vset M r (zs.set j (.own b 0 ver'))
  | _, _ => none
theorem vset_ok {c : Ctx} {M : Mem} {u : World} {cs : Array Value} : ∀ {L : List (Nat × Option Nat)} {zs zs' : List AV}, Cells c M u cs zs → (∀ (j : Nat) (y : Value), zs[j]? = some (.fixed []) → cs[j]? = some y → y = .slice none 0 0) → vset M L zs = some zs' → Cells c M u cs zs'
 | [], zs, zs', h, _, he => by cases he; exact h
 | (j, none) :: r, zs, zs', h, hn, he => by
  unfold vset at he
  split at he
  ·rename_i hj
   refine vset_ok ⟨by simpa using h.1, fun i y z' q1 q2 => ?_⟩ (fun i y q1 q2 => ?_) he
   ·by_cases e : i = j
    ·subst e
     rw [List.getElem?_set_self (List.getElem?_eq_some_iff.1 hj).1] at q2
     cases q2
     have hnil := hn _ _ hj q1
     subst hnil
     exact .pd _ _ .nil
    ·rw [List.getElem?_set_ne (fun e' => e e'.symm)] at q2
     exact h.2 i y z' q1 q2
   ·by_cases e : i = j
    ·subst e
     rw [List.getElem?_set_self (List.getElem?_eq_some_iff.1 hj).1] at q1
     cases q1
    ·rw [List.getElem?_set_ne (fun e' => e e'.symm)] at q1
     exact hn i y q1 q2
  ·cases he
 | (j, some b) :: r, zs, zs', h, hn, he => by
  unfold vset at he
  split at he
  ·rename_i sz ver' hj hb
   refine vset_ok ⟨by simpa using h.1, fun i y z' q1 q2 => ?_⟩ (fun i y q1 q2 => ?_) he
   ·by_cases e : i = j
    ·subst e
     rw [List.getElem?_set_self (List.getElem?_eq_some_iff.1 hj).1] at q2
     cases q2
     have hnil := hn _ _ hj q1
     subst hnil
     exact .own _ _ _ _ (List.getElem?_eq_some_iff.1 hb).1 (by simp [verOf, hb, Ob.ver]) fun _ => .inr ⟨sz, hb, rfl, rfl⟩
    ·rw [List.getElem?_set_ne (fun e' => e e'.symm)] at q2
     exact h.2 i y z' q1 q2
   ·by_cases e : i = j
    ·subst e
     rw [List.getElem?_set_self (List.getElem?_eq_some_iff.1 hj).1] at q1
     cases q1
    ·rw [List.getElem?_set_ne (fun e' => e e'.symm)] at q1
     exact hn i y q1 q2
  ·cases he
def zcells (P : Program) (t : TypeId) (L : List (Nat × Option Nat)) (M : Mem) : Option (List AV) :=
 ((zeroOf P t).bind AV.cells).bind fun zs => if zs.all (·.okCell M) then vset M L zs else none
theorem zcells_ok {t : TypeId} {L : List (Nat × Option Nat)} {M : Mem} {zs' : List AV} (h : zcells P t L M = some zs') (c : Ctx) (u : World) : ∃ v, (zeroValue t).run P u = .ok v u ∧ Cells c M u v.cells zs' := by
 unfold zcells at h
 rw [Option.bind_eq_some_iff] at h
 obtain ⟨zs, h, h'⟩ := h
 rw [Option.bind_eq_some_iff] at h
 obtain ⟨z, hz, hzs⟩ := h
 obtain ⟨v, h1, h2⟩ := zeroOf_ok hz u
 have h3 := (zAV_ok (c := c) (M := M) (w := u) h2).1
 split at h'
 ·rename_i hok
  exact ⟨v, h1, vset_ok (h3.cells hzs hok) (fun j y hj hy => zcell_nil h2 hzs hj hy) h'⟩
 ·cases h'
def bldVs (P : Program) (t : TypeId) (L : List (Nat × Option Nat)) (M : Mem) (parts : List (Nat × AV)) : Option AV :=
 match zcells P t L M, P.underlying t with
 | some zs, some (.struct fs) => (placesOf P fs).bind fun pl => (afill M (pl.toArray[·]?) zs parts).map .agg
 | _, _ => none
theorem bldVs_ok {t : TypeId} {L : List (Nat × Option Nat)} {M M1 : Mem} {parts : List (Nat × AV)} {x : AV} (hv : VStep M M1) (h : bldVs P t L M1 parts = some x) : BldOK P false t 0 parts M x M1 := by
 intro B I0 c u ps hS0 hp0
 obtain ⟨hS, hE⟩ := hv B I0 c u hS0
 have hp := PartsRep.mono hE (Stp.refl B c u) hp0
 unfold bldVs at h
 split at h
 ·rename_i zs fs hz hu
  rw [Option.bind_eq_some_iff] at h
  obtain ⟨pl, hpl, h⟩ := h
  rw [Option.map_eq_some_iff] at h
  obtain ⟨l', hl', rfl⟩ := h
  obtain ⟨v, h1, hc'⟩ := zcells_ok hz c u
  obtain ⟨cs', g1, g2⟩ := afill_ok (place := (pl.toArray[·]?)) hp hc' hl'
  refine ⟨.agg cs', u, c, run_build u t ps cs' ?_, .agg _ _ g2.1 g2.2, hS, hE, Stp.refl _ _ _⟩
  obtain ⟨i, hi, hiz⟩ := zeroVal h1
  have hpl' : fs.toList.mapM (fun f => (P.info? f.type).map fun i => (f.offset, i.size)) = some pl := by
   rw [← hpl]; unfold placesOf; congr 1; funext f; simp only [szOf, Option.map_map]; rfl
  simp only [Program.built, hi, hu, hiz, hpl', g1]
 ·cases h
theorem H_bldL {t : TypeId} {parts : List (Nat × AV)} {M0 M1 : Mem} (L : List (Nat × Option Nat)) (x : AV) (hv : w.view = .bld false t 0 parts M0) (hs : VStep M0 M1) (hx : bldVs P t L M1 parts = some x) (h : (w.back x M1).holds P GT Q) : w.holds P GT Q :=
 H_bld x M1 hv (bldVs_ok hs hx) h
theorem allocL_ok {t : TypeId} {L : List (Nat × Option Nat)} {M M1 M2 : Mem} {zs : List AV} (hv : VStep M M1) (h : zcells P t L M1 = some zs) (hM : M1 ++ [.cells zs 1 0 false] = M2) : BldOK P false t 1 [] M (.ptr M1.length 0 0) M2 := by
 subst hM
 intro B I0 c u ps hS0 _
 obtain ⟨hS, hE⟩ := hv B I0 c u hS0
 obtain ⟨v, h1, hc⟩ := zcells_ok h c u
 obtain ⟨g1, g2, g3, g4, g5, g6⟩ := newRow_ok hS t v.cells zs 1 (by have := hc.1; omega) (fun j x hj => by
  have hjl : j < v.cells.size := by have := (List.getElem?_eq_some_iff.1 hj).1; have := hc.1; omega
  exact ⟨v.cells[j], Array.getElem?_eq_getElem hjl, hc.2 j _ x (Array.getElem?_eq_getElem hjl) hj⟩)
 refine ⟨.pointer (some ⟨(c.push M1 u.heap.size v.cells.size).blk M1.length, 0, none⟩), _, _, ?_, ?_, g1, hE.trans g2, g3⟩
 ·rw [g4]; simp [bldSem, Instr.alloc, h1, newVar, newRow]
 ·exact .ptr _ _ _ _ (by simp) (Nat.zero_le _) (fun _ => rfl)
theorem H_allocL {t : TypeId} {M0 M1 M2 : Mem} (L : List (Nat × Option Nat)) (zs : List AV) (hv : w.view = .bld false t 1 [] M0) (hs : VStep M0 M1) (hz : zcells P t L M1 = some zs) (hM : M1 ++ [.cells zs 1 0 false] = M2) (h : (w.back (.ptr M1.length 0 0) M2).holds P GT Q) : w.holds P GT Q :=
 H_bld _ M2 hv (allocL_ok hs hz hM) h
theorem ask_boxC {M M2 : Mem} {x : AV} {xs : List AV} (hx : x.cells = some xs) (hok : xs.all (·.okCell M) = true) (hM : M ++ [.cells xs 1 0 false] = M2) : aBox M x = some (.ptr M.length 0 0, M2) := by
 unfold aBox
 rw [hx]
 simp only
 rw [if_pos hok, hM]
theorem GStep.frz (M : Mem) (b : Nat) : GStep M (frz M b) := by
 intro B I0 c w hS
 unfold Abs.frz
 split
 ·rename_i l sz ver z hM
  obtain ⟨h1, h2, h3⟩ := hS.freeze hM
  exact ⟨_, h1, h2, h3⟩
 ·exact ⟨c, hS, Ext.refl _ _, Stp.refl _ _ _⟩
theorem H_dvalF {g : FuncId} {pre post args' : List AV} {M : Mem} (b len ver : Nat) {x0 : PD} (x : AV) (hv : w.view = .dcall g (pre ++ .own b len ver :: post) M) (hx : ownPD M b len ver = some x0) (hM : Abs.frz M b = M) (hk : (pre ++ .pd x0 :: post).map wk = args') (hc : ASpec P GT g args' (· = x)) (hp : args'.all pur2 = true) (he : Enters P g)
  (h : (w.back x M).holds P GT Q) : w.holds P GT Q := by
 refine H_dcall x hv (ACall.frz1 pre post b len ver hx ?_) he h
 rw [hM]
 exact (hc.atM (fun x hx => pur2_pure (List.all_eq_true.1 hp x hx)) M).wk hk
theorem H_dvalX {g : FuncId} {pre post args' : List AV} {M : Mem} (b len ver : Nat) {x0 : PD} (x : AV) (hv : w.view = .dcall g (pre ++ .own b len ver :: post) M) (hx : ownPD M b len ver = some x0) (hM : Abs.frz M b = M.set b o) (hM2 : M.set b o = M) (hk : (pre ++ .pd x0 :: post).map wk = args') (hc : ASpec P GT g args' (· = x)) (hp : args'.all pur2 = true) (he : Enters P g)
  (h : (w.back x M).holds P GT Q) : w.holds P GT Q := H_dvalF b len ver x hv hx (hM.trans hM2) hk hc hp he h
def askO (L : List Nat) (v : Bool) (O : List Nat) : Op → Bool
 | .buildSlice t _ _ => O.any (Nat.beq t)
 | o => askG L v o
def unr (P : Program) (GT : Tabs) (q : Op → Bool) (ro : Option Nat) (x : Code) (k : Exit → S → W) : Nat → S → W
 | 0, _ => .fail
 | n + 1, s => wc P GT q ro x s fun e s' => match e with | .normal => unr P GT q ro x k n s' | e => k e s'
theorem unr_run {P : Program} {GT : Tabs} {q : Op → Bool} {ro : Option Nat} {x : Code} {k : Exit → S → W} {Q : Exit → S → Prop} (hm : P.follows .mixedOrders = true) : ∀ (n : Nat) (s : S), (unr P GT q ro x k n s).holds P GT Q → LoopRun P GT ro x (fun e s' => (k e s').holds P GT Q) n s
 | 0, s, h => by
  exact (fail_holds (P := P) (GT := GT) (Q := Q) h).elim
 | n + 1, s, h => by
  unfold unr at h
  refine (wc_ok hm x s _ h).mono fun e s' hq => ?_
  cases e with
  | normal => exact unr_run hm n s' hq
  | _ => exact hq
theorem H_unroll {P : Program} {GT : Tabs} {Q : Exit → S → Prop} {w : W} (n : Nat) (hm : P.follows .mixedOrders = true) (q : Op → Bool) (hv : w.isLoop = true) (h : (unr P GT q w.lro w.lx w.go n w.stS).holds P GT Q) : w.holds P GT Q := by
 have hv' : w.view = .loop w.lro w.lx := by
  cases w <;> simp [W.isLoop] at hv
  simp [W.view, W.lro, W.lx]
 exact H_loopAW hv' (AW_loopN (unr_run hm n _ h))
attribute [irreducible] unr
theorem ask_aidx {P : Program} {t e : TypeId} {n : Nat} {M : Mem} {k : IntKind} {α : Type} (f : α → PD) (l : List α) {z : Int} {x : α} (hu : P.underlying t = some (.array n e)) (ha : aggT P e = some false) (hs : szOf P e = some 1) (hl : l.length = n) (h : Idx l z x) :
  (aIndex P t (.agg (l.map fun a => .pd (f a))) (.pd (.int k z))).map (·, M) = some (.pd (f x), M) := by
 obtain ⟨h0, hx⟩ := h
 have hlt := (List.getElem?_eq_some_iff.1 hx).1
 have hi : idx z n = some z.toNat := by simp [idx]; omega
 have e1 : aIndexA P n e (.agg (l.map fun a => .pd (f a))) z = some (.pd (f x)) := by
  unfold aIndexA
  rw [hs]
  simp only [AV.parts, hi, Option.bind_some, Nat.mul_one, aPart, ha]
  simp [hx]
 unfold aIndex
 rw [hu]
 simp only [AV.int?, e1]
 rfl
section parts
variable {P : Program} {M : Mem} {t et : TypeId} {k : IntKind} {α : Type} {lv : α → List PD} {s : Nat} {b ver : Nat} {z : Bool} {e : List α}
theorem ask_copyO {dT : TypeId} {n : Nat} {x : AV} {e2 : List α} (h1 : LVok lv s) (he : (elemT P dT).bind (szOf P) = some s) (hM : M[b]? = some (.cells (rowC lv e) s ver false)) (hn : n = e.length) (hx : Src M s x lv e2) :
  aCopy P M dT (.own b n ver) x = some (.pd (.int .i64 ((Nat.min e2.length e.length : Nat) : Int)), M.set b (.cells (rowC lv (e2.take (Nat.min e2.length e.length) ++ e.drop (Nat.min e2.length e.length))) s ver false)) := by
 subst hn
 have hx' : srcCells M s x = some (rowC lv e2, e2.length) := hx
 unfold aCopy
 simp only [he, hM, hx']
 rw [if_pos ⟨trivial, trivial, ok_row h1 e2⟩, rowC_take h1, rowC_drop h1, ← rowC_append]
theorem ls_copyO' {e e2 : List α} : e.length = (e2.take (Nat.min e2.length e.length) ++ e.drop (Nat.min e2.length e.length)).length := by
 have h1 : Nat.min e2.length e.length ≤ e.length := Nat.min_le_right ..
 have h2 : Nat.min e2.length e.length ≤ e2.length := Nat.min_le_left ..
 generalize Nat.min e2.length e.length = m at *
 rw [List.length_append, List.length_take, List.length_drop]; omega
theorem rowV_ne {lv : α → List PD} {s : Nat} {e : List α} {ver : Nat} {z : Bool} (h : e ≠ []) : rowV lv s e ver z = .cells (rowC lv e) s ver z := by
 cases e with
 | nil => exact absurd rfl h
 | cons x e => rfl
theorem ask_copyV {dT : TypeId} {n : Nat} {x : AV} {e2 : List α} (h1 : LVok lv s) (he : (elemT P dT).bind (szOf P) = some s) (hM : M[b]? = some (rowV lv s e ver false)) (hn : n = e.length) (hx : Src M s x lv e2) :
  aCopy P M dT (.own b n ver) x = some (.pd (.int .i64 ((Nat.min e2.length e.length : Nat) : Int)), M.set b (rowV lv s (e2.take (Nat.min e2.length e.length) ++ e.drop (Nat.min e2.length e.length)) ver false)) := by
 cases e with
 | nil =>
  have hx' : srcCells M s x = some (rowC lv e2, e2.length) := hx
  have hM' : M[b]? = some (.vrow s ver) := hM
  have e0 : M.set b (.vrow s ver) = M := by
   obtain ⟨hb, hv⟩ := List.getElem?_eq_some_iff.1 hM'
   rw [← hv]; exact List.set_getElem_self hb
  subst hn
  unfold aCopy
  simp only [he, hM', hx']
  rw [if_pos ⟨trivial, by rfl⟩]
  have e1 : Nat.min e2.length ([] : List α).length = 0 := Nat.min_zero _
  rw [e1]
  simp only [List.take_zero, List.drop_nil, List.append_nil]
  show some (_, M) = some (_, M.set b (.vrow s ver))
  rw [e0]; rfl
 | cons y e =>
  have hl := ls_copyO' (e := y :: e) (e2 := e2)
  rw [rowV_ne (e := e2.take (Nat.min e2.length (y :: e).length) ++ (y :: e).drop (Nat.min e2.length (y :: e).length)) (fun h => by rw [h] at hl; simp at hl)]
  exact ask_copyO h1 he hM hn hx
theorem ls_copyO {e e2 : List α} {n : Nat} (hn : n = e.length) : n = (e2.take (Nat.min e2.length e.length) ++ e.drop (Nat.min e2.length e.length)).length := by
 have h1 : Nat.min e2.length e.length ≤ e.length := Nat.min_le_right ..
 have h2 : Nat.min e2.length e.length ≤ e2.length := Nat.min_le_left ..
 generalize Nat.min e2.length e.length = m at *
 rw [List.length_append, List.length_take, List.length_drop]; omega
end parts
end Go.Abs
end
