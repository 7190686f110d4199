/- Part of a proof, in few files: RT. -/
import Derived.Test.YtdbfgnpobfbfmaaGreatDoorCards
import Derived.Test.YtdbfgnpobfbfmaaGreatDoorTie
import Derived.WalkKit
import Derived.ProofKit
import Derived.OpenShut
import Derived.Below
import Derived.Lay
import Derived.Deep.DeepHandedRow
import Derived.Deep.DeepWitnessRowRef
import Derived.Lib.LaidTab
import Derived.SliceStrings
import Derived.ChangeMaps5
import Derived.Test.YtdbfgnpobfbfmaaGreatDoorMPaK20
import Derived.Test.YtdbfgnpobfbfmaaGreatDoorMPaK26

section
namespace Go.Proofs.YtdbfgnpobfbfmaaGreatDoor.RT
open Go.ChangeShapes Go.WideShapes Go.ChangeAt Go.RowKit Go.Abs
set_option maxRecDepth 20000
theorem own : ownKnob Tryz.prog.godebug = none := by kernel_rfl
theorem gA : Tryz.prog.globalNamed "strings.asciiSpace" = some 0 := by kernel_rfl
noncomputable abbrev L : List (String × DataW Unit) := Rows.proofParsesRow.laid
theorem tabs {W : World} (h : laidMetH Tryz.prog L W) (hsh : W.ShapedOpen Tryz.prog) : ∃ m, GRep (gtT m) (ctx0 W) W := by
  have h : laidMet Tryz.prog L W := h
  have tA : Lib.TabIs Tryz.prog W "strings.asciiSpace" .u8 Lib.asciiSpaceTab := by
    exact Lib.tabIs_of_head (rest := [("unicode/utf8.first", Rows.laid_unicode_utf8_first)]) gA (t := 217) (by kernel_rfl) Tryz.underlying217 Tryz.underlying5 (by kernel_rfl) (by kernel_rfl) (laid_tail (x := ("unicode.White_Space", Rows.laid_unicode_White_Space)) (laid_tail (x := ("unicode/utf8.acceptRanges", Rows.laid_unicode_utf8_acceptRanges)) h))
  obtain ⟨m, hm⟩ : ∃ m, W.cell? ⟨2, 0, none⟩ = some (.int .i64 m) := Tryz.laysM145.s1_3 W hsh
  obtain ⟨cs, hh, hs, hr⟩ := hsh.1 2 #[.int .i64 0] 3 (of_decide_eq_true (by kernel_rfl)) (by kernel_rfl)
  refine ⟨(m, ()), ?_⟩
  intro g l hg
  unfold gtT at hg
  split at hg
  · cases hg; exact rd_of_tab tA gA (by decide)
  · cases hg
    have hb : ∃ cs e z, W.heap[2]? = some (.cells cs e z) ∧ cs.size = 1 := ⟨cs, 3, _, hh, hs⟩
    have hlt : 2 < W.heap.size := by
      obtain ⟨_, _, _, h1, _⟩ := hb
      exact (Array.getElem?_eq_some_iff.1 h1).1
    refine ⟨.rd _ _ (fun _ => .int .i64 m) rfl (fun _ => hlt) (fun j hj => ?_) (fun j y hy => ?_), hlt, hb⟩
    · obtain rfl : j = 0 := by simpa using hj
      exact hm
    · cases j with
      | zero => simp at hy; subst hy; exact .int _ _
      | succ j => simp at hy
  · cases hg
noncomputable def start10 (os : Os) : World := World.laidAll Tryz.prog os L
theorem laid_met (os : Os) (args : Array Value) : laidMetH Tryz.prog L ((start10 os).forCall (fun _ _ => 0) ⟨#[], args, []⟩).memory := by
  rw [MakeChecks.laidMetH_plain _ _ _ (by kernel_rfl)]
  exact laidMet_laidAll _ (by kernel_rfl) (by kernel_rfl)
theorem str_rep {c : Ctx} {M : Mem} {w : World} (a : ByteArray) : ARep c M w (.string a) (.pd (.str a.data.toList)) := .pd _ _ (show PRep c.imm w (.string ⟨a.data.toList.toArray⟩) (.str a.data.toList) from .str a.data.toList)
end Go.Proofs.YtdbfgnpobfbfmaaGreatDoor.RT
end
