/- Chapter 10: what a row's listed variables give the walks; the start that is shown. -/
import Derived.Test.YtlphadeogdbmmaaGreatDoorCards
import Derived.Test.YtlphadeogdbmmaaGreatDoorTie
import Derived.WalkKit
import Derived.ProofKit
import Derived.OpenShut
import Derived.Below
import Derived.Lay
import Derived.Deep.DeepHandedRow
import Derived.Deep.DeepWitnessRowRef
import Derived.Lib.LaidTab
import Derived.SliceStrings
import Derived.ChangeMaps5
import Derived.Test.YtlphadeogdbmmaaGreatDoorAbs26
import Derived.Test.YtlphadeogdbmmaaGreatDoorB10w
namespace Go.Proofs.YtlphadeogdbmmaaGreatDoor.RT
open Go.ChangeShapes Go.WideShapes Go.ChangeAt Go.RowKit Go.Abs
set_option maxRecDepth 20000

theorem own : ownKnob Tryz.prog.godebug = none := by kernel_rfl
theorem laidOut : laidOutB Tryz.prog = true := by kernel_rfl
theorem gA : Tryz.prog.globalNamed "strings.asciiSpace" = some 0 := by kernel_rfl
theorem gP : Tryz.prog.globalNamed "internal/strconv.uint64pow10" = some 3 := by kernel_rfl
theorem gS : Tryz.prog.globalNamed "strconv.ErrSyntax" = some 4 := by kernel_rfl
theorem gR : Tryz.prog.globalNamed "strconv.ErrRange" = some 5 := by kernel_rfl

/-- The list that each row of this seat bears. -/
noncomputable abbrev L : List (String × DataW Unit) := Rows.stockParsesRow.laid

theorem laid_err {P : Program} {W : World} {name ty : String} {d : DataW Unit} {rest : List (String × DataW Unit)} {g : Nat} {t : TypeId} {ms : Array (String × TypeId)} (hg : P.globalNamed name = some g) (hty : (P.globals[g]?).map (·.type) = some t) (ht : P.underlying t = some (.interface ms))
    (h : laidMet P ((name, .iface ty d) :: rest) W) : ∃ e z u v, W.heap[g]? = some (.cells #[.iface u v] e z) := by
  obtain ⟨ps, ⟨g', t', cs, fuel, p, q, hg', ht', hvar, hd, _, _⟩, _⟩ := h
  obtain rfl := Option.some.inj (hg.symm.trans hg')
  obtain rfl := Option.some.inj (hty.symm.trans ht')
  have hcs : ∃ u v, cs = #[.iface u v] := by
    cases fuel with
    | zero => simp [DataW.trod] at hd
    | succ fuel =>
      obtain ⟨l⟩ := cs
      simp only [DataW.trod, ht] at hd
      match l, hd with
      | [.iface u v], _ => exact ⟨u, v, rfl⟩
      | [.nilIface], hd => simp at hd
  obtain ⟨u, v, rfl⟩ := hcs
  unfold World.var? at hvar
  rw [hg] at hvar
  simp only [Option.bind_some] at hvar
  split at hvar
  · rename_i cs e z hb
    cases hvar
    exact ⟨e, z, u, v, hb⟩
  · cases hvar

theorem rep_err {W : World} {g : Nat} {e : TypeId} {z : Nat × Nat} {u : TypeId} {v : Value} (h : W.heap[g]? = some (.cells #[.iface u v] e z)) : ARep (ctx0 W) [] W (.pointer (some ⟨g, 0, none⟩)) (.rd [PD.err true]) ∧ (ctx0 W).imm g ∧ ∃ cs e z, W.heap[g]? = some (.cells cs e z) ∧ cs.size = [PD.err true].length := by
  have hlt : g < W.heap.size := (Array.getElem?_eq_some_iff.1 h).1
  refine ⟨.rd _ _ (fun _ => .iface u v) rfl (fun _ => hlt) (fun j hj => ?_) (fun j y hy => ?_), hlt, ⟨_, _, _, h, rfl⟩⟩
  · obtain rfl : j = 0 := by simpa using hj
    simp [World.cell?, h]
  · cases j with
    | zero => simp at hy; subst hy; exact .errS _ _
    | succ j => simp at hy

theorem tabs {W : World} (h : laidMetH Tryz.prog L W) (hsh : W.ShapedOpen Tryz.prog) : ∃ m, GRep (gtT m) (ctx0 W) W := by
  have h : laidMet Tryz.prog L W := h
  have h3 := laid_tail (x := ("math/bits.deBruijn64tab", Rows.laid_math_bits_deBruijn64tab)) (laid_tail (x := ("math/bits.deBruijn32tab", Rows.laid_math_bits_deBruijn32tab)) h)
  have h5 := laid_tail (x := ("unicode/utf8.acceptRanges", Rows.laid_unicode_utf8_acceptRanges)) (laid_tail (x := ("internal/strconv.uint64pow10", Rows.laid_internal_strconv_uint64pow10)) h3)
  have h6 := laid_tail (x := ("strconv.ErrRange", Rows.laid_strconv_ErrRange)) h5
  have h8 := laid_tail (x := ("unicode.White_Space", Rows.laid_unicode_White_Space)) (laid_tail (x := ("strconv.ErrSyntax", Rows.laid_strconv_ErrSyntax)) h6)
  have tP : Lib.TabIs Tryz.prog W "internal/strconv.uint64pow10" .u64 Lib.pow10Tab := Lib.tabIs_of_head gP (t := 138) (by kernel_rfl) Tryz.underlying138 Tryz.underlying105 (by kernel_rfl) (by kernel_rfl) h3
  have tA : Lib.TabIs Tryz.prog W "strings.asciiSpace" .u8 Lib.asciiSpaceTab := Lib.tabIs_of_head (rest := [("unicode/utf8.first", Rows.laid_unicode_utf8_first)]) gA (t := 73) (by kernel_rfl) Tryz.underlying73 Tryz.underlying5 (by kernel_rfl) (by kernel_rfl) h8
  obtain ⟨e1, z1, u1, v1, hR⟩ := laid_err gR (t := 76) (by kernel_rfl) Tryz.underlying76 h5
  obtain ⟨e2, z2, u2, v2, hS⟩ := laid_err gS (t := 76) (by kernel_rfl) Tryz.underlying76 h6
  obtain ⟨m, hm⟩ : ∃ m, W.cell? ⟨2, 0, none⟩ = some (.int .i64 m) := Tryz.laysM145.s1_3 W hsh
  obtain ⟨cs, hh, hs, hr⟩ := hsh.1 2 #[.int .i64 0] 3 (of_decide_eq_true (by kernel_rfl)) (by kernel_rfl)
  refine ⟨(m, true, true), ?_⟩
  intro g l hg
  unfold gtT at hg
  split at hg
  · cases hg; exact rd_of_tab tA gA (by decide)
  · cases hg
    have hb : ∃ cs e z, W.heap[2]? = some (.cells cs e z) ∧ cs.size = 1 := ⟨cs, 3, _, hh, hs⟩
    have hlt : 2 < W.heap.size := by
      obtain ⟨_, _, _, h1, _⟩ := hb
      exact (Array.getElem?_eq_some_iff.1 h1).1
    refine ⟨.rd _ _ (fun _ => .int .i64 m) rfl (fun _ => hlt) (fun j hj => ?_) (fun j y hy => ?_), hlt, hb⟩
    · obtain rfl : j = 0 := by simpa using hj
      exact hm
    · cases j with
      | zero => simp at hy; subst hy; exact .int _ _
      | succ j => simp at hy
  · cases hg; exact rd_of_tab tP gP (by decide)
  · cases hg; exact rep_err hS
  · cases hg; exact rep_err hR
  · cases hg

noncomputable def start10 (os : Os) : World := World.laidAll Tryz.prog os L

theorem laid_met (os : Os) (args : Array Value) : laidMetH Tryz.prog L ((start10 os).forCall (fun _ _ => 0) ⟨#[], args, []⟩).memory := by
  rw [MakeChecks.laidMetH_plain _ _ _ (by kernel_rfl)]
  exact laidMet_laidAll _ (by kernel_rfl) (by kernel_rfl)

theorem str_rep {c : Ctx} {M : Mem} {w : World} (a : ByteArray) : ARep c M w (.string a) (.pd (.str a.data.toList)) := .pd _ _ (show PRep c.imm w (.string ⟨a.data.toList.toArray⟩) (.str a.data.toList) from .str a.data.toList)

end Go.Proofs.YtlphadeogdbmmaaGreatDoor.RT
