/- Part of a proof, in few files: M08w. -/
import Derived.Test.YtdbfgnpobfbfmaaGreatDoorMPaK38
import Derived.Test.YtdbfgnpobfbfmaaGreatDoorMPaK36
import Derived.Test.YtdbfgnpobfbfmaaGreatDoorMPaK32

section
namespace Go.Abs
open Go.RowKit Go.Proofs
set_option maxRecDepth 100000
def orcX (l : List PD) (x : List UInt8) (M : Mem) : Option (AV × Mem × Bool) :=
  match strsOf l with
  | some r => if Nat.blt r.length 1000 then some (.pd (.int .i64 (Lib.idxOfS (r.map fun s => (⟨s.toArray⟩ : ByteArray)) ⟨x.toArray⟩)), M, false) else none
  | none => none
def orcN (g : FuncId) (args : List AV) (M : Mem) : Option (AV × Mem × Bool) :=
  match orcS g args M with
  | some z => some z
  | none =>
    match g, args with
    | 112, [.pd (.str s), .pd (.str sep)] => some (.tup [.pd (.str (Lib.trimPrefix s sep)), .pd (.bool (Lib.hasPrefix s sep))], M, false)
    | 119, [.pd (.str s), .pd (.str sep)] => if Nat.blt s.length 1000 then some (.tup [.pd (.str (Lib.trimSuffix s sep)), .pd (.bool (Lib.hasSuffix s sep))], M, false) else none
    | 150, [.pd (.str s), .pd (.str sep)] => if Nat.blt s.length 1000 then some (.pd (.bool (Lib.contains s sep)), M, false) else none
    | 146, [.pd (.sl [])] => some (.pd (.sl []), M, false)
    | 146, [.fixed []] => some (.pd (.sl []), M, false)
    | 153, [.pd (.sl l), .pd (.str x)] => orcX l x M
    | 153, [.fixed l, .pd (.str x)] => orcX l x M
    | _, _ => none
theorem orcX_ok (m : Tp) (l : List PD) (x : List UInt8) (a : AV) (M : Mem) (z : AV × Mem × Bool) (ha : a = .pd (.sl l) ∨ a = .fixed l) (h : orcX l x M = some z) : CallOK Tryz.prog (gtT m) 153 [a, .pd (.str x)] M z := by
  unfold orcX at h
  split at h
  · rename_i r hr
    split at h
    · rename_i hl
      cases h
      simp only [Nat.blt_eq] at hl
      obtain rfl := strsOf_ok hr
      have := slices_Index_string_string_ok m r x ⟨by omega, rfl⟩
      rcases ha with rfl | rfl
      · exact told_ok (hasT 153 (by kernel_rfl)) this rfl
      · exact told_ok (hasT 153 (by kernel_rfl)) this rfl
    · cases h
  · cases h
theorem orcN_ok (m : Tp) (f : FuncId) (args : List AV) (M : Mem) (z : AV × Mem × Bool) (h : orcN f args M = some z) : CallOK Tryz.prog (gtT m) f args M z := by
  unfold orcN at h
  split at h
  · rename_i z' hz
    cases h
    exact orcS_ok m f args M _ hz
  · split at h
    · rename_i s sep _
      cases h
      exact told_ok (hasT 112 (by kernel_rfl)) (strings_CutPrefix_ok m s sep rfl) rfl
    · rename_i s sep _
      split at h
      · rename_i hl
        cases h
        simp only [Nat.blt_eq] at hl
        exact told_ok (hasT 119 (by kernel_rfl)) (strings_CutSuffix_ok m s sep ⟨by omega, rfl⟩) rfl
      · cases h
    · rename_i s sep _
      split at h
      · rename_i hl
        cases h
        simp only [Nat.blt_eq] at hl
        exact told_ok (hasT 150 (by kernel_rfl)) (strings_Contains_ok m s sep ⟨by unfold Short; omega, rfl⟩) rfl
      · cases h
    · cases h
      exact told_ok (hasT 146 (by kernel_rfl)) clone_spec rfl
    · cases h
      exact told_ok (hasT 146 (by kernel_rfl)) clone_spec rfl
    · rename_i l x _
      exact orcX_ok m l x _ M z (.inl rfl) h
    · rename_i l x _
      exact orcX_ok m l x _ M z (.inr rfl) h
    · cases h
end Go.Abs
end
