/- Part of a proof, in few files: M08m. -/
import Derived.Test.YtdbfgnpobfbfmaaGreatDoorMPaK30
import Derived.Test.YtdbfgnpobfbfmaaGreatDoorMPaK41
import Derived.Test.YtdbfgnpobfbfmaaGreatDoorMPaK42
import Derived.Test.YtdbfgnpobfbfmaaGreatDoorMPaK32

section
namespace Go.Abs
open Go.RowKit Go.Proofs
set_option maxRecDepth 100000
set_option linter.unusedVariables false
theorem model_rels_ok (m : Tp) {r : List (List UInt8 × Int)} (h : model_rels r) : ASpec Tryz.prog (gtT m) 120 [] (· = .pd (.mp r)) := by
  obtain rfl := h
  refine ASpec_of_body (fn := Tryz.f120) (by kernel_rfl) rfl ?_
  refine AW_seq (AW_region (AL_can1 (x := .junk) (M' := []) (Can1_op (by kernel_rfl) (by kernel_rfl)) (AL_nil ?_)))
  refine AW_seq (AW_region (AL_mkmap (o := _) (is := [_, _, _]) (rest := [_, _]) (t := 183) (k := 9) (e := 3) (d := 1) (m := relsL) rfl rfl rfl (by kernel_rfl) (by kernel_rfl) (by kernel_rfl) (by decide) (by decide)
    (AL_can1 (x := .pd (.mp relsL)) (M' := []) (Can1_op (by kernel_rfl) (by kernel_rfl)) (AL_can1 (x := .pd (.mp relsL)) (M' := []) (Can1_op (by kernel_rfl) (by kernel_rfl)) (AL_nil ?_)))))
  exact AW_ret ⟨.inr rfl, _, _, rfl, rfl, rfl⟩
def orcM (g : FuncId) (args : List AV) (M : Mem) : Option (AV × Mem × Bool) :=
  match g, args with
  | 120, [] => some (.pd (.mp relsL), M, false)
  | _, _ => orcR g args M
theorem orcM_ok (m : Tp) (f : FuncId) (args : List AV) (M : Mem) (z : AV × Mem × Bool) (h : orcM f args M = some z) : CallOK Tryz.prog (gtT m) f args M z := by
  unfold orcM at h
  split at h
  · cases h
    exact told_ok (hasT 120 (by kernel_rfl)) (model_rels_ok m rfl) rfl
  · exact orcR_ok m _ _ M _ h
end Go.Abs
end
