/- Chapter 07 (numbers): awake answers yes: run by the interpreter, with the library's functions told. -/
import Derived.Test.YtdbfgnpobfbfmaaDoorMSw
import Derived.Test.YtdbfgnpobfbfmaaDoorBCw
import Derived.Test.YtdbfgnpobfbfmaaDoorBNw
import Derived.Test.YtdbfgnpobfbfmaaDoorB07n
namespace Go.Abs
open Go.RowKit Go.Proofs
set_option maxRecDepth 100000

def orcN (g : FuncId) (args : List AV) (M : Mem) : Option (AV × Mem × Bool) :=
  match orcS g args M with
  | some z => some z
  | none =>
    match g, args with
    | 35, [.pd (.str s), .pd (.str sep)] => some (.tup [.pd (.str (Lib.trimPrefix s sep)), .pd (.bool (Lib.hasPrefix s sep))], M, false)
    | 67, [.pd (.sl [])] => some (.pd (.sl []), M, false)
    | 67, [.fixed []] => some (.pd (.sl []), M, false)
    | _, _ => none

theorem orcN_ok (m : Tp) (f : FuncId) (args : List AV) (M : Mem) (z : AV × Mem × Bool) (h : orcN f args M = some z) : CallOK Tryd.prog (gtT m) f args M z := by
  unfold orcN at h
  split at h
  · rename_i z' hz
    cases h
    exact orcS_ok m f args M _ hz
  · split at h
    · rename_i s sep _
      cases h
      exact told_ok (hasT 35 (by kernel_rfl)) (strings_CutPrefix_ok m s sep rfl) rfl
    · cases h
      exact told_ok (hasT 67 (by kernel_rfl)) clone_spec rfl
    · cases h
      exact told_ok (hasT 67 (by kernel_rfl)) clone_spec rfl
    · cases h


theorem awake_runs (m : Tp) : saysTrue Tryd.prog (gtT m) orcN (fun _ => false) 400 4 [] = true := by kernel_rfl
theorem awakeT (m : Tp) : ASpec Tryd.prog (gtT m) 4 [] (· = .pd (.bool true)) := saysTrue_ok mixedT namesT (orcN_ok m) (awake_runs m)
theorem offcutlaw07_awake_ok (m : Tp) {r : Bool} (h : offcutlaw07_awake r) : ASpec Tryd.prog (gtT m) 4 [] (· = .pd (.bool r)) := by
  obtain rfl := h
  exact awakeT m

end Go.Abs
