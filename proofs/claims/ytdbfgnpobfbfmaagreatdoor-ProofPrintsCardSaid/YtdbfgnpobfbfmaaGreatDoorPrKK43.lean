/- Part of a proof, in few files: M13x. -/
import Derived.Test.YtdbfgnpobfbfmaaGreatDoorPrKK41
import Derived.Test.YtdbfgnpobfbfmaaGreatDoorPrKK42
import Derived.Test.YtdbfgnpobfbfmaaGreatDoorPrKK31

section
/- Chapter 13: awake answers yes: run by the interpreter, in parts. -/
namespace Go.Abs
open Go.RowKit Go.Proofs
set_option maxRecDepth 100000
set_option linter.unusedVariables false

def qPD (p : Bool) (n d : List Int) : PD := .agg [.bool p, .sl (n.map (PD.int .u32)), .sl (d.map (PD.int .u32))]
def t13 : List UInt8 := [111, 112, 116, 105, 109, 97, 108, 10, 120, 32, 51, 32, 48, 10, 121, 32, 45, 49, 10]
def f13 : AV := .agg [.pd (.int .i64 1), .pd (.sl [qPD false [3] [1], qPD false [] [1]]), .pd (.sl [qPD true [1] [1]]), .pd (.sl [])]
def p13 : AV := .agg [.pd (.sl [.sl [qPD false [1] [1], qPD false [1] [1]]]), .pd (.sl [qPD false [3] [1]]), .pd (.sl [qPD true [1] [1], qPD false [] [1]])]

theorem run13a (m : Tp) : iplain Tryz.prog (fixF Tryz.prog (gtT m) orcR (fun _ => false) 400) 26 [.pd (.str t13)] [] = some (.tup [f13, .pd (.int .i64 0), .pd (.int .i64 0)], [], false) := by kernel_rfl
theorem run13b (m : Tp) : iplain Tryz.prog (fixF Tryz.prog (gtT m) orcR (fun _ => false) 400) 25 [f13] [] = some (.tup [.pd (.str t13), .pd (.int .i64 0)], [], false) := by kernel_rfl
theorem run13c (m : Tp) : iplain Tryz.prog (fixF Tryz.prog (gtT m) orcR (fun _ => false) 400) 15 [p13, f13] [] = some (.pd (.int .i64 0), [], false) := by kernel_rfl
def tab13 : List (FuncId × List AV × AV) := [(26, [.pd (.str t13)], .tup [f13, .pd (.int .i64 0), .pd (.int .i64 0)]), (25, [f13], .tup [.pd (.str t13), .pd (.int .i64 0)]), (15, [p13, f13], .pd (.int .i64 0))]
theorem tab13_ok (m : Tp) : TabOK Tryz.prog (gtT m) tab13 :=
  .cons (says_ok mixedT namesT (orcR_ok m) (run13a m)) (hasT 26 (by kernel_rfl)) rfl (.cons (says_ok mixedT namesT (orcR_ok m) (run13b m)) (hasT 25 (by kernel_rfl)) rfl (.cons (says_ok mixedT namesT (orcR_ok m) (run13c m)) (hasT 15 (by kernel_rfl)) rfl .nil))
theorem awake_runs13 (m : Tp) : saysTrue Tryz.prog (gtT m) (orcT tab13 orcR) (fun _ => false) 400 14 [] = true := by kernel_rfl
theorem offcutlaw13_awake_ok (m : Tp) {r : Bool} (h : offcutlaw13_awake r) : ASpec Tryz.prog (gtT m) 14 [] (· = .pd (.bool r)) := by
  obtain rfl := h
  exact saysTrue_ok mixedT namesT (orcT_ok (tab13_ok m) (orcR_ok m)) (awake_runs13 m)
end Go.Abs
end
