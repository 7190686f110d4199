/- Part of a proof, in few files: M08a. -/
import Derived.Test.YtdbfgnpobfbfmaaGreatDoorMAgK21

section
namespace Go.Abs
open Go.RowKit Go.Proofs
set_option maxRecDepth 100000
set_option linter.unusedVariables false
def q08 (p : Bool) (n d : List Int) : PD := .agg [.bool p, .sl (n.map (PD.int .u32)), .sl (d.map (PD.int .u32))]
def t08 : List UInt8 := [109, 105, 110, 32, 120, 32, 45, 32, 50, 32, 121, 10, 114, 58, 32, 120, 32, 43, 32, 121, 32, 60, 61, 32, 51, 47, 50, 10]
def u08 : List UInt8 := [109, 105, 110, 32, 49, 32, 120, 32, 45, 32, 50, 32, 121, 10, 114, 58, 32, 49, 32, 120, 32, 43, 32, 49, 32, 121, 32, 60, 61, 32, 51, 47, 50, 10]
def wa08 : AV := .pd (.sl [.str [109, 105, 110], .str [120], .str [45], .str [50], .str [121]])
def wb08 : AV := .pd (.sl [.str [114, 58], .str [120], .str [43], .str [121], .str [60, 61], .str [51, 47, 50]])
def la08 : AV := .agg [.pd (.str []), .pd (.sl [.agg [.str [120], .bool false, .sl [.int .u32 1], .sl [.int .u32 1]], .agg [.str [121], .bool true, .sl [.int .u32 2], .sl [.int .u32 1]]]), .pd (.int .i64 0), .pd (.bool false), .pd (.sl []), .pd (.sl [])]
def lb08 : AV := .agg [.pd (.str [114]), .pd (.sl [.agg [.str [120], .bool false, .sl [.int .u32 1], .sl [.int .u32 1]], .agg [.str [121], .bool false, .sl [.int .u32 1], .sl [.int .u32 1]]]), .pd (.int .i64 (-1)), .pd (.bool false), .pd (.sl [.int .u32 3]), .pd (.sl [.int .u32 2])]
def all08 : AV := .pd (.sl [.agg [.int .i64 1, .sl [.str [109, 105, 110], .str [120], .str [45], .str [50], .str [121]]], .agg [.int .i64 2, .sl [.str [114, 58], .str [120], .str [43], .str [121], .str [60, 61], .str [51, 47, 50]]]])
def m08 : AV := .agg [.pd (.sl [.str [120], .str [121]]), .pd (.sl [q08 false [1] [1], q08 true [2] [1]]), .pd (.sl [.agg [.str [114], .sl [q08 false [1] [1], q08 false [1] [1]], .int .i64 (-1), .bool false, .sl [.int .u32 3], .sl [.int .u32 2]]])]
theorem run08a (m : Tp) : iplain Tryz.prog (fixF Tryz.prog (gtT m) orcM (fun _ => false) 400) 61 [.pd (.str t08)] [] = some (.tup [all08, .pd (.int .i64 0)], [], false) := by kernel_rfl
theorem run08b (m : Tp) : iplain Tryz.prog (fixF Tryz.prog (gtT m) orcM (fun _ => false) 400) 71 [wa08] [] = some (.tup [la08, .pd (.bool true)], [], false) := by kernel_rfl
theorem run08c (m : Tp) : iplain Tryz.prog (fixF Tryz.prog (gtT m) orcM (fun _ => false) 400) 70 [wb08] [] = some (.tup [lb08, .pd (.bool true)], [], false) := by kernel_rfl
def tab08a : List (FuncId × List AV × AV) := [(61, [.pd (.str t08)], .tup [all08, .pd (.int .i64 0)]), (71, [wa08], .tup [la08, .pd (.bool true)]), (70, [wb08], .tup [lb08, .pd (.bool true)])]
theorem tab08a_ok (m : Tp) : TabOK Tryz.prog (gtT m) tab08a :=
  (.cons (says_ok mixedT namesT (orcM_ok m) (run08a m)) (hasT 61 (by kernel_rfl)) rfl (.cons (says_ok mixedT namesT (orcM_ok m) (run08b m)) (hasT 71 (by kernel_rfl)) rfl (.cons (says_ok mixedT namesT (orcM_ok m) (run08c m)) (hasT 70 (by kernel_rfl)) rfl .nil)))
theorem run08d (m : Tp) : iplain Tryz.prog (fixF Tryz.prog (gtT m) (orcT tab08a orcM) (fun f => Nat.beq f 73) 400) 32 [.pd (.str t08)] [] = some (.tup [m08, .pd (.int .i64 0), .pd (.int .i64 0)], [], false) := by kernel_rfl
def r08 (p : Bool) (n d : List Int) : AV := .agg [.pd (.bool p), .pd (.sl (n.map (PD.int .u32))), .pd (.sl (d.map (PD.int .u32)))]
theorem run08p (m : Tp) : iplain Tryz.prog (fixF Tryz.prog (gtT m) orcM (fun _ => false) 400) 75 [r08 false [1] [1]] [] = some (.pd (.str [49]), [], false) := by kernel_rfl
theorem run08q (m : Tp) : iplain Tryz.prog (fixF Tryz.prog (gtT m) orcM (fun _ => false) 400) 75 [r08 false [2] [1]] [] = some (.pd (.str [50]), [], false) := by kernel_rfl
theorem run08r (m : Tp) : iplain Tryz.prog (fixF Tryz.prog (gtT m) orcM (fun _ => false) 400) 75 [r08 false [3] [2]] [] = some (.pd (.str [51, 47, 50]), [], false) := by kernel_rfl
def tab08t : List (FuncId × List AV × AV) := [(75, [r08 false [1] [1]], .pd (.str [49])), (75, [r08 false [2] [1]], .pd (.str [50])), (75, [r08 false [3] [2]], .pd (.str [51, 47, 50]))]
theorem tab08t_ok (m : Tp) : TabOK Tryz.prog (gtT m) tab08t :=
  .cons (says_ok mixedT namesT (orcM_ok m) (run08p m)) (hasT 75 (by kernel_rfl)) rfl (.cons (says_ok mixedT namesT (orcM_ok m) (run08q m)) (hasT 75 (by kernel_rfl)) rfl (.cons (says_ok mixedT namesT (orcM_ok m) (run08r m)) (hasT 75 (by kernel_rfl)) rfl .nil))
theorem run08e (m : Tp) : iplain Tryz.prog (fixF Tryz.prog (gtT m) (orcT tab08t orcM) (fun _ => false) 400) 33 [m08] [] = some (.tup [.pd (.str u08), .pd (.int .i64 0)], [], false) := by kernel_rfl
def tab08b : List (FuncId × List AV × AV) := [(32, [.pd (.str t08)], .tup [m08, .pd (.int .i64 0), .pd (.int .i64 0)]), (33, [m08], .tup [.pd (.str u08), .pd (.int .i64 0)])]
theorem tab08b_ok (m : Tp) : TabOK Tryz.prog (gtT m) tab08b :=
  (.cons (says_ok mixedT namesT (orcT_ok (tab08a_ok m) (orcM_ok m)) (run08d m)) (hasT 32 (by kernel_rfl)) rfl (.cons (says_ok mixedT namesT (orcT_ok (tab08t_ok m) (orcM_ok m)) (run08e m)) (hasT 33 (by kernel_rfl)) rfl .nil))
theorem awake_runs08 (m : Tp) : saysTrue Tryz.prog (gtT m) (orcT tab08b orcM) (fun _ => false) 400 31 [] = true := by kernel_rfl
theorem offcutlaw08_awake_ok (m : Tp) {r : Bool} (h : offcutlaw08_awake r) : ASpec Tryz.prog (gtT m) 31 [] (· = .pd (.bool r)) := by
  obtain rfl := h
  exact saysTrue_ok mixedT namesT (orcT_ok (tab08b_ok m) (orcM_ok m)) (awake_runs08 m)
end Go.Abs
end
