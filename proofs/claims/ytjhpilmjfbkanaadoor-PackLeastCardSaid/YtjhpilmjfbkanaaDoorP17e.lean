/- Chapter 17: pack.wide. -/
import Derived.Test.YtjhpilmjfbkanaaDoorP17d
namespace Go.Abs
open Go.Proofs
set_option maxRecDepth 20000

theorem items27 (GT : Tabs) (set : Int) (M : Mem) : ACall Tryd.prog GT 27 [.pd (i64 set)] M fun r M' => r = .fn (.func 29) [] [.ptr M.length 0 0] ∧ M' = M ++ [.cells [.pd (i64 set)] 1 0 false] := by
  refine ACall_tree Tryd.f27 mixed17 askTab (by kernel_rfl) ?_
  exact H_endM .ret (.fn (.func 29) [] [.ptr M.length 0 0]) (M ++ [.cells [.pd (i64 set)] 1 0 false]) (by kernel_rfl) rfl (by kernel_rfl) (by kernel_rfl) (by kernel_rfl) ⟨rfl, rfl⟩

theorem accL_le {ws : List Int} (hw : ∀ w, w ∈ ws → 0 ≤ w ∧ w ≤ 1048576) (set : Int) (j : Nat) : 0 ≤ accL ws set j ∧ accL ws set j ≤ 1048576 * j := by
  induction j with
  | zero => simp [accL]
  | succ j ih =>
    have : 0 ≤ ws.getD (tzE (clears j set)).toNat 0 ∧ ws.getD (tzE (clears j set)).toNat 0 ≤ 1048576 := by
      rw [List.getD_eq_getElem?_getD]
      cases hk : ws[(tzE (clears j set)).toNat]? with
      | none => simp
      | some w => exact hw w (List.mem_of_getElem? hk)
    rw [accL_succ]; omega

theorem wide20 (ws : List Int) (set : Int) (h0 : 0 ≤ set) (h1 : set < 2 ^ ws.length) (hn : ws.length ≤ 12) (hw : ∀ w, w ∈ ws → 0 ≤ w ∧ w ≤ 1048576) : ASpec Tryd.prog gt17 20 [.pd (ints ws), .pd (i64 set)] (· = .pd (i64 (wideL ws set ws.length))) := by
  have h2 : set < 4096 := Int.lt_of_lt_of_le h1 (by
    have := Nat.pow_le_pow_right (n := 2) (by omega) hn
    exact_mod_cast this)
  refine ASpec_tree Tryd.f20 mixed17 askIdx (by kernel_rfl) ?_
  refine H_call _ (g := 27) (args := [.pd (i64 set)]) (M := [.cells [.pd (ints ws)] 1 0 false, .cells [.pd (i64 0)] 1 0 false]) (by kernel_rfl) (items27 gt17 set _) (has17 27 (by kernel_rfl)) ?_
  rintro r M' ⟨rfl, rfl⟩
  generalize hW : W.back (fnW Tryd.prog gt17 askIdx Tryd.f20 [.pd (ints ws), .pd (i64 set)] []) (.fn (.func 29) [] [.ptr [Ob.cells [.pd (ints ws)] 1 0 false, Ob.cells [.pd (i64 0)] 1 0 false].length 0 0]) ([.cells [.pd (ints ws)] 1 0 false, .cells [.pd (i64 0)] 1 0 false] ++ [.cells [.pd (i64 set)] 1 0 false]) = w
  refine H_range (gf := 29) (l1 := []) (l2 := [.ptr 2 0 0]) w.rM 4 (by subst hW; kernel_rfl) (by subst hW; kernel_rfl) (has17 29 (by kernel_rfl)) rfl (by subst hW; kernel_rfl) ?_
  refine (items29 set h0 h2 4 2 (fun j M => M = w.rM.set 1 (.cells [.pd (i64 (accL ws set j))] 1 0 false) ∧ ∀ i, i < j → 0 < clears i set) (fun M => M = w.rM.set 1 (.cells [.pd (i64 (wideL ws set ws.length))] 1 0 false)) w.rM ⟨by subst hW; kernel_rfl, by simp⟩ (by subst hW; kernel_rfl) ?_ ?_).mono ?_
  · rintro j M ⟨rfl, hpos⟩ hc
    have hall : ∀ i, i < j + 1 → 0 < clears i set := by
      intro i hi
      rcases Nat.lt_or_ge i j with h | h
      · exact hpos i h
      · have : i = j := by omega
        rw [this]; exact hc
    obtain ⟨z0, z1⟩ := item_lt h0 h1 hn hall
    generalize hz : tzE (clears j set) = z at z0 z1
    refine H_round mixed17 askIdx (by subst hW; kernel_rfl) ?_
    refine H_draw (by subst hW; kernel_rfl) ?_
    refine H_ask (.rd [i64 ws[z.toNat]]) ((w.rM.set 1 (.cells [.pd (i64 (accL ws set j))] 1 0 false)).set 4 (.loop .busy none w.stS.T w.rps w.rasg w.rbo 3)) (t := (aIndexAddr Tryd.prog ((w.rM.set 1 (.cells [.pd (i64 (accL ws set j))] 1 0 false)).set 4 (.loop .busy none w.stS.T w.rps w.rasg w.rbo 3)) 22 (.pd (ints ws)) (.pd (i64 z))).map (·, (w.rM.set 1 (.cells [.pd (i64 (accL ws set j))] 1 0 false)).set 4 (.loop .busy none w.stS.T w.rps w.rasg w.rbo 3)))
      (by subst hW; kernel_rfl) (ask_intsZ z0 z1 3 (by kernel_rfl) (by kernel_rfl)) ?_
    refine H_rnd .normal .ready none true (w.rM.set 1 (.cells [.pd (i64 (IntKind.i64.wrap (accL ws set j + ws[z.toNat])))] 1 0 false)) (by subst hW; kernel_rfl) rfl (by subst hW; kernel_rfl) ?_
    refine ⟨?_, hall⟩
    have hj := few h0 h2 hall
    have hb := accL_le hw set j
    have hwz := hw ws[z.toNat] (List.getElem_mem z1)
    rw [accL_succ, hz, wrap64 (by constructor <;> omega)]
    simp [List.getD_eq_getElem?_getD, z1]
  · rintro j M ⟨rfl, hpos⟩ hz
    rw [acc_end h0 h2 hn hpos hz]
  · rintro r M' rfl
    refine aft_done (st := .ready) (M' := (w.rM.set 1 (.cells [.pd (i64 (wideL ws set ws.length))] 1 0 false)).set 4 (.loop .exhausted none w.stS.T w.rps w.rasg w.rbo 3)) (by subst hW; kernel_rfl) (by simp) (by subst hW; kernel_rfl) ?_
    exact H_end .ret (.pd (i64 (wideL ws set ws.length))) (by subst hW; kernel_rfl) rfl (by subst hW; kernel_rfl) rfl

end Go.Abs
