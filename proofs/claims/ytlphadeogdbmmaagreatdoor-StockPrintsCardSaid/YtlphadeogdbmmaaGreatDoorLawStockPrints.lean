/- The row of StockPrints, and its card. -/
import Derived.Test.YtlphadeogdbmmaaGreatDoorRT
import Derived.Test.YtlphadeogdbmmaaGreatDoorRD
import Derived.Test.YtlphadeogdbmmaaGreatDoorG10W
import Derived.Test.YtlphadeogdbmmaaGreatDoorL10c
namespace Go.Proofs.YtlphadeogdbmmaaGreatDoor.stockPrints
open Go.ChangeShapes Go.WideShapes Go.ChangeAt Go.RowKit Go.Abs RT
set_option maxRecDepth 20000

def wfAI64I64Z (x : Int × Int) : Prop := (Lit.int .i64 x.1).wf = true ∧ (Lit.int .i64 x.2).wf = true

theorem sh_AI64I64Z {y : PD} (h : Sh (.sl true [.int .i64, .int .i64]) y) : ∃ l : List (Int × Int), y = .sl (l.map elAI64I64Z) ∧ (l.length ≤ maxLen ∧ ∀ x, x ∈ l → wfAI64I64Z x) := by
  refine sh_sl (el := elAI64I64Z) (wf := wfAI64I64Z) (fun xs hl hs => ?_) h
  obtain ⟨a0, a1, rfl⟩ := get2 hl
  obtain ⟨z0, rfl, w0⟩ := sh_int (hs 0 _ _ rfl rfl)
  obtain ⟨z1, rfl, w1⟩ := sh_int (hs 1 _ _ rfl rfl)
  exact ⟨(z0, z1), rfl, ⟨w0, w1⟩⟩

theorem open_0 {H : Type} {enc : TypeId × Value → H} {W : World} {base : Nat} {v : Value} {d : DataW H} {ps : List MemPlace} (hval : Value.okWide Tryz.prog W .any base 25 v) (h : DataW.Trod enc Tryz.prog W 0 (fun _ => true) true 25 v d ps) :
    ∃ (z0 : Int) (z1 : List (Int × Int)), ARep (ctx0 W) [] W v (.agg [.pd (.int .i64 z0), .pd (.sl (z1.map elAI64I64Z))]) ∧ (Lit.int .i64 z0).wf = true ∧ (z1.length ≤ maxLen ∧ ∀ x, x ∈ z1 → wfAI64I64Z x) := by
  obtain ⟨fuel, hf⟩ := h
  unfold Value.okWide at hval
  rw [Tryz.underlying25] at hval
  obtain ⟨cs, rfl, _, _⟩ := hval
  have hc : CellsSh W [.int .i64, .sl true [.int .i64, .int .i64]] cs.toList := trod_sh 9 25 fuel _ _ _ hf (by kernel_rfl)
  obtain ⟨y0, s0, p0⟩ := hc.2 0 _ (cs.toList[0]'(by rw [hc.1]; decide)) rfl (List.getElem?_eq_getElem _)
  obtain ⟨z0, rfl, w0⟩ := sh_int s0
  obtain ⟨y1, s1, p1⟩ := hc.2 1 _ (cs.toList[1]'(by rw [hc.1]; decide)) rfl (List.getElem?_eq_getElem _)
  obtain ⟨z1, rfl, w1⟩ := sh_AI64I64Z s1
  refine ⟨z0, z1, agg_rep hc rfl (fun i u v y q1 q2 q3 => ?_), w0, w1⟩
  match i with
  | 0 => rw [List.getElem?_eq_getElem (by rw [hc.1]; decide)] at q2; cases q2; cases q3; exact .pd _ _ p0
  | 1 => rw [List.getElem?_eq_getElem (by rw [hc.1]; decide)] at q2; cases q2; cases q3; exact .pd _ _ p1
  | i + 2 => simp at q3

theorem contract (H : Type) (enc : TypeId × Value → H) (W : World) (base : Nat) (args : Array Value) (ds gs : List (DataW H)) (before : List MemPlace)
    (hval : ∀ (j : Nat) t v, Tryz.f4.params[j]? = some t → args[j]? = some v → Value.okWide Tryz.prog W .any base t v)
    (hW : DataW.Whole enc Tryz.prog Tryz.f4.params.toList Rows.stockPrintsSpec.vars false W args.toList ds gs before) (hL : laidMetH Tryz.prog Rows.stockPrintsRow.laid W) (hsh : W.ShapedOpen Tryz.prog) :
    Calls Tryz.prog 4 args W fun e W' => ∃ v, e = .returned v ∧ Rows.stockPrintsSpec.post enc Tryz.prog Tryz.f4 false true false false W args v W' := by
  have hW' := hW
  obtain ⟨p, q, hA0, hV, rfl, hfz, hnd⟩ := hW
  have hA : DataW.TrodAll enc Tryz.prog W 0 (fun _ => true) true Tryz.f4.params.toList args.toList ds p := hA0
  rw [Tryz.params4] at hA hval
  obtain ⟨v0, vs0, d0, ds0, p0, q0, hargs, rfl, rfl, h0, r0⟩ := trodAll_cons hA
  obtain ⟨rfl, rfl, rfl⟩ := trodAll_nil r0
  obtain rfl : args = #[v0] := by cases args; simp_all
  obtain ⟨rfl, rfl⟩ := trodVars_none hV
  have k0 := h0
  have lt0 : ∀ x ∈ p0, x.block < W.heap.size := by obtain ⟨m, hm⟩ := k0; exact DataW.trod_lt m _ _ _ hm
  obtain ⟨z0_0, z0_1, rep0, wf0⟩ := open_0 (hval 0 25 v0 rfl rfl) h0
  clear hA0
  obtain ⟨m, hG⟩ := tabs hL hsh
  refine (enter_true (offcutlaw10_StockPrints_ok m z0_0 z0_1 (law_prints z0_0 z0_1 )) hG (args_cons rep0 args_nil)).mono fun e W' ⟨he, bel⟩ => ?_
  subst he
  exact ⟨_, rfl, _, _, _, [], _, [], hW', trodAll_mk1 (shut_bool Tryz.underlying4 _), (trodAll_cons_mk (Below.trod laidOut (by kernel_rfl) (of_decide_eq_true (by kernel_rfl)) k0 bel lt0) trodAll_mk0), rfl, bel.frame _, fun h => by cases h⟩

theorem reads (os : Os) {H : Type} (enc : TypeId × Value → H) : ∃ places, DataW.whole enc Tryz.prog ((start10 os).forCall (fun _ _ => 0) ⟨#[], #[.agg #[.int .i64 0, .slice none 0 0]], []⟩).memory Tryz.f4.params.toList Rows.stockPrintsSpec.vars false #[Value.agg #[.int .i64 0, .slice none 0 0]].toList 8 = some ([.agg [.lit (.int .i64 0), .nil]], [], places) :=
  ⟨[], by kernel_rfl⟩

set_option maxRecDepth 100000 in
theorem lifted (os : Os) (started : os.Started) (H : Type) (enc : TypeId × Value → H) (F : Stop.Interp) :
    ReturnsInHanded {} Tryz.checked os 4 .any ((OpenSpec.ofChange Rows.stockPrintsSpec).preRow enc Tryz.prog Tryz.f4 Rows.stockPrintsRow.domain false Rows.stockPrintsRow.laid) (((OpenSpec.ofChange Rows.stockPrintsSpec).at F).post enc Tryz.prog Tryz.f4 false true false false) := by
  obtain ⟨places, hx⟩ := reads os enc
  refine returnsInHanded_of_row (C := Tryz.checked) (s := OpenSpec.ofChange Rows.stockPrintsSpec) own started (by kernel_rfl) Tryz.func4
    (witness_row_atRef (enc := enc) (C := Tryz.checked) false (start10 os) #[.agg #[.int .i64 0, .slice none 0 0]] (World.laidAll_os _ _ _) (by kernel_rfl) (by kernel_rfl) (by kernel_rfl)
      (OpenSpec.preRow_of_cond 8 hx (by kernel_rfl) (fun k hk => by cases hk) (by kernel_rfl) (laid_met os _))) ?_
  intro W base args ds gs before hval hW _ _ _ hL hsh _
  exact contract H enc W base args ds gs before hval hW hL hsh

theorem said : Rows.StockPrintsSaid :=
  OpenClaim.holds_of_cond 4 Tryz.f4 rfl rfl rfl rfl rfl rfl rfl ⟨rfl, rfl, rfl, rfl, rfl⟩ rfl rfl rfl rfl rfl (by kernel_rfl) Tryz.func4 (by kernel_rfl)
    (of_decide_eq_true (by kernel_rfl)) (by unfold Func.isWrapper; first | (rw [if_pos (by decide +kernel)]; kernel_rfl) | (rw [if_neg (by decide +kernel)]; exact ⟨rfl, rfl⟩))
    (fun os started H enc _ F => by rw [OpenClaim.pre_eq_preRow]; exact lifted os started H enc F)

theorem plain (f : FuncId) (fn : Func) (hf : Tryz.pinned.checked.prog.funcNamed "offcut/offcutlaw10.StockPrints" = some f) (hfn : Tryz.pinned.checked.prog.funcs[f]? = some fn) :
    true = Tryz.pinned.checked.prog.looks [] ∧ ∀ (j : Nat) t, fn.params[j]? = some t → Tryz.pinned.checked.prog.wantsStandIn t = false := by
  obtain rfl : f = 4 := Option.some.inj ((show Tryz.prog.funcNamed "offcut/offcutlaw10.StockPrints" = some 4 by kernel_rfl).symm.trans hf) |>.symm
  obtain rfl : fn = Tryz.f4 := (Option.some.inj (Tryz.func4.symm.trans hfn)).symm
  refine ⟨by kernel_rfl, fun j t ht => ?_⟩
  rw [Tryz.params4] at ht
  have : t = 25 := by
    have := Array.mem_of_getElem? ht
    simpa using this
  rcases this with rfl
  · exact (show Tryz.prog.wantsStandIn 25 = false by kernel_rfl)

theorem card : Rows.StockPrintsCardSaid :=
  Claim7.holds_tied_plain_at .later [] _ _ _ _ said (fun _ h => by cases h) (by kernel_rfl) (fun _ h => by cases h) stockPrints_row_tie rfl ⟨rfl, rfl⟩ (by kernel_rfl) rfl plain (by kernel_rfl)
#print axioms card
end Go.Proofs.YtlphadeogdbmmaaGreatDoor.stockPrints
namespace Go.Proofs.YtlphadeogdbmmaaGreatDoor
/-- The card, under a short name. -/
theorem stockPrints_card : Rows.StockPrintsCardSaid := stockPrints.card
end Go.Proofs.YtlphadeogdbmmaaGreatDoor
