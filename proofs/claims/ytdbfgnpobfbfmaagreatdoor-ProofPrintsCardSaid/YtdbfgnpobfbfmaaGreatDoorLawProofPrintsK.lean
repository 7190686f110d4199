/- The last part: LawProofPrints. -/
import Derived.Test.YtdbfgnpobfbfmaaGreatDoorPrKK28
import Derived.Test.YtdbfgnpobfbfmaaGreatDoorPrKK29
import Derived.Test.YtdbfgnpobfbfmaaGreatDoorPrKK44
import Derived.Test.YtdbfgnpobfbfmaaGreatDoorPrKK45

section
/- The row of ProofPrints, and its card. -/
namespace Go.Proofs.YtdbfgnpobfbfmaaGreatDoor.proofPrints
open Go.ChangeShapes Go.WideShapes Go.ChangeAt Go.RowKit Go.Abs RT
set_option maxRecDepth 20000
set_option linter.unusedVariables false

def wfU32 (x : Int) : Prop := (Lit.int .u32 x).wf = true

theorem u32_of {x : Int} (h : wfU32 x) : 0 ≤ x ∧ x < 4294967296 := by
  unfold wfU32 Lit.wf at h
  rw [Bool.and_eq_true, decide_eq_true_eq, decide_eq_true_eq] at h
  have h1 : IntKind.u32.min = 0 := rfl
  have h2 : IntKind.u32.max = 4294967295 := rfl
  omega

theorem sh_U32 {y : PD} (h : Sh (.sl false [.int .u32]) y) : ∃ l : List Int, y = .sl (l.map elU32) ∧ (l.length ≤ maxLen ∧ ∀ x, x ∈ l → wfU32 x) := by
  refine sh_sl (el := elU32) (wf := wfU32) (fun xs hl hs => ?_) h
  obtain ⟨a0, rfl⟩ := get1 hl
  obtain ⟨z0, rfl, w0⟩ := sh_int (hs 0 _ _ rfl rfl)
  exact ⟨z0, rfl, w0⟩

def wfABLU32LU32Z (x : Bool × (List Int) × (List Int)) : Prop := True ∧ (x.2.1.length ≤ maxLen ∧ ∀ y, y ∈ x.2.1 → wfU32 y) ∧ (x.2.2.length ≤ maxLen ∧ ∀ y, y ∈ x.2.2 → wfU32 y)

theorem sh_ABLU32LU32Z {y : PD} (h : Sh (.sl true [.bool, .sl false [.int .u32], .sl false [.int .u32]]) y) : ∃ l : List (Bool × (List Int) × (List Int)), y = .sl (l.map elABLU32LU32Z) ∧ (l.length ≤ maxLen ∧ ∀ x, x ∈ l → wfABLU32LU32Z x) := by
  refine sh_sl (el := elABLU32LU32Z) (wf := wfABLU32LU32Z) (fun xs hl hs => ?_) h
  obtain ⟨a0, a1, a2, rfl⟩ := get3 hl
  obtain ⟨z0, rfl, w0⟩ := sh_bool (hs 0 _ _ rfl rfl)
  obtain ⟨z1, rfl, w1⟩ := sh_U32 (hs 1 _ _ rfl rfl)
  obtain ⟨z2, rfl, w2⟩ := sh_U32 (hs 2 _ _ rfl rfl)
  exact ⟨(z0, z1, z2), rfl, ⟨w0, w1, w2⟩⟩

theorem ws_of {l : List (Bool × (List Int) × (List Int))} (h : ∀ x, x ∈ l → wfABLU32LU32Z x) : wsQ l := fun x hx => ⟨fun y hy => u32_of ((h x hx).2.1.2 y hy), fun y hy => u32_of ((h x hx).2.2.2 y hy)⟩

theorem open_0 {H : Type} {enc : TypeId × Value → H} {W : World} {base : Nat} {v : Value} {d : DataW H} {ps : List MemPlace} (hval : Value.okWide Tryz.prog W .any base 27 v) (h : DataW.Trod enc Tryz.prog W 0 (fun _ => true) true 27 v d ps) :
    ∃ (z0 : Int) (z1 : List (Bool × (List Int) × (List Int))) (z2 : List (Bool × (List Int) × (List Int))) (z3 : List (Bool × (List Int) × (List Int))), ARep (ctx0 W) [] W v (.agg [.pd (.int .i64 z0), .pd (.sl (z1.map elABLU32LU32Z)), .pd (.sl (z2.map elABLU32LU32Z)), .pd (.sl (z3.map elABLU32LU32Z))]) ∧ (Lit.int .i64 z0).wf = true ∧ (z1.length ≤ maxLen ∧ ∀ x, x ∈ z1 → wfABLU32LU32Z x) ∧ (z2.length ≤ maxLen ∧ ∀ x, x ∈ z2 → wfABLU32LU32Z x) ∧ (z3.length ≤ maxLen ∧ ∀ x, x ∈ z3 → wfABLU32LU32Z x) := by
  obtain ⟨fuel, hf⟩ := h
  unfold Value.okWide at hval
  rw [Tryz.underlying27] at hval
  obtain ⟨cs, rfl, _, _⟩ := hval
  have hc : CellsSh W [.int .i64, .sl true [.bool, .sl false [.int .u32], .sl false [.int .u32]], .sl true [.bool, .sl false [.int .u32], .sl false [.int .u32]], .sl true [.bool, .sl false [.int .u32], .sl false [.int .u32]]] cs.toList := trod_sh 9 27 fuel _ _ _ hf (by kernel_rfl)
  obtain ⟨y0, s0, p0⟩ := hc.2 0 _ (cs.toList[0]'(by rw [hc.1]; decide)) rfl (List.getElem?_eq_getElem _)
  obtain ⟨z0, rfl, w0⟩ := sh_int s0
  obtain ⟨y1, s1, p1⟩ := hc.2 1 _ (cs.toList[1]'(by rw [hc.1]; decide)) rfl (List.getElem?_eq_getElem _)
  obtain ⟨z1, rfl, w1⟩ := sh_ABLU32LU32Z s1
  obtain ⟨y2, s2, p2⟩ := hc.2 2 _ (cs.toList[2]'(by rw [hc.1]; decide)) rfl (List.getElem?_eq_getElem _)
  obtain ⟨z2, rfl, w2⟩ := sh_ABLU32LU32Z s2
  obtain ⟨y3, s3, p3⟩ := hc.2 3 _ (cs.toList[3]'(by rw [hc.1]; decide)) rfl (List.getElem?_eq_getElem _)
  obtain ⟨z3, rfl, w3⟩ := sh_ABLU32LU32Z s3
  refine ⟨z0, z1, z2, z3, agg_rep hc rfl (fun i u v y q1 q2 q3 => ?_), w0, w1, w2, w3⟩
  match i with
  | 0 => rw [List.getElem?_eq_getElem (by rw [hc.1]; decide)] at q2; cases q2; cases q3; exact .pd _ _ p0
  | 1 => rw [List.getElem?_eq_getElem (by rw [hc.1]; decide)] at q2; cases q2; cases q3; exact .pd _ _ p1
  | 2 => rw [List.getElem?_eq_getElem (by rw [hc.1]; decide)] at q2; cases q2; cases q3; exact .pd _ _ p2
  | 3 => rw [List.getElem?_eq_getElem (by rw [hc.1]; decide)] at q2; cases q2; cases q3; exact .pd _ _ p3
  | i + 4 => simp at q3

theorem contract (H : Type) (enc : TypeId × Value → H) (W : World) (base : Nat) (args : Array Value) (ds gs : List (DataW H)) (before : List MemPlace)
    (hval : ∀ (j : Nat) t v, Tryz.f6.params[j]? = some t → args[j]? = some v → Value.okWide Tryz.prog W .any base t v)
    (hW : DataW.Whole enc Tryz.prog Tryz.f6.params.toList Rows.proofPrintsSpec.vars false W args.toList ds gs before) (hL : laidMetH Tryz.prog Rows.proofPrintsRow.laid W) (hsh : W.ShapedOpen Tryz.prog) :
    Calls Tryz.prog 6 args W fun e W' => ∃ v, e = .returned v ∧ Rows.proofPrintsSpec.post enc Tryz.prog Tryz.f6 false true false false W args v W' := by
  have hW' := hW
  obtain ⟨p, q, hA0, hV, rfl, hfz, hnd⟩ := hW
  have hA : DataW.TrodAll enc Tryz.prog W 0 (fun _ => true) true Tryz.f6.params.toList args.toList ds p := hA0
  rw [Tryz.params6] at hA hval
  obtain ⟨v0, vs0, d0, ds0, p0, q0, hargs, rfl, rfl, h0, r0⟩ := trodAll_cons hA
  obtain ⟨rfl, rfl, rfl⟩ := trodAll_nil r0
  obtain rfl : args = #[v0] := by cases args; simp_all
  obtain ⟨rfl, rfl⟩ := trodVars_none hV
  have k0 := h0
  have lt0 : ∀ x ∈ p0, x.block < W.heap.size := by obtain ⟨m, hm⟩ := k0; exact DataW.trod_lt m _ _ _ hm
  obtain ⟨z0_0, z0_1, z0_2, z0_3, rep0, wf0⟩ := open_0 (hval 0 27 v0 rfl rfl) h0
  clear hA0
  obtain ⟨m, hG⟩ := tabs hL hsh
  refine (enter_true (offcutlaw13_ProofPrints_ok m z0_0 z0_1 z0_2 z0_3 (law_prints z0_0 z0_1 z0_2 z0_3 (ws_of wf0.2.1.2) (ws_of wf0.2.2.1.2) (ws_of wf0.2.2.2.2))) hG (args_cons rep0 args_nil)).mono fun e W' ⟨he, bel⟩ => ?_
  subst he
  exact ⟨_, rfl, _, _, _, [], _, [], hW', trodAll_mk1 (shut_bool Tryz.underlying4 _), (trodAll_cons_mk (Below.trod laidOut (by kernel_rfl) (of_decide_eq_true (by kernel_rfl)) k0 bel lt0) trodAll_mk0), rfl, bel.frame _, fun h => by cases h⟩

theorem reads (os : Os) {H : Type} (enc : TypeId × Value → H) : ∃ places, DataW.whole enc Tryz.prog ((start10 os).forCall (fun _ _ => 0) ⟨#[], #[.agg #[.int .i64 0, .slice none 0 0, .slice none 0 0, .slice none 0 0]], []⟩).memory Tryz.f6.params.toList Rows.proofPrintsSpec.vars false #[Value.agg #[.int .i64 0, .slice none 0 0, .slice none 0 0, .slice none 0 0]].toList 8 = some ([.agg [.lit (.int .i64 0), .nil, .nil, .nil]], [], places) :=
  ⟨[], by kernel_rfl⟩

set_option maxRecDepth 100000 in
theorem lifted (os : Os) (started : os.Started) (H : Type) (enc : TypeId × Value → H) (F : Stop.Interp) :
    ReturnsInHanded {} Tryz.checked os 6 .any ((OpenSpec.ofChange Rows.proofPrintsSpec).preRow enc Tryz.prog Tryz.f6 Rows.proofPrintsRow.domain false Rows.proofPrintsRow.laid) (((OpenSpec.ofChange Rows.proofPrintsSpec).at F).post enc Tryz.prog Tryz.f6 false true false false) := by
  obtain ⟨places, hx⟩ := reads os enc
  refine returnsInHanded_of_row (C := Tryz.checked) (s := OpenSpec.ofChange Rows.proofPrintsSpec) own started (by kernel_rfl) Tryz.func6
    (witness_row_atRef (enc := enc) (C := Tryz.checked) false (start10 os) #[.agg #[.int .i64 0, .slice none 0 0, .slice none 0 0, .slice none 0 0]] (World.laidAll_os _ _ _) (by kernel_rfl) (by kernel_rfl) (by kernel_rfl)
      (OpenSpec.preRow_of_cond 8 hx (by kernel_rfl) (fun k hk => by cases hk) (by kernel_rfl) (laid_met os _))) ?_
  intro W base args ds gs before hval hW _ _ _ hL hsh _
  exact contract H enc W base args ds gs before hval hW hL hsh

theorem said : Rows.ProofPrintsSaid :=
  OpenClaim.holds_of_cond 6 Tryz.f6 rfl rfl rfl rfl rfl rfl rfl ⟨rfl, rfl, rfl, rfl, rfl⟩ rfl rfl rfl rfl rfl (by kernel_rfl) Tryz.func6 (by kernel_rfl)
    (of_decide_eq_true (by kernel_rfl)) (by unfold Func.isWrapper; first | (rw [if_pos (by decide +kernel)]; kernel_rfl) | (rw [if_neg (by decide +kernel)]; exact ⟨rfl, rfl⟩))
    (fun os started H enc _ F => by rw [OpenClaim.pre_eq_preRow]; exact lifted os started H enc F)

theorem plain (f : FuncId) (fn : Func) (hf : Tryz.pinned.checked.prog.funcNamed "offcut/offcutlaw13.ProofPrints" = some f) (hfn : Tryz.pinned.checked.prog.funcs[f]? = some fn) :
    false = Tryz.pinned.checked.prog.looks [] ∧ ∀ (j : Nat) t, fn.params[j]? = some t → Tryz.pinned.checked.prog.wantsStandIn t = false := by
  obtain rfl : f = 6 := Option.some.inj ((show Tryz.prog.funcNamed "offcut/offcutlaw13.ProofPrints" = some 6 by kernel_rfl).symm.trans hf) |>.symm
  obtain rfl : fn = Tryz.f6 := (Option.some.inj (Tryz.func6.symm.trans hfn)).symm
  refine ⟨by kernel_rfl, fun j t ht => ?_⟩
  rw [Tryz.params6] at ht
  have : t = 27 := by
    have := Array.mem_of_getElem? ht
    simpa using this
  rcases this with rfl
  · exact (show Tryz.prog.wantsStandIn 27 = false by kernel_rfl)

theorem card : Rows.ProofPrintsCardSaid :=
  Claim7.holds_tied_plain_at .later [] _ _ _ _ said (fun _ h => by cases h) (by kernel_rfl) (fun _ h => by cases h) proofPrints_row_tie rfl ⟨rfl, rfl⟩ (by kernel_rfl) rfl plain (by kernel_rfl)
#print axioms card
end Go.Proofs.YtdbfgnpobfbfmaaGreatDoor.proofPrints
namespace Go.Proofs.YtdbfgnpobfbfmaaGreatDoor
/-- The card, under a short name. -/
theorem proofPrints_card : Rows.ProofPrintsCardSaid := proofPrints.card
end Go.Proofs.YtdbfgnpobfbfmaaGreatDoor
end
