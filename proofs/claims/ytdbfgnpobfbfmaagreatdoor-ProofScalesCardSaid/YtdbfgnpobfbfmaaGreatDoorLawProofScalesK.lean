/- The last part: LawProofScales. -/
import Derived.Test.YtdbfgnpobfbfmaaGreatDoorC13K28
import Derived.Test.YtdbfgnpobfbfmaaGreatDoorC13K29
import Derived.Test.YtdbfgnpobfbfmaaGreatDoorC13K45
import Derived.Test.YtdbfgnpobfbfmaaGreatDoorC13K46

section
/- The row of ProofScales, and its card. -/
namespace Go.Proofs.YtdbfgnpobfbfmaaGreatDoor.proofScales
open Go.ChangeShapes Go.WideShapes Go.ChangeAt Go.RowKit Go.Abs RT
set_option maxRecDepth 20000
set_option linter.unusedVariables false

def wfU32 (x : Int) : Prop := (Lit.int .u32 x).wf = true

theorem sh_U32 {y : PD} (h : Sh (.sl false [.int .u32]) y) : ∃ l : List Int, y = .sl (l.map elU32) ∧ (l.length ≤ maxLen ∧ ∀ x, x ∈ l → wfU32 x) := by
  refine sh_sl (el := elU32) (wf := wfU32) (fun xs hl hs => ?_) h
  obtain ⟨a0, rfl⟩ := get1 hl
  obtain ⟨z0, rfl, w0⟩ := sh_int (hs 0 _ _ rfl rfl)
  exact ⟨z0, rfl, w0⟩

def wfABLU32LU32Z (x : Bool × (List Int) × (List Int)) : Prop := True ∧ (x.2.1.length ≤ maxLen ∧ ∀ y, y ∈ x.2.1 → wfU32 y) ∧ (x.2.2.length ≤ maxLen ∧ ∀ y, y ∈ x.2.2 → wfU32 y)

theorem sh_ABLU32LU32Z {y : PD} (h : Sh (.sl true [.bool, .sl false [.int .u32], .sl false [.int .u32]]) y) : ∃ l : List (Bool × (List Int) × (List Int)), y = .sl (l.map elABLU32LU32Z) ∧ (l.length ≤ maxLen ∧ ∀ x, x ∈ l → wfABLU32LU32Z x) := by
  refine sh_sl (el := elABLU32LU32Z) (wf := wfABLU32LU32Z) (fun xs hl hs => ?_) h
  obtain ⟨a0, a1, a2, rfl⟩ := get3 hl
  obtain ⟨z0, rfl, w0⟩ := sh_bool (hs 0 _ _ rfl rfl)
  obtain ⟨z1, rfl, w1⟩ := sh_U32 (hs 1 _ _ rfl rfl)
  obtain ⟨z2, rfl, w2⟩ := sh_U32 (hs 2 _ _ rfl rfl)
  exact ⟨(z0, z1, z2), rfl, ⟨w0, w1, w2⟩⟩

def wfLABLU32LU32Z (x : List (Bool × (List Int) × (List Int))) : Prop := (x.length ≤ maxLen ∧ ∀ y, y ∈ x → wfABLU32LU32Z y)

theorem sh_LABLU32LU32Z {y : PD} (h : Sh (.sl false [.sl true [.bool, .sl false [.int .u32], .sl false [.int .u32]]]) y) : ∃ l : List (List (Bool × (List Int) × (List Int))), y = .sl (l.map elLABLU32LU32Z) ∧ (l.length ≤ maxLen ∧ ∀ x, x ∈ l → wfLABLU32LU32Z x) := by
  refine sh_sl (el := elLABLU32LU32Z) (wf := wfLABLU32LU32Z) (fun xs hl hs => ?_) h
  obtain ⟨a0, rfl⟩ := get1 hl
  obtain ⟨z0, rfl, w0⟩ := sh_ABLU32LU32Z (hs 0 _ _ rfl rfl)
  exact ⟨z0, rfl, w0⟩

theorem u32_of {x : Int} (h : wfU32 x) : 0 ≤ x ∧ x < 4294967296 := by
  unfold wfU32 Lit.wf at h
  rw [Bool.and_eq_true, decide_eq_true_eq, decide_eq_true_eq] at h
  have h1 : IntKind.u32.min = 0 := rfl
  have h2 : IntKind.u32.max = 4294967295 := rfl
  omega
theorem ws_of {l : List (Bool × (List Int) × (List Int))} (h : ∀ x, x ∈ l → wfABLU32LU32Z x) : wsQ l := fun x hx => ⟨fun y hy => u32_of ((h x hx).2.1.2 y hy), fun y hy => u32_of ((h x hx).2.2.2 y hy)⟩
theorem wsA_of {l : List (List (Bool × (List Int) × (List Int)))} (h : ∀ x, x ∈ l → wfLABLU32LU32Z x) : ∀ r, r ∈ l → wsQ r := fun r hr => ws_of (h r hr).2
theorem ws1_of {b : Bool} {n d : List Int} (h1 : ∀ y, y ∈ n → wfU32 y) (h2 : ∀ y, y ∈ d → wfU32 y) : wsQ [(b, n, d)] := fun x hx => by
  obtain rfl := List.mem_singleton.1 hx
  exact ⟨fun y hy => u32_of (h1 y hy), fun y hy => u32_of (h2 y hy)⟩

theorem open_0 {H : Type} {enc : TypeId × Value → H} {W : World} {base : Nat} {v : Value} {d : DataW H} {ps : List MemPlace} (hval : Value.okWide Tryz.prog W .any base 25 v) (h : DataW.Trod enc Tryz.prog W 0 (fun _ => true) true 25 v d ps) :
    ∃ (z0 : List (List (Bool × (List Int) × (List Int)))) (z1 : List (Bool × (List Int) × (List Int))) (z2 : List (Bool × (List Int) × (List Int))), ARep (ctx0 W) [] W v (.agg [.pd (.sl (z0.map elLABLU32LU32Z)), .pd (.sl (z1.map elABLU32LU32Z)), .pd (.sl (z2.map elABLU32LU32Z))]) ∧ (z0.length ≤ maxLen ∧ ∀ y, y ∈ z0 → wfLABLU32LU32Z y) ∧ (z1.length ≤ maxLen ∧ ∀ y, y ∈ z1 → wfABLU32LU32Z y) ∧ (z2.length ≤ maxLen ∧ ∀ y, y ∈ z2 → wfABLU32LU32Z y) := by
  obtain ⟨fuel, hf⟩ := h
  unfold Value.okWide at hval
  rw [Tryz.underlying25] at hval
  obtain ⟨cs, rfl, _, _⟩ := hval
  have hc : CellsSh W [.sl false [.sl true [.bool, .sl false [.int .u32], .sl false [.int .u32]]], .sl true [.bool, .sl false [.int .u32], .sl false [.int .u32]], .sl true [.bool, .sl false [.int .u32], .sl false [.int .u32]]] cs.toList := trod_sh 9 25 fuel _ _ _ hf (by kernel_rfl)
  obtain ⟨y0, s0, p0⟩ := hc.2 0 _ (cs.toList[0]'(by rw [hc.1]; decide)) rfl (List.getElem?_eq_getElem _)
  obtain ⟨z0, rfl, w0⟩ := sh_LABLU32LU32Z s0
  obtain ⟨y1, s1, p1⟩ := hc.2 1 _ (cs.toList[1]'(by rw [hc.1]; decide)) rfl (List.getElem?_eq_getElem _)
  obtain ⟨z1, rfl, w1⟩ := sh_ABLU32LU32Z s1
  obtain ⟨y2, s2, p2⟩ := hc.2 2 _ (cs.toList[2]'(by rw [hc.1]; decide)) rfl (List.getElem?_eq_getElem _)
  obtain ⟨z2, rfl, w2⟩ := sh_ABLU32LU32Z s2
  refine ⟨z0, z1, z2, agg_rep hc rfl (fun i u v y q1 q2 q3 => ?_), w0, w1, w2⟩
  match i with
  | 0 => rw [List.getElem?_eq_getElem (by rw [hc.1]; decide)] at q2; cases q2; cases q3; exact .pd _ _ p0
  | 1 => rw [List.getElem?_eq_getElem (by rw [hc.1]; decide)] at q2; cases q2; cases q3; exact .pd _ _ p1
  | 2 => rw [List.getElem?_eq_getElem (by rw [hc.1]; decide)] at q2; cases q2; cases q3; exact .pd _ _ p2
  | i + 3 => simp at q3

theorem open_1 {H : Type} {enc : TypeId × Value → H} {W : World} {base : Nat} {v : Value} {d : DataW H} {ps : List MemPlace} (hval : Value.okWide Tryz.prog W .any base 27 v) (h : DataW.Trod enc Tryz.prog W 0 (fun _ => true) true 27 v d ps) :
    ∃ (z0 : Int) (z1 : List (Bool × (List Int) × (List Int))) (z2 : List (Bool × (List Int) × (List Int))) (z3 : List (Bool × (List Int) × (List Int))), ARep (ctx0 W) [] W v (.agg [.pd (.int .i64 z0), .pd (.sl (z1.map elABLU32LU32Z)), .pd (.sl (z2.map elABLU32LU32Z)), .pd (.sl (z3.map elABLU32LU32Z))]) ∧ (Lit.int .i64 z0).wf = true ∧ (z1.length ≤ maxLen ∧ ∀ y, y ∈ z1 → wfABLU32LU32Z y) ∧ (z2.length ≤ maxLen ∧ ∀ y, y ∈ z2 → wfABLU32LU32Z y) ∧ (z3.length ≤ maxLen ∧ ∀ y, y ∈ z3 → wfABLU32LU32Z y) := by
  obtain ⟨fuel, hf⟩ := h
  unfold Value.okWide at hval
  rw [Tryz.underlying27] at hval
  obtain ⟨cs, rfl, _, _⟩ := hval
  have hc : CellsSh W [.int .i64, .sl true [.bool, .sl false [.int .u32], .sl false [.int .u32]], .sl true [.bool, .sl false [.int .u32], .sl false [.int .u32]], .sl true [.bool, .sl false [.int .u32], .sl false [.int .u32]]] cs.toList := trod_sh 9 27 fuel _ _ _ hf (by kernel_rfl)
  obtain ⟨y0, s0, p0⟩ := hc.2 0 _ (cs.toList[0]'(by rw [hc.1]; decide)) rfl (List.getElem?_eq_getElem _)
  obtain ⟨z0, rfl, w0⟩ := sh_int s0
  obtain ⟨y1, s1, p1⟩ := hc.2 1 _ (cs.toList[1]'(by rw [hc.1]; decide)) rfl (List.getElem?_eq_getElem _)
  obtain ⟨z1, rfl, w1⟩ := sh_ABLU32LU32Z s1
  obtain ⟨y2, s2, p2⟩ := hc.2 2 _ (cs.toList[2]'(by rw [hc.1]; decide)) rfl (List.getElem?_eq_getElem _)
  obtain ⟨z2, rfl, w2⟩ := sh_ABLU32LU32Z s2
  obtain ⟨y3, s3, p3⟩ := hc.2 3 _ (cs.toList[3]'(by rw [hc.1]; decide)) rfl (List.getElem?_eq_getElem _)
  obtain ⟨z3, rfl, w3⟩ := sh_ABLU32LU32Z s3
  refine ⟨z0, z1, z2, z3, agg_rep hc rfl (fun i u v y q1 q2 q3 => ?_), w0, w1, w2, w3⟩
  match i with
  | 0 => rw [List.getElem?_eq_getElem (by rw [hc.1]; decide)] at q2; cases q2; cases q3; exact .pd _ _ p0
  | 1 => rw [List.getElem?_eq_getElem (by rw [hc.1]; decide)] at q2; cases q2; cases q3; exact .pd _ _ p1
  | 2 => rw [List.getElem?_eq_getElem (by rw [hc.1]; decide)] at q2; cases q2; cases q3; exact .pd _ _ p2
  | 3 => rw [List.getElem?_eq_getElem (by rw [hc.1]; decide)] at q2; cases q2; cases q3; exact .pd _ _ p3
  | i + 4 => simp at q3

theorem open_2 {H : Type} {enc : TypeId × Value → H} {W : World} {base : Nat} {v : Value} {d : DataW H} {ps : List MemPlace} (hval : Value.okWide Tryz.prog W .any base 44 v) (h : DataW.Trod enc Tryz.prog W 0 (fun _ => true) true 44 v d ps) :
    ∃ (z0 : Bool) (z1 : List Int) (z2 : List Int), ARep (ctx0 W) [] W v (.agg [.pd (.bool z0), .pd (.sl (z1.map elU32)), .pd (.sl (z2.map elU32))]) ∧ True ∧ (z1.length ≤ maxLen ∧ ∀ y, y ∈ z1 → wfU32 y) ∧ (z2.length ≤ maxLen ∧ ∀ y, y ∈ z2 → wfU32 y) := by
  obtain ⟨fuel, hf⟩ := h
  unfold Value.okWide at hval
  rw [Tryz.underlying44] at hval
  obtain ⟨cs, rfl, _, _⟩ := hval
  have hc : CellsSh W [.bool, .sl false [.int .u32], .sl false [.int .u32]] cs.toList := trod_sh 9 44 fuel _ _ _ hf (by kernel_rfl)
  obtain ⟨y0, s0, p0⟩ := hc.2 0 _ (cs.toList[0]'(by rw [hc.1]; decide)) rfl (List.getElem?_eq_getElem _)
  obtain ⟨z0, rfl, w0⟩ := sh_bool s0
  obtain ⟨y1, s1, p1⟩ := hc.2 1 _ (cs.toList[1]'(by rw [hc.1]; decide)) rfl (List.getElem?_eq_getElem _)
  obtain ⟨z1, rfl, w1⟩ := sh_U32 s1
  obtain ⟨y2, s2, p2⟩ := hc.2 2 _ (cs.toList[2]'(by rw [hc.1]; decide)) rfl (List.getElem?_eq_getElem _)
  obtain ⟨z2, rfl, w2⟩ := sh_U32 s2
  refine ⟨z0, z1, z2, agg_rep hc rfl (fun i u v y q1 q2 q3 => ?_), w0, w1, w2⟩
  match i with
  | 0 => rw [List.getElem?_eq_getElem (by rw [hc.1]; decide)] at q2; cases q2; cases q3; exact .pd _ _ p0
  | 1 => rw [List.getElem?_eq_getElem (by rw [hc.1]; decide)] at q2; cases q2; cases q3; exact .pd _ _ p1
  | 2 => rw [List.getElem?_eq_getElem (by rw [hc.1]; decide)] at q2; cases q2; cases q3; exact .pd _ _ p2
  | i + 3 => simp at q3

theorem contract (H : Type) (enc : TypeId × Value → H) (W : World) (base : Nat) (args : Array Value) (ds gs : List (DataW H)) (before : List MemPlace)
    (hval : ∀ (j : Nat) t v, Tryz.f5.params[j]? = some t → args[j]? = some v → Value.okWide Tryz.prog W .any base t v)
    (hW : DataW.Whole enc Tryz.prog Tryz.f5.params.toList Rows.proofScalesSpec.vars false W args.toList ds gs before) (hL : laidMetH Tryz.prog Rows.proofScalesRow.laid W) (hsh : W.ShapedOpen Tryz.prog) :
    Calls Tryz.prog 5 args W fun e W' => ∃ v, e = .returned v ∧ Rows.proofScalesSpec.post enc Tryz.prog Tryz.f5 false true false false W args v W' := by
  have hW' := hW
  obtain ⟨p, q, hA0, hV, rfl, hfz, hnd⟩ := hW
  have hA : DataW.TrodAll enc Tryz.prog W 0 (fun _ => true) true Tryz.f5.params.toList args.toList ds p := hA0
  rw [Tryz.params5] at hA hval
  obtain ⟨v0, vs0, d0, ds0, p0, q0, hargs, rfl, rfl, h0, r0⟩ := trodAll_cons hA
  obtain ⟨v1, vs1, d1, ds1, p1, q1, rfl, rfl, rfl, h1, r1⟩ := trodAll_cons r0
  obtain ⟨v2, vs2, d2, ds2, p2, q2, rfl, rfl, rfl, h2, r2⟩ := trodAll_cons r1
  obtain ⟨rfl, rfl, rfl⟩ := trodAll_nil r2
  obtain rfl : args = #[v0, v1, v2] := by cases args; simp_all
  obtain ⟨rfl, rfl⟩ := trodVars_none hV
  have k0 := h0
  have lt0 : ∀ x ∈ p0, x.block < W.heap.size := by obtain ⟨m, hm⟩ := k0; exact DataW.trod_lt m _ _ _ hm
  obtain ⟨z0_0, z0_1, z0_2, rep0, wf0⟩ := open_0 (hval 0 25 v0 rfl rfl) h0
  have k1 := h1
  have lt1 : ∀ x ∈ p1, x.block < W.heap.size := by obtain ⟨m, hm⟩ := k1; exact DataW.trod_lt m _ _ _ hm
  obtain ⟨z1_0, z1_1, z1_2, z1_3, rep1, wf1⟩ := open_1 (hval 1 27 v1 rfl rfl) h1
  have k2 := h2
  have lt2 : ∀ x ∈ p2, x.block < W.heap.size := by obtain ⟨m, hm⟩ := k2; exact DataW.trod_lt m _ _ _ hm
  obtain ⟨z2_0, z2_1, z2_2, rep2, wf2⟩ := open_2 (hval 2 44 v2 rfl rfl) h2
  clear hA0
  obtain ⟨m, hG⟩ := tabs hL hsh
  refine (enter_true (offcutlaw13_ProofScales_ok m z0_0 z0_1 z0_2 z1_0 z1_1 z1_2 z1_3 z2_0 z2_1 z2_2 (law_scales z0_0 z0_1 z0_2 z1_0 z1_1 z1_2 z1_3 z2_0 z2_1 z2_2 (wsA_of wf0.1.2) (ws_of wf0.2.1.2) (ws_of wf0.2.2.2) (ws_of wf1.2.1.2) (ws_of wf1.2.2.1.2) (ws_of wf1.2.2.2.2) (ws1_of (b := z2_0) wf2.2.1.2 wf2.2.2.2))) hG (args_cons rep0 (args_cons rep1 (args_cons rep2 args_nil)))).mono fun e W' ⟨he, bel⟩ => ?_
  subst he
  exact ⟨_, rfl, _, _, _, [], _, [], hW', trodAll_mk1 (shut_bool Tryz.underlying4 _), (trodAll_cons_mk (Below.trod laidOut (by kernel_rfl) (of_decide_eq_true (by kernel_rfl)) k0 bel lt0) (trodAll_cons_mk (Below.trod laidOut (by kernel_rfl) (of_decide_eq_true (by kernel_rfl)) k1 bel lt1) (trodAll_cons_mk (Below.trod laidOut (by kernel_rfl) (of_decide_eq_true (by kernel_rfl)) k2 bel lt2) trodAll_mk0))), rfl, bel.frame _, fun h => by cases h⟩

theorem reads (os : Os) {H : Type} (enc : TypeId × Value → H) : ∃ places, DataW.whole enc Tryz.prog ((start10 os).forCall (fun _ _ => 0) ⟨#[], #[.agg #[.slice none 0 0, .slice none 0 0, .slice none 0 0], .agg #[.int .i64 0, .slice none 0 0, .slice none 0 0, .slice none 0 0], .agg #[.bool false, .slice none 0 0, .slice none 0 0]], []⟩).memory Tryz.f5.params.toList Rows.proofScalesSpec.vars false #[Value.agg #[.slice none 0 0, .slice none 0 0, .slice none 0 0], .agg #[.int .i64 0, .slice none 0 0, .slice none 0 0, .slice none 0 0], .agg #[.bool false, .slice none 0 0, .slice none 0 0]].toList 8 = some ([.agg [.nil, .nil, .nil], .agg [.lit (.int .i64 0), .nil, .nil, .nil], .agg [.agg [.lit (.bool false), .nil], .nil]], [], places) :=
  ⟨[], by kernel_rfl⟩

set_option maxRecDepth 100000 in
theorem lifted (os : Os) (started : os.Started) (H : Type) (enc : TypeId × Value → H) (F : Stop.Interp) :
    ReturnsInHanded {} Tryz.checked os 5 .any ((OpenSpec.ofChange Rows.proofScalesSpec).preRow enc Tryz.prog Tryz.f5 Rows.proofScalesRow.domain false Rows.proofScalesRow.laid) (((OpenSpec.ofChange Rows.proofScalesSpec).at F).post enc Tryz.prog Tryz.f5 false true false false) := by
  obtain ⟨places, hx⟩ := reads os enc
  refine returnsInHanded_of_row (C := Tryz.checked) (s := OpenSpec.ofChange Rows.proofScalesSpec) own started (by kernel_rfl) Tryz.func5
    (witness_row_atRef (enc := enc) (C := Tryz.checked) false (start10 os) #[.agg #[.slice none 0 0, .slice none 0 0, .slice none 0 0], .agg #[.int .i64 0, .slice none 0 0, .slice none 0 0, .slice none 0 0], .agg #[.bool false, .slice none 0 0, .slice none 0 0]] (World.laidAll_os _ _ _) (by kernel_rfl) (by kernel_rfl) (by kernel_rfl)
      (OpenSpec.preRow_of_cond 8 hx (by kernel_rfl) (fun k hk => by cases hk) (by kernel_rfl) (laid_met os _))) ?_
  intro W base args ds gs before hval hW _ _ _ hL hsh _
  exact contract H enc W base args ds gs before hval hW hL hsh

theorem said : Rows.ProofScalesSaid :=
  OpenClaim.holds_of_cond 5 Tryz.f5 rfl rfl rfl rfl rfl rfl rfl ⟨rfl, rfl, rfl, rfl, rfl⟩ rfl rfl rfl rfl rfl (by kernel_rfl) Tryz.func5 (by kernel_rfl)
    (of_decide_eq_true (by kernel_rfl)) (by unfold Func.isWrapper; first | (rw [if_pos (by decide +kernel)]; kernel_rfl) | (rw [if_neg (by decide +kernel)]; exact ⟨rfl, rfl⟩))
    (fun os started H enc _ F => by rw [OpenClaim.pre_eq_preRow]; exact lifted os started H enc F)

theorem plain (f : FuncId) (fn : Func) (hf : Tryz.pinned.checked.prog.funcNamed "offcut/offcutlaw13.ProofScales" = some f) (hfn : Tryz.pinned.checked.prog.funcs[f]? = some fn) :
    false = Tryz.pinned.checked.prog.looks [] ∧ ∀ (j : Nat) t, fn.params[j]? = some t → Tryz.pinned.checked.prog.wantsStandIn t = false := by
  obtain rfl : f = 5 := Option.some.inj ((show Tryz.prog.funcNamed "offcut/offcutlaw13.ProofScales" = some 5 by kernel_rfl).symm.trans hf) |>.symm
  obtain rfl : fn = Tryz.f5 := (Option.some.inj (Tryz.func5.symm.trans hfn)).symm
  refine ⟨by kernel_rfl, fun j t ht => ?_⟩
  rw [Tryz.params5] at ht
  have : t = 25 ∨ t = 27 ∨ t = 44 := by
    have := Array.mem_of_getElem? ht
    simp only [List.mem_toArray, List.mem_cons, List.not_mem_nil, or_false] at this
    rcases this with h | h | h <;> simp [h]
  rcases this with rfl | rfl | rfl
  · exact (show Tryz.prog.wantsStandIn 25 = false by kernel_rfl)
  · exact (show Tryz.prog.wantsStandIn 27 = false by kernel_rfl)
  · exact (show Tryz.prog.wantsStandIn 44 = false by kernel_rfl)

theorem card : Rows.ProofScalesCardSaid :=
  Claim7.holds_tied_plain_at .later [] _ _ _ _ said (fun _ h => by cases h) (by kernel_rfl) (fun _ h => by cases h) proofScales_row_tie rfl ⟨rfl, rfl⟩ (by kernel_rfl) rfl plain (by kernel_rfl)
#print axioms card
end Go.Proofs.YtdbfgnpobfbfmaaGreatDoor.proofScales
namespace Go.Proofs.YtdbfgnpobfbfmaaGreatDoor
/-- The card, under a short name. -/
theorem proofScales_card : Rows.ProofScalesCardSaid := proofScales.card
end Go.Proofs.YtdbfgnpobfbfmaaGreatDoor
end
