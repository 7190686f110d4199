/- The last part: LawNotesSame. -/
import Derived.Test.YtojdnnogpffhpaaGreatDoorNSaK13
import Derived.Test.YtojdnnogpffhpaaGreatDoorNSaK22
import Derived.Test.YtojdnnogpffhpaaGreatDoorNSaK21

section
namespace Go.Proofs.YtojdnnogpffhpaaGreatDoor.notesSame
open Go.ChangeShapes Go.WideShapes Go.ChangeAt Go.RowKit Go.Abs RT
set_option maxRecDepth 20000
def wfI64 (x : Int) : Prop := (Lit.int .i64 x).wf = true
theorem sh_I64 {y : PD} (h : Sh (.sl false [.int .i64]) y) : ∃ l : List Int, y = .sl (l.map elI64) ∧ (l.length ≤ maxLen ∧ ∀ x, x ∈ l → wfI64 x) := by
  refine sh_sl (el := elI64) (wf := wfI64) (fun xs hl hs => ?_) h
  obtain ⟨a0, rfl⟩ := get1 hl
  obtain ⟨z0, rfl, w0⟩ := sh_int (hs 0 _ _ rfl rfl)
  exact ⟨z0, rfl, w0⟩
def wfLI64 (x : List Int) : Prop := (x.length ≤ maxLen ∧ ∀ y, y ∈ x → wfI64 y)
theorem sh_LI64 {y : PD} (h : Sh (.sl false [.sl false [.int .i64]]) y) : ∃ l : List (List Int), y = .sl (l.map elQ2) ∧ (l.length ≤ maxLen ∧ ∀ x, x ∈ l → wfLI64 x) := by
  refine sh_sl (el := elQ2) (wf := wfLI64) (fun xs hl hs => ?_) h
  obtain ⟨a0, rfl⟩ := get1 hl
  obtain ⟨z0, rfl, w0⟩ := sh_I64 (hs 0 _ _ rfl rfl)
  exact ⟨z0, rfl, w0⟩
theorem open_0 {H : Type} {enc : TypeId × Value → H} {W : World} {base : Nat} {v : Value} {d : DataW H} {ps : List MemPlace} (hval : Value.okWide Tryz.prog W .any base 31 v) (h : DataW.Trod enc Tryz.prog W 0 (fun _ => true) true 31 v d ps) :
    ∃ (z0 : List (List Int)), ARep (ctx0 W) [] W v (.agg [.pd (.sl (z0.map elQ2))]) ∧ (z0.length ≤ maxLen ∧ ∀ y, y ∈ z0 → wfLI64 y) := by
  obtain ⟨fuel, hf⟩ := h
  unfold Value.okWide at hval
  rw [Tryz.underlying31] at hval
  obtain ⟨cs, rfl, _, _⟩ := hval
  have hc : CellsSh W [.sl false [.sl false [.int .i64]]] cs.toList := trod_sh 9 31 fuel _ _ _ hf (by kernel_rfl)
  obtain ⟨y0, s0, p0⟩ := hc.2 0 _ (cs.toList[0]'(by rw [hc.1]; decide)) rfl (List.getElem?_eq_getElem _)
  obtain ⟨z0, rfl, w0⟩ := sh_LI64 s0
  refine ⟨z0, agg_rep hc rfl (fun i u v y q1 q2 q3 => ?_), w0⟩
  match i with
  | 0 => rw [List.getElem?_eq_getElem (by rw [hc.1]; decide)] at q2; cases q2; cases q3; exact .pd _ _ p0
  | i + 1 => simp at q3
theorem open_1 {H : Type} {enc : TypeId × Value → H} {W : World} {base : Nat} {v : Value} {d : DataW H} {ps : List MemPlace} (hval : Value.okWide Tryz.prog W .any base 31 v) (h : DataW.Trod enc Tryz.prog W 0 (fun _ => true) true 31 v d ps) :
    ∃ (z0 : List (List Int)), ARep (ctx0 W) [] W v (.agg [.pd (.sl (z0.map elQ2))]) ∧ (z0.length ≤ maxLen ∧ ∀ y, y ∈ z0 → wfLI64 y) := by
  obtain ⟨fuel, hf⟩ := h
  unfold Value.okWide at hval
  rw [Tryz.underlying31] at hval
  obtain ⟨cs, rfl, _, _⟩ := hval
  have hc : CellsSh W [.sl false [.sl false [.int .i64]]] cs.toList := trod_sh 9 31 fuel _ _ _ hf (by kernel_rfl)
  obtain ⟨y0, s0, p0⟩ := hc.2 0 _ (cs.toList[0]'(by rw [hc.1]; decide)) rfl (List.getElem?_eq_getElem _)
  obtain ⟨z0, rfl, w0⟩ := sh_LI64 s0
  refine ⟨z0, agg_rep hc rfl (fun i u v y q1 q2 q3 => ?_), w0⟩
  match i with
  | 0 => rw [List.getElem?_eq_getElem (by rw [hc.1]; decide)] at q2; cases q2; cases q3; exact .pd _ _ p0
  | i + 1 => simp at q3
theorem contract (H : Type) (enc : TypeId × Value → H) (W : World) (base : Nat) (args : Array Value) (ds gs : List (DataW H)) (before : List MemPlace)
    (hval : ∀ (j : Nat) t v, Tryz.f5.params[j]? = some t → args[j]? = some v → Value.okWide Tryz.prog W .any base t v)
    (hW : DataW.Whole enc Tryz.prog Tryz.f5.params.toList Rows.notesSameSpec.vars false W args.toList ds gs before) (hL : laidMetH Tryz.prog Rows.notesSameRow.laid W) (hsh : W.ShapedOpen Tryz.prog) :
    Calls Tryz.prog 5 args W fun e W' => ∃ v, e = .returned v ∧ Rows.notesSameSpec.post enc Tryz.prog Tryz.f5 false true false false W args v W' := by
  have hW' := hW
  obtain ⟨p, q, hA0, hV, rfl, hfz, hnd⟩ := hW
  have hA : DataW.TrodAll enc Tryz.prog W 0 (fun _ => true) true Tryz.f5.params.toList args.toList ds p := hA0
  rw [Tryz.params5] at hA hval
  obtain ⟨v0, vs0, d0, ds0, p0, q0, hargs, rfl, rfl, h0, r0⟩ := trodAll_cons hA
  obtain ⟨v1, vs1, d1, ds1, p1, q1, rfl, rfl, rfl, h1, r1⟩ := trodAll_cons r0
  obtain ⟨rfl, rfl, rfl⟩ := trodAll_nil r1
  obtain rfl : args = #[v0, v1] := by cases args; simp_all
  obtain ⟨rfl, rfl⟩ := trodVars_none hV
  have k0 := h0
  have lt0 : ∀ x ∈ p0, x.block < W.heap.size := by obtain ⟨m, hm⟩ := k0; exact DataW.trod_lt m _ _ _ hm
  obtain ⟨z0_0, rep0, wf0⟩ := open_0 (hval 0 31 v0 rfl rfl) h0
  have k1 := h1
  have lt1 : ∀ x ∈ p1, x.block < W.heap.size := by obtain ⟨m, hm⟩ := k1; exact DataW.trod_lt m _ _ _ hm
  obtain ⟨z1_0, rep1, wf1⟩ := open_1 (hval 1 31 v1 rfl rfl) h1
  clear hA0
  obtain ⟨m, hG⟩ := tabs hL hsh
  refine (enter_true (offcutlaw09_NotesSame_ok m z0_0 z1_0 (law_nsame z0_0 z1_0 )) hG (args_cons rep0 (args_cons rep1 args_nil))).mono fun e W' ⟨he, bel⟩ => ?_
  subst he
  exact ⟨_, rfl, _, _, _, [], _, [], hW', trodAll_mk1 (shut_bool Tryz.underlying4 _), (trodAll_cons_mk (Below.trod laidOut (by kernel_rfl) (of_decide_eq_true (by kernel_rfl)) k0 bel lt0) (trodAll_cons_mk (Below.trod laidOut (by kernel_rfl) (of_decide_eq_true (by kernel_rfl)) k1 bel lt1) trodAll_mk0)), rfl, bel.frame _, fun h => by cases h⟩
theorem reads (os : Os) {H : Type} (enc : TypeId × Value → H) : ∃ places, DataW.whole enc Tryz.prog ((start10 os).forCall (fun _ _ => 0) ⟨#[], #[.agg #[.slice none 0 0], .agg #[.slice none 0 0]], []⟩).memory Tryz.f5.params.toList Rows.notesSameSpec.vars false #[Value.agg #[.slice none 0 0], .agg #[.slice none 0 0]].toList 8 = some ([.agg [.nil], .agg [.nil]], [], places) :=
  ⟨[], by kernel_rfl⟩
set_option maxRecDepth 100000 in
theorem lifted (os : Os) (started : os.Started) (H : Type) (enc : TypeId × Value → H) (F : Stop.Interp) :
    ReturnsInHanded {} Tryz.checked os 5 .any ((OpenSpec.ofChange Rows.notesSameSpec).preRow enc Tryz.prog Tryz.f5 Rows.notesSameRow.domain false Rows.notesSameRow.laid) (((OpenSpec.ofChange Rows.notesSameSpec).at F).post enc Tryz.prog Tryz.f5 false true false false) := by
  obtain ⟨places, hx⟩ := reads os enc
  refine returnsInHanded_of_row (C := Tryz.checked) (s := OpenSpec.ofChange Rows.notesSameSpec) own started (by kernel_rfl) Tryz.func5
    (witness_row_atRef (enc := enc) (C := Tryz.checked) false (start10 os) #[.agg #[.slice none 0 0], .agg #[.slice none 0 0]] (World.laidAll_os _ _ _) (by kernel_rfl) (by kernel_rfl) (by kernel_rfl)
      (OpenSpec.preRow_of_cond 8 hx (by kernel_rfl) (fun k hk => by cases hk) (by kernel_rfl) (laid_met os _))) ?_
  intro W base args ds gs before hval hW _ _ _ hL hsh _
  exact contract H enc W base args ds gs before hval hW hL hsh
theorem said : Rows.NotesSameSaid :=
  OpenClaim.holds_of_cond 5 Tryz.f5 rfl rfl rfl rfl rfl rfl rfl ⟨rfl, rfl, rfl, rfl, rfl⟩ rfl rfl rfl rfl rfl (by kernel_rfl) Tryz.func5 (by kernel_rfl)
    (of_decide_eq_true (by kernel_rfl)) (by unfold Func.isWrapper; first | (rw [if_pos (by decide +kernel)]; kernel_rfl) | (rw [if_neg (by decide +kernel)]; exact ⟨rfl, rfl⟩))
    (fun os started H enc _ F => by rw [OpenClaim.pre_eq_preRow]; exact lifted os started H enc F)
theorem plain (f : FuncId) (fn : Func) (hf : Tryz.pinned.checked.prog.funcNamed "offcut/offcutlaw09.NotesSame" = some f) (hfn : Tryz.pinned.checked.prog.funcs[f]? = some fn) :
    false = Tryz.pinned.checked.prog.looks [] ∧ ∀ (j : Nat) t, fn.params[j]? = some t → Tryz.pinned.checked.prog.wantsStandIn t = false := by
  obtain rfl : f = 5 := Option.some.inj ((show Tryz.prog.funcNamed "offcut/offcutlaw09.NotesSame" = some 5 by kernel_rfl).symm.trans hf) |>.symm
  obtain rfl : fn = Tryz.f5 := (Option.some.inj (Tryz.func5.symm.trans hfn)).symm
  refine ⟨by kernel_rfl, fun j t ht => ?_⟩
  rw [Tryz.params5] at ht
  have : t = 31 := by
    have := Array.mem_of_getElem? ht
    simp only [List.mem_toArray, List.mem_cons, List.not_mem_nil, or_false] at this
    rcases this with h | h <;> simp [h]
  rcases this with rfl
  · exact (show Tryz.prog.wantsStandIn 31 = false by kernel_rfl)
theorem card : Rows.NotesSameCardSaid :=
  Claim7.holds_tied_plain_at .later [] _ _ _ _ said (fun _ h => by cases h) (by kernel_rfl) (fun _ h => by cases h) notesSame_row_tie rfl ⟨rfl, rfl⟩ (by kernel_rfl) rfl plain (by kernel_rfl)
#print axioms card
end Go.Proofs.YtojdnnogpffhpaaGreatDoor.notesSame
namespace Go.Proofs.YtojdnnogpffhpaaGreatDoor
theorem notesSame_card : Rows.NotesSameCardSaid := notesSame.card
end Go.Proofs.YtojdnnogpffhpaaGreatDoor
end
