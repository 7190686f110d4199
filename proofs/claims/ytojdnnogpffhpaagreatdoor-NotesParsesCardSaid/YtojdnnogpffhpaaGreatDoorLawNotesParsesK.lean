/- The last part: LawNotesParses. -/
import Derived.Test.YtojdnnogpffhpaaGreatDoorNPaK13
import Derived.Test.YtojdnnogpffhpaaGreatDoorNPaK25
import Derived.Test.YtojdnnogpffhpaaGreatDoorNPaK26

section
namespace Go.Proofs.YtojdnnogpffhpaaGreatDoor.notesParses
open Go.ChangeShapes Go.WideShapes Go.ChangeAt Go.RowKit Go.Abs RT
set_option maxRecDepth 20000
def wfS (x : List UInt8) : Prop := x.length ≤ maxLen
theorem sh_S {y : PD} (h : Sh (.sl false [.str]) y) : ∃ l : List (List UInt8), y = .sl (l.map elS) ∧ (l.length ≤ maxLen ∧ ∀ x, x ∈ l → wfS x) := by
  refine sh_sl (el := elS) (wf := wfS) (fun xs hl hs => ?_) h
  obtain ⟨a0, rfl⟩ := get1 hl
  obtain ⟨z0, rfl, w0⟩ := sh_str (hs 0 _ _ rfl rfl)
  exact ⟨z0, rfl, w0⟩
def wfU32 (x : Int) : Prop := (Lit.int .u32 x).wf = true
theorem sh_U32 {y : PD} (h : Sh (.sl false [.int .u32]) y) : ∃ l : List Int, y = .sl (l.map elU32) ∧ (l.length ≤ maxLen ∧ ∀ x, x ∈ l → wfU32 x) := by
  refine sh_sl (el := elU32) (wf := wfU32) (fun xs hl hs => ?_) h
  obtain ⟨a0, rfl⟩ := get1 hl
  obtain ⟨z0, rfl, w0⟩ := sh_int (hs 0 _ _ rfl rfl)
  exact ⟨z0, rfl, w0⟩
def wfABLU32LU32Z (x : Bool × (List Int) × (List Int)) : Prop := True ∧ (x.2.1.length ≤ maxLen ∧ ∀ y, y ∈ x.2.1 → wfU32 y) ∧ (x.2.2.length ≤ maxLen ∧ ∀ y, y ∈ x.2.2 → wfU32 y)
theorem sh_ABLU32LU32Z {y : PD} (h : Sh (.sl true [.bool, .sl false [.int .u32], .sl false [.int .u32]]) y) : ∃ l : List (Bool × (List Int) × (List Int)), y = .sl (l.map elQ1) ∧ (l.length ≤ maxLen ∧ ∀ x, x ∈ l → wfABLU32LU32Z x) := by
  refine sh_sl (el := elQ1) (wf := wfABLU32LU32Z) (fun xs hl hs => ?_) h
  obtain ⟨a0, a1, a2, rfl⟩ := get3 hl
  obtain ⟨z0, rfl, w0⟩ := sh_bool (hs 0 _ _ rfl rfl)
  obtain ⟨z1, rfl, w1⟩ := sh_U32 (hs 1 _ _ rfl rfl)
  obtain ⟨z2, rfl, w2⟩ := sh_U32 (hs 2 _ _ rfl rfl)
  exact ⟨(z0, z1, z2), rfl, ⟨w0, w1, w2⟩⟩
def wfASLABLU32LU32ZI64BLU32LU32Z (x : (List UInt8) × (List (Bool × (List Int) × (List Int))) × Int × Bool × (List Int) × (List Int)) : Prop := x.1.length ≤ maxLen ∧ (x.2.1.length ≤ maxLen ∧ ∀ y, y ∈ x.2.1 → wfABLU32LU32Z y) ∧ (Lit.int .i64 x.2.2.1).wf = true ∧ True ∧ (x.2.2.2.2.1.length ≤ maxLen ∧ ∀ y, y ∈ x.2.2.2.2.1 → wfU32 y) ∧ (x.2.2.2.2.2.length ≤ maxLen ∧ ∀ y, y ∈ x.2.2.2.2.2 → wfU32 y)
theorem sh_ASLABLU32LU32ZI64BLU32LU32Z {y : PD} (h : Sh (.sl true [.str, .sl true [.bool, .sl false [.int .u32], .sl false [.int .u32]], .int .i64, .bool, .sl false [.int .u32], .sl false [.int .u32]]) y) : ∃ l : List ((List UInt8) × (List (Bool × (List Int) × (List Int))) × Int × Bool × (List Int) × (List Int)), y = .sl (l.map elQ0) ∧ (l.length ≤ maxLen ∧ ∀ x, x ∈ l → wfASLABLU32LU32ZI64BLU32LU32Z x) := by
  refine sh_sl (el := elQ0) (wf := wfASLABLU32LU32ZI64BLU32LU32Z) (fun xs hl hs => ?_) h
  obtain ⟨a0, a1, a2, a3, a4, a5, rfl⟩ := get6 hl
  obtain ⟨z0, rfl, w0⟩ := sh_str (hs 0 _ _ rfl rfl)
  obtain ⟨z1, rfl, w1⟩ := sh_ABLU32LU32Z (hs 1 _ _ rfl rfl)
  obtain ⟨z2, rfl, w2⟩ := sh_int (hs 2 _ _ rfl rfl)
  obtain ⟨z3, rfl, w3⟩ := sh_bool (hs 3 _ _ rfl rfl)
  obtain ⟨z4, rfl, w4⟩ := sh_U32 (hs 4 _ _ rfl rfl)
  obtain ⟨z5, rfl, w5⟩ := sh_U32 (hs 5 _ _ rfl rfl)
  exact ⟨(z0, z1, z2, z3, z4, z5), rfl, ⟨w0, w1, w2, w3, w4, w5⟩⟩
theorem open_0 {H : Type} {enc : TypeId × Value → H} {W : World} {base : Nat} {v : Value} {d : DataW H} {ps : List MemPlace} (hval : Value.okWide Tryz.prog W .any base 26 v) (h : DataW.Trod enc Tryz.prog W 0 (fun _ => true) true 26 v d ps) :
    ∃ (z0 : List (List UInt8)) (z1 : List (Bool × (List Int) × (List Int))) (z2 : List ((List UInt8) × (List (Bool × (List Int) × (List Int))) × Int × Bool × (List Int) × (List Int))), ARep (ctx0 W) [] W v (.agg [.pd (.sl (z0.map elS)), .pd (.sl (z1.map elQ1)), .pd (.sl (z2.map elQ0))]) ∧ (z0.length ≤ maxLen ∧ ∀ y, y ∈ z0 → wfS y) ∧ (z1.length ≤ maxLen ∧ ∀ y, y ∈ z1 → wfABLU32LU32Z y) ∧ (z2.length ≤ maxLen ∧ ∀ y, y ∈ z2 → wfASLABLU32LU32ZI64BLU32LU32Z y) := by
  obtain ⟨fuel, hf⟩ := h
  unfold Value.okWide at hval
  rw [Tryz.underlying26] at hval
  obtain ⟨cs, rfl, _, _⟩ := hval
  have hc : CellsSh W [.sl false [.str], .sl true [.bool, .sl false [.int .u32], .sl false [.int .u32]], .sl true [.str, .sl true [.bool, .sl false [.int .u32], .sl false [.int .u32]], .int .i64, .bool, .sl false [.int .u32], .sl false [.int .u32]]] cs.toList := trod_sh 9 26 fuel _ _ _ hf (by kernel_rfl)
  obtain ⟨y0, s0, p0⟩ := hc.2 0 _ (cs.toList[0]'(by rw [hc.1]; decide)) rfl (List.getElem?_eq_getElem _)
  obtain ⟨z0, rfl, w0⟩ := sh_S s0
  obtain ⟨y1, s1, p1⟩ := hc.2 1 _ (cs.toList[1]'(by rw [hc.1]; decide)) rfl (List.getElem?_eq_getElem _)
  obtain ⟨z1, rfl, w1⟩ := sh_ABLU32LU32Z s1
  obtain ⟨y2, s2, p2⟩ := hc.2 2 _ (cs.toList[2]'(by rw [hc.1]; decide)) rfl (List.getElem?_eq_getElem _)
  obtain ⟨z2, rfl, w2⟩ := sh_ASLABLU32LU32ZI64BLU32LU32Z s2
  refine ⟨z0, z1, z2, agg_rep hc rfl (fun i u v y q1 q2 q3 => ?_), w0, w1, w2⟩
  match i with
  | 0 => rw [List.getElem?_eq_getElem (by rw [hc.1]; decide)] at q2; cases q2; cases q3; exact .pd _ _ p0
  | 1 => rw [List.getElem?_eq_getElem (by rw [hc.1]; decide)] at q2; cases q2; cases q3; exact .pd _ _ p1
  | 2 => rw [List.getElem?_eq_getElem (by rw [hc.1]; decide)] at q2; cases q2; cases q3; exact .pd _ _ p2
  | i + 3 => simp at q3
theorem contract (H : Type) (enc : TypeId × Value → H) (W : World) (base : Nat) (args : Array Value) (ds gs : List (DataW H)) (before : List MemPlace)
    (hval : ∀ (j : Nat) t v, Tryz.f3.params[j]? = some t → args[j]? = some v → Value.okWide Tryz.prog W .any base t v)
    (hW : DataW.Whole enc Tryz.prog Tryz.f3.params.toList Rows.notesParsesSpec.vars false W args.toList ds gs before) (hL : laidMetH Tryz.prog Rows.notesParsesRow.laid W) (hsh : W.ShapedOpen Tryz.prog) :
    Calls Tryz.prog 3 args W fun e W' => ∃ v, e = .returned v ∧ Rows.notesParsesSpec.post enc Tryz.prog Tryz.f3 false true false false W args v W' := by
  have hW' := hW
  obtain ⟨p, q, hA0, hV, rfl, hfz, hnd⟩ := hW
  have hA : DataW.TrodAll enc Tryz.prog W 0 (fun _ => true) true Tryz.f3.params.toList args.toList ds p := hA0
  rw [Tryz.params3] at hA hval
  obtain ⟨v0, vs0, d0, ds0, p0, q0, hargs, rfl, rfl, h0, r0⟩ := trodAll_cons hA
  obtain ⟨v1, vs1, d1, ds1, p1, q1, rfl, rfl, rfl, h1, r1⟩ := trodAll_cons r0
  obtain ⟨rfl, rfl, rfl⟩ := trodAll_nil r1
  obtain rfl : args = #[v0, v1] := by cases args; simp_all
  obtain ⟨rfl, rfl⟩ := trodVars_none hV
  have k0 := h0
  have lt0 : ∀ x ∈ p0, x.block < W.heap.size := by obtain ⟨m, hm⟩ := k0; exact DataW.trod_lt m _ _ _ hm
  obtain ⟨z0_0, z0_1, z0_2, rep0, wf0⟩ := open_0 (hval 0 26 v0 rfl rfl) h0
  obtain ⟨a1, rfl, rfl, rfl, w1⟩ := Go.ChangeMaps.open_string Tryz.underlying9 (hval 1 9 v1 rfl rfl) h1
  clear hA0
  obtain ⟨m, hG⟩ := tabs hL hsh
  refine (enter_true (offcutlaw09_NotesParses_ok m z0_0 z0_1 z0_2 a1.data.toList (law_nparses z0_0 z0_1 z0_2 a1.data.toList )) hG (args_cons rep0 (args_cons (str_rep a1) args_nil))).mono fun e W' ⟨he, bel⟩ => ?_
  subst he
  exact ⟨_, rfl, _, _, _, [], _, [], hW', trodAll_mk1 (shut_bool Tryz.underlying4 _), (trodAll_cons_mk (Below.trod laidOut (by kernel_rfl) (of_decide_eq_true (by kernel_rfl)) k0 bel lt0) (trodAll_cons_mk (Go.ChangeMaps.shut_string Tryz.underlying9 w1) trodAll_mk0)), rfl, bel.frame _, fun h => by cases h⟩
theorem reads (os : Os) {H : Type} (enc : TypeId × Value → H) : ∃ places, DataW.whole enc Tryz.prog ((start10 os).forCall (fun _ _ => 0) ⟨#[], #[.agg #[.slice none 0 0, .slice none 0 0, .slice none 0 0], .string ByteArray.empty], []⟩).memory Tryz.f3.params.toList Rows.notesParsesSpec.vars false #[Value.agg #[.slice none 0 0, .slice none 0 0, .slice none 0 0], .string ByteArray.empty].toList 8 = some ([.agg [.nil, .nil, .nil], .lit (.string [])], [], places) :=
  ⟨[], by kernel_rfl⟩
set_option maxRecDepth 100000 in
theorem lifted (os : Os) (started : os.Started) (H : Type) (enc : TypeId × Value → H) (F : Stop.Interp) :
    ReturnsInHanded {} Tryz.checked os 3 .any ((OpenSpec.ofChange Rows.notesParsesSpec).preRow enc Tryz.prog Tryz.f3 Rows.notesParsesRow.domain false Rows.notesParsesRow.laid) (((OpenSpec.ofChange Rows.notesParsesSpec).at F).post enc Tryz.prog Tryz.f3 false true false false) := by
  obtain ⟨places, hx⟩ := reads os enc
  refine returnsInHanded_of_row (C := Tryz.checked) (s := OpenSpec.ofChange Rows.notesParsesSpec) own started (by kernel_rfl) Tryz.func3
    (witness_row_atRef (enc := enc) (C := Tryz.checked) false (start10 os) #[.agg #[.slice none 0 0, .slice none 0 0, .slice none 0 0], .string ByteArray.empty] (World.laidAll_os _ _ _) (by kernel_rfl) (by kernel_rfl) (by kernel_rfl)
      (OpenSpec.preRow_of_cond 8 hx (by kernel_rfl) (fun k hk => by cases hk) (by kernel_rfl) (laid_met os _))) ?_
  intro W base args ds gs before hval hW _ _ _ hL hsh _
  exact contract H enc W base args ds gs before hval hW hL hsh
theorem said : Rows.NotesParsesSaid :=
  OpenClaim.holds_of_cond 3 Tryz.f3 rfl rfl rfl rfl rfl rfl rfl ⟨rfl, rfl, rfl, rfl, rfl⟩ rfl rfl rfl rfl rfl (by kernel_rfl) Tryz.func3 (by kernel_rfl)
    (of_decide_eq_true (by kernel_rfl)) (by unfold Func.isWrapper; first | (rw [if_pos (by decide +kernel)]; kernel_rfl) | (rw [if_neg (by decide +kernel)]; exact ⟨rfl, rfl⟩))
    (fun os started H enc _ F => by rw [OpenClaim.pre_eq_preRow]; exact lifted os started H enc F)
theorem plain (f : FuncId) (fn : Func) (hf : Tryz.pinned.checked.prog.funcNamed "offcut/offcutlaw09.NotesParses" = some f) (hfn : Tryz.pinned.checked.prog.funcs[f]? = some fn) :
    false = Tryz.pinned.checked.prog.looks [] ∧ ∀ (j : Nat) t, fn.params[j]? = some t → Tryz.pinned.checked.prog.wantsStandIn t = false := by
  obtain rfl : f = 3 := Option.some.inj ((show Tryz.prog.funcNamed "offcut/offcutlaw09.NotesParses" = some 3 by kernel_rfl).symm.trans hf) |>.symm
  obtain rfl : fn = Tryz.f3 := (Option.some.inj (Tryz.func3.symm.trans hfn)).symm
  refine ⟨by kernel_rfl, fun j t ht => ?_⟩
  rw [Tryz.params3] at ht
  have : t = 9 ∨ t = 26 := by
    have := Array.mem_of_getElem? ht
    simp only [List.mem_toArray, List.mem_cons, List.not_mem_nil, or_false] at this
    rcases this with h | h <;> simp [h]
  rcases this with rfl | rfl
  · exact (show Tryz.prog.wantsStandIn 9 = false by kernel_rfl)
  · exact (show Tryz.prog.wantsStandIn 26 = false by kernel_rfl)
theorem card : Rows.NotesParsesCardSaid :=
  Claim7.holds_tied_plain_at .later [] _ _ _ _ said (fun _ h => by cases h) (by kernel_rfl) (fun _ h => by cases h) notesParses_row_tie rfl ⟨rfl, rfl⟩ (by kernel_rfl) rfl plain (by kernel_rfl)
#print axioms card
end Go.Proofs.YtojdnnogpffhpaaGreatDoor.notesParses
namespace Go.Proofs.YtojdnnogpffhpaaGreatDoor
theorem notesParses_card : Rows.NotesParsesCardSaid := notesParses.card
end Go.Proofs.YtojdnnogpffhpaaGreatDoor
end
