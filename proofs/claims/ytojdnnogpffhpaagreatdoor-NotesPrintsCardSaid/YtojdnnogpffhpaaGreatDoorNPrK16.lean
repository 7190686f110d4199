/- Part of a proof, in few files: BNw. -/
import Derived.Test.YtojdnnogpffhpaaGreatDoorNPrK14
import Derived.Test.YtojdnnogpffhpaaGreatDoorNPrK15
import Derived.Test.YtojdnnogpffhpaaGreatDoorProg
import Derived.WalkKit
import Derived.WalkSpells
import Derived.WalkLawsBesides
import Derived.Shelf.Slices.Clone

section
namespace Go.Abs
open Go.RowKit Go.Proofs Go.Lib
theorem clone_nil (n c : Nat) (w : World) : Calls Tryz.prog 112 #[.slice none n c] w fun e w' => e = .returned (.slice none 0 0) ∧ w' = w := by
  have q37 : ∀ (w : World) (a : Option Addr) (n c n' c' : Nat), (binOp .eql 47 (.slice a n c) (.slice none n' c')).run Tryz.prog w = .ok (.bool a.isNone) w := fun w a n c n' c' => Lib.run_eql_slice_nil w _ _ a n c n' c' Tryz.underlying47
  go_enter Tryz.func112, Tryz.ntmps112
  go_wp2
  go_ret
  exact ⟨rfl, rfl⟩
theorem iU32 : (Tryz.prog.info? 121).map (fun i => (i.zero, i.size, i.bytes)) = some (some (Value.int .u32 0), 1, 4) := by kernel_rfl
set_option maxHeartbeats 2000000 in
set_option maxRecDepth 100000 in
theorem clone_zero (a : Addr) (c : Nat) (w : World) : Calls Tryz.prog 112 #[.slice (some a) 0 c] w fun e w' => ∃ v', e = .returned v' ∧ w'.ownsRow w.heap.size 121 1 v' 0 [] ∧ v' ≠ .slice none 0 0 ∧ Below w.heap.size w w' := by
  obtain ⟨i0, hi, hz0, hz1, hz2⟩ := info_parts iU32
  have q37 : ∀ (w : World) (a : Option Addr) (n c n' c' : Nat), (binOp .eql 47 (.slice a n c) (.slice none n' c')).run Tryz.prog w = .ok (.bool a.isNone) w := fun w a n c n' c' => Lib.run_eql_slice_nil w _ _ a n c n' c' Tryz.underlying47
  have u37 : ∀ w, Sem.run Tryz.prog (underlying 47) w = .ok (TypeDesc.slice 121) w := run_underlying Tryz.underlying47
  go_enter Tryz.func112, Tryz.ntmps112
  go_wp2_with (at_builtin; refine wpList_append_own _ rfl _ _ 47 rfl w.heap.size 121 i0 (.int .u32 0) 1 4 Tryz.underlying47 hi hz0 hz1 hz2 rfl (by decide) _ _ _ rfl (World.ownsRow_made w #[] 0 (Nat.le_refl _) (Nat.zero_le _) rfl) a 0 c [] rfl rfl (by intro j u hj; simp at hj) (by intro u hu; cases hu) (by unfold maxLen; omega) (by omega) (by simp) ?_)
  intro v' w1 hown hgrow hnil
  go_wp2
  go_ret
  refine ⟨v', rfl, by simpa using hown, ?_, ?_⟩
  · first | exact hnil | (intro e; exact absurd (hnil.1 e).1 (by simp))
  · exact ((Below.refl _ w).alloc (Nat.le_refl _) _).grown hgrow (by simp) (by intro k hk; simp [Value.ownBlock] at hk; omega)
theorem clone_spec {GT : Tabs} : ASpec Tryz.prog GT 112 [.pd (.sl [])] (· = .pd (.sl [])) := by
  refine ASpec.of_calls _ (by simp [AV.pure]) fun cx w vs hA hG hlt => ?_
  obtain ⟨v0, h0, r0⟩ := args_at hA 0 rfl
  rw [vs1 hA.1 h0]
  cases r0 with
  | pd v x h =>
  cases h with
  | nil =>
    refine (clone_nil 0 0 w).mono ?_
    rintro e w' ⟨rfl, rfl⟩
    exact ⟨_, rfl, Below.refl _ _, .pd _ _ .nil⟩
  | sl a n cap sz l f hsp hn hcap hI hsz hc hr =>
    simp at hn
    subst hn
    refine (clone_zero a cap w).mono ?_
    rintro e w' ⟨v', rfl, hown, _, hb⟩
    refine ⟨_, rfl, hb, .pd _ _ ?_⟩
    rcases hown.2 with ⟨rfl, _⟩ | ⟨g, cap', cur, rfl, _, _, _⟩
    · exact .nil
    · exact .sl _ 0 cap' 0 [] (fun _ _ => .nilIface) (fun h => by omega) rfl (Nat.zero_le _) (fun h => by omega) (by simp) (by simp) (by simp)
theorem slices_Clone_nat_Nat_uint32_ok (m : Tp) (l : List Int) {r : List Int} (h : slices_Clone_nat_Nat_uint32 l r) : ASpec Tryz.prog (gtT m) 112 [.pd (.sl (l.map elU32))] (· = .pd (.sl (r.map elU32))) := by
  obtain ⟨hf, rfl⟩ := h
  cases r with
  | nil => exact clone_spec
  | cons x l =>
    refine slices_Clone_nat_Nat_uint32_cons_ok m x l ?_
    unfold slices_Clone_nat_Nat_uint32_cons
    exact IfB_false.2 ⟨by simpa using hf, rfl⟩
end Go.Abs
end
