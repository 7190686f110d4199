/- Part of a proof, in few files: SAY. -/
import Derived.Test.YtdbfgnpobfbfmaaGreatDoorMPaK38

section
namespace Go.Abs
open Go.RowKit Go.Proofs
set_option linter.unusedVariables false
mutual
def eqPD : PD → PD → Bool
  | .int k a, .int k' b => decide (k = k') && decide (a = b)
  | .bool a, .bool b => a == b
  | .str a, .str b => decide (a = b)
  | .err a, .err b => a == b
  | .agg l, .agg m => eqPDs l m
  | .sl l, .sl m => eqPDs l m
  | _, _ => false
def eqPDs : List PD → List PD → Bool
  | [], [] => true
  | x :: l, y :: m => eqPD x y && eqPDs l m
  | _, _ => false
end
mutual
theorem eqPD_ok : ∀ {x y : PD}, eqPD x y = true → x = y
  | .int k a, y, h => by
    cases y <;> simp [eqPD] at h
    obtain ⟨rfl, rfl⟩ := h; rfl
  | .bool a, y, h => by cases y <;> simp [eqPD] at h; rw [h]
  | .str a, y, h => by cases y <;> simp [eqPD] at h; rw [h]
  | .err a, y, h => by cases y <;> simp [eqPD] at h; rw [h]
  | .flt .., y, h => by cases y <;> simp [eqPD] at h
  | .agg l, y, h => by
    cases y <;> simp only [eqPD, Bool.false_eq_true] at h
    rw [eqPDs_ok h]
  | .sl l, y, h => by
    cases y <;> simp only [eqPD, Bool.false_eq_true] at h
    rw [eqPDs_ok h]
theorem eqPDs_ok : ∀ {l m : List PD}, eqPDs l m = true → l = m
  | [], m, h => by cases m <;> simp [eqPDs] at h; rfl
  | x :: l, m, h => by
    cases m with
    | nil => simp [eqPDs] at h
    | cons y m =>
      simp only [eqPDs, Bool.and_eq_true] at h
      rw [eqPD_ok h.1, eqPDs_ok h.2]
end
def eqA1 : AV → AV → Bool
  | .pd x, .pd y => eqPD x y
  | _, _ => false
theorem eqA1_ok {x y : AV} (h : eqA1 x y = true) : x = y := by
  unfold eqA1 at h
  split at h
  · rw [eqPD_ok h]
  · cases h
def eqA1s : List AV → List AV → Bool
  | [], [] => true
  | x :: l, y :: m => eqA1 x y && eqA1s l m
  | _, _ => false
theorem eqA1s_ok : ∀ {l m : List AV}, eqA1s l m = true → l = m
  | [], [], _ => rfl
  | x :: l, y :: m, h => by
    simp only [eqA1s, Bool.and_eq_true] at h
    rw [eqA1_ok h.1, eqA1s_ok h.2]
  | [], _ :: _, h => by simp [eqA1s] at h
  | _ :: _, [], h => by simp [eqA1s] at h
def eqA2 : AV → AV → Bool
  | .pd x, .pd y => eqPD x y
  | .agg l, .agg m => eqA1s l m
  | _, _ => false
theorem eqA2_ok {x y : AV} (h : eqA2 x y = true) : x = y := by
  unfold eqA2 at h
  split at h
  · rw [eqPD_ok h]
  · rw [eqA1s_ok h]
  · cases h
def eqA2s : List AV → List AV → Bool
  | [], [] => true
  | x :: l, y :: m => eqA2 x y && eqA2s l m
  | _, _ => false
theorem eqA2s_ok : ∀ {l m : List AV}, eqA2s l m = true → l = m
  | [], [], _ => rfl
  | x :: l, y :: m, h => by
    simp only [eqA2s, Bool.and_eq_true] at h
    rw [eqA2_ok h.1, eqA2s_ok h.2]
  | [], _ :: _, h => by simp [eqA2s] at h
  | _ :: _, [], h => by simp [eqA2s] at h
def tabF (g : FuncId) (args : List AV) : List (FuncId × List AV × AV) → Option AV
  | [] => none
  | (f, gs, x) :: r => if Nat.beq f g && eqA2s (args.map wk) gs then some x else tabF g args r
def orcT (tab : List (FuncId × List AV × AV)) (orc : FuncId → List AV → Mem → Option (AV × Mem × Bool)) (g : FuncId) (args : List AV) (M : Mem) : Option (AV × Mem × Bool) :=
  match tabF g args tab with
  | some x => some (x, M, false)
  | none => orc g args M
def TabOK (P : Program) (GT : Tabs) (tab : List (FuncId × List AV × AV)) : Prop := ∀ e, e ∈ tab → ASpec P GT e.1 e.2.1 (· = e.2.2) ∧ Enters P e.1 ∧ e.2.1.all pur2 = true
theorem TabOK.nil {P : Program} {GT : Tabs} : TabOK P GT [] := fun e he => by cases he
theorem TabOK.cons {P : Program} {GT : Tabs} {f : FuncId} {gs : List AV} {x : AV} {r : List (FuncId × List AV × AV)} (h : ASpec P GT f gs (· = x)) (he : Enters P f) (hp : gs.all pur2 = true) (hr : TabOK P GT r) : TabOK P GT ((f, gs, x) :: r) := fun e h' => by
  rcases List.mem_cons.1 h' with rfl | h'
  · exact ⟨h, he, hp⟩
  · exact hr e h'
theorem tabF_ok {g : FuncId} {args : List AV} : ∀ {tab : List (FuncId × List AV × AV)} {x : AV}, tabF g args tab = some x → ∃ e, e ∈ tab ∧ e.1 = g ∧ e.2.1 = args.map wk ∧ e.2.2 = x
  | [], x, h => by cases h
  | (f, gs, y) :: r, x, h => by
    unfold tabF at h
    split at h
    · rename_i hk
      cases h
      simp only [Bool.and_eq_true] at hk
      exact ⟨_, List.mem_cons_self .., Nat.eq_of_beq_eq_true hk.1, (eqA2s_ok hk.2).symm, rfl⟩
    · obtain ⟨e, h1, h2⟩ := tabF_ok h
      exact ⟨e, List.mem_cons_of_mem _ h1, h2⟩
theorem orcT_ok {m : Tp} {tab : List (FuncId × List AV × AV)} {orc : FuncId → List AV → Mem → Option (AV × Mem × Bool)} (ht : TabOK Tryz.prog (gtT m) tab) (ho : ∀ f args M z, orc f args M = some z → CallOK Tryz.prog (gtT m) f args M z) (f : FuncId) (args : List AV) (M : Mem) (z : AV × Mem × Bool) (h : orcT tab orc f args M = some z) : CallOK Tryz.prog (gtT m) f args M z := by
  unfold orcT at h
  split at h
  · rename_i x hx
    cases h
    obtain ⟨e, h1, rfl, h3, rfl⟩ := tabF_ok hx
    obtain ⟨a, b, c⟩ := ht e h1
    rw [h3] at a c
    exact told_ok b a c
  · exact ho _ _ _ _ h
theorem says_ok {P : Program} {GT : Tabs} {orc : FuncId → List AV → Mem → Option (AV × Mem × Bool)} {keep : FuncId → Bool} (hm : P.follows .mixedOrders = true) (hn : P.funcs.all (fun fn => !(fn.name == "runtime.NumGoroutine")) = true) (ho : ∀ f args M z, orc f args M = some z → CallOK P GT f args M z) {n : Nat} {f : FuncId} {args : List AV} {x : AV} (h : iplain P (fixF P GT orc keep n) f args [] = some (x, [], false)) : ASpec P GT f args (· = x) := by
  unfold iplain at h
  split at h
  · split at h
    · rename_i r M1 hb
      split at h
      · rename_i r' hr
        cases h
        obtain ⟨h1, h2⟩ := ibody_ok (fixF_ok hm hn ho n) hn hb
        exact .of (h2.mono fun r2 M2 ⟨a, b⟩ => ⟨_, by rw [a, b]; exact hr, rfl⟩)
      · cases h
    · cases h
  · cases h
end Go.Abs
end
