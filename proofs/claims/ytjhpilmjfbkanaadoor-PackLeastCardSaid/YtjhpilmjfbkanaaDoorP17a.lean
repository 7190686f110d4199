/- Chapter 17: the document's own functions. -/
import Derived.Test.YtjhpilmjfbkanaaDoorProg
import Derived.Test.YtjhpilmjfbkanaaDoorAbs25
import Derived.Test.YtjhpilmjfbkanaaDoorP17n
namespace Go.Abs
open Go.Proofs
set_option maxRecDepth 20000

theorem mixed17 : Tryd.prog.follows .mixedOrders = true := by kernel_rfl
theorem names17 : Tryd.prog.funcs.all (fun fn => !(fn.name == "runtime.NumGoroutine")) = true := by kernel_rfl

theorem pure_args2 {a b : PD} : ∀ x, x ∈ [AV.pd a, AV.pd b] → x.pure = true := by simp [AV.pure]
theorem pure_args1 {a : PD} : ∀ x, x ∈ [AV.pd a] → x.pure = true := by simp [AV.pure]
theorem pure_args3 {a b c : PD} : ∀ x, x ∈ [AV.pd a, AV.pd b, AV.pd c] → x.pure = true := by simp [AV.pure]

/-! ### In -/

theorem halves_succ (k : Nat) (n : Int) : halves (k + 1) n = (halves k n).tdiv 2 := by
  induction k generalizing n with
  | zero => rfl
  | succ k ih => rw [halves, ih (n.tdiv 2)]; rfl

theorem halves_in (k : Nat) {n : Int} (h : In64 n) : In64 (halves k n) := by
  induction k generalizing n with
  | zero => exact h
  | succ k ih =>
    exact ih (tdiv64 h (by omega))


theorem in15 (GT : Tabs) (set : Int) (k : Nat) (hs : In64 set) (hk : k < 1000) : ASpec Tryd.prog GT 15 [.pd (i64 set), .pd (i64 k)] (· = .pd (.bool (inSet set k))) := by
  refine ASpec_tree Tryd.f15 mixed17 askIdx (by kernel_rfl) ?_
  refine H_loop2 16 (fun i : Nat => [(0, .pd (i64 (halves i set))), (1, .pd (i64 k)), (5, .pd (i64 i))]) (fun _ => []) [] (fun i => i ≤ k) (fun i => k - i) 0 mixed17 askIdx
    (by kernel_rfl) (by kernel_rfl) (by kernel_rfl) (by kernel_rfl) (by kernel_rfl) (by simp) ?_
  intro i hi
  refine H_split (decide ((i : Int) < k)) (by kernel_rfl) (fun h => ?_) (fun h => ?_)
  · have hlt : i < k := by simpa using h
    refine H_again (i + 1) [.pd (i64 (IntKind.i64.wrap ((halves i set).tdiv 2))), .pd (i64 k), .pd (i64 (IntKind.i64.wrap ((i : Int) + 1)))] (by kernel_rfl) (by kernel_rfl) (by kernel_rfl) (by kernel_rfl) (by kernel_rfl) hlt (by omega) ?_
    rw [wrap64 (tdiv64 (halves_in _ hs) (by omega)), wrap64 (by constructor <;> omega), ← halves_succ]
    rfl
  · have hk' : i = k := by simp at h; omega
    subst hk'
    exact H_leave (.exit 0) (by kernel_rfl) rfl (H_split (inSet set i) (by kernel_rfl) (fun h2 => H_end .ret (.pd (.bool true)) (by kernel_rfl) rfl (by kernel_rfl) (by rw [h2]))
      (fun h2 => H_end .ret (.pd (.bool false)) (by kernel_rfl) rfl (by kernel_rfl) (by rw [h2])))

theorem has17 (f : Nat) (h : hasBody Tryd.prog f = true) : Enters Tryd.prog f := entersB names17 h

/-! ### Wide -/
def wideL (ws : List Int) (set : Int) : Nat → Int
  | 0 => 0
  | k + 1 => wideL ws set k + if inSet set k then ws.getD k 0 else 0

def small (ws : List Int) : Prop := ws.length ≤ 20 ∧ ∀ w, w ∈ ws → 0 ≤ w ∧ w ≤ 1048576

theorem wideL_le {ws : List Int} (h : ∀ w, w ∈ ws → 0 ≤ w ∧ w ≤ 1048576) (set : Int) (k : Nat) : 0 ≤ wideL ws set k ∧ wideL ws set k ≤ 1048576 * k := by
  induction k with
  | zero => simp [wideL]
  | succ k ih =>
    have : 0 ≤ ws.getD k 0 ∧ ws.getD k 0 ≤ 1048576 := by
      rw [List.getD_eq_getElem?_getD]
      cases hk : ws[k]? with
      | none => simp
      | some w => exact h w (List.mem_of_getElem? hk)
    unfold wideL
    split <;> omega

theorem wide17 (GT : Tabs) (ws : List Int) (set : Int) (hs : In64 set) (hw : small ws) : ASpec Tryd.prog GT 17 [.pd (ints ws), .pd (i64 set)] (· = .pd (i64 (wideL ws set ws.length))) := by
  obtain ⟨hl, hw⟩ := hw
  refine ASpec_tree Tryd.f17 mixed17 askIdx (by kernel_rfl) ?_
  refine H_loop2 23 (fun i : Nat => [(0, .pd (ints ws)), (1, .pd (i64 set)), (5, .pd (i64 (wideL ws set i))), (6, .pd (i64 i))]) (fun _ => []) [] (fun i => i ≤ ws.length) (fun i => ws.length - i) 0 mixed17 askIdx
    (by kernel_rfl) (by kernel_rfl) (by kernel_rfl) (by kernel_rfl) (by kernel_rfl) (by simp) ?_
  intro i hi
  refine H_split (decide ((i : Int) < ((ws.map i64).length : Nat))) (by kernel_rfl) (fun h => ?_) (fun h => ?_)
  · have hlt : i < ws.length := by simpa using h
    have hb := wideL_le hw set i
    refine H_valB (inSet set i) (g := 15) (args := [.pd (i64 set), .pd (i64 i)]) (M := []) (.inl (by kernel_rfl)) (in15 GT set i hs (by omega)) pure_args2 (has17 15 (by kernel_rfl)) (fun h1 => ?_) (fun h1 => ?_)
    · refine H_ask (.rd [i64 ws[i]]) [] (t := (aIndexAddr Tryd.prog [] 22 (.pd (ints ws)) (.pd (i64 i))).map (·, [])) (by kernel_rfl) (ask_ints hlt 3 (by kernel_rfl) (by kernel_rfl)) ?_
      have hwi := hw ws[i] (List.getElem_mem hlt)
      refine H_again (i + 1) [.pd (ints ws), .pd (i64 set), .pd (i64 (IntKind.i64.wrap (wideL ws set i + ws[i]))), .pd (i64 (IntKind.i64.wrap ((i : Int) + 1)))] (by kernel_rfl) (by kernel_rfl) (by kernel_rfl) (by kernel_rfl) (by kernel_rfl) hlt (by omega) ?_
      rw [wrap64 (by constructor <;> omega), wrap64 (by constructor <;> omega)]
      simp [wideL, h1, hlt]
    · refine H_again (i + 1) [.pd (ints ws), .pd (i64 set), .pd (i64 (wideL ws set i)), .pd (i64 (IntKind.i64.wrap ((i : Int) + 1)))] (by kernel_rfl) (by kernel_rfl) (by kernel_rfl) (by kernel_rfl) (by kernel_rfl) hlt (by omega) ?_
      rw [wrap64 (by constructor <;> omega)]
      simp [wideL, h1]
  · have hk' : i = ws.length := by simp at h; omega
    subst hk'
    exact H_leave (.exit 0) (by kernel_rfl) rfl (H_end .ret (.pd (i64 (wideL ws set ws.length))) (by kernel_rfl) rfl (by kernel_rfl) rfl)

/-! ### May -/
def okW (roll w : Int) : Bool := decide (1 ≤ w) && decide (w ≤ roll)
def mayB (roll : Int) (ws : List Int) : Bool := decide (1 ≤ roll) && decide (roll ≤ 1048576) && decide (ws.length ≤ 12) && ws.all (okW roll)

theorem may10 (GT : Tabs) (roll : Int) (ws : List Int) : ASpec Tryd.prog GT 10 [.pd (i64 roll), .pd (ints ws)] (· = .pd (.bool (mayB roll ws))) := by
  refine ASpec_tree Tryd.f10 mixed17 askIdx (by kernel_rfl) ?_
  refine H_split (decide (roll < 1)) (by kernel_rfl) (fun h => ?_) (fun h => ?_)
  · exact H_end .ret (.pd (.bool false)) (by kernel_rfl) rfl (by kernel_rfl) (by simp [mayB] at *; omega)
  refine H_split (decide (1048576 < roll)) (by kernel_rfl) (fun h2 => ?_) (fun h2 => ?_)
  · exact H_end .ret (.pd (.bool false)) (by kernel_rfl) rfl (by kernel_rfl) (by simp [mayB] at *; omega)
  refine H_split (decide ((12 : Int) < ((ws.map i64).length : Nat))) (by kernel_rfl) (fun h3 => ?_) (fun h3 => ?_)
  · exact H_end .ret (.pd (.bool false)) (by kernel_rfl) rfl (by kernel_rfl) (by simp [mayB] at *; omega)
  simp at h h2 h3
  refine H_loop2 36 (fun i : Nat => [(0, .pd (i64 roll)), (1, .pd (ints ws)), (5, .pd (i64 i))]) (fun _ => []) [] (fun i => i ≤ ws.length ∧ (ws.take i).all (okW roll) = true) (fun i => ws.length - i) 0 mixed17 askIdx
    (by kernel_rfl) (by kernel_rfl) (by kernel_rfl) (by kernel_rfl) (by kernel_rfl) (by simp) ?_
  rintro i ⟨hi, hall⟩
  refine H_split (decide ((i : Int) < ((ws.map i64).length : Nat))) (by kernel_rfl) (fun h4 => ?_) (fun h4 => ?_)
  · have hlt : i < ws.length := by simpa using h4
    have bad : okW roll ws[i] = false → mayB roll ws = false := by
      intro hb
      have : ws.all (okW roll) = false := by
        rw [List.all_eq_false]; exact ⟨ws[i], List.getElem_mem hlt, by simp [hb]⟩
      simp [mayB, this]
    refine H_ask (.rd [i64 ws[i]]) [] (t := (aIndexAddr Tryd.prog [] 22 (.pd (ints ws)) (.pd (i64 i))).map (·, [])) (by kernel_rfl) (ask_ints hlt 3 (by kernel_rfl) (by kernel_rfl)) ?_
    refine H_split (decide (ws[i] < 1)) (by kernel_rfl) (fun h5 => ?_) (fun h5 => ?_)
    · exact H_leave .ret (by kernel_rfl) rfl (H_end .ret (.pd (.bool false)) (by kernel_rfl) rfl (by kernel_rfl) (by rw [bad]; simp at h5; simp [okW]; omega))
    refine H_ask (.rd [i64 ws[i]]) [] (t := (aIndexAddr Tryd.prog [] 22 (.pd (ints ws)) (.pd (i64 i))).map (·, [])) (by kernel_rfl) (ask_ints hlt 3 (by kernel_rfl) (by kernel_rfl)) ?_
    refine H_split (decide (roll < ws[i])) (by kernel_rfl) (fun h6 => ?_) (fun h6 => ?_)
    · exact H_leave .ret (by kernel_rfl) rfl (H_end .ret (.pd (.bool false)) (by kernel_rfl) rfl (by kernel_rfl) (by rw [bad]; simp at h6; simp [okW]; omega))
    refine H_again (i + 1) [.pd (i64 roll), .pd (ints ws), .pd (i64 (IntKind.i64.wrap ((i : Int) + 1)))] (by kernel_rfl) (by kernel_rfl) (by kernel_rfl) (by kernel_rfl) (by kernel_rfl) ⟨hlt, ?_⟩ (by omega) ?_
    · rw [List.take_succ_eq_append_getElem hlt, List.all_append, hall]
      simp at h5 h6
      simp [okW]; omega
    · rw [wrap64 (by constructor <;> omega)]; rfl
  · have hk' : i = ws.length := by simp at h4; omega
    subst hk'
    refine H_leave (.exit 0) (by kernel_rfl) rfl (H_end .ret (.pd (.bool true)) (by kernel_rfl) rfl (by kernel_rfl) ?_)
    rw [List.take_length] at hall
    have : mayB roll ws = true := by simp only [mayB, hall]; simp; omega
    rw [this]

end Go.Abs
