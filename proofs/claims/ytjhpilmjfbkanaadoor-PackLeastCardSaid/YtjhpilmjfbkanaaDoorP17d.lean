/- Chapter 17: how wide a set is. -/
import Derived.Test.YtjhpilmjfbkanaaDoorP17c
namespace Go.Abs
open Go.Proofs
set_option maxRecDepth 20000

/-! ### the items, as numbers -/
theorem itemsE_step (x : Int) : ∀ (j f : Nat), (∀ i, i < j → 0 < clears i x) → itemsE (j + f) x = ((List.range j).map fun i => tzE (clears i x)) ++ itemsE f (clears j x)
  | 0, f, _ => by simp [clears]
  | j + 1, f, h => by
    rw [show j + 1 + f = j + (f + 1) by omega, itemsE_step x j (f + 1) fun i hi => h i (by omega), List.range_succ, List.map_append, List.append_assoc]
    congr 1
    have := h j (by omega)
    simp only [itemsE, this, decide_true, if_true, List.map_cons, List.map_nil, List.cons_append, List.nil_append, clears]

theorem itemsE_end (x : Int) {n : Nat} (h : ∀ i, i < n → 0 < clears i x) (hz : clears n x = 0) (f : Nat) : itemsE (n + f) x = (List.range n).map fun i => tzE (clears i x) := by
  rw [itemsE_step x n f h, hz]
  cases f <;> simp [itemsE]

theorem few {set : Int} (h0 : 0 ≤ set) (h1 : set < 4096) {j : Nat} (h : ∀ i, i < j → 0 < clears i set) : j ≤ 12 := by
  rcases Nat.lt_or_ge 12 j with hj | hj
  · exfalso
    have e := itemsE_step set 13 0 fun i hi => h i (by omega)
    have hc := (chk_at h0 h1).2.2.2.2
    have l1 := congrArg List.length e
    rw [show 13 + 0 = 13 from rfl, hc] at l1
    simp [itemsE] at l1
    have := List.length_filter_le (fun k => inSet set k) (List.range 12)
    simp at this; omega
  · exact hj

theorem halves_pos {s : Int} (h : 0 ≤ s) (k : Nat) : halves k s = s / 2 ^ k := by
  induction k generalizing s with
  | zero => simp [halves]
  | succ k ih =>
    have e : s.tdiv 2 = s / 2 := Int.tdiv_eq_ediv_of_nonneg h
    rw [halves, e, ih (by omega), Int.ediv_ediv_of_nonneg (by omega), Int.pow_succ, Int.mul_comm]

theorem inSet_out {set : Int} {n k : Nat} (h0 : 0 ≤ set) (h1 : set < 2 ^ n) (hk : n ≤ k) : inSet set k = false := by
  have : set / 2 ^ k = 0 := by
    apply Int.ediv_eq_zero_of_lt h0
    refine Int.lt_of_lt_of_le h1 ?_
    have := Nat.pow_le_pow_right (n := 2) (by omega) hk
    exact_mod_cast this
  rw [inSet, halves_pos h0, this]; rfl

/-- Each item is one of the widths'. -/
theorem item_lt {set : Int} {n : Nat} (h0 : 0 ≤ set) (h1 : set < 2 ^ n) (hn : n ≤ 12) {j : Nat} (h : ∀ i, i < j + 1 → 0 < clears i set) : 0 ≤ tzE (clears j set) ∧ (tzE (clears j set)).toNat < n := by
  have h2 : set < 4096 := Int.lt_of_lt_of_le h1 (by
    have := Nat.pow_le_pow_right (n := 2) (by omega) hn
    exact_mod_cast this)
  have hj := few h0 h2 h
  have e := itemsE_step set (j + 1) (13 - (j + 1)) h
  rw [show j + 1 + (13 - (j + 1)) = 13 by omega, (chk_at h0 h2).2.2.2.2] at e
  have mem : tzE (clears j set) ∈ ((List.range 12).filter fun k => inSet set k).map Int.ofNat := by
    rw [e, List.mem_append]; left
    rw [List.mem_map]; exact ⟨j, by simp, rfl⟩
  rw [List.mem_map] at mem
  obtain ⟨k, hk, hke⟩ := mem
  rw [List.mem_filter] at hk
  rcases Nat.lt_or_ge k n with hkn | hkn
  · rw [← hke]; exact ⟨by simp, by simpa using hkn⟩
  · rw [inSet_out h0 h1 hkn] at hk; cases hk.2

def accL (ws : List Int) (set : Int) (j : Nat) : Int := ((List.range j).map fun i => ws.getD (tzE (clears i set)).toNat 0).sum

theorem accL_succ (ws : List Int) (set : Int) (j : Nat) : accL ws set (j + 1) = accL ws set j + ws.getD (tzE (clears j set)).toNat 0 := by
  simp [accL, List.range_succ]

theorem wideL_filter (ws : List Int) (set : Int) (n : Nat) : wideL ws set n = (((List.range n).filter fun k => inSet set k).map fun k => ws.getD k 0).sum := by
  induction n with
  | zero => rfl
  | succ n ih =>
    rw [wideL, ih, List.range_succ, List.filter_append, List.map_append, List.sum_append]
    congr 1
    cases h : inSet set n <;> simp [h]

theorem wideL_more {ws : List Int} {set : Int} {n : Nat} (h : ws.length ≤ n) : wideL ws set n = wideL ws set ws.length := by
  induction n with
  | zero => have : ws.length = 0 := by omega
            rw [this]
  | succ n ih =>
    rcases Nat.lt_or_ge n ws.length with hl | hl
    · have : ws.length = n + 1 := by omega
      rw [this]
    · rw [wideL, ih hl, List.getD_eq_getElem?_getD, List.getElem?_eq_none hl]; simp

theorem acc_end {ws : List Int} {set : Int} (h0 : 0 ≤ set) (h1 : set < 4096) (hw : ws.length ≤ 12) {n : Nat} (h : ∀ i, i < n → 0 < clears i set) (hz : clears n set = 0) : accL ws set n = wideL ws set ws.length := by
  have hn := few h0 h1 h
  have e := itemsE_end set h hz (13 - n)
  rw [show n + (13 - n) = 13 by omega, (chk_at h0 h1).2.2.2.2] at e
  rw [← wideL_more hw, wideL_filter]
  have : accL ws set n = ((((List.range n).map fun i => tzE (clears i set))).map fun z => ws.getD z.toNat 0).sum := by simp [accL, Function.comp_def]
  rw [this, ← e]
  simp [Function.comp_def]

end Go.Abs
