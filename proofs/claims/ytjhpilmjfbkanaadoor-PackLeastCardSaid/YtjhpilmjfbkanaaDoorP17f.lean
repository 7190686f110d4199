/- Chapter 17: whether a set fits. -/
import Derived.Test.YtjhpilmjfbkanaaDoorP17e
namespace Go.Abs
set_option linter.unusedVariables false
set_option linter.unusedSimpArgs false
open Go.Proofs
set_option maxRecDepth 20000

def fitsB (roll : Int) (ws : List Int) (set : Int) : Bool := mayB roll ws && decide (0 ≤ set) && decide (set < 2 ^ ws.length) && decide (wideL ws set ws.length ≤ roll)

theorem mayB_some {roll : Int} {ws : List Int} (h : mayB roll ws = true) : 1 ≤ roll ∧ roll ≤ 1048576 ∧ ws.length ≤ 12 ∧ ∀ w, w ∈ ws → 1 ≤ w ∧ w ≤ roll := by
  simp only [mayB, Bool.and_eq_true, decide_eq_true_eq, List.all_eq_true, okW] at h
  exact ⟨h.1.1.1, h.1.1.2, h.1.2, h.2⟩

theorem small_of {roll : Int} {ws : List Int} (h : mayB roll ws = true) : small ws := by
  obtain ⟨_, h2, h3, h4⟩ := mayB_some h
  exact ⟨by omega, fun w hw => by have := h4 w hw; omega⟩

theorem fits14 (GT : Tabs) (roll : Int) (ws : List Int) (set : Int) (hs : In64 set) (hlen : ws.length < 1000000) : ASpec Tryd.prog GT 14 [.pd (i64 roll), .pd (ints ws), .pd (i64 set)] (· = .pd (.bool (fitsB roll ws set))) := by
  refine ASpec_tree Tryd.f14 mixed17 askIdx (by kernel_rfl) ?_
  refine H_loop2 40 (fun i : Nat => [(0, .pd (i64 roll)), (1, .pd (ints ws)), (2, .pd (i64 set)), (7, .pd (i64 (2 ^ i))), (8, .pd (i64 i))]) (fun _ => []) [] (fun i => i ≤ ws.length ∧ i ≤ 13) (fun i => ws.length - i) 0 mixed17 askIdx
    (by kernel_rfl) (by kernel_rfl) (by kernel_rfl) (by kernel_rfl) (by kernel_rfl) (by simp) ?_
  rintro i ⟨hi, hi2⟩
  have hp : (1 : Int) ≤ 2 ^ i ∧ (2 : Int) ^ i ≤ 8192 := by
    have h1 := Nat.pow_le_pow_right (n := 2) (by omega) hi2
    have h2 := Nat.two_pow_pos i
    constructor
    · exact_mod_cast h2
    · have h3 : (2 : Int) ^ i ≤ 2 ^ 13 := by exact_mod_cast h1
      omega
  refine H_split (decide ((i : Int) < ((ws.map i64).length : Nat))) (by kernel_rfl) (fun h => ?_) (fun h => ?_)
  · have hlt : i < ws.length := by simpa using h
    refine H_split (decide ((i : Int) < 13)) (by kernel_rfl) (fun h2 => ?_) (fun h2 => ?_)
    · have hlt2 : i < 13 := by simp at h2; omega
      refine H_again (i + 1) [.pd (i64 roll), .pd (ints ws), .pd (i64 set), .pd (i64 (IntKind.i64.wrap (2 ^ i * 2))), .pd (i64 (IntKind.i64.wrap ((i : Int) + 1)))] (by kernel_rfl) (by kernel_rfl) (by kernel_rfl) (by kernel_rfl) (by kernel_rfl) ⟨hlt, hlt2⟩ (by omega) ?_
      rw [wrap64 (by constructor <;> omega), wrap64 (by constructor <;> omega), ← Int.pow_succ]
      rfl
    · have hge : 13 ≤ i := by simp at h2; omega
      have hno : mayB roll ws = false := by
        cases hm : mayB roll ws with
        | false => rfl
        | true => have := (mayB_some hm).2.2.1; omega
      refine H_leave (.exit 0) (by kernel_rfl) rfl ?_
      refine H_valB (mayB roll ws) (g := 10) (args := [.pd (i64 roll), .pd (ints ws)]) (M := []) (.inl (by kernel_rfl)) (may10 GT roll ws) pure_args2 (has17 10 (by kernel_rfl)) (fun h3 => by rw [hno] at h3; cases h3) (fun h3 => ?_)
      exact H_end .ret (.pd (.bool false)) (by kernel_rfl) rfl (by kernel_rfl) (by simp [fitsB, h3])
  · have hk' : i = ws.length := by simp at h; omega
    subst hk'
    refine H_leave (.exit 0) (by kernel_rfl) rfl ?_
    refine H_valB (mayB roll ws) (g := 10) (args := [.pd (i64 roll), .pd (ints ws)]) (M := []) (.inl (by kernel_rfl)) (may10 GT roll ws) pure_args2 (has17 10 (by kernel_rfl)) (fun h3 => ?_) (fun h3 => ?_)
    · refine H_split (decide (0 ≤ set)) (by kernel_rfl) (fun h4 => ?_) (fun h4 => ?_)
      · refine H_split (decide (set < 2 ^ ws.length)) (by kernel_rfl) (fun h5 => ?_) (fun h5 => ?_)
        · refine H_val (.pd (i64 (wideL ws set ws.length))) (g := 17) (args := [.pd (ints ws), .pd (i64 set)]) (M := []) (.inl (by kernel_rfl)) (wide17 GT ws set hs (small_of h3)) pure_args2 (has17 17 (by kernel_rfl)) ?_
          refine H_split (decide (wideL ws set ws.length ≤ roll)) (by kernel_rfl) (fun h6 => ?_) (fun h6 => ?_)
          · exact H_end .ret (.pd (.bool true)) (by kernel_rfl) rfl (by kernel_rfl) (by simp only [fitsB, h3, h4, h5, h6]; rfl)
          · exact H_end .ret (.pd (.bool false)) (by kernel_rfl) rfl (by kernel_rfl) (by simp only [fitsB, h3, h4, h5, h6]; rfl)
        · exact H_end .ret (.pd (.bool false)) (by kernel_rfl) rfl (by kernel_rfl) (by simp only [fitsB, h3, h4, h5]; rfl)
      · exact H_end .ret (.pd (.bool false)) (by kernel_rfl) rfl (by kernel_rfl) (by simp only [fitsB, h3, h4]; rfl)
    · exact H_end .ret (.pd (.bool false)) (by kernel_rfl) rfl (by kernel_rfl) (by simp only [fitsB, h3]; rfl)

theorem ask_shl1 {P : Program} {M : Mem} {t : TypeId} {n : Nat} (h : n ≤ 62) : (aBin P .shl t (.pd (i64 1)) (.pd (i64 n))).map (·, M) = some (.pd (i64 (2 ^ n)), M) := by
  have h1 := Nat.pow_le_pow_right (n := 2) (by omega) h
  have h2 := Nat.two_pow_pos n
  have e : min ((n : Int)).toNat IntKind.i64.bits = n := by simp [IntKind.bits]; omega
  have e3 : IntKind.i64.wrap (1 * 2 ^ n) = 2 ^ n := by
    rw [Int.one_mul, wrap64]
    constructor
    · have : (0 : Int) ≤ 2 ^ n := by exact_mod_cast Nat.zero_le _
      omega
    · have : (2 : Int) ^ n ≤ 2 ^ 62 := by exact_mod_cast h1
      omega
  simp only [aBin, i64, isShift, if_true, shiftI, e, e3]
  simp

theorem fits24 (roll : Int) (ws : List Int) (set : Int) (hs : In64 set) : ASpec Tryd.prog gt17 24 [.pd (i64 roll), .pd (ints ws), .pd (i64 set)] (· = .pd (.bool (fitsB roll ws set))) := by
  refine ASpec_tree Tryd.f24 mixed17 askIdx (by kernel_rfl) ?_
  refine H_valB (mayB roll ws) (g := 9) (args := [.pd (i64 roll), .pd (ints ws)]) (M := []) (.inl (by kernel_rfl)) (may9 gt17 roll ws) pure_args2 (has17 9 (by kernel_rfl)) (fun h3 => ?_) (fun h3 => ?_)
  · obtain ⟨_, _, hn, _⟩ := mayB_some h3
    have hsm := small_of h3
    refine H_split (decide (set < 0)) (by kernel_rfl) (fun h4 => ?_) (fun h4 => ?_)
    · have h41 : decide (0 ≤ set) = false := by simp at h4; simp; omega
      exact H_end .ret (.pd (.bool false)) (by kernel_rfl) rfl (by kernel_rfl) (by simp only [fitsB, h3, h41]; rfl)
    have h40 : decide (0 ≤ set) = true := by simp at h4; simp; omega
    refine H_ask (.pd (i64 (2 ^ ws.length))) [] (t := (aBin Tryd.prog .shl 3 (.pd (i64 1)) (.pd (i64 ((ws.map i64).length : Nat)))).map (·, [])) (by kernel_rfl) (by rw [List.length_map]; exact ask_shl1 (by omega)) ?_
    refine H_split (decide (set ≥ 2 ^ ws.length)) (by kernel_rfl) (fun h5 => ?_) (fun h5 => ?_)
    · exact H_end .ret (.pd (.bool false)) (by kernel_rfl) rfl (by kernel_rfl) (by
        have : decide (set < 2 ^ ws.length) = false := by simp at h5; simp; omega
        simp only [fitsB, h3, h40, this]; rfl)
    have h50 : decide (set < 2 ^ ws.length) = true := by simp at h5; simp; omega
    refine H_val (.pd (i64 (wideL ws set ws.length))) (g := 20) (args := [.pd (ints ws), .pd (i64 set)]) (M := []) (.inl (by kernel_rfl)) (wide20 ws set (by simpa using h40) (by simpa using h50) hn hsm.2) pure_args2 (has17 20 (by kernel_rfl)) ?_
    refine H_split (decide (wideL ws set ws.length ≤ roll)) (by kernel_rfl) (fun h6 => ?_) (fun h6 => ?_)
    · exact H_end .ret (.pd (.bool true)) (by kernel_rfl) rfl (by kernel_rfl) (by simp only [fitsB, h3, h40, h50, h6]; rfl)
    · exact H_end .ret (.pd (.bool false)) (by kernel_rfl) rfl (by kernel_rfl) (by simp only [fitsB, h3, h40, h50, h6]; rfl)
  · exact H_end .ret (.pd (.bool false)) (by kernel_rfl) rfl (by kernel_rfl) (by simp only [fitsB, h3]; rfl)

end Go.Abs
