/- Chapter 17: the law PackPacks, its plain part. -/
import Derived.Test.YtjhpilmjfbkanaaDoorP17h
namespace Go.Abs
open Go.Proofs

def bit (a : Int) (k : Nat) : Nat := if a.toNat.testBit k then 1 else 0

theorem inSet_bit {s : Int} (h : 0 ≤ s) (k : Nat) : inSet s k = s.toNat.testBit k := by
  rw [inSet, halves_pos h, Nat.testBit_eq_decide_div_mod_eq]
  have e : s = (s.toNat : Int) := by omega
  have e2 : s / 2 ^ k = ((s.toNat / 2 ^ k : Nat) : Int) := by rw [e]; simp
  rw [e2]
  have e3 : ((s.toNat / 2 ^ k : Nat) : Int).tmod 2 = ((s.toNat / 2 ^ k % 2 : Nat) : Int) := by
    rw [Int.tmod_eq_emod_of_nonneg (Int.natCast_nonneg _)]; simp
  rw [e3, Bool.eq_iff_iff]; simp only [beq_iff_eq, decide_eq_true_eq]
  omega

theorem bv_small {a : Int} (h0 : 0 ≤ a) (h1 : a < 4096) : (BitVec.ofInt IntKind.i64.bits a).toNat = a.toNat := by
  rw [BitVec.toNat_ofInt]
  have : a % ((2 : Nat) ^ IntKind.i64.bits : Nat) = a := Int.emod_eq_of_lt h0 (by simp only [IntKind.bits]; omega)
  rw [this]

theorem andE_nat {a b : Int} (a0 : 0 ≤ a) (a1 : a < 4096) (b0 : 0 ≤ b) (b1 : b < 4096) : andE a b = ((a.toNat &&& b.toNat : Nat) : Int) := by
  have hle : a.toNat &&& b.toNat ≤ a.toNat := Nat.and_le_left
  rw [andE, BitVec.toNat_and, bv_small a0 a1, bv_small b0 b1, wrap64]
  constructor <;> omega

theorem orE_nat {a b : Int} (a0 : 0 ≤ a) (a1 : a < 4096) (b0 : 0 ≤ b) (b1 : b < 4096) : orE a b = ((a.toNat ||| b.toNat : Nat) : Int) := by
  have hle : a.toNat ||| b.toNat < 2 ^ 12 := Nat.or_lt_two_pow (by omega) (by omega)
  rw [orE, BitVec.toNat_or, bv_small a0 a1, bv_small b0 b1, wrap64]
  constructor <;> omega

theorem pow_le12 {n : Nat} (hn : n ≤ 12) : (2 : Int) ^ n ≤ 4096 ∧ (2 : Nat) ^ n ≤ 4096 ∧ ((2 ^ n : Nat) : Int) = 2 ^ n := by
  have h := Nat.pow_le_pow_right (n := 2) (by omega) hn
  have e : ((2 ^ n : Nat) : Int) = 2 ^ n := by simp
  exact ⟨by rw [← e]; omega, by omega, e⟩

theorem cnt_cons (s : Int) (l : List Int) (k : Nat) : cnt (s :: l) k = (if inSet s k then 1 else 0) + cnt l k := by
  simp only [cnt, List.filter_cons]
  split <;> simp <;> omega

theorem fits_range {roll : Int} {ws : List Int} {s : Int} (h : fitsB roll ws s = true) : 0 ≤ s ∧ s < 2 ^ ws.length := by
  simp only [fitsB, Bool.and_eq_true, decide_eq_true_eq] at h
  exact ⟨h.1.1.2, h.1.2⟩

theorem pack_some {roll : Int} {ws : List Int} (hn : ws.length ≤ 12) : ∀ (l : List Int) (a0 a : Int), 0 ≤ a0 → a0 < 2 ^ ws.length → packAll roll ws l a0 = some a → 0 ≤ a ∧ a < 2 ^ ws.length ∧ l.all (okOne roll ws) = true ∧ ∀ k, bit a k = bit a0 k + cnt l k
  | [], a0, a, h0, h1, h => by cases h; exact ⟨h0, h1, rfl, fun k => by simp [cnt]⟩
  | s :: l, a0, a, h0, h1, h => by
    obtain ⟨p1, p2, p3⟩ := pow_le12 hn
    simp only [packAll] at h
    split at h
    · rename_i hok
      simp only [okSet, Bool.and_eq_true, Bool.not_eq_true', beq_eq_false_iff_ne, bne_eq_false_iff_eq] at hok
      obtain ⟨⟨hs0, hand⟩, hfit⟩ := hok
      obtain ⟨s0, s1⟩ := fits_range hfit
      rw [andE_nat h0 (by omega) s0 (by omega)] at hand
      have hand' : a0.toNat &&& s.toNat = 0 := by omega
      have hor := orE_nat h0 (by omega) s0 (show s < 4096 by omega)
      have hlt : a0.toNat ||| s.toNat < 2 ^ ws.length := Nat.or_lt_two_pow (by omega) (by omega)
      rw [hor] at h
      obtain ⟨q1, q2, q3, q4⟩ := pack_some hn l _ a (by omega) (by omega) h
      refine ⟨q1, q2, ?_, fun k => ?_⟩
      · rw [List.all_cons, q3, Bool.and_true, okOne, hfit, Bool.and_true]; simp; omega
      · rw [q4 k, cnt_cons, inSet_bit s0]
        have hk := congrArg (·.testBit k) hand'
        simp only [Nat.testBit_and, Nat.zero_testBit] at hk
        simp only [bit, Int.toNat_natCast, Nat.testBit_or]
        cases h1 : a0.toNat.testBit k <;> cases h2 : s.toNat.testBit k <;> simp_all <;> omega
    · cases h

theorem pack_none {roll : Int} {ws : List Int} (hn : ws.length ≤ 12) : ∀ (l : List Int) (a0 : Int), 0 ≤ a0 → a0 < 2 ^ ws.length → packAll roll ws l a0 = none → l.all (okOne roll ws) = false ∨ ∃ k, k < ws.length ∧ 2 ≤ bit a0 k + cnt l k
  | [], a0, h0, h1, h => by cases h
  | s :: l, a0, h0, h1, h => by
    obtain ⟨p1, p2, p3⟩ := pow_le12 hn
    cases hone : okOne roll ws s with
    | false => left; rw [List.all_cons, hone]; rfl
    | true =>
      simp only [okOne, Bool.and_eq_true, decide_eq_true_eq] at hone
      obtain ⟨hpos, hfit⟩ := hone
      obtain ⟨s0, s1⟩ := fits_range hfit
      have hone : okOne roll ws s = true := by simp only [okOne, hfit, Bool.and_true, decide_eq_true_eq]; exact hpos
      have hand := andE_nat h0 (show a0 < 4096 by omega) s0 (show s < 4096 by omega)
      by_cases hz : a0.toNat &&& s.toNat = 0
      · have hok : okSet roll ws a0 s = true := by
          rw [hz] at hand
          have : ¬ s = 0 := by omega
          simp [okSet, hand, hfit, this]
        simp only [packAll, hok, if_true] at h
        have hor := orE_nat h0 (by omega) s0 (show s < 4096 by omega)
        have hlt : a0.toNat ||| s.toNat < 2 ^ ws.length := Nat.or_lt_two_pow (by omega) (by omega)
        rw [hor] at h
        rcases pack_none hn l _ (by omega) (by omega) h with q | ⟨k, k1, k2⟩
        · left; rw [List.all_cons, q, Bool.and_false]
        · right
          refine ⟨k, k1, ?_⟩
          rw [cnt_cons, inSet_bit s0]
          have hk := congrArg (·.testBit k) hz
          simp only [Nat.testBit_and, Nat.zero_testBit] at hk
          simp only [bit, Int.toNat_natCast, Nat.testBit_or] at k2 ⊢
          cases h1 : a0.toNat.testBit k <;> cases h2 : s.toNat.testBit k <;> simp_all <;> omega
      · right
        obtain ⟨k, hk⟩ := Nat.exists_testBit_of_ne_zero hz
        rw [Nat.testBit_and, Bool.and_eq_true] at hk
        refine ⟨k, ?_, ?_⟩
        · rcases Nat.lt_or_ge k ws.length with h | h
          · exact h
          · have : a0.toNat < 2 ^ k := Nat.lt_of_lt_of_le (show a0.toNat < 2 ^ ws.length by omega) (Nat.pow_le_pow_right (by omega) h)
            rw [Nat.testBit_lt_two_pow this] at hk; cases hk.1
        · rw [cnt_cons, inSet_bit s0, hk.2]
          simp only [bit, hk.1, if_true]; omega

theorem law_packs (roll : Int) (ws sets : List Int) : packsB roll ws sets = isB roll ws sets := by
  cases hm : mayB roll ws with
  | false =>
    simp only [packsB, isB, hm, Bool.false_and]
    split <;> rfl
  | true =>
    obtain ⟨_, _, hn, _⟩ := mayB_some hm
    obtain ⟨p1, p2, p3⟩ := pow_le12 hn
    have hpos := Nat.two_pow_pos ws.length
    simp only [packsB, isB, hm, Bool.true_and]
    cases hp : packAll roll ws sets 0 with
    | none =>
      simp only
      symm
      rcases pack_none hn sets 0 (Int.le_refl _) (by omega) hp with h | ⟨k, k1, k2⟩
      · rw [h, Bool.false_and]
      · rw [Bool.and_eq_false_iff]; right
        rw [List.all_eq_false]
        refine ⟨k, by simpa using k1, ?_⟩
        simp [bit] at k2 ⊢; omega
    | some a =>
      obtain ⟨q1, q2, q3, q4⟩ := pack_some hn sets 0 a (Int.le_refl _) (by omega) hp
      simp only [q3, Bool.true_and]
      rw [Bool.eq_iff_iff, beq_iff_eq, List.all_eq_true]
      have q5 : ∀ k, cnt sets k = bit a k := fun k => by have := q4 k; simp [bit] at this ⊢; omega
      constructor
      · intro he k hk
        have hk' : k < ws.length := by simpa using hk
        have e : a.toNat = 2 ^ ws.length - 1 := by omega
        rw [beq_iff_eq, q5, bit, e, Nat.testBit_two_pow_sub_one]
        simp [hk']
      · intro h
        have e : a.toNat = 2 ^ ws.length - 1 := by
          apply Nat.eq_of_testBit_eq
          intro k
          rw [Nat.testBit_two_pow_sub_one]
          by_cases hk : k < ws.length
          · have := h k (by simpa using hk)
            rw [beq_iff_eq, q5, bit] at this
            simp only [hk, decide_true]
            cases hb : a.toNat.testBit k with
            | true => rfl
            | false => rw [hb] at this; simp at this
          · have : a.toNat < 2 ^ k := Nat.lt_of_lt_of_le (show a.toNat < 2 ^ ws.length by omega) (Nat.pow_le_pow_right (by omega) (by omega))
            rw [Nat.testBit_lt_two_pow this]; simp [hk]
        omega

theorem packPacks_main (roll : Int) (ws sets : List Int) (hr : In64 roll) (_ : ∀ w, w ∈ ws → In64 w) (hs : ∀ s, s ∈ sets → In64 s) : ASpec Tryd.prog gt17 4 [.pd (i64 roll), .pd (ints ws), .pd (ints sets)] (· = .pd (.bool true)) :=
  packs4 roll ws sets hr hs fun _ _ => law_packs roll ws sets

end Go.Abs
