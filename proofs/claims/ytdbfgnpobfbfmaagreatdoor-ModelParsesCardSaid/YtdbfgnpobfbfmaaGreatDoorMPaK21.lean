/- Part of a proof, in few files: T29 BSd. -/
import Derived.Lib.SplitLaws
import Derived.Lib.Fields
import Derived.Lib.Join
import Derived.Lib.IndexMore
import Derived.Test.YtdbfgnpobfbfmaaGreatDoorMPaK19
import Derived.Lib.SlicesS

section
namespace Go.Abs
open Go
def splitC (c : UInt8) : List UInt8 → List (List UInt8)
  | [] => [[]]
  | b :: l => if b = c then [] :: splitC c l else match splitC c l with | x :: r => (b :: x) :: r | [] => [[b]]
theorem splitC_ne (c : UInt8) (l : List UInt8) : ∃ x r, splitC c l = x :: r := by
  induction l with
  | nil => exact ⟨[], [], rfl⟩
  | cons b l ih =>
    unfold splitC
    split
    · exact ⟨_, _, rfl⟩
    · obtain ⟨x, r, h⟩ := ih; rw [h]; exact ⟨_, _, rfl⟩
theorem index1_cons (b c : UInt8) (l : List UInt8) : Lib.index (b :: l) [c] = if b = c then 0 else if Lib.index l [c] == -1 then -1 else Lib.index l [c] + 1 := by
  rw [Lib.index]
  by_cases h : b = c
  · subst h; simp [List.isPrefixOf]
  · have : ([c] : List UInt8).isPrefixOf (b :: l) = false := by simp [List.isPrefixOf, Ne.symm h]
    rw [this, if_neg h]; simp
theorem split_one (c : UInt8) : ∀ s : List UInt8, Lib.splitK [c] 0 (s.count c) s = splitC c s
  | [] => by simp [Lib.splitK, splitC]
  | b :: l => by
    have ih := split_one c l
    by_cases h : b = c
    · subst h
      have hi : Lib.index (b :: l) [b] = 0 := by rw [index1_cons, if_pos rfl]
      rw [List.count_cons_self, Lib.splitK, hi]
      simp [splitC, ih]
    · rw [List.count_cons_of_ne (by simpa using h)]
      obtain ⟨x, r, hx⟩ := splitC_ne c l
      rw [splitC, if_neg h, hx]
      rw [hx] at ih
      have hi : Lib.index (b :: l) [c] = if Lib.index l [c] == -1 then -1 else Lib.index l [c] + 1 := by rw [index1_cons, if_neg h]
      have hge := Lib.index_ge l [c]
      cases hk : l.count c with
      | zero =>
        rw [hk] at ih
        simp [Lib.splitK] at ih ⊢
        exact ⟨ih.1, ih.2⟩
      | succ k =>
        rw [hk] at ih
        rw [Lib.splitK] at ih ⊢
        by_cases hm : Lib.index l [c] = -1
        · rw [hm] at ih
          simp at ih
          rw [hi, hm]; simp [ih.1, ih.2]
        · have e1 : (Lib.index l [c] == -1) = false := by simpa using hm
          have e2 : (Lib.index l [c] + 1 == -1) = false := by rw [beq_eq_false_iff_ne]; omega
          rw [hi, e1]
          rw [e1] at ih
          simp only [Bool.false_eq_true, if_false, e2] at ih ⊢
          have e3 : (Lib.index l [c] + 1).toNat = (Lib.index l [c]).toNat + 1 := by omega
          rw [e3]
          simp only [List.cons.injEq, Nat.add_zero, List.length_singleton] at ih ⊢
          rw [List.take_succ_cons, ih.1]
          refine ⟨rfl, ?_⟩
          rw [← ih.2]; simp
theorem cut_one (c : UInt8) : ∀ s : List UInt8, (Lib.cut s [c]).1 = s.takeWhile (· != c)
  | [] => by simp [Lib.cut, Lib.index]
  | b :: l => by
    have ih := cut_one c l
    have hge := Lib.index_ge l [c]
    have hi := index1_cons b c l
    by_cases h : b = c
    · subst h
      rw [if_pos rfl] at hi
      simp [Lib.cut, hi]
    · rw [if_neg h] at hi
      have hb : (b != c) = true := by simpa using h
      rw [List.takeWhile_cons, hb]
      simp only [if_true]
      rw [← ih]
      unfold Lib.cut
      by_cases hm : Lib.index l [c] = -1
      · rw [hi, hm]; simp
      · have e1 : (Lib.index l [c] == -1) = false := by simpa using hm
        rw [hi, e1]
        have h0 : 0 ≤ Lib.index l [c] := by omega
        have h1 : 0 ≤ Lib.index l [c] + 1 := by omega
        have e3 : (Lib.index l [c] + 1).toNat = (Lib.index l [c]).toNat + 1 := by omega
        simp only [Bool.false_eq_true, if_false, if_pos h0, if_pos h1, e3, List.take_succ_cons]
end Go.Abs
end

section
namespace Go.Abs
open Go
def Short (s : List UInt8) : Prop := s.length < 4294967281
def Ascii (s : List UInt8) : Prop := ∀ b, b ∈ s → b.toNat < 128
def strings_Split (s sep : List UInt8) (r : List (List UInt8)) : Prop := Short s ∧ ∃ c, sep = [c] ∧ r = splitC c s
def strings_Cut (s sep : List UInt8) (r : List UInt8 × List UInt8 × Bool) : Prop := Short s ∧ ∃ c, sep = [c] ∧ r = Lib.cut s [c]
def strings_Fields (s : List UInt8) (r : List (List UInt8)) : Prop := Short s ∧ Ascii s ∧ r = Lib.fields s
def strings_Join (l : List (List UInt8)) (sep : List UInt8) (r : List UInt8) : Prop := l.length ≤ 140737488355328 ∧ (Lib.join l sep).length ≤ 140737488355328 ∧ r = Lib.join l sep
def slices_Index_string_string (l : List (List UInt8)) (x : List UInt8) (r : Int) : Prop := l.length ≤ 140737488355328 ∧ r = Lib.idxOfS (l.map fun s => (⟨s.toArray⟩ : ByteArray)) ⟨x.toArray⟩
end Go.Abs
end
