/- Chapter 07, plain: LinesNumbers. -/
import Derived.Test.YtdbfgnpobfbfmaaDoorLStr2
import Derived.Test.YtdbfgnpobfbfmaaDoorD07n
namespace Go.Abs
open Go
set_option linter.unusedVariables false
set_option linter.unusedSimpArgs false

theorem awkN (A B : Prop) (h : A) : ∃ x : Bool, offcutlaw07_awake x ∧ IfB x A B := ⟨true, rfl, IfB_true.2 h⟩

theorem law3Is_says (p : Bool) (n d : Nat) (hd : 0 < d) (hn : (words n).length ≤ 5000) (hdl : (words d).length ≤ 5000) : ∃ x y, offcutlaw03_Of (ratC p n d).1 (ratC p n d).2.1 (ratC p n d).2.2 (x, y) ∧ offcutlaw03_Is (ratC p n d).1 (ratC p n d).2.1 (ratC p n d).2.2 x y true := by
  have hr := rat_Right_says p n d hd (by omega) (by omega)
  have hg0 : 0 < Nat.gcd n d := Nat.gcd_pos_of_pos_right _ hd
  have hd1 : d / Nat.gcd n d ≠ 0 := by
    have := Nat.div_pos (Nat.gcd_le_right n hd) hg0; omega
  have l1 : (words (n / Nat.gcd n d)).length ≤ 5000 := Nat.le_trans (words_len_le (Nat.div_le_self _ _)) hn
  have l2 : (words (d / Nat.gcd n d)).length ≤ 5000 := Nat.le_trans (words_len_le (Nat.div_le_self _ _)) hdl
  obtain ⟨x, y, hxy⟩ := law3Of_says (ratC p n d).1 (ratC p n d).2.1 (ratC p n d).2.2 (WS_words _) (WS_words _) l1 l2
  refine ⟨x, y, hxy, ?_⟩
  unfold offcutlaw03_Is
  refine IfB.dec (fun _ => ⟨true, hr, IfB_true.2 ⟨x, y, hxy, IfB.intro (fun _ => rfl) (fun h => by simp at h)⟩⟩) (fun h => ?_)
  have h' := words_len_pos.2 hd1
  have e : (ratC p n d).2.2 = words (d / Nat.gcd n d) := rfl
  rw [e] at h
  omega

theorem ratR_cases (s : By) : (∃ e, e ≠ 0 ∧ ratR s = (false, [], [], e)) ∨ ∃ p n d, 0 < d ∧ (words n).length ≤ 400 ∧ (words d).length ≤ 400 ∧ ratR s = ((ratC p n d).1, (ratC p n d).2.1, (ratC p n d).2.2, 0) := by
  unfold ratR
  dsimp only
  have w1 := wholeR_WS (Lib.cut s [47]).1
  have w2 := wholeR_len (Lib.cut s [47]).1
  generalize wholeR (Lib.cut s [47]).1 = A at *
  have p1 := parseR_WS (if (Lib.cut s [47]).2.2 then (Lib.cut s [47]).2.1 else [49])
  have p2 := parseR_len (if (Lib.cut s [47]).2.2 then (Lib.cut s [47]).2.1 else [49])
  generalize parseR (if (Lib.cut s [47]).2.2 then (Lib.cut s [47]).2.1 else [49]) = B at *
  by_cases h1 : A.2.2 ≠ 0
  · rw [if_pos h1]; exact .inl ⟨_, h1, rfl⟩
  · rw [if_neg h1]
    by_cases h2 : B.2 ≠ 0
    · rw [if_pos h2]; exact .inl ⟨_, h2, rfl⟩
    · rw [if_neg h2]
      by_cases h3 : val B.1 = 0
      · rw [if_pos h3]; exact .inl ⟨5, by omega, rfl⟩
      · rw [if_neg h3]
        exact .inr ⟨A.1, val A.2.1, val B.1, by omega, Nat.le_trans (wl w1) w2, Nat.le_trans (wl p1) p2, rfl⟩

theorem law_numbers (s : By) : offcutlaw07_LinesNumbers s true := by
  unfold offcutlaw07_LinesNumbers
  refine IfB.dec (fun _ => awkN _ _ rfl) (fun hl => ?_)
  have hp := rat_Parse_says s (by omega)
  rcases ratR_cases s with ⟨e, he, h⟩ | ⟨p, n, d, hd, hn, hdl, h⟩
  · rw [h] at hp
    refine ⟨false, [], words 1, false, ⟨_, _, _, _, hp, IfB.neI (fun _ => ⟨_, _, _, rat_Int0, rfl⟩) (fun h => absurd h he)⟩, IfB_false.2 ⟨_, _, _, _, hp, IfB.neI (fun _ => ?_) (fun h => absurd h he)⟩⟩
    have hs := whole_Sign_says false [] WS_nil (by simp)
    rw [val_nil] at hs
    exact ⟨0, ⟨0, hs, rfl⟩, IfB_true.2 (awkN _ _ rfl)⟩
  · rw [h] at hp
    obtain ⟨x, y, hof, his⟩ := law3Is_says p n d hd (by omega) (by omega)
    refine ⟨_, _, _, true, ⟨_, _, _, _, hp, IfB.neI (fun h => absurd rfl h) (fun _ => rfl)⟩, IfB_true.2 ⟨_, _, _, _, hp, IfB.neI (fun h => absurd rfl h) (fun _ => ⟨x, y, hof, true, his, IfB_true.2 (awkN _ _ rfl)⟩)⟩⟩

end Go.Abs
