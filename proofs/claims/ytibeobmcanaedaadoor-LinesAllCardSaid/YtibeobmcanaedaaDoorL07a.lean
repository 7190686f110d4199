/- Chapter 07, plain: which texts are names; which bytes may be. -/
import Derived.Test.YtibeobmcanaedaaDoorG07aD
import Derived.Test.YtibeobmcanaedaaDoorAbs25
import Derived.Laws.RangeAny
namespace Go.Abs
set_option linter.unusedVariables false
set_option linter.unusedSimpArgs false
set_option linter.unnecessarySimpa false

theorem IfB.dec {p : Prop} [Decidable p] {A B : Prop} (h1 : p → A) (h2 : ¬ p → B) : IfB (decide p) A B := ⟨fun h => h1 (of_decide_eq_true h), fun h => h2 (of_decide_eq_false h)⟩
theorem IfB.eqi {a b : Int} {A B : Prop} (h1 : a = b → A) (h2 : a ≠ b → B) : IfB (a == b) A B := ⟨fun h => h1 (by simpa using h), fun h => h2 (by simpa using h)⟩
theorem IfB.nei {a b : Int} {A B : Prop} (h1 : a ≠ b → A) (h2 : a = b → B) : IfB (a != b) A B := ⟨fun h => h1 (by simpa using h), fun h => h2 (by simpa using h)⟩
theorem IfB.bool {b : Bool} {A B : Prop} (h1 : b = true → A) (h2 : b = false → B) : IfB b A B := ⟨h1, h2⟩

/-- What stands at a byte, read as a sign. -/
theorem rune_at {s : List UInt8} {k : Nat} {b : UInt8} (h : s[k]? = some b) : (b.toNat < 128 ∧ runeAt s k = (b.toNat : Int) ∧ runeLen s k = 1) ∨ (128 ≤ b.toNat ∧ 128 ≤ runeAt s k ∧ 1 ≤ runeLen s k) := by
  obtain ⟨hk, hb⟩ := List.getElem?_eq_some_iff.1 h
  have hk' : k < (ByteArray.mk s.toArray).size := by simpa [ByteArray.size] using hk
  have e : (ByteArray.mk s.toArray)[k]'hk' = b := by
    rw [← hb]; rfl
  by_cases ha : b.toNat < 128
  · have := Go.decode_ascii (ByteArray.mk s.toArray) k hk' (by rw [e]; exact ha)
    rw [e] at this
    exact .inl ⟨ha, by simp [runeAt, this], by simp [runeLen, this]⟩
  · have := Go.decode_high (ByteArray.mk s.toArray) k hk' (by rw [e]; omega)
    exact .inr ⟨by omega, by simp only [runeAt]; omega, this.2⟩

/-- The byte b may stand at place i of a name. -/
def nmOk (i : Nat) (b : UInt8) : Prop := (97 ≤ b.toNat ∧ b.toNat ≤ 122) ∨ (i ≠ 0 ∧ (b.toNat = 95 ∨ (48 ≤ b.toNat ∧ b.toNat ≤ 57)))
def NameTo (s : List UInt8) (k : Nat) : Prop := ∀ i b, i < k → s[i]? = some b → nmOk i b
def NameP (s : List UInt8) : Prop := 1 ≤ s.length ∧ s.length ≤ 16 ∧ NameTo s s.length

theorem NameTo.next {s : List UInt8} {k : Nat} {b : UInt8} (h : NameTo s k) (hb : s[k]? = some b) (hn : nmOk k b) : NameTo s (k + 1) := fun i c hi hc => by
  by_cases e : i = k
  · subst e; rw [hb] at hc; cases hc; exact hn
  · exact h i c (by omega) hc

theorem not_name {s : List UInt8} {k : Nat} {b : UInt8} (hb : s[k]? = some b) (hn : ¬ nmOk k b) : ¬ NameP s := fun h => hn (h.2.2 k b (List.getElem?_eq_some_iff.1 hb).1 hb)

theorem f14_says {s : List UInt8} {r : Bool} (hr : r = true ↔ NameP s) : f14 s r := by
  have no : ¬ NameP s → r = false := fun h => by cases r with | false => rfl | true => exact absurd (hr.1 rfl) h
  unfold f14
  refine LoopP.intro (fun k => k ≤ s.length ∧ NameTo s k) (fun k => s.length - k) ⟨Nat.zero_le _, fun i b h => by omega⟩ ?_
  rintro X k ⟨hk, hn⟩ hX
  unfold f14_L1
  refine IfB.dec (fun hlt => ?_) (fun hge => ?_)
  · obtain ⟨b, hb⟩ : ∃ b, s[k]? = some b := ⟨_, List.getElem?_eq_getElem hlt⟩
    have hc := rune_at hb
    generalize hcc : runeAt s k = c at hc ⊢
    have go : (97 ≤ c ∧ c ≤ 122) ∨ (k ≠ 0 ∧ (c = 95 ∨ (48 ≤ c ∧ c ≤ 57))) → X (k + runeLen s k) := fun h => by
      rcases hc with ⟨h1, h2, h3⟩ | ⟨h1, h2, h3⟩
      · rw [h3]
        exact hX _ ⟨hlt, hn.next hb (by unfold nmOk; omega)⟩ (by omega)
      · omega
    have bad : ¬ ((97 ≤ c ∧ c ≤ 122) ∨ (k ≠ 0 ∧ (c = 95 ∨ (48 ≤ c ∧ c ≤ 57)))) → r = false := fun h => no (not_name hb (by
      unfold nmOk
      rcases hc with ⟨h1, h2, h3⟩ | ⟨h1, h2, h3⟩ <;> omega))
    repeat' (first | (refine IfB.dec (fun _ => ?_) (fun _ => ?_)) | (refine IfB.eqi (fun _ => ?_) (fun _ => ?_)) | (refine IfB.nei (fun _ => ?_) (fun _ => ?_)))
    all_goals first | (refine go ?_; omega) | (refine bad ?_; omega)
  · have e : k = s.length := by omega
    subst e
    refine IfB.dec (fun h1 => IfB.dec (fun h2 => hr.2 ⟨by omega, by omega, hn⟩) (fun h2 => no fun h => by have := h.2.1; omega)) (fun h1 => no fun h => by have := h.1; omega)

theorem f15_says {s : List UInt8} {r : Bool} (hr : r = true ↔ NameP s) : f15 s r := by
  have no : ¬ NameP s → r = false := fun h => by cases r with | false => rfl | true => exact absurd (hr.1 rfl) h
  unfold f15
  refine IfB.dec (fun h1 => no fun h => by have := h.1; omega) (fun h1 => IfB.dec (fun h2 => no fun h => by have := h.2.1; omega) (fun h2 => ?_))
  refine LoopP.intro (fun z : Int => ∃ k : Nat, z = k ∧ k ≤ s.length ∧ NameTo s k) (fun z => s.length - z.toNat) ⟨0, rfl, Nat.zero_le _, fun i b h => by omega⟩ ?_
  rintro X _ ⟨k, rfl, hk, hn⟩ hX
  unfold f15_L1
  refine IfB.dec (fun hlt => ?_) (fun hge => ?_)
  · have hlt' : k < s.length := by omega
    obtain ⟨b, hb⟩ : ∃ b, s[k]? = some b := ⟨_, List.getElem?_eq_getElem hlt'⟩
    have hi : Idx s (k : Int) b := ⟨Int.natCast_nonneg _, by simpa using hb⟩
    have go : nmOk k b → X (IntKind.i64.wrap ((k : Int) + 1)) := fun h => by
      rw [wrap64 (by constructor <;> omega)]
      exact hX _ ⟨k + 1, by simp, hlt', hn.next hb h⟩ (by omega)
    have bad : ¬ nmOk k b → r = false := fun h => no (not_name hb h)
    unfold nmOk at go bad
    repeat' (first | (refine ⟨b, hi, ?_⟩) | (refine IfB.dec (fun _ => ?_) (fun _ => ?_)) | (refine IfB.eqi (fun _ => ?_) (fun _ => ?_)) | (refine IfB.nei (fun _ => ?_) (fun _ => ?_)))
    all_goals first | (refine go ?_; omega) | (refine bad ?_; omega)
  · have e : k = s.length := by omega
    subst e
    exact hr.2 ⟨by omega, by omega, hn⟩

theorem law_names (s : List UInt8) : f4 s true := by
  unfold f4
  refine IfB.dec (fun _ => ⟨true, rfl, by simp⟩) (fun _ => ?_)
  by_cases h : NameP s
  · exact ⟨true, f14_says (by simp [h]), IfB_true.2 ⟨true, f15_says (by simp [h]), IfB_true.2 ⟨true, rfl, by simp⟩⟩⟩
  · exact ⟨false, f14_says (by simp [h]), IfB_false.2 ⟨false, f15_says (by simp [h]), IfB_false.2 ⟨true, rfl, by simp⟩⟩⟩

end Go.Abs
