/- Chapter 07, plain: which texts are names; which bytes may be. -/
import Derived.Test.YtibeobmcanaedaaDoorG07aD
import Derived.Test.YtibeobmcanaedaaDoorAbs24
import Derived.Laws.RangeAny
namespace Go.Abs
set_option linter.unusedVariables false
set_option linter.unusedSimpArgs false
set_option linter.unnecessarySimpa false

theorem IfB.dec {p : Prop} [Decidable p] {A B : Prop} (h1 : p → A) (h2 : ¬ p → B) : IfB (decide p) A B := ⟨fun h => h1 (of_decide_eq_true h), fun h => h2 (of_decide_eq_false h)⟩
theorem IfB.eqi {a b : Int} {A B : Prop} (h1 : a = b → A) (h2 : a ≠ b → B) : IfB (a == b) A B := ⟨fun h => h1 (by simpa using h), fun h => h2 (by simpa using h)⟩
theorem IfB.nei {a b : Int} {A B : Prop} (h1 : a ≠ b → A) (h2 : a = b → B) : IfB (a != b) A B := ⟨fun h => h1 (by simpa using h), fun h => h2 (by simpa using h)⟩
theorem IfB.bool {b : Bool} {A B : Prop} (h1 : b = true → A) (h2 : b = false → B) : IfB b A B := ⟨h1, h2⟩

/-- What stands at a byte, read as a sign. -/
theorem rune_at {s : List UInt8} {k : Nat} {b : UInt8} (h : s[k]? = some b) : (b.toNat < 128 ∧ runeAt s k = (b.toNat : Int) ∧ runeLen s k = 1) ∨ (128 ≤ b.toNat ∧ 128 ≤ runeAt s k ∧ 1 ≤ runeLen s k) := by
  obtain ⟨hk, hb⟩ := List.getElem?_eq_some_iff.1 h
  have hk' : k < (ByteArray.mk s.toArray).size := by simpa [ByteArray.size] using hk
  have e : (ByteArray.mk s.toArray)[k]'hk' = b := by
    rw [← hb]; rfl
  by_cases ha : b.toNat < 128
  · have := Go.decode_ascii (ByteArray.mk s.toArray) k hk' (by rw [e]; exact ha)
    rw [e] at this
    exact .inl ⟨ha, by simp [runeAt, this], by simp [runeLen, this]⟩
  · have := Go.decode_high (ByteArray.mk s.toArray) k hk' (by rw [e]; omega)
    exact .inr ⟨by omega, by simp only [runeAt]; omega, this.2⟩

/-- The byte b may stand at place i of a name. -/
def nmOk (i : Nat) (b : UInt8) : Prop := (97 ≤ b.toNat ∧ b.toNat ≤ 122) ∨ (i ≠ 0 ∧ (b.toNat = 95 ∨ (48 ≤ b.toNat ∧ b.toNat ≤ 57)))
def NameTo (s : List UInt8) (k : Nat) : Prop := ∀ i b, i < k → s[i]? = some b → nmOk i b
def NameP (s : List UInt8) : Prop := 1 ≤ s.length ∧ s.length ≤ 16 ∧ NameTo s s.length

theorem NameTo.next {s : List UInt8} {k : Nat} {b : UInt8} (h : NameTo s k) (hb : s[k]? = some b) (hn : nmOk k b) : NameTo s (k + 1) := fun i c hi hc => by
  by_cases e : i = k
  · subst e; rw [hb] at hc; cases hc; exact hn
  · exact h i c (by omega) hc

theorem not_name {s : List UInt8} {k : Nat} {b : UInt8} (hb : s[k]? = some b) (hn : ¬ nmOk k b) : ¬ NameP s := fun h => hn (h.2.2 k b (List.getElem?_eq_some_iff.1 hb).1 hb)

theorem f14_says {s : List UInt8} {r : Bool} (hr : r = true ↔ NameP s) : f14 s r := by
  have no : ¬ NameP s → r = false := fun h => by cases r with | false => rfl | true => exact absurd (hr.1 rfl) h
  unfold f14
  refine LoopP.intro (fun k => k ≤ s.length ∧ NameTo s k) (fun k => s.length - k) ⟨Nat.zero_le _, fun i b h => by omega⟩ ?_
  rintro X k ⟨hk, hn⟩ hX
  unfold f14_L1
  refine IfB.dec (fun hlt => ?_) (fun hge => ?_)
  · obtain ⟨b, hb⟩ : ∃ b, s[k]? = some b := ⟨_, List.getElem?_eq_getElem hlt⟩
    have hc := rune_at hb
    generalize hcc : runeAt s k = c at hc ⊢
    have go : (97 ≤ c ∧ c ≤ 122) ∨ (k ≠ 0 ∧ (c = 95 ∨ (48 ≤ c ∧ c ≤ 57))) → X (k + runeLen s k) := fun h => by
      rcases hc with ⟨h1, h2, h3⟩ | ⟨h1, h2, h3⟩
      · rw [h3]
        exact hX _ ⟨hlt, hn.next hb (by unfold nmOk; omega)⟩ (by omega)
      · omega
    have bad : ¬ ((97 ≤ c ∧ c ≤ 122) ∨ (k ≠ 0 ∧ (c = 95 ∨ (48 ≤ c ∧ c ≤ 57)))) → r = false := fun h => no (not_name hb (by
      unfold nmOk
      rcases hc with ⟨h1, h2, h3⟩ | ⟨h1, h2, h3⟩ <;> omega))
    repeat' (first | (refine IfB.dec (fun _ => ?_) (fun _ => ?_)) | (refine IfB.eqi (fun _ => ?_) (fun _ => ?_)) | (refine IfB.nei (fun _ => ?_) (fun _ => ?_)))
    all_goals first | (refine go ?_; omega) | (refine bad ?_; omega)
  · have e : k = s.length := by omega
    subst e
    refine IfB.dec (fun h1 => IfB.dec (fun h2 => hr.2 ⟨by omega, by omega, hn⟩) (fun h2 => no fun h => by have := h.2.1; omega)) (fun h1 => no fun h => by have := h.1; omega)

theorem f15_says {s : List UInt8} {r : Bool} (hr : r = true ↔ NameP s) : f15 s r := by
  have no : ¬ NameP s → r = false := fun h => by cases r with | false => rfl | true => exact absurd (hr.1 rfl) h
  unfold f15
  refine IfB.dec (fun h1 => no fun h => by have := h.1; omega) (fun h1 => IfB.dec (fun h2 => no fun h => by have := h.2.1; omega) (fun h2 => ?_))
  refine LoopP.intro (fun z : Int => ∃ k : Nat, z = k ∧ k ≤ s.length ∧ NameTo s k) (fun z => s.length - z.toNat) ⟨0, rfl, Nat.zero_le _, fun i b h => by omega⟩ ?_
  rintro X _ ⟨k, rfl, hk, hn⟩ hX
  unfold f15_L1
  refine IfB.dec (fun hlt => ?_) (fun hge => ?_)
  · have hlt' : k < s.length := by omega
    obtain ⟨b, hb⟩ : ∃ b, s[k]? = some b := ⟨_, List.getElem?_eq_getElem hlt'⟩
    have hi : Idx s (k : Int) b := ⟨Int.natCast_nonneg _, by simpa using hb⟩
    have go : nmOk k b → X (IntKind.i64.wrap ((k : Int) + 1)) := fun h => by
      rw [wrap64 (by constructor <;> omega)]
      exact hX _ ⟨k + 1, by simp, hlt', hn.next hb h⟩ (by omega)
    have bad : ¬ nmOk k b → r = false := fun h => no (not_name hb h)
    unfold nmOk at go bad
    repeat' (first | (refine ⟨b, hi, ?_⟩) | (refine IfB.dec (fun _ => ?_) (fun _ => ?_)) | (refine IfB.eqi (fun _ => ?_) (fun _ => ?_)) | (refine IfB.nei (fun _ => ?_) (fun _ => ?_)))
    all_goals first | (refine go ?_; omega) | (refine bad ?_; omega)
  · have e : k = s.length := by omega
    subst e
    exact hr.2 ⟨by omega, by omega, hn⟩

theorem law_names (s : List UInt8) : f4 s true := by
  unfold f4
  refine IfB.dec (fun _ => ⟨true, rfl, by simp⟩) (fun _ => ?_)
  by_cases h : NameP s
  · exact ⟨true, f14_says (by simp [h]), IfB_true.2 ⟨true, f15_says (by simp [h]), IfB_true.2 ⟨true, rfl, by simp⟩⟩⟩
  · exact ⟨false, f14_says (by simp [h]), IfB_false.2 ⟨false, f15_says (by simp [h]), IfB_false.2 ⟨true, rfl, by simp⟩⟩⟩

end Go.Abs

/- Chapter 07, plain: the lines of a text; as many as have words, by rising numbers. -/
namespace Go.Abs
set_option linter.unusedVariables false
set_option linter.unusedSimpArgs false
set_option linter.unnecessarySimpa false

def mayB (b : UInt8) : Prop := b.toNat = 10 ∨ (32 ≤ b.toNat ∧ b.toNat ≤ 126)
def RightTo (s : List UInt8) (k : Nat) : Prop := ∀ i b, i < k → s[i]? = some b → mayB b
def RightP (s : List UInt8) : Prop := RightTo s s.length
theorem RightP.mem {s : List UInt8} (h : RightP s) {b : UInt8} (hb : b ∈ s) : mayB b := by
  obtain ⟨i, hi, e⟩ := List.getElem_of_mem hb
  exact h i b hi (by rw [List.getElem?_eq_getElem hi, e])
theorem RightTo.next {s : List UInt8} {k : Nat} {b : UInt8} (h : RightTo s k) (hb : s[k]? = some b) (hn : mayB b) : RightTo s (k + 1) := fun i c hi hc => by
  by_cases e : i = k
  · subst e; rw [hb] at hc; cases hc; exact hn
  · exact h i c (by omega) hc
theorem not_right {s : List UInt8} {k : Nat} {b : UInt8} (hb : s[k]? = some b) (hn : ¬ mayB b) : ¬ RightP s := fun h => hn (h k b (List.getElem?_eq_some_iff.1 hb).1 hb)

theorem f27_says {c : Int} {r : Bool} (hr : r = true ↔ (c = 10 ∨ (32 ≤ c ∧ c ≤ 126))) : f27 c r := by
  have no : ¬ (c = 10 ∨ (32 ≤ c ∧ c ≤ 126)) → r = false := fun h => by cases r with | false => rfl | true => exact absurd (hr.1 rfl) h
  unfold f27
  refine IfB.eqi (fun h => hr.2 (.inl h)) (fun h => IfB.dec (fun h1 => IfB.dec (fun h2 => hr.2 (.inr ⟨h1, h2⟩)) (fun h2 => no (by omega))) (fun h1 => no (by omega)))

theorem f11_says {s : List UInt8} {r : Bool} (hs : s.length ≤ 100000) (hr : r = true ↔ RightP s) : f11 s r := by
  have no : ¬ RightP s → r = false := fun h => by cases r with | false => rfl | true => exact absurd (hr.1 rfl) h
  unfold f11
  refine LoopP.intro (fun z : Int => ∃ k : Nat, z = k ∧ k ≤ s.length ∧ RightTo s k) (fun z => s.length - z.toNat) ⟨0, rfl, Nat.zero_le _, fun i b h => by omega⟩ ?_
  rintro X _ ⟨k, rfl, hk, hn⟩ hX
  unfold f11_L1
  refine IfB.dec (fun hlt => ?_) (fun hge => ?_)
  · have hlt' : k < s.length := by omega
    obtain ⟨b, hb⟩ : ∃ b, s[k]? = some b := ⟨_, List.getElem?_eq_getElem hlt'⟩
    have hi : Idx s (k : Int) b := ⟨Int.natCast_nonneg _, by simpa using hb⟩
    have go : mayB b → X (IntKind.i64.wrap ((k : Int) + 1)) := fun h => by
      rw [wrap64 (by constructor <;> omega)]
      exact hX _ ⟨k + 1, by simp, hlt', hn.next hb h⟩ (by omega)
    have bad : ¬ mayB b → r = false := fun h => no (not_right hb h)
    unfold mayB at go bad
    repeat' (first | (refine ⟨b, hi, ?_⟩) | (refine IfB.dec (fun _ => ?_) (fun _ => ?_)) | (refine IfB.eqi (fun _ => ?_) (fun _ => ?_)) | (refine IfB.nei (fun _ => ?_) (fun _ => ?_)))
    all_goals first | (refine go ?_; omega) | (refine bad ?_; omega)
  · have e : k = s.length := by omega
    subst e
    exact hr.2 hn

/-! ### the pieces of a text -/
theorem split_mem {c : UInt8} : ∀ {s : List UInt8} {x : List UInt8}, x ∈ splitC c s → (∀ b, b ∈ x → b ∈ s) ∧ x.length ≤ s.length
  | [], x, h => by simp [splitC] at h; subst h; simp
  | b :: l, x, h => by
    unfold splitC at h
    split at h
    · rcases List.mem_cons.1 h with rfl | h
      · simp
      · obtain ⟨h1, h2⟩ := split_mem h
        exact ⟨fun b hb => List.mem_cons_of_mem _ (h1 b hb), by simp; omega⟩
    · obtain ⟨y, r, e⟩ := splitC_ne c l
      rw [e] at h
      simp only at h
      rcases List.mem_cons.1 h with rfl | h
      · obtain ⟨h1, h2⟩ := split_mem (c := c) (s := l) (x := y) (by rw [e]; simp)
        refine ⟨fun d hd => ?_, by simp; omega⟩
        rcases List.mem_cons.1 hd with rfl | hd
        · simp
        · exact List.mem_cons_of_mem _ (h1 d hd)
      · obtain ⟨h1, h2⟩ := split_mem (c := c) (s := l) (x := x) (by rw [e]; simp [h])
        exact ⟨fun b hb => List.mem_cons_of_mem _ (h1 b hb), by simp; omega⟩

theorem split_len {c : UInt8} : ∀ {s : List UInt8}, (splitC c s).length = s.count c + 1
  | [] => rfl
  | b :: l => by
    unfold splitC
    split
    · rename_i e; subst e; rw [List.length_cons, split_len]; simp
    · rename_i e
      obtain ⟨y, r, e2⟩ := splitC_ne c l
      have := split_len (c := c) (s := l)
      rw [e2] at this ⊢
      rw [List.count_cons_of_ne (by simpa using e)]
      simpa using this

/-- What stands ahead of the first #. -/
def head35 (s : List UInt8) : List UInt8 := (Lib.cut s [35]).1
theorem cut_fst {s : List UInt8} {c : UInt8} : ∃ n, (Lib.cut s [c]).1 = s.take n := by
  unfold Lib.cut
  split
  · exact ⟨_, rfl⟩
  · exact ⟨s.length, by simp⟩
theorem head_mem {s : List UInt8} : (∀ b, b ∈ head35 s → b ∈ s) ∧ (head35 s).length ≤ s.length := by
  unfold head35
  obtain ⟨n, e⟩ := cut_fst (s := s) (c := 35)
  rw [e]
  exact ⟨fun b hb => List.mem_of_mem_take hb, by simp; omega⟩

/-- The words of a line. -/
def wordsOf (s : List UInt8) : List (List UInt8) := Lib.fields (head35 s)
def linesFrom (k : Int) : List (List UInt8) → List (Int × List (List UInt8))
  | [] => []
  | s :: l => if 0 < (wordsOf s).length then (k + 1, wordsOf s) :: linesFrom (k + 1) l else linesFrom (k + 1) l
def allL (s : List UInt8) : List (Int × List (List UInt8)) := linesFrom 0 (splitC 10 s)

theorem linesFrom_length : ∀ (l : List (List UInt8)) (k : Int), (linesFrom k l).length ≤ l.length
  | [], k => by simp [linesFrom]
  | s :: l, k => by
    have := linesFrom_length l (k + 1)
    unfold linesFrom
    split <;> simp <;> omega

theorem f10_says {s : List UInt8} (hl : s.length ≤ 65536) (hr : RightP s) : f10 s (allL s, 0) := by
  unfold f10
  refine IfB.dec (fun h => by omega) (fun _ => ?_)
  refine LoopP.intro (fun k => k ≤ s.length) (fun k => s.length - k) (Nat.zero_le _) ?_
  intro X k hk hX
  unfold f10_L1
  refine IfB.dec (fun hlt => ?_) (fun hge => ?_)
  · obtain ⟨b, hb⟩ : ∃ b, s[k]? = some b := ⟨_, List.getElem?_eq_getElem hlt⟩
    have hm : mayB b := hr k b hlt hb
    unfold mayB at hm
    rcases rune_at hb with ⟨h1, h2, h3⟩ | ⟨h1, h2, h3⟩
    · refine ⟨true, f27_says (by rw [h2]; simp; omega), IfB_true.2 ?_⟩
      rw [h3]
      exact hX _ hlt (by omega)
    · omega
  · refine ⟨splitC 10 s, ⟨by unfold Short; omega, 10, rfl, rfl⟩, ?_⟩
    generalize hp : splitC 10 s = ps
    have hmem : ∀ x, x ∈ ps → (∀ b, b ∈ x → mayB b) ∧ x.length ≤ 65536 := fun x hx => by
      obtain ⟨h1, h2⟩ := split_mem (hp ▸ hx)
      exact ⟨fun b hb => hr.mem (h1 b hb), by omega⟩
    have hlen : ps.length ≤ 65537 := by
      rw [← hp, split_len]
      have := List.count_le_length (a := (10 : UInt8)) (l := s)
      omega
    have goal : linesFrom 0 ps = allL s := by unfold allL; rw [hp]
    rw [← goal]
    refine LoopP.intro (fun z : Int × List (Int × List (List UInt8)) => ∃ done rest : List (List UInt8), ps = done ++ rest ∧ z.1 = done.length ∧ z.2.length ≤ done.length ∧ z.2 ++ linesFrom done.length rest = linesFrom 0 ps) (fun z => ps.length - z.1.toNat) ⟨[], ps, rfl, rfl, by simp, by simp⟩ ?_
    rintro X ⟨z, out⟩ ⟨done, rest, e, hz, ho, hj⟩ hX
    simp only at hz ho hj
    subst hz
    unfold f10_L2
    refine IfB.dec (fun hlt => ?_) (fun hge => ?_)
    · cases rest with
      | nil => rw [e] at hlt; simp at hlt
      | cons x rest =>
        have hx := hmem x (by rw [e]; simp)
        have hdl : done.length < ps.length := by rw [e]; simp
        refine ⟨x, ⟨Int.natCast_nonneg _, by rw [e]; simp⟩, (Lib.cut x [35]).1, (Lib.cut x [35]).2.1, (Lib.cut x [35]).2.2, ⟨by unfold Short; omega, 35, rfl, rfl⟩, ?_⟩
        have ew : ∀ A : Prop, A → IfB (Lib.cut x [35]).2.2 A A := fun A h => IfB.intro (fun _ => h) (fun _ => h)
        refine ew _ ?_
        obtain ⟨m1, m2⟩ := head_mem (s := x)
        refine ⟨wordsOf x, ⟨by unfold Short; unfold head35 at m2; omega, fun b hb => ?_, rfl⟩, ?_⟩
        · have := hx.1 b (m1 b hb); unfold mayB at this; omega
        have hw : IntKind.i64.wrap ((done.length : Int) + 1) = ((done ++ [x]).length : Int) := by rw [wrap64 (by constructor <;> omega)]; simp
        have hps : ps = (done ++ [x]) ++ rest := by rw [e]; simp
        have hj2 := hj
        have hcons : linesFrom (done.length : Int) (x :: rest) = if 0 < (wordsOf x).length then ((done.length : Int) + 1, wordsOf x) :: linesFrom ((done.length : Int) + 1) rest else linesFrom ((done.length : Int) + 1) rest := rfl
        rw [hcons] at hj2
        have ec : ((done ++ [x]).length : Int) = (done.length : Int) + 1 := by simp
        have em : ps.length - ((done ++ [x]).length : Int).toNat < ps.length - (done.length : Int).toNat := by simp; omega
        rw [hw]
        refine IfB.dec (fun hpos => ?_) (fun hpos => ?_)
        · rw [if_pos (by omega)] at hj2
          refine ⟨by unfold Fits; simp; omega, hX _ ⟨done ++ [x], rest, hps, rfl, by simp; omega, ?_⟩ em⟩
          simp only [ec, List.append_assoc, List.singleton_append]
          exact hj2
        · rw [if_neg (by omega)] at hj2
          refine hX _ ⟨done ++ [x], rest, hps, rfl, by simp; omega, ?_⟩ em
          simp only [ec]
          exact hj2
    · have : rest = [] := by
        cases rest with
        | nil => rfl
        | cons x r => rw [e] at hge; simp at hge; omega
      subst this
      simp only [linesFrom, List.append_nil] at hj
      rw [hj]

/-- What is told of lines: by rising numbers, with words. -/
def Rising (lo hi : Int) : List (Int × List (List UInt8)) → Prop
  | [] => True
  | x :: l => lo < x.1 ∧ x.1 ≤ hi ∧ 0 < x.2.length ∧ Rising x.1 hi l
theorem Rising.lower {lo lo' hi : Int} (h : lo' ≤ lo) : ∀ {l : List (Int × List (List UInt8))}, Rising lo hi l → Rising lo' hi l
  | [], _ => trivial
  | x :: l, ⟨a, b⟩ => ⟨by omega, b⟩
theorem linesFrom_rising : ∀ (l : List (List UInt8)) (k : Int), Rising k (k + l.length) (linesFrom k l)
  | [], k => trivial
  | s :: l, k => by
    have ih := linesFrom_rising l (k + 1)
    have e : k + 1 + (l.length : Int) = k + ((s :: l).length : Int) := by simp; omega
    rw [e] at ih
    unfold linesFrom
    split
    · rename_i hw
      exact ⟨by simp; omega, by simp; omega, hw, ih⟩
    · exact ih.lower (by omega)

theorem Rising.at {hi : Int} : ∀ {l : List (Int × List (List UInt8))} {lo : Int} {i : Nat} {x : Int × List (List UInt8)}, Rising lo hi l → l[i]? = some x → 0 < x.2.length ∧ x.1 ≤ hi ∧ (∀ y, i ≠ 0 → l[i - 1]? = some y → y.1 < x.1) ∧ lo < x.1
  | [], _, i, x, _, h => by simp at h
  | z :: l, lo, 0, x, hr, h => by
    simp at h; subst h
    exact ⟨hr.2.2.1, hr.2.1, fun y h => absurd rfl h, hr.1⟩
  | z :: l, lo, i + 1, x, hr, h => by
    simp at h
    obtain ⟨h1, h2, h3, h4⟩ := Rising.at hr.2.2.2 h
    refine ⟨h1, h2, fun y _ hy => ?_, by have := hr.1; omega⟩
    cases i with
    | zero => simp at hy; subst hy; exact h4
    | succ i => simp at hy; exact h3 y (by omega) (by simpa using hy)

theorem law_count (s : List UInt8) : f5 s true := by
  unfold f5
  refine IfB.dec (fun _ => ⟨true, rfl, by simp⟩) (fun hl => ?_)
  by_cases hr : RightP s
  · refine ⟨true, f11_says (by omega) (by simp [hr]), IfB_true.2 ⟨allL s, 0, f10_says (by omega) hr, ?_⟩⟩
    have hR := linesFrom_rising (splitC 10 s) 0
    rw [split_len, show linesFrom 0 (splitC 10 s) = allL s from rfl] at hR
    have hL : (allL s).length ≤ 2001 := by
      have := linesFrom_length (splitC 10 s) 0
      rw [split_len, show linesFrom 0 (splitC 10 s) = allL s from rfl] at this
      have := List.count_le_length (a := (10 : UInt8)) (l := s)
      omega
    have hc := List.count_le_length (a := (10 : UInt8)) (l := s)
    generalize allL s = L at hR hL ⊢
    refine LoopP.intro (fun z : Int × Int => ∃ i : Nat, z.2 = i ∧ i ≤ L.length ∧ 0 ≤ z.1 ∧ z.1 ≤ s.count 10 + 1 ∧ ((i = 0 ∧ z.1 = 0) ∨ (i ≠ 0 ∧ ∃ y, L[i - 1]? = some y ∧ y.1 = z.1))) (fun z => L.length - z.2.toNat) ⟨0, rfl, Nat.zero_le _, by simp, by simp; omega, .inl ⟨rfl, rfl⟩⟩ ?_
    rintro X ⟨at_, z⟩ ⟨i, hz, hi, h0, hm, hat⟩ hX
    simp only at hz h0 hm hat
    subst hz
    unfold f5_L1
    refine IfB.dec (fun hlt => ?_) (fun hge => ?_)
    · have hlt' : i < L.length := by omega
      obtain ⟨x, hx⟩ : ∃ x, L[i]? = some x := ⟨_, List.getElem?_eq_getElem hlt'⟩
      obtain ⟨h1, h2, h3, h4⟩ := hR.at hx
      refine ⟨x.1, x.2, ⟨Int.natCast_nonneg _, by simpa using hx⟩, ?_⟩
      have hlt2 : at_ < x.1 := by
        rcases hat with ⟨_, e⟩ | ⟨hne, y, hy, e⟩
        · omega
        · have := h3 y hne hy; omega
      refine IfB.dec (fun h => by omega) (fun _ => IfB.eqi (fun h => by omega) (fun _ => ?_))
      rw [wrap64 (by constructor <;> omega)]
      exact hX _ ⟨i + 1, by simp, hlt', by omega, by simp only; omega, .inr ⟨by omega, x, by simpa using hx, rfl⟩⟩ (by simp; omega)
    · refine IfB.eqi (fun _ => ?_) (fun h => absurd rfl h)
      refine ⟨(s.count 10 : Nat), ⟨10, rfl, rfl⟩, ?_⟩
      rw [wrap64 (by constructor <;> omega)]
      exact IfB.dec (fun _ => ⟨true, rfl, by simp⟩) (fun h => by omega)
  · exact ⟨false, f11_says (by omega) (by simp [hr]), IfB_false.2 ⟨true, rfl, by simp⟩⟩

end Go.Abs
