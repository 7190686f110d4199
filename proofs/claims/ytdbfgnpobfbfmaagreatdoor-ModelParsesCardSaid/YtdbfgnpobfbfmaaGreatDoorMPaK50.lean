/- Part of a proof, in few files: LLin L13a L13b L13c L13d L13e LDec LTxt LTxt2 LLin2 L13f LQ. -/
import Derived.Test.YtdbfgnpobfbfmaaGreatDoorMPaK32
import Derived.Test.YtdbfgnpobfbfmaaGreatDoorMPaK18
import Derived.Laws.RangeAny
import Derived.Test.YtdbfgnpobfbfmaaGreatDoorMPaK40

section
namespace Go.Abs
open Go
set_option linter.unusedVariables false
set_option linter.unusedSimpArgs false
set_option linter.unnecessarySimpa false
theorem IfB.dec {p : Prop} [Decidable p] {A B : Prop} (h1 : p → A) (h2 : ¬ p → B) : IfB (decide p) A B := ⟨fun h => h1 (of_decide_eq_true h), fun h => h2 (of_decide_eq_false h)⟩
theorem IfB.eqi {a b : Int} {A B : Prop} (h1 : a = b → A) (h2 : a ≠ b → B) : IfB (a == b) A B := ⟨fun h => h1 (by simpa using h), fun h => h2 (by simpa using h)⟩
theorem IfB.nei {a b : Int} {A B : Prop} (h1 : a ≠ b → A) (h2 : a = b → B) : IfB (a != b) A B := ⟨fun h => h1 (by simpa using h), fun h => h2 (by simpa using h)⟩
theorem IfB.bool {b : Bool} {A B : Prop} (h1 : b = true → A) (h2 : b = false → B) : IfB b A B := ⟨h1, h2⟩
theorem rune_at {s : List UInt8} {k : Nat} {b : UInt8} (h : s[k]? = some b) : (b.toNat < 128 ∧ runeAt s k = (b.toNat : Int) ∧ runeLen s k = 1) ∨ (128 ≤ b.toNat ∧ 128 ≤ runeAt s k ∧ 1 ≤ runeLen s k) := by
  obtain ⟨hk, hb⟩ := List.getElem?_eq_some_iff.1 h
  have hk' : k < (ByteArray.mk s.toArray).size := by simpa [ByteArray.size] using hk
  have e : (ByteArray.mk s.toArray)[k]'hk' = b := by
    rw [← hb]; rfl
  by_cases ha : b.toNat < 128
  · have := Go.decode_ascii (ByteArray.mk s.toArray) k hk' (by rw [e]; exact ha)
    rw [e] at this
    exact .inl ⟨ha, by simp [runeAt, this], by simp [runeLen, this]⟩
  · have := Go.decode_high (ByteArray.mk s.toArray) k hk' (by rw [e]; omega)
    exact .inr ⟨by omega, by simp only [runeAt]; omega, this.2⟩
def nmOk (i : Nat) (b : UInt8) : Prop := (97 ≤ b.toNat ∧ b.toNat ≤ 122) ∨ (i ≠ 0 ∧ (b.toNat = 95 ∨ (48 ≤ b.toNat ∧ b.toNat ≤ 57)))
def NameTo (s : List UInt8) (k : Nat) : Prop := ∀ i b, i < k → s[i]? = some b → nmOk i b
def NameP (s : List UInt8) : Prop := 1 ≤ s.length ∧ s.length ≤ 16 ∧ NameTo s s.length
theorem NameTo.next {s : List UInt8} {k : Nat} {b : UInt8} (h : NameTo s k) (hb : s[k]? = some b) (hn : nmOk k b) : NameTo s (k + 1) := fun i c hi hc => by
  by_cases e : i = k
  · subst e; rw [hb] at hc; cases hc; exact hn
  · exact h i c (by omega) hc
theorem not_name {s : List UInt8} {k : Nat} {b : UInt8} (hb : s[k]? = some b) (hn : ¬ nmOk k b) : ¬ NameP s := fun h => hn (h.2.2 k b (List.getElem?_eq_some_iff.1 hb).1 hb)
theorem lines_Name_says {s : List UInt8} {r : Bool} (hr : r = true ↔ NameP s) : lines_Name s r := by
  have no : ¬ NameP s → r = false := fun h => by cases r with | false => rfl | true => exact absurd (hr.1 rfl) h
  unfold lines_Name
  refine LoopP.intro (fun k => k ≤ s.length ∧ NameTo s k) (fun k => s.length - k) ⟨Nat.zero_le _, fun i b h => by omega⟩ ?_
  rintro X k ⟨hk, hn⟩ hX
  unfold lines_Name_L1
  refine IfB.dec (fun hlt => ?_) (fun hge => ?_)
  · obtain ⟨b, hb⟩ : ∃ b, s[k]? = some b := ⟨_, List.getElem?_eq_getElem hlt⟩
    have hc := rune_at hb
    generalize hcc : runeAt s k = c at hc ⊢
    have go : (97 ≤ c ∧ c ≤ 122) ∨ (k ≠ 0 ∧ (c = 95 ∨ (48 ≤ c ∧ c ≤ 57))) → X (k + runeLen s k) := fun h => by
      rcases hc with ⟨h1, h2, h3⟩ | ⟨h1, h2, h3⟩
      · rw [h3]
        exact hX _ ⟨hlt, hn.next hb (by unfold nmOk; omega)⟩ (by omega)
      · omega
    have bad : ¬ ((97 ≤ c ∧ c ≤ 122) ∨ (k ≠ 0 ∧ (c = 95 ∨ (48 ≤ c ∧ c ≤ 57)))) → r = false := fun h => no (not_name hb (by
      unfold nmOk
      rcases hc with ⟨h1, h2, h3⟩ | ⟨h1, h2, h3⟩ <;> omega))
    repeat' (first | (refine IfB.dec (fun _ => ?_) (fun _ => ?_)) | (refine IfB.eqi (fun _ => ?_) (fun _ => ?_)) | (refine IfB.nei (fun _ => ?_) (fun _ => ?_)))
    all_goals first | (refine go ?_; omega) | (refine bad ?_; omega)
  · have e : k = s.length := by omega
    subst e
    refine IfB.dec (fun h1 => IfB.dec (fun h2 => hr.2 ⟨by omega, by omega, hn⟩) (fun h2 => no fun h => by have := h.2.1; omega)) (fun h1 => no fun h => by have := h.1; omega)
theorem offcutref07_Name_says {s : List UInt8} {r : Bool} (hr : r = true ↔ NameP s) : offcutref07_Name s r := by
  have no : ¬ NameP s → r = false := fun h => by cases r with | false => rfl | true => exact absurd (hr.1 rfl) h
  unfold offcutref07_Name
  refine IfB.dec (fun h1 => no fun h => by have := h.1; omega) (fun h1 => IfB.dec (fun h2 => no fun h => by have := h.2.1; omega) (fun h2 => ?_))
  refine LoopP.intro (fun z : Int => ∃ k : Nat, z = k ∧ k ≤ s.length ∧ NameTo s k) (fun z => s.length - z.toNat) ⟨0, rfl, Nat.zero_le _, fun i b h => by omega⟩ ?_
  rintro X _ ⟨k, rfl, hk, hn⟩ hX
  unfold offcutref07_Name_L1
  refine IfB.dec (fun hlt => ?_) (fun hge => ?_)
  · have hlt' : k < s.length := by omega
    obtain ⟨b, hb⟩ : ∃ b, s[k]? = some b := ⟨_, List.getElem?_eq_getElem hlt'⟩
    have hi : Idx s (k : Int) b := ⟨Int.natCast_nonneg _, by simpa using hb⟩
    have go : nmOk k b → X (IntKind.i64.wrap ((k : Int) + 1)) := fun h => by
      rw [wrap64 (by constructor <;> omega)]
      exact hX _ ⟨k + 1, by simp, hlt', hn.next hb h⟩ (by omega)
    have bad : ¬ nmOk k b → r = false := fun h => no (not_name hb h)
    unfold nmOk at go bad
    repeat' (first | (refine ⟨b, hi, ?_⟩) | (refine IfB.dec (fun _ => ?_) (fun _ => ?_)) | (refine IfB.eqi (fun _ => ?_) (fun _ => ?_)) | (refine IfB.nei (fun _ => ?_) (fun _ => ?_)))
    all_goals first | (refine go ?_; omega) | (refine bad ?_; omega)
  · have e : k = s.length := by omega
    subst e
    exact hr.2 ⟨by omega, by omega, hn⟩
def mayB (b : UInt8) : Prop := b.toNat = 10 ∨ (32 ≤ b.toNat ∧ b.toNat ≤ 126)
def RightTo (s : List UInt8) (k : Nat) : Prop := ∀ i b, i < k → s[i]? = some b → mayB b
def RightP (s : List UInt8) : Prop := RightTo s s.length
theorem RightP.mem {s : List UInt8} (h : RightP s) {b : UInt8} (hb : b ∈ s) : mayB b := by
  obtain ⟨i, hi, e⟩ := List.getElem_of_mem hb
  exact h i b hi (by rw [List.getElem?_eq_getElem hi, e])
theorem RightTo.next {s : List UInt8} {k : Nat} {b : UInt8} (h : RightTo s k) (hb : s[k]? = some b) (hn : mayB b) : RightTo s (k + 1) := fun i c hi hc => by
  by_cases e : i = k
  · subst e; rw [hb] at hc; cases hc; exact hn
  · exact h i c (by omega) hc
theorem not_right {s : List UInt8} {k : Nat} {b : UInt8} (hb : s[k]? = some b) (hn : ¬ mayB b) : ¬ RightP s := fun h => hn (h k b (List.getElem?_eq_some_iff.1 hb).1 hb)
theorem lines_may_says {c : Int} {r : Bool} (hr : r = true ↔ (c = 10 ∨ (32 ≤ c ∧ c ≤ 126))) : lines_may c r := by
  have no : ¬ (c = 10 ∨ (32 ≤ c ∧ c ≤ 126)) → r = false := fun h => by cases r with | false => rfl | true => exact absurd (hr.1 rfl) h
  unfold lines_may
  refine IfB.eqi (fun h => hr.2 (.inl h)) (fun h => IfB.dec (fun h1 => IfB.dec (fun h2 => hr.2 (.inr ⟨h1, h2⟩)) (fun h2 => no (by omega))) (fun h1 => no (by omega)))
theorem offcutref07_Right_says {s : List UInt8} {r : Bool} (hs : s.length ≤ 100000) (hr : r = true ↔ RightP s) : offcutref07_Right s r := by
  have no : ¬ RightP s → r = false := fun h => by cases r with | false => rfl | true => exact absurd (hr.1 rfl) h
  unfold offcutref07_Right
  refine LoopP.intro (fun z : Int => ∃ k : Nat, z = k ∧ k ≤ s.length ∧ RightTo s k) (fun z => s.length - z.toNat) ⟨0, rfl, Nat.zero_le _, fun i b h => by omega⟩ ?_
  rintro X _ ⟨k, rfl, hk, hn⟩ hX
  unfold offcutref07_Right_L1
  refine IfB.dec (fun hlt => ?_) (fun hge => ?_)
  · have hlt' : k < s.length := by omega
    obtain ⟨b, hb⟩ : ∃ b, s[k]? = some b := ⟨_, List.getElem?_eq_getElem hlt'⟩
    have hi : Idx s (k : Int) b := ⟨Int.natCast_nonneg _, by simpa using hb⟩
    have go : mayB b → X (IntKind.i64.wrap ((k : Int) + 1)) := fun h => by
      rw [wrap64 (by constructor <;> omega)]
      exact hX _ ⟨k + 1, by simp, hlt', hn.next hb h⟩ (by omega)
    have bad : ¬ mayB b → r = false := fun h => no (not_right hb h)
    unfold mayB at go bad
    repeat' (first | (refine ⟨b, hi, ?_⟩) | (refine IfB.dec (fun _ => ?_) (fun _ => ?_)) | (refine IfB.eqi (fun _ => ?_) (fun _ => ?_)) | (refine IfB.nei (fun _ => ?_) (fun _ => ?_)))
    all_goals first | (refine go ?_; omega) | (refine bad ?_; omega)
  · have e : k = s.length := by omega
    subst e
    exact hr.2 hn
theorem split_mem {c : UInt8} : ∀ {s : List UInt8} {x : List UInt8}, x ∈ splitC c s → (∀ b, b ∈ x → b ∈ s) ∧ x.length ≤ s.length
  | [], x, h => by simp [splitC] at h; subst h; simp
  | b :: l, x, h => by
    unfold splitC at h
    split at h
    · rcases List.mem_cons.1 h with rfl | h
      · simp
      · obtain ⟨h1, h2⟩ := split_mem h
        exact ⟨fun b hb => List.mem_cons_of_mem _ (h1 b hb), by simp; omega⟩
    · obtain ⟨y, r, e⟩ := splitC_ne c l
      rw [e] at h
      simp only at h
      rcases List.mem_cons.1 h with rfl | h
      · obtain ⟨h1, h2⟩ := split_mem (c := c) (s := l) (x := y) (by rw [e]; simp)
        refine ⟨fun d hd => ?_, by simp; omega⟩
        rcases List.mem_cons.1 hd with rfl | hd
        · simp
        · exact List.mem_cons_of_mem _ (h1 d hd)
      · obtain ⟨h1, h2⟩ := split_mem (c := c) (s := l) (x := x) (by rw [e]; simp [h])
        exact ⟨fun b hb => List.mem_cons_of_mem _ (h1 b hb), by simp; omega⟩
theorem split_len {c : UInt8} : ∀ {s : List UInt8}, (splitC c s).length = s.count c + 1
  | [] => rfl
  | b :: l => by
    unfold splitC
    split
    · rename_i e; subst e; rw [List.length_cons, split_len]; simp
    · rename_i e
      obtain ⟨y, r, e2⟩ := splitC_ne c l
      have := split_len (c := c) (s := l)
      rw [e2] at this ⊢
      rw [List.count_cons_of_ne (by simpa using e)]
      simpa using this
def head35 (s : List UInt8) : List UInt8 := (Lib.cut s [35]).1
theorem cut_fst {s : List UInt8} {c : UInt8} : ∃ n, (Lib.cut s [c]).1 = s.take n := by
  unfold Lib.cut
  split
  · exact ⟨_, rfl⟩
  · exact ⟨s.length, by simp⟩
theorem head_mem {s : List UInt8} : (∀ b, b ∈ head35 s → b ∈ s) ∧ (head35 s).length ≤ s.length := by
  unfold head35
  obtain ⟨n, e⟩ := cut_fst (s := s) (c := 35)
  rw [e]
  exact ⟨fun b hb => List.mem_of_mem_take hb, by simp; omega⟩
def wordsOf (s : List UInt8) : List (List UInt8) := Lib.fields (head35 s)
def linesFrom (k : Int) : List (List UInt8) → List (Int × List (List UInt8))
  | [] => []
  | s :: l => if 0 < (wordsOf s).length then (k + 1, wordsOf s) :: linesFrom (k + 1) l else linesFrom (k + 1) l
def allL (s : List UInt8) : List (Int × List (List UInt8)) := linesFrom 0 (splitC 10 s)
theorem linesFrom_length : ∀ (l : List (List UInt8)) (k : Int), (linesFrom k l).length ≤ l.length
  | [], k => by simp [linesFrom]
  | s :: l, k => by
    have := linesFrom_length l (k + 1)
    unfold linesFrom
    split <;> simp <;> omega
theorem lines_All_says {s : List UInt8} (hl : s.length ≤ 65536) (hr : RightP s) : lines_All s (allL s, 0) := by
  unfold lines_All
  refine IfB.dec (fun h => by omega) (fun _ => ?_)
  refine LoopP.intro (fun k => k ≤ s.length) (fun k => s.length - k) (Nat.zero_le _) ?_
  intro X k hk hX
  unfold lines_All_L1
  refine IfB.dec (fun hlt => ?_) (fun hge => ?_)
  · obtain ⟨b, hb⟩ : ∃ b, s[k]? = some b := ⟨_, List.getElem?_eq_getElem hlt⟩
    have hm : mayB b := hr k b hlt hb
    unfold mayB at hm
    rcases rune_at hb with ⟨h1, h2, h3⟩ | ⟨h1, h2, h3⟩
    · refine ⟨true, lines_may_says (by rw [h2]; simp; omega), IfB_true.2 ?_⟩
      rw [h3]
      exact hX _ hlt (by omega)
    · omega
  · refine ⟨splitC 10 s, ⟨by unfold Short; omega, 10, rfl, rfl⟩, ?_⟩
    generalize hp : splitC 10 s = ps
    have hmem : ∀ x, x ∈ ps → (∀ b, b ∈ x → mayB b) ∧ x.length ≤ 65536 := fun x hx => by
      obtain ⟨h1, h2⟩ := split_mem (hp ▸ hx)
      exact ⟨fun b hb => hr.mem (h1 b hb), by omega⟩
    have hlen : ps.length ≤ 65537 := by
      rw [← hp, split_len]
      have := List.count_le_length (a := (10 : UInt8)) (l := s)
      omega
    have goal : linesFrom 0 ps = allL s := by unfold allL; rw [hp]
    rw [← goal]
    refine LoopP.intro (fun z : Int × List (Int × List (List UInt8)) => ∃ done rest : List (List UInt8), ps = done ++ rest ∧ z.1 = done.length ∧ z.2.length ≤ done.length ∧ z.2 ++ linesFrom done.length rest = linesFrom 0 ps) (fun z => ps.length - z.1.toNat) ⟨[], ps, rfl, rfl, by simp, by simp⟩ ?_
    rintro X ⟨z, out⟩ ⟨done, rest, e, hz, ho, hj⟩ hX
    simp only at hz ho hj
    subst hz
    unfold lines_All_L2
    refine IfB.dec (fun hlt => ?_) (fun hge => ?_)
    · cases rest with
      | nil => rw [e] at hlt; simp at hlt
      | cons x rest =>
        have hx := hmem x (by rw [e]; simp)
        have hdl : done.length < ps.length := by rw [e]; simp
        refine ⟨x, ⟨Int.natCast_nonneg _, by rw [e]; simp⟩, (Lib.cut x [35]).1, (Lib.cut x [35]).2.1, (Lib.cut x [35]).2.2, ⟨by unfold Short; omega, 35, rfl, rfl⟩, ?_⟩
        have ew : ∀ A : Prop, A → IfB (Lib.cut x [35]).2.2 A A := fun A h => IfB.intro (fun _ => h) (fun _ => h)
        refine ew _ ?_
        obtain ⟨m1, m2⟩ := head_mem (s := x)
        refine ⟨wordsOf x, ⟨by unfold Short; unfold head35 at m2; omega, fun b hb => ?_, rfl⟩, ?_⟩
        · have := hx.1 b (m1 b hb); unfold mayB at this; omega
        have hw : IntKind.i64.wrap ((done.length : Int) + 1) = ((done ++ [x]).length : Int) := by rw [wrap64 (by constructor <;> omega)]; simp
        have hps : ps = (done ++ [x]) ++ rest := by rw [e]; simp
        have hj2 := hj
        have hcons : linesFrom (done.length : Int) (x :: rest) = if 0 < (wordsOf x).length then ((done.length : Int) + 1, wordsOf x) :: linesFrom ((done.length : Int) + 1) rest else linesFrom ((done.length : Int) + 1) rest := rfl
        rw [hcons] at hj2
        have ec : ((done ++ [x]).length : Int) = (done.length : Int) + 1 := by simp
        have em : ps.length - ((done ++ [x]).length : Int).toNat < ps.length - (done.length : Int).toNat := by simp; omega
        rw [hw]
        refine IfB.dec (fun hpos => ?_) (fun hpos => ?_)
        · rw [if_pos (by omega)] at hj2
          refine ⟨by unfold Fits; simp; omega, hX _ ⟨done ++ [x], rest, hps, rfl, by simp; omega, ?_⟩ em⟩
          simp only [ec, List.append_assoc, List.singleton_append]
          exact hj2
        · rw [if_neg (by omega)] at hj2
          refine hX _ ⟨done ++ [x], rest, hps, rfl, by simp; omega, ?_⟩ em
          simp only [ec]
          exact hj2
    · have : rest = [] := by
        cases rest with
        | nil => rfl
        | cons x r => rw [e] at hge; simp at hge; omega
      subst this
      simp only [linesFrom, List.append_nil] at hj
      rw [hj]
def Rising (lo hi : Int) : List (Int × List (List UInt8)) → Prop
  | [] => True
  | x :: l => lo < x.1 ∧ x.1 ≤ hi ∧ 0 < x.2.length ∧ Rising x.1 hi l
theorem Rising.lower {lo lo' hi : Int} (h : lo' ≤ lo) : ∀ {l : List (Int × List (List UInt8))}, Rising lo hi l → Rising lo' hi l
  | [], _ => trivial
  | x :: l, ⟨a, b⟩ => ⟨by omega, b⟩
theorem linesFrom_rising : ∀ (l : List (List UInt8)) (k : Int), Rising k (k + l.length) (linesFrom k l)
  | [], k => trivial
  | s :: l, k => by
    have ih := linesFrom_rising l (k + 1)
    have e : k + 1 + (l.length : Int) = k + ((s :: l).length : Int) := by simp; omega
    rw [e] at ih
    unfold linesFrom
    split
    · rename_i hw
      exact ⟨by simp; omega, by simp; omega, hw, ih⟩
    · exact ih.lower (by omega)
theorem Rising.at {hi : Int} : ∀ {l : List (Int × List (List UInt8))} {lo : Int} {i : Nat} {x : Int × List (List UInt8)}, Rising lo hi l → l[i]? = some x → 0 < x.2.length ∧ x.1 ≤ hi ∧ (∀ y, i ≠ 0 → l[i - 1]? = some y → y.1 < x.1) ∧ lo < x.1
  | [], _, i, x, _, h => by simp at h
  | z :: l, lo, 0, x, hr, h => by
    simp at h; subst h
    exact ⟨hr.2.2.1, hr.2.1, fun y h => absurd rfl h, hr.1⟩
  | z :: l, lo, i + 1, x, hr, h => by
    simp at h
    obtain ⟨h1, h2, h3, h4⟩ := Rising.at hr.2.2.2 h
    refine ⟨h1, h2, fun y _ hy => ?_, by have := hr.1; omega⟩
    cases i with
    | zero => simp at hy; subst hy; exact h4
    | succ i => simp at hy; exact h3 y (by omega) (by simpa using hy)
def wlen (l : List (List UInt8)) : Nat := (l.map fun x => x.length + 1).sum
theorem fields_wlen : ∀ (l cur : List UInt8), wlen (Lib.fieldsGo cur l) ≤ cur.length + l.length + 1
  | [], cur => by cases cur <;> simp [Lib.fieldsGo, wlen]
  | b :: l, cur => by
    have i1 := fields_wlen l []
    have i2 := fields_wlen l (cur ++ [b])
    unfold Lib.fieldsGo
    split
    · cases cur with
      | nil => simp at i1 ⊢; omega
      | cons c t => simp [wlen] at i1 ⊢; omega
    · simp at i2 ⊢; omega
theorem wlen_len (l : List (List UInt8)) : l.length ≤ wlen l := by
  induction l with
  | nil => simp [wlen]
  | cons x l ih => simp [wlen] at ih ⊢; omega
abbrev Ws := List (List UInt8)
abbrev Ls := List (Int × Ws)
def flushW (ws : Ws) (w : List UInt8) : Ws := if w = [] then ws else ws ++ [w]
def emitL (n : Int) (ws : Ws) : Ls := if 0 < ws.length then [(n, ws)] else []
def goL (word : List UInt8) (off : Bool) (n : Int) (ws : Ws) : List UInt8 → Ls
  | [] => emitL n (flushW ws word)
  | b :: l => if b.toNat = 10 then emitL n (flushW ws word) ++ goL [] false (n + 1) [] l else if off = true ∨ b.toNat = 35 then goL [] true n (flushW ws word) l
    else if b.toNat = 32 then goL [] false n (flushW ws word) l else goL (word ++ [b]) off n ws l
theorem flush_fields (ws : Ws) (w : List UInt8) : flushW ws w = ws ++ Lib.fieldsGo w [] := by
  unfold flushW
  cases w <;> simp [Lib.fieldsGo]
theorem u8 {b : UInt8} {c : Nat} (hc : c < 256) : b.toNat = c ↔ b = c.toUInt8 := by
  constructor
  · intro h; subst h; simp
  · rintro rfl; simp; omega
theorem goL_eq : ∀ (l word : List UInt8) (off : Bool) (n : Int) (ws : Ws), (∀ b, b ∈ l → mayB b) → (off = true → word = []) → ∃ x r, splitC 10 l = x :: r ∧ goL word off n ws l = emitL n (if off = true then ws else ws ++ Lib.fieldsGo word (head35 x)) ++ linesFrom n r
  | [], word, off, n, ws, _, ho => by
    refine ⟨[], [], rfl, ?_⟩
    have h0 : head35 [] = [] := by unfold head35; rw [cut_one]; rfl
    rw [h0]
    simp only [goL, linesFrom, List.append_nil]
    cases off with
    | true => rw [ho rfl]; simp [flushW]
    | false => rw [flush_fields]; simp
  | b :: l, word, off, n, ws, hm, ho => by
    have hm' : ∀ c, c ∈ l → mayB c := fun c hc => hm c (by simp [hc])
    have hb := hm b (by simp)
    by_cases h10 : b.toNat = 10
    · have e10 : b = 10 := (u8 (by decide)).1 h10
      obtain ⟨x, r, e1, e2⟩ := goL_eq l [] false (n + 1) [] hm' (by simp)
      refine ⟨[], splitC 10 l, by rw [splitC, if_pos e10], ?_⟩
      rw [goL, if_pos h10, e2, e1]
      have h0 : head35 [] = [] := by unfold head35; rw [cut_one]; rfl
      have e3 : linesFrom n (x :: r) = emitL (n + 1) (wordsOf x) ++ linesFrom (n + 1) r := by
        rw [linesFrom]; unfold emitL
        split <;> simp
      rw [e3, h0]
      have e4 : emitL n (flushW ws word) = emitL n (if off = true then ws else ws ++ Lib.fieldsGo word []) := by
        cases off with
        | true => rw [ho rfl]; simp [flushW]
        | false => rw [flush_fields]; simp
      rw [e4]
      simp [wordsOf, Lib.fields]
    · have e10 : ¬ b = 10 := fun e => h10 ((u8 (by decide)).2 e)
      have sp : ∀ x r, splitC 10 l = x :: r → splitC 10 (b :: l) = (b :: x) :: r := fun x r e => by rw [splitC, if_neg e10, e]
      rw [goL, if_neg h10]
      by_cases h35 : off = true ∨ b.toNat = 35
      · rw [if_pos h35]
        obtain ⟨x, r, e1, e2⟩ := goL_eq l [] true n (flushW ws word) hm' (by simp)
        refine ⟨b :: x, r, sp x r e1, ?_⟩
        rw [e2]
        cases off with
        | true => rw [ho rfl]; simp [flushW]
        | false =>
          have hb35 : b = 35 := (u8 (by decide)).1 (h35.resolve_left (by simp))
          have h0 : head35 (b :: x) = [] := by unfold head35; rw [cut_one, hb35]; simp
          rw [h0, flush_fields]; simp
      · rw [if_neg h35]
        have hoff : off = false := by cases off <;> simp at h35 ⊢
        subst hoff
        have n35 : b ≠ 35 := fun e => h35 (.inr ((u8 (by decide)).2 e))
        have hh : ∀ x, head35 (b :: x) = b :: head35 x := fun x => by
          unfold head35; rw [cut_one, cut_one, List.takeWhile_cons_of_pos (by simpa using n35)]
        by_cases h32 : b.toNat = 32
        · rw [if_pos h32]
          obtain ⟨x, r, e1, e2⟩ := goL_eq l [] false n (flushW ws word) hm' (by simp)
          refine ⟨b :: x, r, sp x r e1, ?_⟩
          have hb32 : b = 32 := (u8 (by decide)).1 h32
          have e3 : Lib.fieldsGo word (b :: head35 x) = if word.isEmpty then Lib.fieldsGo [] (head35 x) else word :: Lib.fieldsGo [] (head35 x) := by
            subst hb32; rfl
          rw [e2, hh, e3]
          cases word <;> simp [flushW]
        · rw [if_neg h32]
          obtain ⟨x, r, e1, e2⟩ := goL_eq l (word ++ [b]) false n ws hm' (by simp)
          refine ⟨b :: x, r, sp x r e1, ?_⟩
          have hns : Lib.isSp b = false := by
            unfold mayB at hb
            have k : ∀ c : Nat, c < 256 → b.toNat ≠ c → (b == c.toUInt8) = false := fun c hc h => by
              rw [beq_eq_false_iff_ne]; exact fun e => h ((u8 hc).2 e)
            have h9 := k 9 (by decide) (by omega); have h10' := k 10 (by decide) h10; have h11 := k 11 (by decide) (by omega); have h12 := k 12 (by decide) (by omega); have h13 := k 13 (by decide) (by omega); have h32' := k 32 (by decide) h32
            unfold Lib.isSp
            simp at h9 h10' h11 h12 h13 h32' ⊢
            exact ⟨⟨⟨⟨⟨h9, h10'⟩, h11⟩, h12⟩, h13⟩, h32'⟩
          have e3 : Lib.fieldsGo word (b :: head35 x) = Lib.fieldsGo (word ++ [b]) (head35 x) := by
            rw [Lib.fieldsGo, if_neg (by rw [hns]; simp)]
          rw [e2, hh, e3]
theorem goL_all {s : List UInt8} (hr : RightP s) : goL [] false 1 [] s = allL s := by
  obtain ⟨x, r, e1, e2⟩ := goL_eq s [] false 1 [] (fun b hb => hr.mem hb) (by simp)
  rw [e2]
  unfold allL
  rw [e1, linesFrom]
  unfold emitL
  simp only [Bool.false_eq_true, if_false, List.nil_append]
  show (if 0 < (wordsOf x).length then _ else _) ++ _ = _
  split <;> simp [wordsOf, Lib.fields]
def J12 (s : List UInt8) (G : Ls) : (List UInt8) × Bool × Int × Int × Ls × Ws → Prop
  | (word, off, z, n, out, ws) => ∃ i : Nat, z = i ∧ i ≤ s.length + 1 ∧ 0 ≤ n ∧ n ≤ i + 1 ∧ word.length ≤ i ∧ out.length ≤ i ∧ ws.length ≤ i ∧ (off = true → word = []) ∧ (i ≤ s.length → out ++ goL word off n ws (s.drop i) = G) ∧ (i = s.length + 1 → out = G)
theorem offcutref07_All_says {s : List UInt8} (hs : s.length ≤ 100000) : offcutref07_All s (goL [] false 1 [] s) := by
  unfold offcutref07_All
  generalize hG : goL [] false 1 [] s = G
  refine LoopP.intro (J12 s G) (fun z => s.length + 1 - z.2.2.1.toNat) ⟨0, rfl, Nat.zero_le _, by omega, by omega, Nat.le_refl _, Nat.le_refl _, Nat.le_refl _, fun _ => rfl, fun _ => hG, fun h => by omega⟩ ?_
  rintro X ⟨word, off, z, n, out, ws⟩ ⟨i, rfl, hi, hn0, hn1, hw, ho, hws, hoff, hgo, hend⟩ hX
  have eI : i ≤ s.length → IntKind.i64.wrap ((i : Int) + 1) = ((i + 1 : Nat) : Int) := fun _ => by rw [wrap64 (by constructor <;> omega)]; simp
  have eN : IntKind.i64.wrap (n + 1) = n + 1 := wrap64 (by constructor <;> omega)
  have hflen : (flushW ws word).length ≤ i + 1 := by
    unfold flushW
    split
    · omega
    · rw [List.length_append, List.length_singleton]; omega
  have fl0 : (!(word == ([] : List UInt8))) = false → flushW ws word = ws := fun h => by
    have : word = [] := by simpa using h
    simp [flushW, this]
  have fl1 : (!(word == ([] : List UInt8))) = true → flushW ws word = ws ++ [word] := fun h => by
    have : ¬ word = [] := by simpa using h
    simp [flushW, this]
  -- a line's end, or the text's
  have fin : ∀ ws', flushW ws word = ws' → i ≤ s.length → (∀ b, s[i]? = some b → b.toNat = 10) →
      IfB (decide ((ws'.length : Int) > (0 : Int))) (Fits (out.length + [(n, ws')].length) 32 ∧ X (([] : List UInt8), false, (IntKind.i64.wrap ((i : Int) + 1)), (IntKind.i64.wrap (n + 1)), (out ++ [(n, ws')]), ([] : Ws)))
        (X (([] : List UInt8), false, (IntKind.i64.wrap ((i : Int) + 1)), (IntKind.i64.wrap (n + 1)), out, ([] : Ws))) := by
    intro ws' hf hle hb
    rw [eI hle, eN]
    have key : ∀ out', out ++ emitL n ws' = out' → (i + 1 ≤ s.length → out' ++ goL [] false (n + 1) [] (s.drop (i + 1)) = G) ∧ (i + 1 = s.length + 1 → out' = G) := by
      rintro out' rfl
      have hg := hgo hle
      refine ⟨fun h => ?_, fun h => ?_⟩
      · have hlt : i < s.length := h
        have h10 := hb _ (List.getElem?_eq_getElem hlt)
        rw [List.drop_eq_getElem_cons hlt, goL, if_pos h10, hf] at hg
        rw [List.append_assoc]; exact hg
      · rw [List.drop_of_length_le (by omega), goL, hf] at hg
        exact hg
    refine IfB.dec (fun hp => ⟨by unfold Fits; simp; omega, ?_⟩) (fun hp => ?_)
    · obtain ⟨k1, k2⟩ := key (out ++ [(n, ws')]) (by unfold emitL; rw [if_pos (by omega)])
      exact hX _ ⟨i + 1, rfl, by omega, by omega, by omega, by simp, by simp; omega, by simp, by simp, k1, k2⟩ (by simp; omega)
    · obtain ⟨k1, k2⟩ := key out (by unfold emitL; rw [if_neg (by omega)]; simp)
      exact hX _ ⟨i + 1, rfl, by omega, by omega, by omega, by simp, by omega, by simp, by simp, k1, k2⟩ (by simp; omega)
  have fin2 : i ≤ s.length → (∀ b, s[i]? = some b → b.toNat = 10) → IfB (!(word == ([] : List UInt8))) (Fits (ws.length + [word].length) 16 ∧ IfB (decide (((ws ++ [word]).length : Int) > (0 : Int))) (Fits (out.length + [(n, (ws ++ [word]))].length) 32 ∧ X (([] : List UInt8), false, (IntKind.i64.wrap ((i : Int) + 1)), (IntKind.i64.wrap (n + 1)), (out ++ [(n, (ws ++ [word]))]), ([] : Ws)))
        (X (([] : List UInt8), false, (IntKind.i64.wrap ((i : Int) + 1)), (IntKind.i64.wrap (n + 1)), out, ([] : Ws))))
      (IfB (decide ((ws.length : Int) > (0 : Int))) (Fits (out.length + [(n, ws)].length) 32 ∧ X (([] : List UInt8), false, (IntKind.i64.wrap ((i : Int) + 1)), (IntKind.i64.wrap (n + 1)), (out ++ [(n, ws)]), ([] : Ws)))
        (X (([] : List UInt8), false, (IntKind.i64.wrap ((i : Int) + 1)), (IntKind.i64.wrap (n + 1)), out, ([] : Ws)))) := fun h1 h2 =>
    IfB.bool (fun h => ⟨by unfold Fits; simp; omega, fin _ (fl1 h) h1 h2⟩) (fun h => fin _ (fl0 h) h1 h2)
  -- a word's end
  have blank : ∀ (b : UInt8) (off' : Bool), s[i]? = some b → b.toNat ≠ 10 → ((off' = true ∧ (off = true ∨ b.toNat = 35)) ∨ (off' = false ∧ off = false ∧ b.toNat = 32)) →
      IfB (!(word == ([] : List UInt8))) (Fits (ws.length + [word].length) 16 ∧ X (([] : List UInt8), off', (IntKind.i64.wrap ((i : Int) + 1)), n, out, (ws ++ [word]))) (X (([] : List UInt8), off', (IntKind.i64.wrap ((i : Int) + 1)), n, out, ws)) := by
    intro b off' hb h10 hk
    obtain ⟨hlt, hbe⟩ := List.getElem?_eq_some_iff.1 hb
    have hle : i ≤ s.length := by omega
    have hg := hgo hle
    rw [List.drop_eq_getElem_cons hlt, hbe, goL, if_neg h10] at hg
    have hg2 : out ++ goL [] off' n (flushW ws word) (s.drop (i + 1)) = G := by
      rcases hk with ⟨rfl, hk⟩ | ⟨rfl, hf, h32⟩
      · rw [if_pos hk] at hg; exact hg
      · rw [if_neg (by rw [hf]; simp; omega), if_pos h32] at hg; exact hg
    rw [eI hle]
    have go : ∀ ws', flushW ws word = ws' → X (([] : List UInt8), off', ((i + 1 : Nat) : Int), n, out, ws') := by
      rintro ws' rfl
      exact hX _ ⟨i + 1, rfl, by omega, hn0, by omega, by simp, by omega, hflen, by simp, fun _ => hg2, fun h => by omega⟩ (by simp; omega)
    exact IfB.bool (fun h => ⟨by unfold Fits; simp; omega, go _ (fl1 h)⟩) (fun h => go _ (fl0 h))
  unfold offcutref07_All_L1
  have hbyte : ∀ A : UInt8 → Prop, i < s.length → (∀ b, s[i]? = some b → A b) → ∃ c, Idx s (i : Int) c ∧ A c := fun A hlt h => by
    have hb := List.getElem?_eq_getElem hlt
    exact ⟨_, ⟨Int.natCast_nonneg _, by simpa using hb⟩, h _ hb⟩
  cases off with
  | true =>
    refine IfB_true.2 (IfB.dec (fun hle => IfB.eqi (fun he => ?_) (fun hne => ?_)) (fun hgt => (hend (by omega)).symm ▸ rfl))
    · exact fin2 (by omega) (fun b hb => by have := (List.getElem?_eq_some_iff.1 hb).1; omega)
    · refine hbyte _ (by omega) fun b hb => IfB.eqi (fun h => fin2 (by omega) (fun b' hb' => by rw [hb] at hb'; cases hb'; omega)) (fun h10 => ?_)
      refine hbyte _ (by omega) fun b' hb' => ?_
      rw [hb] at hb'; cases hb'
      exact IfB.eqi (fun _ => blank b true hb (by omega) (.inl ⟨rfl, .inl rfl⟩)) (fun _ => blank b true hb (by omega) (.inl ⟨rfl, .inl rfl⟩))
  | false =>
    refine IfB_false.2 (IfB.dec (fun hle => IfB.eqi (fun he => ?_) (fun hne => ?_)) (fun hgt => (hend (by omega)).symm ▸ rfl))
    · exact fin2 (by omega) (fun b hb => by have := (List.getElem?_eq_some_iff.1 hb).1; omega)
    · refine hbyte _ (by omega) fun b hb => IfB.eqi (fun h => fin2 (by omega) (fun b' hb' => by rw [hb] at hb'; cases hb'; omega)) (fun h10 => ?_)
      refine hbyte _ (by omega) fun b' hb' => ?_
      rw [hb] at hb'; cases hb'
      refine IfB.eqi (fun h35 => blank b true hb (by omega) (.inl ⟨rfl, .inr (by omega)⟩)) (fun h35 => ?_)
      refine hbyte _ (by omega) fun b' hb' => ?_
      rw [hb] at hb'; cases hb'
      refine IfB.eqi (fun h32 => blank b false hb (by omega) (.inr ⟨rfl, rfl, by omega⟩)) (fun h32 => ?_)
      obtain ⟨hlt, hbe⟩ := List.getElem?_eq_some_iff.1 hb
      have hsub : sub s (i : Int) (IntKind.i64.wrap ((i : Int) + 1)) = [b] := by
        rw [eI (by omega)]
        unfold sub
        simp only [Int.toNat_natCast]
        rw [List.drop_eq_getElem_cons hlt, hbe, show i + 1 - i = 1 by omega]
        rfl
      rw [hsub, eI (by omega)]
      refine ⟨⟨by omega, by omega, by omega⟩, by unfold Fits; simp; omega, hX _ ⟨i + 1, rfl, by omega, hn0, by omega, by simp; omega, by omega, by omega, by simp, fun _ => ?_, fun h => by omega⟩ (by simp; omega)⟩
      have hg := hgo (by omega)
      rw [List.drop_eq_getElem_cons hlt, hbe, goL, if_neg (by omega), if_neg (by simp; omega), if_neg (by omega)] at hg
      exact hg
theorem lines_All_form {s : List UInt8} (hl : s.length ≤ 65536) (hr : ¬ RightP s) : lines_All s ([], 2) := by
  unfold lines_All
  refine IfB.dec (fun h => by omega) (fun _ => ?_)
  refine LoopP.intro (fun k => k ≤ s.length ∧ RightTo s k) (fun k => s.length - k) ⟨Nat.zero_le _, fun i b h => by omega⟩ ?_
  rintro X k ⟨hk, hn⟩ hX
  unfold lines_All_L1
  refine IfB.dec (fun hlt => ?_) (fun hge => ?_)
  · obtain ⟨b, hb⟩ : ∃ b, s[k]? = some b := ⟨_, List.getElem?_eq_getElem hlt⟩
    by_cases hm : mayB b
    · have hm' := hm
      unfold mayB at hm'
      rcases rune_at hb with ⟨h1, h2, h3⟩ | ⟨h1, h2, h3⟩
      · refine ⟨true, lines_may_says (by rw [h2]; simp; omega), IfB_true.2 ?_⟩
        rw [h3]
        exact hX _ ⟨hlt, hn.next hb hm⟩ (by omega)
      · omega
    · have hm' := hm
      unfold mayB at hm'
      refine ⟨false, lines_may_says ?_, IfB_false.2 rfl⟩
      rcases rune_at hb with ⟨h1, h2, h3⟩ | ⟨h1, h2, h3⟩
      · rw [h2]; simp; omega
      · simp; omega
  · exfalso
    have e : k = s.length := by omega
    subst e
    exact hr hn
theorem all_wlen (s : List UInt8) : ∀ x, x ∈ allL s → wlen x.2 ≤ s.length + 1 := by
  have key : ∀ (l : List (List UInt8)) (k : Int), (∀ y, y ∈ l → y.length ≤ s.length) → ∀ x, x ∈ linesFrom k l → wlen x.2 ≤ s.length + 1 := by
    intro l
    induction l with
    | nil => intro k _ x hx; simp [linesFrom] at hx
    | cons y l ih =>
      intro k hy x hx
      have hx' : x ∈ (if 0 < (wordsOf y).length then (k + 1, wordsOf y) :: linesFrom (k + 1) l else linesFrom (k + 1) l) := hx
      have one : wlen (wordsOf y) ≤ s.length + 1 := by
        have h1 := fields_wlen (head35 y) []
        have h2 := (head_mem (s := y)).2
        have h3 := hy y (by simp)
        unfold wordsOf Lib.fields
        simp at h1
        omega
      split at hx'
      · rcases List.mem_cons.1 hx' with rfl | hx'
        · exact one
        · exact ih _ (fun z hz => hy z (by simp [hz])) x hx'
      · exact ih _ (fun z hz => hy z (by simp [hz])) x hx'
  exact key _ 0 fun y hy => (split_mem hy).2
theorem LoopP.once {σ : Type} {F : (σ → Prop) → σ → Prop} {s : σ} (h : ∀ X : σ → Prop, (∀ s, F X s → X s) → F X s) : LoopP F s := fun X hX => hX s (h X hX)
def mkB (s : List UInt8) : ByteArray := ⟨s.toArray⟩
theorem mkB_inj {a b : List UInt8} (h : mkB a = mkB b) : a = b := by
  have : (mkB a).data.toList = (mkB b).data.toList := by rw [h]
  simpa [mkB] using this
def okW (w : List UInt8) : Prop := w ≠ [] ∧ w.length ≤ 40 ∧ RightP w ∧ ∀ b, b ∈ w → b ≠ 32 ∧ b ≠ 35 ∧ b ≠ 10
theorem okW.sp {w : List UInt8} (h : okW w) : ∀ b, b ∈ w → Lib.isSp b = false := fun b hb => by
  have hm := h.2.2.1.mem hb
  obtain ⟨n32, _, n10⟩ := h.2.2.2 b hb
  unfold mayB at hm
  have k : ∀ c : Nat, c < 256 → b.toNat ≠ c → (b == c.toUInt8) = false := fun c hc h => by
    rw [beq_eq_false_iff_ne]; intro e; apply h; rw [e]; simp; omega
  have t10 : b.toNat ≠ 10 := fun e => n10 (by rw [← UInt8.toNat_inj]; exact e)
  have t32 : b.toNat ≠ 32 := fun e => n32 (by rw [← UInt8.toNat_inj]; exact e)
  have h9 := k 9 (by decide) (by omega); have h10' := k 10 (by decide) t10; have h11 := k 11 (by decide) (by omega); have h12 := k 12 (by decide) (by omega); have h13 := k 13 (by decide) (by omega); have h32' := k 32 (by decide) t32
  unfold Lib.isSp
  simp at h9 h10' h11 h12 h13 h32' ⊢
  exact ⟨⟨⟨⟨⟨h9, h10'⟩, h11⟩, h12⟩, h13⟩, h32'⟩
end Go.Abs
end

section
namespace Go.Abs
open Go
set_option linter.unusedVariables false
set_option linter.unusedSimpArgs false
set_option linter.unnecessarySimpa false
abbrev Q3 := Bool × List Int × List Int
def isN (w : By) : Prop := (ratR w).2.2.2 = 0
instance (w : By) : Decidable (isN w) := inferInstanceAs (Decidable (_ = _))
def numOf (w : By) : Q3 := ((ratR w).1, (ratR w).2.1, (ratR w).2.2.1)
theorem lines_Number_says (w : By) (hl : w.length ≤ 1000000) : lines_Number w (if isN w then ((numOf w).1, (numOf w).2.1, (numOf w).2.2, true) else (false, [], words 1, false)) := by
  unfold lines_Number
  have h := rat_Parse_says w hl
  refine ⟨(ratR w).1, (ratR w).2.1, (ratR w).2.2.1, (ratR w).2.2.2, h, IfB.neI (fun he => ?_) (fun he => ?_)⟩
  · rw [if_neg (show ¬ isN w from he)]; exact ⟨_, _, _, rat_Int0, rfl⟩
  · rw [if_pos (show isN w from he)]; rfl
def dgOK (s : By) : Prop := s ≠ [] ∧ allDg s ∧ s.length ≤ 400
instance (s : By) : Decidable (dgOK s) := inferInstanceAs (Decidable (_ ∧ _))
theorem dgOK_parse (s : By) : dgOK s ↔ (parseR s).2 = 0 := by
  unfold dgOK parseR
  by_cases h : s = [] ∨ ¬ allDg s
  · rw [if_pos h]
    constructor
    · rintro ⟨h1, h2, _⟩; exact (h.elim h1 (fun h => h h2)).elim
    · intro h'; simp at h'
  · rw [if_neg h]
    have h1 : s ≠ [] := fun e => h (.inl e)
    have h2 : allDg s := Decidable.byContradiction fun e => h (.inr e)
    by_cases h3 : 400 < s.length
    · rw [if_pos h3]
      constructor
      · rintro ⟨_, _, h4⟩; omega
      · intro h'; simp at h'
    · rw [if_neg h3]; exact ⟨fun _ => rfl, fun _ => ⟨h1, h2, by omega⟩⟩
theorem digits_says (s : By) (hl : s.length ≤ 1000000) : offcutref08_digits s (decide (dgOK s)) := by
  unfold offcutref08_digits
  refine LoopP.intro (fun z : Int => ∃ k : Nat, z = k ∧ k ≤ s.length ∧ allDg (s.take k)) (fun z => s.length - z.toNat) ⟨0, rfl, by omega, by intro b hb; simp at hb⟩ ?_
  rintro X z ⟨k, rfl, hk, hd⟩ hX
  unfold offcutref08_digits_L1
  refine IfB.dec (fun h => ?_) (fun h => ?_)
  · have hks : k < s.length := by omega
    have htk : s.take (k + 1) = s.take k ++ [s[k]] := by rw [List.take_add_one, List.getElem?_eq_getElem hks]; rfl
    have no : ¬ dg s[k] → decide (dgOK s) = false := fun h => decide_eq_false fun h' => h (h'.2.1 _ (List.getElem_mem hks))
    refine ⟨_, Idx.nat hks, IfB.dec (fun h1 => no fun h => by unfold dg at h; omega) (fun h1 => ⟨_, Idx.nat hks, IfB.dec (fun h2 => no fun h => by unfold dg at h; omega) (fun h2 => ?_)⟩)⟩
    rw [wrap64' (by omega) (by omega)]
    refine hX _ ⟨k + 1, by omega, by omega, ?_⟩ (by omega)
    rw [htk, allDg_app]
    exact ⟨hd, by intro b hb; simp at hb; subst hb; unfold dg; omega⟩
  · have : k = s.length := by omega
    subst this
    rw [List.take_length] at hd
    refine IfB.dec (fun h1 => IfB.dec (fun h2 => decide_eq_true ⟨fun e => by subst e; simp at h1, hd, by omega⟩) (fun h2 => decide_eq_false fun h' => h2 (by have := h'.2.2; omega))) (fun h1 => decide_eq_false fun h' => h1 (by have := List.length_pos_iff.2 h'.1; omega))
def okQ (x : Q3) : Prop := WS x.2.1 ∧ WS x.2.2 ∧ x.2.1.length ≤ 10000 ∧ x.2.2.length ≤ 10000
theorem numOf_ok (w : By) : okQ (numOf w) := by
  have hp : ∀ (v : Nat), True := fun _ => trivial
  unfold okQ numOf ratR
  dsimp only
  have h1 := parseR_len (if (Lib.cut w [47]).2.2 then (Lib.cut w [47]).2.1 else [49])
  have h2 := wholeR_len (Lib.cut w [47]).1
  have h3 := parseR_WS (if (Lib.cut w [47]).2.2 then (Lib.cut w [47]).2.1 else [49])
  have h4 := wholeR_WS (Lib.cut w [47]).1
  generalize parseR (if (Lib.cut w [47]).2.2 then (Lib.cut w [47]).2.1 else [49]) = P at *
  generalize wholeR (Lib.cut w [47]).1 = A at *
  split
  · exact ⟨WS_nil, WS_nil, by simp, by simp⟩
  · split
    · exact ⟨WS_nil, WS_nil, by simp, by simp⟩
    · split
      · exact ⟨WS_nil, WS_nil, by simp, by simp⟩
      · refine ⟨WS_words _, WS_words _, ?_, ?_⟩
        · exact Nat.le_trans (words_len_le (Nat.div_le_self _ _)) (Nat.le_trans (wl h4) (by omega))
        · exact Nat.le_trans (words_len_le (Nat.div_le_self _ _)) (Nat.le_trans (wl h3) (by omega))
theorem same1_refl (x : Q3) (h : okQ x) : vec_Same_1 x.1 x.2.1 x.2.2 x.1 x.2.1 x.2.2 true := by
  obtain ⟨h1, h2, h3, h4⟩ := h
  refine ⟨_, rat_Compare_says x.1 x.2.1 x.2.2 x.1 x.2.1 x.2.2 h1 h2 h1 h2 (by omega) (by omega) (by omega) (by omega), ?_⟩
  unfold cmpZ
  rw [if_neg (by omega), if_neg (by omega)]
  exact IfB_true.2 rfl
theorem vec_Same_refl (l : List Q3) (hl : l.length ≤ 1000000) (h : ∀ x, x ∈ l → okQ x) : vec_Same l l true := by
  unfold vec_Same
  refine IfB.neI (fun h => absurd rfl h) (fun _ => ?_)
  refine LoopP.intro (fun z : Int => ∃ k : Nat, z = k ∧ k ≤ l.length) (fun z => l.length - z.toNat) ⟨0, rfl, by omega⟩ ?_
  rintro X z ⟨k, rfl, hk⟩ hX
  unfold vec_Same_L1
  refine IfB.dec (fun h1 => ?_) (fun h1 => rfl)
  have hkl : k < l.length := by omega
  refine ⟨_, _, _, Idx.nat hkl, _, _, _, Idx.nat hkl, true, same1_refl l[k] (h _ (List.getElem_mem hkl)), IfB_true.2 ?_⟩
  rw [wrap64' (by omega) (by omega)]
  exact hX _ ⟨k + 1, by omega, by omega⟩ (by omega)
end Go.Abs
end

section
namespace Go.Abs
open Go
set_option linter.unusedVariables false
set_option linter.unusedSimpArgs false
set_option linter.unnecessarySimpa false
theorem dV_zero : ∀ {s : By}, allDg s → (dV 0 s = 0 ↔ ∀ b, b ∈ s → b = 48)
  | [], _ => by simp [dV_nil]
  | b :: l, h => by
    have hb := h b (by simp)
    have ih := dV_zero (s := l) fun c hc => h c (by simp [hc])
    unfold dg at hb
    rw [dV_cons, dV_acc]
    have hp : 0 < 10 ^ l.length := Nat.pow_pos (by omega)
    have hb48 : b = 48 ↔ b.toNat = 48 := ⟨fun e => by subst e; rfl, fun e => UInt8.toNat_inj.1 e⟩
    constructor
    · intro h0
      have h1 : (0 * 10 + (b.toNat - 48)) * 10 ^ l.length = 0 := by omega
      have h2 : dV 0 l = 0 := by omega
      rcases Nat.mul_eq_zero.1 h1 with h3 | h3
      · intro c hc
        rcases List.mem_cons.1 hc with rfl | hc
        · exact hb48.2 (by omega)
        · exact ih.1 h2 c hc
      · omega
    · intro h0
      have h1 : b.toNat = 48 := hb48.1 (h0 b (by simp))
      have h2 := ih.2 fun c hc => h0 c (by simp [hc])
      rw [h1, h2]; simp
def allZ (s : By) : Prop := ∀ c, c ∈ s → c = 48
instance (s : By) : Decidable (allZ s) := inferInstanceAs (Decidable (∀ c, c ∈ s → c = 48))
def numU (t : By) : Bool :=
  if (Lib.cut t [47]).2.2 then decide (dgOK (Lib.cut t [47]).1) && decide (dgOK (Lib.cut t [47]).2.1) && !decide (allZ (Lib.cut t [47]).2.1) else decide (dgOK t)
theorem cut_app {a b : By} {c : UInt8} (h : ∀ x, x ∈ a → x ≠ c) : Lib.cut (a ++ c :: b) [c] = (a, b, true) := by
  have hi : Lib.index (a ++ c :: b) [c] = (a.length : Int) := by
    rw [Lib.index_one]
    induction a with
    | nil => simp [Lib.indexByte]
    | cons x l ih =>
      have hx := h x (by simp)
      have := ih fun y hy => h y (by simp [hy])
      simp [Lib.indexByte, hx, this]
  unfold Lib.cut
  rw [hi]
  simp
theorem cut_no {a : By} {c : UInt8} (h : ∀ x, x ∈ a → x ≠ c) : Lib.cut a [c] = (a, [], false) := by
  have hi : Lib.index a [c] = -1 := by
    rw [Lib.index_one]
    induction a with
    | nil => rfl
    | cons x l ih =>
      have hx := h x (by simp)
      have := ih fun y hy => h y (by simp [hy])
      simp [Lib.indexByte, hx, this]
  unfold Lib.cut
  rw [hi]
  simp
theorem sub_drop {p : By} {k : Nat} (h : k < p.length) (hl : p.length ≤ 1000000) : sub p (IntKind.i64.wrap ((k : Int) + 1)) (p.length : Int) = p.drop (k + 1) := by
  rw [wrap64' (by omega) (by omega)]
  unfold sub
  rw [show ((k : Int) + 1).toNat = k + 1 from by omega, Int.toNat_natCast, List.take_of_length_le (by simp)]
theorem sub_take {p : By} {k : Nat} : sub p 0 (k : Int) = p.take k := by unfold sub; simp
theorem numIn {p : By} {k : Nat} (hk : k < p.length) (hl : p.length ≤ 1000000) (h47 : p[k] = 47) (hno : ∀ x, x ∈ p.take k → x ≠ 47) : LoopP (offcutref08_Number_L4 p (k : Int) (numU p)) (true, (0 : Int)) := by
  have hsp : p = p.take k ++ 47 :: p.drop (k + 1) := by
    have := (List.take_append_drop k p).symm
    rw [List.drop_eq_getElem_cons hk, h47] at this
    exact this
  have hc : Lib.cut p [47] = (p.take k, p.drop (k + 1), true) := by
    have := cut_app (a := p.take k) (b := p.drop (k + 1)) hno
    rwa [← hsp] at this
  have hu : numU p = (decide (dgOK (p.take k)) && decide (dgOK (p.drop (k + 1))) && !decide (allZ (p.drop (k + 1)))) := by
    unfold numU; rw [hc]; rfl
  have da := digits_says (p.take k) (by simp; omega)
  have db := digits_says (p.drop (k + 1)) (by simp; omega)
  rw [hu]
  have hsk : SubOk p 0 (k : Int) := ⟨by omega, by omega, by omega⟩
  generalize hd : p.drop (k + 1) = d at *
  have hdl : d.length ≤ 1000000 := by rw [← hd]; simp; omega
  refine LoopP.intro (fun z : Bool × Int => ∃ j : Nat, z.2 = j ∧ j ≤ d.length ∧ z.1 = decide (allZ (d.take j))) (fun z => d.length - z.2.toNat) ⟨0, rfl, by omega, by simp [allZ]⟩ ?_
  rintro X ⟨z1, z2⟩ ⟨j, h2, hj, h1⟩ hX
  simp only at h1 h2
  subst h1 h2
  unfold offcutref08_Number_L4
  dsimp only
  rw [sub_drop hk hl, hd, sub_take]
  have step : (hlt : j < d.length) → ∀ c : UInt8, d[j] = c → X (decide (allZ (d.take (j + 1))), (IntKind.i64.wrap ((j : Int) + 1))) := fun hlt c hc => by
    rw [wrap64' (by omega) (by omega)]
    exact hX _ ⟨j + 1, by dsimp only; omega, by omega, rfl⟩ (by dsimp only; omega)
  have htk : (hlt : j < d.length) → d.take (j + 1) = d.take j ++ [d[j]] := fun hlt => by rw [List.take_add_one, List.getElem?_eq_getElem hlt]; rfl
  by_cases hz : allZ (d.take j)
  · rw [decide_eq_true hz]
    refine IfB_true.2 (IfB.dec (fun h => ?_) (fun h => ?_))
    · have hlt : j < d.length := by omega
      refine ⟨_, Idx.nat hlt, IfB.neI (fun h3 => ?_) (fun h3 => ?_)⟩
      · have hx := step hlt _ rfl
        rw [decide_eq_false (p := allZ (d.take (j + 1))) (fun h' => h3 (by
          have := h' d[j] (by rw [htk hlt]; exact List.mem_append_right _ (List.mem_singleton.2 rfl))
          rw [this]; rfl))] at hx
        exact hx
      · have hx := step hlt _ rfl
        have h48 : d[j] = 48 := UInt8.toNat_inj.1 (by show d[j].toNat = 48; omega)
        rw [decide_eq_true (p := allZ (d.take (j + 1))) (fun b hb => by
          rw [htk hlt] at hb
          rcases List.mem_append.1 hb with hb | hb
          · exact hz b hb
          · simp at hb; rw [hb]; exact h48)] at hx
        exact hx
    · have : j = d.length := by omega
      subst this
      rw [List.take_length] at hz
      rw [decide_eq_true (p := allZ d) hz]
      simp only [Bool.not_true, Bool.and_false]
      refine ⟨hsk, _, da, IfB.intro (fun _ => ⟨_, db, IfB.intro (fun _ => trivial) (fun _ => trivial)⟩) (fun _ => trivial)⟩
  · rw [decide_eq_false hz]
    refine IfB_false.2 (IfB.dec (fun h => ?_) (fun h => ?_))
    · have hlt : j < d.length := by omega
      have hx := step hlt _ rfl
      rw [decide_eq_false (p := allZ (d.take (j + 1))) (fun h' => hz fun b hb => h' b (by rw [htk hlt]; exact List.mem_append_left _ hb))] at hx
      exact ⟨_, Idx.nat hlt, IfB.intro (fun _ => hx) (fun _ => hx)⟩
    · have : j = d.length := by omega
      subst this
      rw [List.take_length] at hz
      rw [decide_eq_false (p := allZ d) hz]
      simp only [Bool.not_false, Bool.and_true]
      refine ⟨hsk, _, da, IfB.intro (fun h1 => ⟨_, db, IfB.intro (fun h2 => by rw [h1, h2]; rfl) (fun h2 => by rw [h1, h2]; rfl)⟩) (fun h1 => by rw [h1]; rfl)⟩
theorem numLoop (p : By) (hl : p.length ≤ 1000000) : LoopP (offcutref08_Number_L3 p (numU p)) (0 : Int) := by
  refine LoopP.intro (fun z : Int => ∃ k : Nat, z = k ∧ k ≤ p.length ∧ ∀ x, x ∈ p.take k → x ≠ 47) (fun z => p.length - z.toNat) ⟨0, rfl, by omega, by simp⟩ ?_
  rintro X z ⟨k, rfl, hk, hno⟩ hX
  unfold offcutref08_Number_L3
  refine IfB.dec (fun h => ?_) (fun h => ?_)
  · have hkl : k < p.length := by omega
    refine ⟨_, Idx.nat hkl, IfB.eqI (fun h2 => ?_) (fun h2 => ?_)⟩
    · have h47 : p[k] = 47 := UInt8.toNat_inj.1 (by show p[k].toNat = 47; omega)
      refine ⟨?_, numIn hkl hl h47 hno⟩
      rw [wrap64' (by omega) (by omega)]
      exact ⟨by omega, by omega, by omega⟩
    · rw [wrap64' (by omega) (by omega)]
      refine hX _ ⟨k + 1, by omega, by omega, fun x hx => ?_⟩ (by omega)
      rw [List.take_add_one, List.getElem?_eq_getElem hkl] at hx
      rcases List.mem_append.1 hx with hx | hx
      · exact hno x hx
      · simp at hx; subst hx; exact fun e => h2 (by rw [e]; rfl)
  · have : k = p.length := by omega
    subst this
    rw [List.take_length] at hno
    have hu : numU p = decide (dgOK p) := by unfold numU; rw [cut_no hno]; rfl
    have hd := digits_says p hl
    rw [hu]
    exact ⟨_, hd, IfB.intro (fun h => h) (fun h => h)⟩
theorem trimP_cons (b : UInt8) (l : By) : Lib.trimPrefix (b :: l) [45] = if b = 45 then l else b :: l := by
  unfold Lib.trimPrefix Lib.hasPrefix
  by_cases h : b = 45
  · subst h; simp [List.isPrefixOf]
  · have : ¬ (45 = b) := fun e => h e.symm
    simp [List.isPrefixOf, h, this]
theorem Number_says (w : By) (hl : w.length ≤ 1000000) : offcutref08_Number w true (numU (Lib.trimPrefix w [45])) := by
  unfold offcutref08_Number
  refine IfB_true.2 (IfB.dec (fun h => ?_) (fun h => ?_))
  · cases w with
    | nil => simp at h
    | cons b l =>
      rw [trimP_cons]
      refine ⟨b, ⟨by omega, rfl⟩, IfB.eqI (fun h2 => ?_) (fun h2 => ?_)⟩
      · have hb : b = 45 := UInt8.toNat_inj.1 (by show b.toNat = 45; omega)
        rw [if_pos hb]
        refine ⟨⟨by omega, by simp; omega, by omega⟩, ?_⟩
        have es : sub (b :: l) (1 : Int) ((b :: l).length : Int) = l := by unfold sub; simp
        have := numLoop l (by simp at hl; omega)
        have e : offcutref08_Number_L1 (b :: l) (numU l) = offcutref08_Number_L3 (sub (b :: l) (1 : Int) ((b :: l).length : Int)) (numU l) := rfl
        rw [e, es]
        exact this
      · rw [if_neg (fun e => h2 (by rw [e]; rfl))]
        exact numLoop (b :: l) hl
  · cases w with
    | cons b l => exact absurd (by simp) h
    | nil =>
      have := numLoop [] (by simp)
      exact this
theorem dw_nil2 : ∀ (w : By), w.dropWhile (fun y : UInt8 => !(y == 47)) = [] ↔ ∀ x, x ∈ w → (!(x == 47)) = true
  | [] => by simp
  | b :: l => by
    rw [List.dropWhile_cons]
    by_cases h : (!(b == 47)) = true
    · rw [if_pos h, dw_nil2 l]
      constructor
      · intro h' x hx
        rcases List.mem_cons.1 hx with rfl | hx
        · exact h
        · exact h' x hx
      · exact fun h' x hx => h' x (by simp [hx])
    · rw [if_neg h]
      exact ⟨fun e => by simp at e, fun h' => absurd (h' b (by simp)) h⟩
theorem dw_head : ∀ (w : By), w.dropWhile (fun y : UInt8 => !(y == 47)) ≠ [] → ∀ y l, w.dropWhile (fun y : UInt8 => !(y == 47)) = y :: l → y = 47
  | [], h => by simp at h
  | b :: l, h => by
    rw [List.dropWhile_cons] at h ⊢
    by_cases hb : (!(b == 47)) = true
    · rw [if_pos hb] at h ⊢; exact dw_head l h
    · rw [if_neg hb]
      intro y l' e
      cases e
      simpa using hb
theorem tw_mem : ∀ (w : By) (x : UInt8), x ∈ w.takeWhile (fun y : UInt8 => !(y == 47)) → (!(x == 47)) = true
  | [], x, h => by simp at h
  | b :: l, x, h => by
    rw [List.takeWhile_cons] at h
    split at h
    · rename_i hb
      rcases List.mem_cons.1 h with rfl | h
      · exact hb
      · exact tw_mem l x h
    · simp at h
theorem numU_isN (w : By) : numU (Lib.trimPrefix w [45]) = decide (isN w) := by
  have fin : (numU (Lib.trimPrefix w [45]) = true ↔ isN w) → numU (Lib.trimPrefix w [45]) = decide (isN w) := fun h => by
    by_cases hh : isN w
    · rw [decide_eq_true hh]; exact h.2 hh
    · rw [decide_eq_false hh]; exact Bool.eq_false_iff.2 fun e => hh (h.1 e)
  apply fin
  clear fin
  have hone : parseR [49] = (words 1, 0) := by
    unfold parseR
    rw [if_neg (by decide), if_neg (by decide)]
    rfl
  have wz : ∀ a : By, (wholeR a).2.2 = 0 ↔ dgOK (Lib.trimPrefix a [45]) := fun a => by
    rw [dgOK_parse]
    unfold wholeR
    split
    · rename_i h; exact ⟨fun h' => absurd h' h, fun h' => absurd h' h⟩
    · rename_i h; exact ⟨fun _ => by omega, fun _ => rfl⟩
  have pz : ∀ b : By, dgOK b → (val (parseR b).1 = 0 ↔ allZ b) := fun b hb => by
    unfold parseR
    rw [if_neg (fun h => h.elim hb.1 fun h => h hb.2.1), if_neg (by have := hb.2.2; omega), val_words]
    exact dV_zero hb.2.1
  by_cases hs : ∃ a b, w = a ++ 47 :: b ∧ ∀ x, x ∈ a → x ≠ 47
  · obtain ⟨a, b, rfl, ha⟩ := hs
    have hc := cut_app (b := b) ha
    have ht : Lib.trimPrefix (a ++ 47 :: b) [45] = Lib.trimPrefix a [45] ++ 47 :: b ∧ ∀ x, x ∈ Lib.trimPrefix a [45] → x ≠ 47 := by
      cases a with
      | nil => refine ⟨?_, by simp [Lib.trimPrefix, Lib.hasPrefix]⟩
               rw [List.nil_append, trimP_cons, if_neg (by decide)]; rfl
      | cons y l =>
        rw [List.cons_append, trimP_cons, trimP_cons]
        split
        · exact ⟨rfl, fun x hx => ha x (by simp [hx])⟩
        · exact ⟨rfl, ha⟩
    have hc2 := cut_app (b := b) ht.2
    rw [ht.1]
    unfold numU isN ratR
    rw [hc2, hc]
    dsimp only
    simp only [if_true]
    have w1 := wz a
    by_cases h1 : dgOK (Lib.trimPrefix a [45])
    · rw [if_neg (by rw [w1.2 h1]; simp)]
      by_cases h2 : dgOK b
      · have e2 := (dgOK_parse b).1 h2
        rw [if_neg (by rw [e2]; simp)]
        by_cases h3 : allZ b
        · rw [if_pos ((pz b h2).2 h3)]; simp [h1, h2, h3]
        · rw [if_neg (fun h => h3 ((pz b h2).1 h))]; simp [h1, h2, h3]
      · have e2 : (parseR b).2 ≠ 0 := fun h => h2 ((dgOK_parse b).2 h)
        rw [if_pos e2]; simp [h2, e2]
    · have e1 : (wholeR a).2.2 ≠ 0 := fun h => h1 (w1.1 h)
      rw [if_pos e1]; simp [h1, e1]
  · have hno : ∀ x, x ∈ w → x ≠ 47 := by
      intro x hx e
      subst e
      refine hs ⟨w.takeWhile (fun y => !(y == 47)), (w.dropWhile (fun y => !(y == 47))).tail, ?_, fun x hx => ?_⟩
      · have h1 := (List.takeWhile_append_dropWhile (p := fun y : UInt8 => !(y == 47)) (l := w)).symm
        have h2 : w.dropWhile (fun y : UInt8 => !(y == 47)) ≠ [] := fun e => by
          have := (dw_nil2 w).1 e 47 hx
          simp at this
        have h3 := dw_head w h2
        cases hd : w.dropWhile (fun y : UInt8 => !(y == 47)) with
        | nil => exact absurd hd h2
        | cons y l =>
          rw [hd] at h1
          have : y = 47 := h3 y l hd
          subst this
          exact h1
      · have := tw_mem w x hx
        intro e; subst e; simp at this
    have hno2 : ∀ x, x ∈ Lib.trimPrefix w [45] → x ≠ 47 := fun x hx => hno x (by
      unfold Lib.trimPrefix at hx
      split at hx
      · exact List.mem_of_mem_drop hx
      · exact hx)
    unfold numU isN ratR
    rw [cut_no hno2, cut_no hno]
    dsimp only
    simp only [Bool.false_eq_true, if_false]
    rw [hone]
    have w1 := wz w
    have v1 : ¬ val (words 1, (0 : Int)).1 = 0 := by rw [val_words]; omega
    by_cases h1 : dgOK (Lib.trimPrefix w [45])
    · rw [if_neg (by rw [w1.2 h1]; simp)]
      rw [if_neg (show ¬ (words 1, (0 : Int)).2 ≠ 0 by simp), if_neg v1]; simp [h1]
    · have e1 : (wholeR w).2.2 ≠ 0 := fun h => h1 (w1.1 h)
      rw [if_pos e1]; simp [h1, e1]
end Go.Abs
end

section
namespace Go.Abs
open Go
set_option linter.unusedVariables false
set_option linter.unusedSimpArgs false
set_option linter.unnecessarySimpa false
def okP (kw : By) (ws : List By) : Prop := ws.head? = some kw ∧ ws.length ≤ 181 ∧ ∀ w, w ∈ ws.tail → isN w
instance (kw : By) (ws : List By) : Decidable (okP kw ws) := inferInstanceAs (Decidable (_ ∧ _ ∧ _))
theorem sub_tail {α : Type} (a : α) (l : List α) : sub (a :: l) (1 : Int) ((a :: l).length : Int) = l := by unfold sub; simp
theorem subok_tail {α : Type} (a : α) (l : List α) : SubOk (a :: l) (1 : Int) ((a :: l).length : Int) := ⟨by omega, by simp; omega, by omega⟩
theorem idx0 {α : Type} (a : α) (l : List α) : Idx (a :: l) (0 : Int) a := ⟨by omega, rfl⟩
end Go.Abs
end

section
namespace Go.Abs
open Go
set_option linter.unusedVariables false
set_option linter.unusedSimpArgs false
set_option linter.unnecessarySimpa false
end Go.Abs
end

section
namespace Go.Abs
open Go
set_option linter.unusedVariables false
set_option linter.unusedSimpArgs false
set_option linter.unnecessarySimpa false
end Go.Abs
end

section
namespace Go.Abs
open Go
set_option linter.unusedVariables false
set_option linter.unusedSimpArgs false
set_option linter.unnecessarySimpa false
def dch (n : Nat) : UInt8 := UInt8.ofNat (48 + n)
theorem dch_nat {n : Nat} (h : n ≤ 9) : (dch n).toNat = 48 + n := by
  unfold dch; rw [UInt8.toNat_ofNat_of_lt' (by show 48 + n < 256; omega)]
theorem dch_dg {n : Nat} (h : n ≤ 9) : dg (dch n) := by unfold dg; rw [dch_nat h]; omega
def decT (n : Nat) : By := if h : n < 10 then [dch n] else decT (n / 10) ++ [dch (n % 10)]
termination_by n
decreasing_by omega
theorem decT_lt {n : Nat} (h : n < 10) : decT n = [dch n] := by rw [decT]; simp [h]
theorem decT_ge {n : Nat} (h : 10 ≤ n) : decT n = decT (n / 10) ++ [dch (n % 10)] := by rw [decT]; simp [show ¬ n < 10 by omega]
theorem allDg_one {b : UInt8} (h : dg b) : allDg [b] := by intro c hc; simp at hc; subst hc; exact h
theorem allDg_cons {b : UInt8} {l : By} : allDg (b :: l) ↔ dg b ∧ allDg l := by simp [allDg]
theorem decT_facts (n : Nat) : decT n ≠ [] ∧ allDg (decT n) ∧ dV 0 (decT n) = n ∧ (0 < n → (decT n).head? ≠ some 48) := by
  induction n using Nat.strongRecOn with
  | _ n ih =>
    by_cases h : n < 10
    · rw [decT_lt h]
      refine ⟨by simp, allDg_one (dch_dg (by omega)), by rw [dV_one, dch_nat (by omega)]; omega, fun h0 => ?_⟩
      simp only [List.head?_cons, ne_eq, Option.some.injEq]
      intro e
      have := congrArg UInt8.toNat e
      rw [dch_nat (by omega)] at this
      have h48 : (48 : UInt8).toNat = 48 := rfl
      omega
    · have hi := ih (n / 10) (by omega)
      rw [decT_ge (by omega)]
      refine ⟨by simp, allDg_app.2 ⟨hi.2.1, allDg_one (dch_dg (by omega))⟩, ?_, fun _ => ?_⟩
      · rw [dV_app0, dV_one, hi.2.2.1, dch_nat (by omega)]; simp; omega
      · rw [List.head?_append]
        have := hi.2.2.2 (by omega)
        cases hh : (decT (n / 10)).head? with
        | none => exact absurd (List.head?_eq_none_iff.1 hh) hi.1
        | some c => rw [hh] at this; simpa using this
theorem decT_ne (n : Nat) : decT n ≠ [] := (decT_facts n).1
theorem decT_dg (n : Nat) : allDg (decT n) := (decT_facts n).2.1
theorem dV_decT (n : Nat) : dV 0 (decT n) = n := (decT_facts n).2.2.1
end Go.Abs
end

section
namespace Go.Abs
open Go
set_option linter.unusedVariables false
set_option linter.unusedSimpArgs false
set_option linter.unnecessarySimpa false
end Go.Abs
end

section
namespace Go.Abs
open Go
set_option linter.unusedVariables false
set_option linter.unusedSimpArgs false
set_option linter.unnecessarySimpa false
def wtxt (z : Int) : By := if z < 0 then 45 :: decT z.natAbs else decT z.natAbs
def rtxt (z : Int) (d : Nat) : By := if d = 1 then wtxt z else (wtxt z ++ [47]) ++ decT d
theorem den1_self {d : Nat} (h : 0 < d) : den1 d = d := by unfold den1; rw [if_neg (by omega)]
def okX (x : Bool × List Int × List Int) (k : Nat) : Prop := WS x.2.1 ∧ WS x.2.2 ∧ x.2.1.length ≤ k ∧ x.2.2.length ≤ k
theorem hasP_digit {s : By} (h : allDg s) : Lib.hasPrefix s [45] = false := by
  unfold Lib.hasPrefix
  cases s with
  | nil => rfl
  | cons b l =>
    have hb := (allDg_cons.1 h).1
    unfold dg at hb
    simp only [List.isPrefixOf, Bool.and_true, beq_eq_false_iff_ne, ne_eq]
    intro e
    have : b.toNat = 45 := by rw [← e]; rfl
    omega
theorem parseR_decT {n : Nat} (h : (decT n).length ≤ 400) : parseR (decT n) = (words n, 0) := by
  unfold parseR
  rw [if_neg (by simp [decT_ne, decT_dg]), if_neg (by omega), dV_decT]
theorem wholeR_wtxt {p : Bool} {n : Nat} (h : (decT n).length ≤ 400) (hp : p = true → n ≠ 0) : wholeR (wtxt (iV p n)) = (p, words n, 0) := by
  unfold wtxt
  rw [iV_abs]
  cases p with
  | false =>
    rw [if_neg (by unfold iV; simp)]
    have e := hasP_digit (decT_dg n)
    have e2 : Lib.trimPrefix (decT n) [45] = decT n := by unfold Lib.trimPrefix; rw [e]; rfl
    unfold wholeR
    rw [e2, parseR_decT h, e]
    simp
  | true =>
    have h0 := hp rfl
    rw [if_pos (by unfold iV; simp; omega)]
    have e : Lib.hasPrefix (45 :: decT n) [45] = true := by simp [Lib.hasPrefix, List.isPrefixOf]
    have e2 : Lib.trimPrefix (45 :: decT n) [45] = decT n := by unfold Lib.trimPrefix; rw [e]; rfl
    unfold wholeR
    rw [e2, parseR_decT h, e]
    simp [val_words, h0]
theorem dg_ne {b : UInt8} (h : dg b) (c : UInt8) (hc : c.toNat < 48) : b ≠ c := by
  rintro rfl; unfold dg at h; omega
theorem wtxt_no47 (z : Int) : ∀ b, b ∈ wtxt z → b ≠ 47 := by
  intro b hb
  unfold wtxt at hb
  split at hb
  · rcases List.mem_cons.1 hb with rfl | hb
    · decide
    · exact dg_ne (decT_dg _ b hb) 47 (by decide)
  · exact dg_ne (decT_dg _ b hb) 47 (by decide)
theorem indexNo {s : By} {c : UInt8} (h : ∀ b, b ∈ s → b ≠ c) : Lib.index s [c] = -1 := by
  induction s with
  | nil => simp [Lib.index]
  | cons b l ih =>
    have hi := index1_cons b c l
    rw [if_neg (h b (by simp)), ih fun x hx => h x (by simp [hx])] at hi
    simpa using hi
theorem indexAt {a b : By} {c : UInt8} (h : ∀ x, x ∈ a → x ≠ c) : Lib.index (a ++ c :: b) [c] = a.length := by
  induction a with
  | nil =>
    have hi := index1_cons c c b
    rw [if_pos rfl] at hi
    simpa using hi
  | cons x l ih =>
    have hi := index1_cons x c (l ++ c :: b)
    rw [if_neg (h x (by simp)), ih fun y hy => h y (by simp [hy])] at hi
    have e : ((l.length : Int) == -1) = false := by rw [beq_eq_false_iff_ne]; omega
    rw [e] at hi
    simp only [Bool.false_eq_true, if_false] at hi
    rw [List.cons_append, hi]; simp
theorem cutNo {s : By} {c : UInt8} (h : ∀ b, b ∈ s → b ≠ c) : Lib.cut s [c] = (s, [], false) := by
  unfold Lib.cut
  rw [indexNo h, if_neg (by omega)]
theorem cutAt {a b : By} {c : UInt8} (h : ∀ x, x ∈ a → x ≠ c) : Lib.cut (a ++ c :: b) [c] = (a, b, true) := by
  unfold Lib.cut
  rw [indexAt h, if_pos (by omega)]
  simp
theorem ratR_txt {p : Bool} {n d : Nat} (hn : (decT n).length ≤ 400) (hd : (decT d).length ≤ 400) (hp : p = true → n ≠ 0) (hc : Nat.gcd n d = 1) (hd0 : 0 < d) : ratR (rtxt (iV p n) d) = (p, words n, words d, 0) := by
  have fin : ∀ e, val (words e) = e := val_words
  have hC : ratC p n d = (p, words n, words d) := by
    unfold ratC
    rw [hc, Nat.div_one, Nat.div_one]
    cases p with
    | false => rfl
    | true => have := hp rfl; simp [this]
  unfold rtxt ratR
  by_cases h1 : d = 1
  · subst h1
    rw [if_pos rfl, cutNo (wtxt_no47 _)]
    simp only [Bool.false_eq_true, if_false]
    rw [wholeR_wtxt hn hp, show ([49] : By) = decT 1 from by rw [decT_lt (by omega)]; rfl, parseR_decT hd]
    dsimp only
    rw [if_neg (by simp), if_neg (by simp), if_neg (by rw [val_words]; omega), val_words, val_words, hC]
  · rw [if_neg h1, List.append_assoc, List.singleton_append, cutAt (wtxt_no47 _)]
    simp only [if_true]
    rw [wholeR_wtxt hn hp, parseR_decT hd]
    dsimp only
    rw [if_neg (by simp), if_neg (by simp), if_neg (by rw [val_words]; omega), val_words, val_words, hC]
end Go.Abs
end

section
namespace Go.Abs
open Go
set_option linter.unusedVariables false
set_option linter.unusedSimpArgs false
set_option linter.unnecessarySimpa false
end Go.Abs
end

section
namespace Go.Abs
open Go
set_option linter.unusedVariables false
set_option linter.unusedSimpArgs false
set_option linter.unnecessarySimpa false
def FewP (l : List Q3) : Prop := l.length ≤ 8 ∧ ∀ x, x ∈ l → x.2.1.length ≤ 3 ∧ x.2.2.length ≤ 3
instance (l : List Q3) : Decidable (FewP l) := inferInstanceAs (Decidable (_ ∧ _))
def mayP (v : Int) (x y z : List Q3) : Prop := (v = 1 ∧ z = []) ∨ (v = 2 ∧ x = [] ∧ z = []) ∨ (v = 3 ∧ y = [])
instance (v : Int) (x y z : List Q3) : Decidable (mayP v x y z) := inferInstanceAs (Decidable (_ ∨ _))
end Go.Abs
end

section
namespace Go.Abs
open Go
set_option linter.unusedVariables false
set_option linter.unusedSimpArgs false
set_option linter.unnecessarySimpa false
abbrev Fr := Bool × List Int × List Int
def qv (x : Fr) : Rat := Rat.divInt (iV x.1 (val x.2.1)) (den1 (val x.2.2))
theorem divInt_le {a c b d : Int} (hb : 0 < b) (hd : 0 < d) : Rat.divInt a b ≤ Rat.divInt c d ↔ a * d ≤ c * b := by
  rw [Rat.le_iff_sub_nonneg, Rat.sub_eq_add_neg, Rat.neg_divInt, Rat.divInt_add_divInt _ _ (by omega) (by omega), Rat.divInt_nonneg_iff_of_pos_right (Int.mul_pos hd hb), Int.neg_mul]
  omega
theorem divInt_eq {a c b d : Int} (hb : 0 < b) (hd : 0 < d) : Rat.divInt a b = Rat.divInt c d ↔ a * d = c * b := Rat.divInt_eq_divInt_iff (by omega) (by omega)
theorem divInt_lt {a c b d : Int} (hb : 0 < b) (hd : 0 < d) : Rat.divInt a b < Rat.divInt c d ↔ a * d < c * b := by
  rw [← Rat.not_le, divInt_le hd hb]; omega
theorem d1p (n : Nat) : (0 : Int) < (den1 n : Int) := by have := den1_pos n; omega
theorem qv_ratQ {z : Int} {d : Nat} (hd : 0 < d) : qv (ratQ z d) = Rat.divInt z d := by
  unfold qv ratQ
  dsimp only
  have hg : 0 < Nat.gcd z.natAbs d := Nat.gcd_pos_of_pos_right _ hd
  have h1 : z.natAbs / Nat.gcd z.natAbs d * Nat.gcd z.natAbs d = z.natAbs := Nat.div_mul_cancel (Nat.gcd_dvd_left _ _)
  have h2 : d / Nat.gcd z.natAbs d * Nat.gcd z.natAbs d = d := Nat.div_mul_cancel (Nat.gcd_dvd_right _ _)
  have h3 : 0 < d / Nat.gcd z.natAbs d := Nat.div_pos (Nat.gcd_le_right _ hd) hg
  rw [val_words, val_words, den1_self h3, divInt_eq (by omega) (by omega)]
  generalize Nat.gcd z.natAbs d = g at *
  generalize z.natAbs / g = n' at *
  generalize d / g = d' at *
  subst h2
  unfold iV
  by_cases hz : z < 0
  · simp only [hz, decide_true, if_true]
    have e : z = -((n' * g : Nat) : Int) := by omega
    rw [e]; push_cast
    rw [Int.neg_mul, Int.neg_mul]
    congr 1
    rw [Int.mul_assoc, Int.mul_comm (g : Int)]
  · simp only [hz, decide_false, Bool.false_eq_true, if_false]
    have e : z = ((n' * g : Nat) : Int) := by omega
    rw [e]; push_cast
    rw [Int.mul_assoc, Int.mul_comm (g : Int)]
theorem ratQ_ok {z : Int} {d k : Nat} (hz : (words z.natAbs).length ≤ k) (hd : (words d).length ≤ k) : okX (ratQ z d) k :=
  ⟨WS_words _, WS_words _, Nat.le_trans (words_len_le (Nat.div_le_self _ _)) hz, Nat.le_trans (words_len_le (Nat.div_le_self _ _)) hd⟩
theorem okX.mono {x : Fr} {a b : Nat} (h : okX x a) (hab : a ≤ b) : okX x b := ⟨h.1, h.2.1, Nat.le_trans h.2.2.1 hab, Nat.le_trans h.2.2.2 hab⟩
theorem den_len {l : List Int} {k : Nat} (hw : WS l) (hl : l.length ≤ k) : (words (den1 (val l))).length ≤ k + 1 := by
  have := wl hw
  unfold den1
  split
  · rw [words_one (by omega) (by omega)]; simp
  · omega
theorem mulw (a b : Nat) : (words (a * b)).length ≤ (words a).length + (words b).length := by
  have := words_mul_len (WS_words a) (WS_words b)
  rwa [val_words, val_words] at this
def mulF (x y : Fr) : Fr := ratQ (iV x.1 (val x.2.1) * iV y.1 (val y.2.1)) (den1 (val x.2.2) * den1 (val y.2.2))
theorem mulR {x y : Fr} {a b : Nat} (hx : okX x a) (hy : okX y b) (ha : a ≤ 10000) (hb : b ≤ 10000) : rat_Mul x.1 x.2.1 x.2.2 y.1 y.2.1 y.2.2 (mulF x y) ∧ qv (mulF x y) = qv x * qv y ∧ okX (mulF x y) (a + b + 2) := by
  unfold mulF
  refine ⟨rat_Mul_says x.1 x.2.1 x.2.2 y.1 y.2.1 y.2.2 hx.1 hx.2.1 hy.1 hy.2.1 (by have := hx.2.2.1; omega) (by have := hx.2.2.2; omega) (by have := hy.2.2.1; omega) (by have := hy.2.2.2; omega), ?_, ratQ_ok ?_ ?_⟩
  · rw [qv_ratQ (Nat.mul_pos (den1_pos _) (den1_pos _))]
    unfold qv
    rw [Rat.divInt_mul_divInt]; push_cast; rfl
  · rw [Int.natAbs_mul, iV_abs, iV_abs]
    have h1 := mulw (val x.2.1) (val y.2.1)
    have h2 := wl hx.1; have h3 := wl hy.1
    have h4 := hx.2.2.1; have h5 := hy.2.2.1
    omega
  · have h1 := mulw (den1 (val x.2.2)) (den1 (val y.2.2))
    have h2 := den_len hx.2.1 hx.2.2.2
    have h3 := den_len hy.2.1 hy.2.2.2
    omega
theorem cmpR {x y : Fr} {a b : Nat} (hx : okX x a) (hy : okX y b) (ha : a ≤ 20000) (hb : b ≤ 20000) : ∃ c, rat_Compare x.1 x.2.1 x.2.2 y.1 y.2.1 y.2.2 c ∧ (c = 0 ↔ qv x = qv y) ∧ (c > 0 ↔ qv y < qv x) ∧ (c < 0 ↔ qv x < qv y) := by
  refine ⟨_, rat_Compare_says x.1 x.2.1 x.2.2 y.1 y.2.1 y.2.2 hx.1 hx.2.1 hy.1 hy.2.1 (by have := hx.2.2.1; omega) (by have := hx.2.2.2; omega) (by have := hy.2.2.1; omega) (by have := hy.2.2.2; omega), ?_⟩
  unfold qv
  rw [divInt_eq (d1p _) (d1p _), divInt_lt (d1p _) (d1p _), divInt_lt (d1p _) (d1p _)]
  generalize iV x.1 (val x.2.1) * (den1 (val y.2.2) : Int) = A
  generalize iV y.1 (val y.2.1) * (den1 (val x.2.2) : Int) = B
  unfold cmpZ
  split
  · omega
  · split <;> omega
def zeroF : Fr := (false, [], words 1)
theorem zeroR : rat_Int 0 zeroF ∧ qv zeroF = 0 ∧ okX zeroF 1 := by
  refine ⟨rat_Int0, ?_, WS_nil, WS_words _, by simp [zeroF], by unfold zeroF; rw [words_one (by omega) (by omega)]; simp⟩
  unfold qv iV zeroF
  simp only [val_nil, Bool.false_eq_true, if_false]
  exact Rat.zero_divInt _
end Go.Abs
end
