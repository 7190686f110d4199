/- Part of a proof, in few files: LLin. -/
import Derived.Test.YtdbfgnpobfbfmaaGreatDoorLawProofParsesK33
import Derived.Test.YtdbfgnpobfbfmaaGreatDoorLawProofParsesK18
import Derived.Laws.RangeAny
import Derived.Test.YtdbfgnpobfbfmaaGreatDoorLawProofParsesK48

section
/- Lines, plain: names, bytes that may be, lines and their words; joined words. -/
namespace Go.Abs
open Go
set_option linter.unusedVariables false
set_option linter.unusedSimpArgs false
set_option linter.unnecessarySimpa false

theorem IfB.dec {p : Prop} [Decidable p] {A B : Prop} (h1 : p → A) (h2 : ¬ p → B) : IfB (decide p) A B := ⟨fun h => h1 (of_decide_eq_true h), fun h => h2 (of_decide_eq_false h)⟩
theorem IfB.eqi {a b : Int} {A B : Prop} (h1 : a = b → A) (h2 : a ≠ b → B) : IfB (a == b) A B := ⟨fun h => h1 (by simpa using h), fun h => h2 (by simpa using h)⟩
theorem IfB.nei {a b : Int} {A B : Prop} (h1 : a ≠ b → A) (h2 : a = b → B) : IfB (a != b) A B := ⟨fun h => h1 (by simpa using h), fun h => h2 (by simpa using h)⟩
theorem IfB.bool {b : Bool} {A B : Prop} (h1 : b = true → A) (h2 : b = false → B) : IfB b A B := ⟨h1, h2⟩

/-- What stands at a byte, read as a sign. -/
theorem rune_at {s : List UInt8} {k : Nat} {b : UInt8} (h : s[k]? = some b) : (b.toNat < 128 ∧ runeAt s k = (b.toNat : Int) ∧ runeLen s k = 1) ∨ (128 ≤ b.toNat ∧ 128 ≤ runeAt s k ∧ 1 ≤ runeLen s k) := by
  obtain ⟨hk, hb⟩ := List.getElem?_eq_some_iff.1 h
  have hk' : k < (ByteArray.mk s.toArray).size := by simpa [ByteArray.size] using hk
  have e : (ByteArray.mk s.toArray)[k]'hk' = b := by
    rw [← hb]; rfl
  by_cases ha : b.toNat < 128
  · have := Go.decode_ascii (ByteArray.mk s.toArray) k hk' (by rw [e]; exact ha)
    rw [e] at this
    exact .inl ⟨ha, by simp [runeAt, this], by simp [runeLen, this]⟩
  · have := Go.decode_high (ByteArray.mk s.toArray) k hk' (by rw [e]; omega)
    exact .inr ⟨by omega, by simp only [runeAt]; omega, this.2⟩

/-- The byte b may stand at place i of a name. -/
def nmOk (i : Nat) (b : UInt8) : Prop := (97 ≤ b.toNat ∧ b.toNat ≤ 122) ∨ (i ≠ 0 ∧ (b.toNat = 95 ∨ (48 ≤ b.toNat ∧ b.toNat ≤ 57)))
def NameTo (s : List UInt8) (k : Nat) : Prop := ∀ i b, i < k → s[i]? = some b → nmOk i b
theorem NameTo.next {s : List UInt8} {k : Nat} {b : UInt8} (h : NameTo s k) (hb : s[k]? = some b) (hn : nmOk k b) : NameTo s (k + 1) := fun i c hi hc => by
  by_cases e : i = k
  · subst e; rw [hb] at hc; cases hc; exact hn
  · exact h i c (by omega) hc

def mayB (b : UInt8) : Prop := b.toNat = 10 ∨ (32 ≤ b.toNat ∧ b.toNat ≤ 126)
def RightTo (s : List UInt8) (k : Nat) : Prop := ∀ i b, i < k → s[i]? = some b → mayB b
def RightP (s : List UInt8) : Prop := RightTo s s.length
theorem RightP.mem {s : List UInt8} (h : RightP s) {b : UInt8} (hb : b ∈ s) : mayB b := by
  obtain ⟨i, hi, e⟩ := List.getElem_of_mem hb
  exact h i b hi (by rw [List.getElem?_eq_getElem hi, e])
theorem RightTo.next {s : List UInt8} {k : Nat} {b : UInt8} (h : RightTo s k) (hb : s[k]? = some b) (hn : mayB b) : RightTo s (k + 1) := fun i c hi hc => by
  by_cases e : i = k
  · subst e; rw [hb] at hc; cases hc; exact hn
  · exact h i c (by omega) hc
theorem not_right {s : List UInt8} {k : Nat} {b : UInt8} (hb : s[k]? = some b) (hn : ¬ mayB b) : ¬ RightP s := fun h => hn (h k b (List.getElem?_eq_some_iff.1 hb).1 hb)

theorem lines_may_says {c : Int} {r : Bool} (hr : r = true ↔ (c = 10 ∨ (32 ≤ c ∧ c ≤ 126))) : lines_may c r := by
  have no : ¬ (c = 10 ∨ (32 ≤ c ∧ c ≤ 126)) → r = false := fun h => by cases r with | false => rfl | true => exact absurd (hr.1 rfl) h
  unfold lines_may
  refine IfB.eqi (fun h => hr.2 (.inl h)) (fun h => IfB.dec (fun h1 => IfB.dec (fun h2 => hr.2 (.inr ⟨h1, h2⟩)) (fun h2 => no (by omega))) (fun h1 => no (by omega)))

theorem offcutref07_Right_says {s : List UInt8} {r : Bool} (hs : s.length ≤ 100000) (hr : r = true ↔ RightP s) : offcutref07_Right s r := by
  have no : ¬ RightP s → r = false := fun h => by cases r with | false => rfl | true => exact absurd (hr.1 rfl) h
  unfold offcutref07_Right
  refine LoopP.intro (fun z : Int => ∃ k : Nat, z = k ∧ k ≤ s.length ∧ RightTo s k) (fun z => s.length - z.toNat) ⟨0, rfl, Nat.zero_le _, fun i b h => by omega⟩ ?_
  rintro X _ ⟨k, rfl, hk, hn⟩ hX
  unfold offcutref07_Right_L1
  refine IfB.dec (fun hlt => ?_) (fun hge => ?_)
  · have hlt' : k < s.length := by omega
    obtain ⟨b, hb⟩ : ∃ b, s[k]? = some b := ⟨_, List.getElem?_eq_getElem hlt'⟩
    have hi : Idx s (k : Int) b := ⟨Int.natCast_nonneg _, by simpa using hb⟩
    have go : mayB b → X (IntKind.i64.wrap ((k : Int) + 1)) := fun h => by
      rw [wrap64 (by constructor <;> omega)]
      exact hX _ ⟨k + 1, by simp, hlt', hn.next hb h⟩ (by omega)
    have bad : ¬ mayB b → r = false := fun h => no (not_right hb h)
    unfold mayB at go bad
    repeat' (first | (refine ⟨b, hi, ?_⟩) | (refine IfB.dec (fun _ => ?_) (fun _ => ?_)) | (refine IfB.eqi (fun _ => ?_) (fun _ => ?_)) | (refine IfB.nei (fun _ => ?_) (fun _ => ?_)))
    all_goals first | (refine go ?_; omega) | (refine bad ?_; omega)
  · have e : k = s.length := by omega
    subst e
    exact hr.2 hn

theorem split_mem {c : UInt8} : ∀ {s : List UInt8} {x : List UInt8}, x ∈ splitC c s → (∀ b, b ∈ x → b ∈ s) ∧ x.length ≤ s.length
  | [], x, h => by simp [splitC] at h; subst h; simp
  | b :: l, x, h => by
    unfold splitC at h
    split at h
    · rcases List.mem_cons.1 h with rfl | h
      · simp
      · obtain ⟨h1, h2⟩ := split_mem h
        exact ⟨fun b hb => List.mem_cons_of_mem _ (h1 b hb), by simp; omega⟩
    · obtain ⟨y, r, e⟩ := splitC_ne c l
      rw [e] at h
      simp only at h
      rcases List.mem_cons.1 h with rfl | h
      · obtain ⟨h1, h2⟩ := split_mem (c := c) (s := l) (x := y) (by rw [e]; simp)
        refine ⟨fun d hd => ?_, by simp; omega⟩
        rcases List.mem_cons.1 hd with rfl | hd
        · simp
        · exact List.mem_cons_of_mem _ (h1 d hd)
      · obtain ⟨h1, h2⟩ := split_mem (c := c) (s := l) (x := x) (by rw [e]; simp [h])
        exact ⟨fun b hb => List.mem_cons_of_mem _ (h1 b hb), by simp; omega⟩

theorem split_len {c : UInt8} : ∀ {s : List UInt8}, (splitC c s).length = s.count c + 1
  | [] => rfl
  | b :: l => by
    unfold splitC
    split
    · rename_i e; subst e; rw [List.length_cons, split_len]; simp
    · rename_i e
      obtain ⟨y, r, e2⟩ := splitC_ne c l
      have := split_len (c := c) (s := l)
      rw [e2] at this ⊢
      rw [List.count_cons_of_ne (by simpa using e)]
      simpa using this

/-- What stands ahead of the first #. -/
def head35 (s : List UInt8) : List UInt8 := (Lib.cut s [35]).1
theorem cut_fst {s : List UInt8} {c : UInt8} : ∃ n, (Lib.cut s [c]).1 = s.take n := by
  unfold Lib.cut
  split
  · exact ⟨_, rfl⟩
  · exact ⟨s.length, by simp⟩
theorem head_mem {s : List UInt8} : (∀ b, b ∈ head35 s → b ∈ s) ∧ (head35 s).length ≤ s.length := by
  unfold head35
  obtain ⟨n, e⟩ := cut_fst (s := s) (c := 35)
  rw [e]
  exact ⟨fun b hb => List.mem_of_mem_take hb, by simp; omega⟩

/-- The words of a line. -/
def wordsOf (s : List UInt8) : List (List UInt8) := Lib.fields (head35 s)
def linesFrom (k : Int) : List (List UInt8) → List (Int × List (List UInt8))
  | [] => []
  | s :: l => if 0 < (wordsOf s).length then (k + 1, wordsOf s) :: linesFrom (k + 1) l else linesFrom (k + 1) l
def allL (s : List UInt8) : List (Int × List (List UInt8)) := linesFrom 0 (splitC 10 s)

theorem linesFrom_length : ∀ (l : List (List UInt8)) (k : Int), (linesFrom k l).length ≤ l.length
  | [], k => by simp [linesFrom]
  | s :: l, k => by
    have := linesFrom_length l (k + 1)
    unfold linesFrom
    split <;> simp <;> omega

theorem lines_All_says {s : List UInt8} (hl : s.length ≤ 65536) (hr : RightP s) : lines_All s (allL s, 0) := by
  unfold lines_All
  refine IfB.dec (fun h => by omega) (fun _ => ?_)
  refine LoopP.intro (fun k => k ≤ s.length) (fun k => s.length - k) (Nat.zero_le _) ?_
  intro X k hk hX
  unfold lines_All_L1
  refine IfB.dec (fun hlt => ?_) (fun hge => ?_)
  · obtain ⟨b, hb⟩ : ∃ b, s[k]? = some b := ⟨_, List.getElem?_eq_getElem hlt⟩
    have hm : mayB b := hr k b hlt hb
    unfold mayB at hm
    rcases rune_at hb with ⟨h1, h2, h3⟩ | ⟨h1, h2, h3⟩
    · refine ⟨true, lines_may_says (by rw [h2]; simp; omega), IfB_true.2 ?_⟩
      rw [h3]
      exact hX _ hlt (by omega)
    · omega
  · refine ⟨splitC 10 s, ⟨by unfold Short; omega, 10, rfl, rfl⟩, ?_⟩
    generalize hp : splitC 10 s = ps
    have hmem : ∀ x, x ∈ ps → (∀ b, b ∈ x → mayB b) ∧ x.length ≤ 65536 := fun x hx => by
      obtain ⟨h1, h2⟩ := split_mem (hp ▸ hx)
      exact ⟨fun b hb => hr.mem (h1 b hb), by omega⟩
    have hlen : ps.length ≤ 65537 := by
      rw [← hp, split_len]
      have := List.count_le_length (a := (10 : UInt8)) (l := s)
      omega
    have goal : linesFrom 0 ps = allL s := by unfold allL; rw [hp]
    rw [← goal]
    refine LoopP.intro (fun z : Int × List (Int × List (List UInt8)) => ∃ done rest : List (List UInt8), ps = done ++ rest ∧ z.1 = done.length ∧ z.2.length ≤ done.length ∧ z.2 ++ linesFrom done.length rest = linesFrom 0 ps) (fun z => ps.length - z.1.toNat) ⟨[], ps, rfl, rfl, by simp, by simp⟩ ?_
    rintro X ⟨z, out⟩ ⟨done, rest, e, hz, ho, hj⟩ hX
    simp only at hz ho hj
    subst hz
    unfold lines_All_L2
    refine IfB.dec (fun hlt => ?_) (fun hge => ?_)
    · cases rest with
      | nil => rw [e] at hlt; simp at hlt
      | cons x rest =>
        have hx := hmem x (by rw [e]; simp)
        have hdl : done.length < ps.length := by rw [e]; simp
        refine ⟨x, ⟨Int.natCast_nonneg _, by rw [e]; simp⟩, (Lib.cut x [35]).1, (Lib.cut x [35]).2.1, (Lib.cut x [35]).2.2, ⟨by unfold Short; omega, 35, rfl, rfl⟩, ?_⟩
        have ew : ∀ A : Prop, A → IfB (Lib.cut x [35]).2.2 A A := fun A h => IfB.intro (fun _ => h) (fun _ => h)
        refine ew _ ?_
        obtain ⟨m1, m2⟩ := head_mem (s := x)
        refine ⟨wordsOf x, ⟨by unfold Short; unfold head35 at m2; omega, fun b hb => ?_, rfl⟩, ?_⟩
        · have := hx.1 b (m1 b hb); unfold mayB at this; omega
        have hw : IntKind.i64.wrap ((done.length : Int) + 1) = ((done ++ [x]).length : Int) := by rw [wrap64 (by constructor <;> omega)]; simp
        have hps : ps = (done ++ [x]) ++ rest := by rw [e]; simp
        have hj2 := hj
        have hcons : linesFrom (done.length : Int) (x :: rest) = if 0 < (wordsOf x).length then ((done.length : Int) + 1, wordsOf x) :: linesFrom ((done.length : Int) + 1) rest else linesFrom ((done.length : Int) + 1) rest := rfl
        rw [hcons] at hj2
        have ec : ((done ++ [x]).length : Int) = (done.length : Int) + 1 := by simp
        have em : ps.length - ((done ++ [x]).length : Int).toNat < ps.length - (done.length : Int).toNat := by simp; omega
        rw [hw]
        refine IfB.dec (fun hpos => ?_) (fun hpos => ?_)
        · rw [if_pos (by omega)] at hj2
          refine ⟨by unfold Fits; simp; omega, hX _ ⟨done ++ [x], rest, hps, rfl, by simp; omega, ?_⟩ em⟩
          simp only [ec, List.append_assoc, List.singleton_append]
          exact hj2
        · rw [if_neg (by omega)] at hj2
          refine hX _ ⟨done ++ [x], rest, hps, rfl, by simp; omega, ?_⟩ em
          simp only [ec]
          exact hj2
    · have : rest = [] := by
        cases rest with
        | nil => rfl
        | cons x r => rw [e] at hge; simp at hge; omega
      subst this
      simp only [linesFrom, List.append_nil] at hj
      rw [hj]

/-- What is told of lines: by rising numbers, with words. -/
def Rising (lo hi : Int) : List (Int × List (List UInt8)) → Prop
  | [] => True
  | x :: l => lo < x.1 ∧ x.1 ≤ hi ∧ 0 < x.2.length ∧ Rising x.1 hi l
theorem Rising.lower {lo lo' hi : Int} (h : lo' ≤ lo) : ∀ {l : List (Int × List (List UInt8))}, Rising lo hi l → Rising lo' hi l
  | [], _ => trivial
  | x :: l, ⟨a, b⟩ => ⟨by omega, b⟩
theorem linesFrom_rising : ∀ (l : List (List UInt8)) (k : Int), Rising k (k + l.length) (linesFrom k l)
  | [], k => trivial
  | s :: l, k => by
    have ih := linesFrom_rising l (k + 1)
    have e : k + 1 + (l.length : Int) = k + ((s :: l).length : Int) := by simp; omega
    rw [e] at ih
    unfold linesFrom
    split
    · rename_i hw
      exact ⟨by simp; omega, by simp; omega, hw, ih⟩
    · exact ih.lower (by omega)

theorem Rising.at {hi : Int} : ∀ {l : List (Int × List (List UInt8))} {lo : Int} {i : Nat} {x : Int × List (List UInt8)}, Rising lo hi l → l[i]? = some x → 0 < x.2.length ∧ x.1 ≤ hi ∧ (∀ y, i ≠ 0 → l[i - 1]? = some y → y.1 < x.1) ∧ lo < x.1
  | [], _, i, x, _, h => by simp at h
  | z :: l, lo, 0, x, hr, h => by
    simp at h; subst h
    exact ⟨hr.2.2.1, hr.2.1, fun y h => absurd rfl h, hr.1⟩
  | z :: l, lo, i + 1, x, hr, h => by
    simp at h
    obtain ⟨h1, h2, h3, h4⟩ := Rising.at hr.2.2.2 h
    refine ⟨h1, h2, fun y _ hy => ?_, by have := hr.1; omega⟩
    cases i with
    | zero => simp at hy; subst hy; exact h4
    | succ i => simp at hy; exact h3 y (by omega) (by simpa using hy)

def wlen (l : List (List UInt8)) : Nat := (l.map fun x => x.length + 1).sum
theorem fields_wlen : ∀ (l cur : List UInt8), wlen (Lib.fieldsGo cur l) ≤ cur.length + l.length + 1
  | [], cur => by cases cur <;> simp [Lib.fieldsGo, wlen]
  | b :: l, cur => by
    have i1 := fields_wlen l []
    have i2 := fields_wlen l (cur ++ [b])
    unfold Lib.fieldsGo
    split
    · cases cur with
      | nil => simp at i1 ⊢; omega
      | cons c t => simp [wlen] at i1 ⊢; omega
    · simp at i2 ⊢; omega
theorem wlen_len (l : List (List UInt8)) : l.length ≤ wlen l := by
  induction l with
  | nil => simp [wlen]
  | cons x l ih => simp [wlen] at ih ⊢; omega
abbrev Ws := List (List UInt8)
abbrev Ls := List (Int × Ws)
def flushW (ws : Ws) (w : List UInt8) : Ws := if w = [] then ws else ws ++ [w]
def emitL (n : Int) (ws : Ws) : Ls := if 0 < ws.length then [(n, ws)] else []
/-- The lines, byte by byte. -/
def goL (word : List UInt8) (off : Bool) (n : Int) (ws : Ws) : List UInt8 → Ls
  | [] => emitL n (flushW ws word)
  | b :: l => if b.toNat = 10 then emitL n (flushW ws word) ++ goL [] false (n + 1) [] l else if off = true ∨ b.toNat = 35 then goL [] true n (flushW ws word) l
    else if b.toNat = 32 then goL [] false n (flushW ws word) l else goL (word ++ [b]) off n ws l

theorem flush_fields (ws : Ws) (w : List UInt8) : flushW ws w = ws ++ Lib.fieldsGo w [] := by
  unfold flushW
  cases w <;> simp [Lib.fieldsGo]

theorem u8 {b : UInt8} {c : Nat} (hc : c < 256) : b.toNat = c ↔ b = c.toUInt8 := by
  constructor
  · intro h; subst h; simp
  · rintro rfl; simp; omega

theorem goL_eq : ∀ (l word : List UInt8) (off : Bool) (n : Int) (ws : Ws), (∀ b, b ∈ l → mayB b) → (off = true → word = []) → ∃ x r, splitC 10 l = x :: r ∧ goL word off n ws l = emitL n (if off = true then ws else ws ++ Lib.fieldsGo word (head35 x)) ++ linesFrom n r
  | [], word, off, n, ws, _, ho => by
    refine ⟨[], [], rfl, ?_⟩
    have h0 : head35 [] = [] := by unfold head35; rw [cut_one]; rfl
    rw [h0]
    simp only [goL, linesFrom, List.append_nil]
    cases off with
    | true => rw [ho rfl]; simp [flushW]
    | false => rw [flush_fields]; simp
  | b :: l, word, off, n, ws, hm, ho => by
    have hm' : ∀ c, c ∈ l → mayB c := fun c hc => hm c (by simp [hc])
    have hb := hm b (by simp)
    by_cases h10 : b.toNat = 10
    · have e10 : b = 10 := (u8 (by decide)).1 h10
      obtain ⟨x, r, e1, e2⟩ := goL_eq l [] false (n + 1) [] hm' (by simp)
      refine ⟨[], splitC 10 l, by rw [splitC, if_pos e10], ?_⟩
      rw [goL, if_pos h10, e2, e1]
      have h0 : head35 [] = [] := by unfold head35; rw [cut_one]; rfl
      have e3 : linesFrom n (x :: r) = emitL (n + 1) (wordsOf x) ++ linesFrom (n + 1) r := by
        rw [linesFrom]; unfold emitL
        split <;> simp
      rw [e3, h0]
      have e4 : emitL n (flushW ws word) = emitL n (if off = true then ws else ws ++ Lib.fieldsGo word []) := by
        cases off with
        | true => rw [ho rfl]; simp [flushW]
        | false => rw [flush_fields]; simp
      rw [e4]
      simp [wordsOf, Lib.fields]
    · have e10 : ¬ b = 10 := fun e => h10 ((u8 (by decide)).2 e)
      have sp : ∀ x r, splitC 10 l = x :: r → splitC 10 (b :: l) = (b :: x) :: r := fun x r e => by rw [splitC, if_neg e10, e]
      rw [goL, if_neg h10]
      by_cases h35 : off = true ∨ b.toNat = 35
      · rw [if_pos h35]
        obtain ⟨x, r, e1, e2⟩ := goL_eq l [] true n (flushW ws word) hm' (by simp)
        refine ⟨b :: x, r, sp x r e1, ?_⟩
        rw [e2]
        cases off with
        | true => rw [ho rfl]; simp [flushW]
        | false =>
          have hb35 : b = 35 := (u8 (by decide)).1 (h35.resolve_left (by simp))
          have h0 : head35 (b :: x) = [] := by unfold head35; rw [cut_one, hb35]; simp
          rw [h0, flush_fields]; simp
      · rw [if_neg h35]
        have hoff : off = false := by cases off <;> simp at h35 ⊢
        subst hoff
        have n35 : b ≠ 35 := fun e => h35 (.inr ((u8 (by decide)).2 e))
        have hh : ∀ x, head35 (b :: x) = b :: head35 x := fun x => by
          unfold head35; rw [cut_one, cut_one, List.takeWhile_cons_of_pos (by simpa using n35)]
        by_cases h32 : b.toNat = 32
        · rw [if_pos h32]
          obtain ⟨x, r, e1, e2⟩ := goL_eq l [] false n (flushW ws word) hm' (by simp)
          refine ⟨b :: x, r, sp x r e1, ?_⟩
          have hb32 : b = 32 := (u8 (by decide)).1 h32
          have e3 : Lib.fieldsGo word (b :: head35 x) = if word.isEmpty then Lib.fieldsGo [] (head35 x) else word :: Lib.fieldsGo [] (head35 x) := by
            subst hb32; rfl
          rw [e2, hh, e3]
          cases word <;> simp [flushW]
        · rw [if_neg h32]
          obtain ⟨x, r, e1, e2⟩ := goL_eq l (word ++ [b]) false n ws hm' (by simp)
          refine ⟨b :: x, r, sp x r e1, ?_⟩
          have hns : Lib.isSp b = false := by
            unfold mayB at hb
            have k : ∀ c : Nat, c < 256 → b.toNat ≠ c → (b == c.toUInt8) = false := fun c hc h => by
              rw [beq_eq_false_iff_ne]; exact fun e => h ((u8 hc).2 e)
            have h9 := k 9 (by decide) (by omega); have h10' := k 10 (by decide) h10; have h11 := k 11 (by decide) (by omega); have h12 := k 12 (by decide) (by omega); have h13 := k 13 (by decide) (by omega); have h32' := k 32 (by decide) h32
            unfold Lib.isSp
            simp at h9 h10' h11 h12 h13 h32' ⊢
            exact ⟨⟨⟨⟨⟨h9, h10'⟩, h11⟩, h12⟩, h13⟩, h32'⟩
          have e3 : Lib.fieldsGo word (b :: head35 x) = Lib.fieldsGo (word ++ [b]) (head35 x) := by
            rw [Lib.fieldsGo, if_neg (by rw [hns]; simp)]
          rw [e2, hh, e3]

theorem goL_all {s : List UInt8} (hr : RightP s) : goL [] false 1 [] s = allL s := by
  obtain ⟨x, r, e1, e2⟩ := goL_eq s [] false 1 [] (fun b hb => hr.mem hb) (by simp)
  rw [e2]
  unfold allL
  rw [e1, linesFrom]
  unfold emitL
  simp only [Bool.false_eq_true, if_false, List.nil_append]
  show (if 0 < (wordsOf x).length then _ else _) ++ _ = _
  split <;> simp [wordsOf, Lib.fields]

def J12 (s : List UInt8) (G : Ls) : (List UInt8) × Bool × Int × Int × Ls × Ws → Prop
  | (word, off, z, n, out, ws) => ∃ i : Nat, z = i ∧ i ≤ s.length + 1 ∧ 0 ≤ n ∧ n ≤ i + 1 ∧ word.length ≤ i ∧ out.length ≤ i ∧ ws.length ≤ i ∧ (off = true → word = []) ∧ (i ≤ s.length → out ++ goL word off n ws (s.drop i) = G) ∧ (i = s.length + 1 → out = G)

theorem offcutref07_All_says {s : List UInt8} (hs : s.length ≤ 100000) : offcutref07_All s (goL [] false 1 [] s) := by
  unfold offcutref07_All
  generalize hG : goL [] false 1 [] s = G
  refine LoopP.intro (J12 s G) (fun z => s.length + 1 - z.2.2.1.toNat) ⟨0, rfl, Nat.zero_le _, by omega, by omega, Nat.le_refl _, Nat.le_refl _, Nat.le_refl _, fun _ => rfl, fun _ => hG, fun h => by omega⟩ ?_
  rintro X ⟨word, off, z, n, out, ws⟩ ⟨i, rfl, hi, hn0, hn1, hw, ho, hws, hoff, hgo, hend⟩ hX
  have eI : i ≤ s.length → IntKind.i64.wrap ((i : Int) + 1) = ((i + 1 : Nat) : Int) := fun _ => by rw [wrap64 (by constructor <;> omega)]; simp
  have eN : IntKind.i64.wrap (n + 1) = n + 1 := wrap64 (by constructor <;> omega)
  have hflen : (flushW ws word).length ≤ i + 1 := by
    unfold flushW
    split
    · omega
    · rw [List.length_append, List.length_singleton]; omega
  have fl0 : (!(word == ([] : List UInt8))) = false → flushW ws word = ws := fun h => by
    have : word = [] := by simpa using h
    simp [flushW, this]
  have fl1 : (!(word == ([] : List UInt8))) = true → flushW ws word = ws ++ [word] := fun h => by
    have : ¬ word = [] := by simpa using h
    simp [flushW, this]
  -- a line's end, or the text's
  have fin : ∀ ws', flushW ws word = ws' → i ≤ s.length → (∀ b, s[i]? = some b → b.toNat = 10) →
      IfB (decide ((ws'.length : Int) > (0 : Int))) (Fits (out.length + [(n, ws')].length) 32 ∧ X (([] : List UInt8), false, (IntKind.i64.wrap ((i : Int) + 1)), (IntKind.i64.wrap (n + 1)), (out ++ [(n, ws')]), ([] : Ws)))
        (X (([] : List UInt8), false, (IntKind.i64.wrap ((i : Int) + 1)), (IntKind.i64.wrap (n + 1)), out, ([] : Ws))) := by
    intro ws' hf hle hb
    rw [eI hle, eN]
    have key : ∀ out', out ++ emitL n ws' = out' → (i + 1 ≤ s.length → out' ++ goL [] false (n + 1) [] (s.drop (i + 1)) = G) ∧ (i + 1 = s.length + 1 → out' = G) := by
      rintro out' rfl
      have hg := hgo hle
      refine ⟨fun h => ?_, fun h => ?_⟩
      · have hlt : i < s.length := h
        have h10 := hb _ (List.getElem?_eq_getElem hlt)
        rw [List.drop_eq_getElem_cons hlt, goL, if_pos h10, hf] at hg
        rw [List.append_assoc]; exact hg
      · rw [List.drop_of_length_le (by omega), goL, hf] at hg
        exact hg
    refine IfB.dec (fun hp => ⟨by unfold Fits; simp; omega, ?_⟩) (fun hp => ?_)
    · obtain ⟨k1, k2⟩ := key (out ++ [(n, ws')]) (by unfold emitL; rw [if_pos (by omega)])
      exact hX _ ⟨i + 1, rfl, by omega, by omega, by omega, by simp, by simp; omega, by simp, by simp, k1, k2⟩ (by simp; omega)
    · obtain ⟨k1, k2⟩ := key out (by unfold emitL; rw [if_neg (by omega)]; simp)
      exact hX _ ⟨i + 1, rfl, by omega, by omega, by omega, by simp, by omega, by simp, by simp, k1, k2⟩ (by simp; omega)
  have fin2 : i ≤ s.length → (∀ b, s[i]? = some b → b.toNat = 10) → IfB (!(word == ([] : List UInt8))) (Fits (ws.length + [word].length) 16 ∧ IfB (decide (((ws ++ [word]).length : Int) > (0 : Int))) (Fits (out.length + [(n, (ws ++ [word]))].length) 32 ∧ X (([] : List UInt8), false, (IntKind.i64.wrap ((i : Int) + 1)), (IntKind.i64.wrap (n + 1)), (out ++ [(n, (ws ++ [word]))]), ([] : Ws)))
        (X (([] : List UInt8), false, (IntKind.i64.wrap ((i : Int) + 1)), (IntKind.i64.wrap (n + 1)), out, ([] : Ws))))
      (IfB (decide ((ws.length : Int) > (0 : Int))) (Fits (out.length + [(n, ws)].length) 32 ∧ X (([] : List UInt8), false, (IntKind.i64.wrap ((i : Int) + 1)), (IntKind.i64.wrap (n + 1)), (out ++ [(n, ws)]), ([] : Ws)))
        (X (([] : List UInt8), false, (IntKind.i64.wrap ((i : Int) + 1)), (IntKind.i64.wrap (n + 1)), out, ([] : Ws)))) := fun h1 h2 =>
    IfB.bool (fun h => ⟨by unfold Fits; simp; omega, fin _ (fl1 h) h1 h2⟩) (fun h => fin _ (fl0 h) h1 h2)
  -- a word's end
  have blank : ∀ (b : UInt8) (off' : Bool), s[i]? = some b → b.toNat ≠ 10 → ((off' = true ∧ (off = true ∨ b.toNat = 35)) ∨ (off' = false ∧ off = false ∧ b.toNat = 32)) →
      IfB (!(word == ([] : List UInt8))) (Fits (ws.length + [word].length) 16 ∧ X (([] : List UInt8), off', (IntKind.i64.wrap ((i : Int) + 1)), n, out, (ws ++ [word]))) (X (([] : List UInt8), off', (IntKind.i64.wrap ((i : Int) + 1)), n, out, ws)) := by
    intro b off' hb h10 hk
    obtain ⟨hlt, hbe⟩ := List.getElem?_eq_some_iff.1 hb
    have hle : i ≤ s.length := by omega
    have hg := hgo hle
    rw [List.drop_eq_getElem_cons hlt, hbe, goL, if_neg h10] at hg
    have hg2 : out ++ goL [] off' n (flushW ws word) (s.drop (i + 1)) = G := by
      rcases hk with ⟨rfl, hk⟩ | ⟨rfl, hf, h32⟩
      · rw [if_pos hk] at hg; exact hg
      · rw [if_neg (by rw [hf]; simp; omega), if_pos h32] at hg; exact hg
    rw [eI hle]
    have go : ∀ ws', flushW ws word = ws' → X (([] : List UInt8), off', ((i + 1 : Nat) : Int), n, out, ws') := by
      rintro ws' rfl
      exact hX _ ⟨i + 1, rfl, by omega, hn0, by omega, by simp, by omega, hflen, by simp, fun _ => hg2, fun h => by omega⟩ (by simp; omega)
    exact IfB.bool (fun h => ⟨by unfold Fits; simp; omega, go _ (fl1 h)⟩) (fun h => go _ (fl0 h))
  unfold offcutref07_All_L1
  have hbyte : ∀ A : UInt8 → Prop, i < s.length → (∀ b, s[i]? = some b → A b) → ∃ c, Idx s (i : Int) c ∧ A c := fun A hlt h => by
    have hb := List.getElem?_eq_getElem hlt
    exact ⟨_, ⟨Int.natCast_nonneg _, by simpa using hb⟩, h _ hb⟩
  cases off with
  | true =>
    refine IfB_true.2 (IfB.dec (fun hle => IfB.eqi (fun he => ?_) (fun hne => ?_)) (fun hgt => (hend (by omega)).symm ▸ rfl))
    · exact fin2 (by omega) (fun b hb => by have := (List.getElem?_eq_some_iff.1 hb).1; omega)
    · refine hbyte _ (by omega) fun b hb => IfB.eqi (fun h => fin2 (by omega) (fun b' hb' => by rw [hb] at hb'; cases hb'; omega)) (fun h10 => ?_)
      refine hbyte _ (by omega) fun b' hb' => ?_
      rw [hb] at hb'; cases hb'
      exact IfB.eqi (fun _ => blank b true hb (by omega) (.inl ⟨rfl, .inl rfl⟩)) (fun _ => blank b true hb (by omega) (.inl ⟨rfl, .inl rfl⟩))
  | false =>
    refine IfB_false.2 (IfB.dec (fun hle => IfB.eqi (fun he => ?_) (fun hne => ?_)) (fun hgt => (hend (by omega)).symm ▸ rfl))
    · exact fin2 (by omega) (fun b hb => by have := (List.getElem?_eq_some_iff.1 hb).1; omega)
    · refine hbyte _ (by omega) fun b hb => IfB.eqi (fun h => fin2 (by omega) (fun b' hb' => by rw [hb] at hb'; cases hb'; omega)) (fun h10 => ?_)
      refine hbyte _ (by omega) fun b' hb' => ?_
      rw [hb] at hb'; cases hb'
      refine IfB.eqi (fun h35 => blank b true hb (by omega) (.inl ⟨rfl, .inr (by omega)⟩)) (fun h35 => ?_)
      refine hbyte _ (by omega) fun b' hb' => ?_
      rw [hb] at hb'; cases hb'
      refine IfB.eqi (fun h32 => blank b false hb (by omega) (.inr ⟨rfl, rfl, by omega⟩)) (fun h32 => ?_)
      obtain ⟨hlt, hbe⟩ := List.getElem?_eq_some_iff.1 hb
      have hsub : sub s (i : Int) (IntKind.i64.wrap ((i : Int) + 1)) = [b] := by
        rw [eI (by omega)]
        unfold sub
        simp only [Int.toNat_natCast]
        rw [List.drop_eq_getElem_cons hlt, hbe, show i + 1 - i = 1 by omega]
        rfl
      rw [hsub, eI (by omega)]
      refine ⟨⟨by omega, by omega, by omega⟩, by unfold Fits; simp; omega, hX _ ⟨i + 1, rfl, by omega, hn0, by omega, by simp; omega, by omega, by omega, by simp, fun _ => ?_, fun h => by omega⟩ (by simp; omega)⟩
      have hg := hgo (by omega)
      rw [List.drop_eq_getElem_cons hlt, hbe, goL, if_neg (by omega), if_neg (by simp; omega), if_neg (by omega)] at hg
      exact hg

theorem lines_All_form {s : List UInt8} (hl : s.length ≤ 65536) (hr : ¬ RightP s) : lines_All s ([], 2) := by
  unfold lines_All
  refine IfB.dec (fun h => by omega) (fun _ => ?_)
  refine LoopP.intro (fun k => k ≤ s.length ∧ RightTo s k) (fun k => s.length - k) ⟨Nat.zero_le _, fun i b h => by omega⟩ ?_
  rintro X k ⟨hk, hn⟩ hX
  unfold lines_All_L1
  refine IfB.dec (fun hlt => ?_) (fun hge => ?_)
  · obtain ⟨b, hb⟩ : ∃ b, s[k]? = some b := ⟨_, List.getElem?_eq_getElem hlt⟩
    by_cases hm : mayB b
    · have hm' := hm
      unfold mayB at hm'
      rcases rune_at hb with ⟨h1, h2, h3⟩ | ⟨h1, h2, h3⟩
      · refine ⟨true, lines_may_says (by rw [h2]; simp; omega), IfB_true.2 ?_⟩
        rw [h3]
        exact hX _ ⟨hlt, hn.next hb hm⟩ (by omega)
      · omega
    · have hm' := hm
      unfold mayB at hm'
      refine ⟨false, lines_may_says ?_, IfB_false.2 rfl⟩
      rcases rune_at hb with ⟨h1, h2, h3⟩ | ⟨h1, h2, h3⟩
      · rw [h2]; simp; omega
      · simp; omega
  · exfalso
    have e : k = s.length := by omega
    subst e
    exact hr hn

/-- Words of a text are short, joined. -/
theorem all_wlen (s : List UInt8) : ∀ x, x ∈ allL s → wlen x.2 ≤ s.length + 1 := by
  have key : ∀ (l : List (List UInt8)) (k : Int), (∀ y, y ∈ l → y.length ≤ s.length) → ∀ x, x ∈ linesFrom k l → wlen x.2 ≤ s.length + 1 := by
    intro l
    induction l with
    | nil => intro k _ x hx; simp [linesFrom] at hx
    | cons y l ih =>
      intro k hy x hx
      have hx' : x ∈ (if 0 < (wordsOf y).length then (k + 1, wordsOf y) :: linesFrom (k + 1) l else linesFrom (k + 1) l) := hx
      have one : wlen (wordsOf y) ≤ s.length + 1 := by
        have h1 := fields_wlen (head35 y) []
        have h2 := (head_mem (s := y)).2
        have h3 := hy y (by simp)
        unfold wordsOf Lib.fields
        simp at h1
        omega
      split at hx'
      · rcases List.mem_cons.1 hx' with rfl | hx'
        · exact one
        · exact ih _ (fun z hz => hy z (by simp [hz])) x hx'
      · exact ih _ (fun z hz => hy z (by simp [hz])) x hx'
  exact key _ 0 fun y hy => (split_mem hy).2

theorem LoopP.once {σ : Type} {F : (σ → Prop) → σ → Prop} {s : σ} (h : ∀ X : σ → Prop, (∀ s, F X s → X s) → F X s) : LoopP F s := fun X hX => hX s (h X hX)

/-- A word that the law lets in. -/
def okW (w : List UInt8) : Prop := w ≠ [] ∧ w.length ≤ 40 ∧ RightP w ∧ ∀ b, b ∈ w → b ≠ 32 ∧ b ≠ 35 ∧ b ≠ 10

theorem okW.sp {w : List UInt8} (h : okW w) : ∀ b, b ∈ w → Lib.isSp b = false := fun b hb => by
  have hm := h.2.2.1.mem hb
  obtain ⟨n32, _, n10⟩ := h.2.2.2 b hb
  unfold mayB at hm
  have k : ∀ c : Nat, c < 256 → b.toNat ≠ c → (b == c.toUInt8) = false := fun c hc h => by
    rw [beq_eq_false_iff_ne]; intro e; apply h; rw [e]; simp; omega
  have t10 : b.toNat ≠ 10 := fun e => n10 (by rw [← UInt8.toNat_inj]; exact e)
  have t32 : b.toNat ≠ 32 := fun e => n32 (by rw [← UInt8.toNat_inj]; exact e)
  have h9 := k 9 (by decide) (by omega); have h10' := k 10 (by decide) t10; have h11 := k 11 (by decide) (by omega); have h12 := k 12 (by decide) (by omega); have h13 := k 13 (by decide) (by omega); have h32' := k 32 (by decide) t32
  unfold Lib.isSp
  simp at h9 h10' h11 h12 h13 h32' ⊢
  exact ⟨⟨⟨⟨⟨h9, h10'⟩, h11⟩, h12⟩, h13⟩, h32'⟩

end Go.Abs
end
