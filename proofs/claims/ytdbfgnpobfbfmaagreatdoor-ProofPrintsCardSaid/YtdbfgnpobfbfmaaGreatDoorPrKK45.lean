/- Part of a proof, in few files: LLin L13a L13b L13c L13d L13e LDec LTxt LTxt2 LLin2 L13f. -/
import Derived.Test.YtdbfgnpobfbfmaaGreatDoorPrKK31
import Derived.Test.YtdbfgnpobfbfmaaGreatDoorPrKK18
import Derived.Laws.RangeAny
import Derived.Test.YtdbfgnpobfbfmaaGreatDoorPrKK40

section
/- Lines, plain: names, bytes that may be, lines and their words; joined words. -/
namespace Go.Abs
open Go
set_option linter.unusedVariables false
set_option linter.unusedSimpArgs false
set_option linter.unnecessarySimpa false

theorem IfB.dec {p : Prop} [Decidable p] {A B : Prop} (h1 : p → A) (h2 : ¬ p → B) : IfB (decide p) A B := ⟨fun h => h1 (of_decide_eq_true h), fun h => h2 (of_decide_eq_false h)⟩
theorem IfB.eqi {a b : Int} {A B : Prop} (h1 : a = b → A) (h2 : a ≠ b → B) : IfB (a == b) A B := ⟨fun h => h1 (by simpa using h), fun h => h2 (by simpa using h)⟩
theorem IfB.bool {b : Bool} {A B : Prop} (h1 : b = true → A) (h2 : b = false → B) : IfB b A B := ⟨h1, h2⟩

/-- What stands at a byte, read as a sign. -/
theorem rune_at {s : List UInt8} {k : Nat} {b : UInt8} (h : s[k]? = some b) : (b.toNat < 128 ∧ runeAt s k = (b.toNat : Int) ∧ runeLen s k = 1) ∨ (128 ≤ b.toNat ∧ 128 ≤ runeAt s k ∧ 1 ≤ runeLen s k) := by
  obtain ⟨hk, hb⟩ := List.getElem?_eq_some_iff.1 h
  have hk' : k < (ByteArray.mk s.toArray).size := by simpa [ByteArray.size] using hk
  have e : (ByteArray.mk s.toArray)[k]'hk' = b := by
    rw [← hb]; rfl
  by_cases ha : b.toNat < 128
  · have := Go.decode_ascii (ByteArray.mk s.toArray) k hk' (by rw [e]; exact ha)
    rw [e] at this
    exact .inl ⟨ha, by simp [runeAt, this], by simp [runeLen, this]⟩
  · have := Go.decode_high (ByteArray.mk s.toArray) k hk' (by rw [e]; omega)
    exact .inr ⟨by omega, by simp only [runeAt]; omega, this.2⟩

/-- The byte b may stand at place i of a name. -/
def nmOk (i : Nat) (b : UInt8) : Prop := (97 ≤ b.toNat ∧ b.toNat ≤ 122) ∨ (i ≠ 0 ∧ (b.toNat = 95 ∨ (48 ≤ b.toNat ∧ b.toNat ≤ 57)))
def NameTo (s : List UInt8) (k : Nat) : Prop := ∀ i b, i < k → s[i]? = some b → nmOk i b
theorem NameTo.next {s : List UInt8} {k : Nat} {b : UInt8} (h : NameTo s k) (hb : s[k]? = some b) (hn : nmOk k b) : NameTo s (k + 1) := fun i c hi hc => by
  by_cases e : i = k
  · subst e; rw [hb] at hc; cases hc; exact hn
  · exact h i c (by omega) hc

def mayB (b : UInt8) : Prop := b.toNat = 10 ∨ (32 ≤ b.toNat ∧ b.toNat ≤ 126)
def RightTo (s : List UInt8) (k : Nat) : Prop := ∀ i b, i < k → s[i]? = some b → mayB b
def RightP (s : List UInt8) : Prop := RightTo s s.length
theorem RightP.mem {s : List UInt8} (h : RightP s) {b : UInt8} (hb : b ∈ s) : mayB b := by
  obtain ⟨i, hi, e⟩ := List.getElem_of_mem hb
  exact h i b hi (by rw [List.getElem?_eq_getElem hi, e])
theorem RightTo.next {s : List UInt8} {k : Nat} {b : UInt8} (h : RightTo s k) (hb : s[k]? = some b) (hn : mayB b) : RightTo s (k + 1) := fun i c hi hc => by
  by_cases e : i = k
  · subst e; rw [hb] at hc; cases hc; exact hn
  · exact h i c (by omega) hc
theorem lines_may_says {c : Int} {r : Bool} (hr : r = true ↔ (c = 10 ∨ (32 ≤ c ∧ c ≤ 126))) : lines_may c r := by
  have no : ¬ (c = 10 ∨ (32 ≤ c ∧ c ≤ 126)) → r = false := fun h => by cases r with | false => rfl | true => exact absurd (hr.1 rfl) h
  unfold lines_may
  refine IfB.eqi (fun h => hr.2 (.inl h)) (fun h => IfB.dec (fun h1 => IfB.dec (fun h2 => hr.2 (.inr ⟨h1, h2⟩)) (fun h2 => no (by omega))) (fun h1 => no (by omega)))

theorem split_mem {c : UInt8} : ∀ {s : List UInt8} {x : List UInt8}, x ∈ splitC c s → (∀ b, b ∈ x → b ∈ s) ∧ x.length ≤ s.length
  | [], x, h => by simp [splitC] at h; subst h; simp
  | b :: l, x, h => by
    unfold splitC at h
    split at h
    · rcases List.mem_cons.1 h with rfl | h
      · simp
      · obtain ⟨h1, h2⟩ := split_mem h
        exact ⟨fun b hb => List.mem_cons_of_mem _ (h1 b hb), by simp; omega⟩
    · obtain ⟨y, r, e⟩ := splitC_ne c l
      rw [e] at h
      simp only at h
      rcases List.mem_cons.1 h with rfl | h
      · obtain ⟨h1, h2⟩ := split_mem (c := c) (s := l) (x := y) (by rw [e]; simp)
        refine ⟨fun d hd => ?_, by simp; omega⟩
        rcases List.mem_cons.1 hd with rfl | hd
        · simp
        · exact List.mem_cons_of_mem _ (h1 d hd)
      · obtain ⟨h1, h2⟩ := split_mem (c := c) (s := l) (x := x) (by rw [e]; simp [h])
        exact ⟨fun b hb => List.mem_cons_of_mem _ (h1 b hb), by simp; omega⟩

theorem split_len {c : UInt8} : ∀ {s : List UInt8}, (splitC c s).length = s.count c + 1
  | [] => rfl
  | b :: l => by
    unfold splitC
    split
    · rename_i e; subst e; rw [List.length_cons, split_len]; simp
    · rename_i e
      obtain ⟨y, r, e2⟩ := splitC_ne c l
      have := split_len (c := c) (s := l)
      rw [e2] at this ⊢
      rw [List.count_cons_of_ne (by simpa using e)]
      simpa using this

/-- What stands ahead of the first #. -/
def head35 (s : List UInt8) : List UInt8 := (Lib.cut s [35]).1
theorem cut_fst {s : List UInt8} {c : UInt8} : ∃ n, (Lib.cut s [c]).1 = s.take n := by
  unfold Lib.cut
  split
  · exact ⟨_, rfl⟩
  · exact ⟨s.length, by simp⟩
theorem head_mem {s : List UInt8} : (∀ b, b ∈ head35 s → b ∈ s) ∧ (head35 s).length ≤ s.length := by
  unfold head35
  obtain ⟨n, e⟩ := cut_fst (s := s) (c := 35)
  rw [e]
  exact ⟨fun b hb => List.mem_of_mem_take hb, by simp; omega⟩

/-- The words of a line. -/
def wordsOf (s : List UInt8) : List (List UInt8) := Lib.fields (head35 s)
def linesFrom (k : Int) : List (List UInt8) → List (Int × List (List UInt8))
  | [] => []
  | s :: l => if 0 < (wordsOf s).length then (k + 1, wordsOf s) :: linesFrom (k + 1) l else linesFrom (k + 1) l
def allL (s : List UInt8) : List (Int × List (List UInt8)) := linesFrom 0 (splitC 10 s)

theorem linesFrom_length : ∀ (l : List (List UInt8)) (k : Int), (linesFrom k l).length ≤ l.length
  | [], k => by simp [linesFrom]
  | s :: l, k => by
    have := linesFrom_length l (k + 1)
    unfold linesFrom
    split <;> simp <;> omega

theorem lines_All_says {s : List UInt8} (hl : s.length ≤ 65536) (hr : RightP s) : lines_All s (allL s, 0) := by
  unfold lines_All
  refine IfB.dec (fun h => by omega) (fun _ => ?_)
  refine LoopP.intro (fun k => k ≤ s.length) (fun k => s.length - k) (Nat.zero_le _) ?_
  intro X k hk hX
  unfold lines_All_L1
  refine IfB.dec (fun hlt => ?_) (fun hge => ?_)
  · obtain ⟨b, hb⟩ : ∃ b, s[k]? = some b := ⟨_, List.getElem?_eq_getElem hlt⟩
    have hm : mayB b := hr k b hlt hb
    unfold mayB at hm
    rcases rune_at hb with ⟨h1, h2, h3⟩ | ⟨h1, h2, h3⟩
    · refine ⟨true, lines_may_says (by rw [h2]; simp; omega), IfB_true.2 ?_⟩
      rw [h3]
      exact hX _ hlt (by omega)
    · omega
  · refine ⟨splitC 10 s, ⟨by unfold Short; omega, 10, rfl, rfl⟩, ?_⟩
    generalize hp : splitC 10 s = ps
    have hmem : ∀ x, x ∈ ps → (∀ b, b ∈ x → mayB b) ∧ x.length ≤ 65536 := fun x hx => by
      obtain ⟨h1, h2⟩ := split_mem (hp ▸ hx)
      exact ⟨fun b hb => hr.mem (h1 b hb), by omega⟩
    have hlen : ps.length ≤ 65537 := by
      rw [← hp, split_len]
      have := List.count_le_length (a := (10 : UInt8)) (l := s)
      omega
    have goal : linesFrom 0 ps = allL s := by unfold allL; rw [hp]
    rw [← goal]
    refine LoopP.intro (fun z : Int × List (Int × List (List UInt8)) => ∃ done rest : List (List UInt8), ps = done ++ rest ∧ z.1 = done.length ∧ z.2.length ≤ done.length ∧ z.2 ++ linesFrom done.length rest = linesFrom 0 ps) (fun z => ps.length - z.1.toNat) ⟨[], ps, rfl, rfl, by simp, by simp⟩ ?_
    rintro X ⟨z, out⟩ ⟨done, rest, e, hz, ho, hj⟩ hX
    simp only at hz ho hj
    subst hz
    unfold lines_All_L2
    refine IfB.dec (fun hlt => ?_) (fun hge => ?_)
    · cases rest with
      | nil => rw [e] at hlt; simp at hlt
      | cons x rest =>
        have hx := hmem x (by rw [e]; simp)
        have hdl : done.length < ps.length := by rw [e]; simp
        refine ⟨x, ⟨Int.natCast_nonneg _, by rw [e]; simp⟩, (Lib.cut x [35]).1, (Lib.cut x [35]).2.1, (Lib.cut x [35]).2.2, ⟨by unfold Short; omega, 35, rfl, rfl⟩, ?_⟩
        have ew : ∀ A : Prop, A → IfB (Lib.cut x [35]).2.2 A A := fun A h => IfB.intro (fun _ => h) (fun _ => h)
        refine ew _ ?_
        obtain ⟨m1, m2⟩ := head_mem (s := x)
        refine ⟨wordsOf x, ⟨by unfold Short; unfold head35 at m2; omega, fun b hb => ?_, rfl⟩, ?_⟩
        · have := hx.1 b (m1 b hb); unfold mayB at this; omega
        have hw : IntKind.i64.wrap ((done.length : Int) + 1) = ((done ++ [x]).length : Int) := by rw [wrap64 (by constructor <;> omega)]; simp
        have hps : ps = (done ++ [x]) ++ rest := by rw [e]; simp
        have hj2 := hj
        have hcons : linesFrom (done.length : Int) (x :: rest) = if 0 < (wordsOf x).length then ((done.length : Int) + 1, wordsOf x) :: linesFrom ((done.length : Int) + 1) rest else linesFrom ((done.length : Int) + 1) rest := rfl
        rw [hcons] at hj2
        have ec : ((done ++ [x]).length : Int) = (done.length : Int) + 1 := by simp
        have em : ps.length - ((done ++ [x]).length : Int).toNat < ps.length - (done.length : Int).toNat := by simp; omega
        rw [hw]
        refine IfB.dec (fun hpos => ?_) (fun hpos => ?_)
        · rw [if_pos (by omega)] at hj2
          refine ⟨by unfold Fits; simp; omega, hX _ ⟨done ++ [x], rest, hps, rfl, by simp; omega, ?_⟩ em⟩
          simp only [ec, List.append_assoc, List.singleton_append]
          exact hj2
        · rw [if_neg (by omega)] at hj2
          refine hX _ ⟨done ++ [x], rest, hps, rfl, by simp; omega, ?_⟩ em
          simp only [ec]
          exact hj2
    · have : rest = [] := by
        cases rest with
        | nil => rfl
        | cons x r => rw [e] at hge; simp at hge; omega
      subst this
      simp only [linesFrom, List.append_nil] at hj
      rw [hj]

/-- What is told of lines: by rising numbers, with words. -/
def Rising (lo hi : Int) : List (Int × List (List UInt8)) → Prop
  | [] => True
  | x :: l => lo < x.1 ∧ x.1 ≤ hi ∧ 0 < x.2.length ∧ Rising x.1 hi l
theorem Rising.lower {lo lo' hi : Int} (h : lo' ≤ lo) : ∀ {l : List (Int × List (List UInt8))}, Rising lo hi l → Rising lo' hi l
  | [], _ => trivial
  | x :: l, ⟨a, b⟩ => ⟨by omega, b⟩
theorem linesFrom_rising : ∀ (l : List (List UInt8)) (k : Int), Rising k (k + l.length) (linesFrom k l)
  | [], k => trivial
  | s :: l, k => by
    have ih := linesFrom_rising l (k + 1)
    have e : k + 1 + (l.length : Int) = k + ((s :: l).length : Int) := by simp; omega
    rw [e] at ih
    unfold linesFrom
    split
    · rename_i hw
      exact ⟨by simp; omega, by simp; omega, hw, ih⟩
    · exact ih.lower (by omega)

theorem Rising.at {hi : Int} : ∀ {l : List (Int × List (List UInt8))} {lo : Int} {i : Nat} {x : Int × List (List UInt8)}, Rising lo hi l → l[i]? = some x → 0 < x.2.length ∧ x.1 ≤ hi ∧ (∀ y, i ≠ 0 → l[i - 1]? = some y → y.1 < x.1) ∧ lo < x.1
  | [], _, i, x, _, h => by simp at h
  | z :: l, lo, 0, x, hr, h => by
    simp at h; subst h
    exact ⟨hr.2.2.1, hr.2.1, fun y h => absurd rfl h, hr.1⟩
  | z :: l, lo, i + 1, x, hr, h => by
    simp at h
    obtain ⟨h1, h2, h3, h4⟩ := Rising.at hr.2.2.2 h
    refine ⟨h1, h2, fun y _ hy => ?_, by have := hr.1; omega⟩
    cases i with
    | zero => simp at hy; subst hy; exact h4
    | succ i => simp at hy; exact h3 y (by omega) (by simpa using hy)

theorem head_none {s : List UInt8} (h : ∀ b, b ∈ s → b ≠ 35) : head35 s = s := by
  unfold head35
  rw [cut_one]
  induction s with
  | nil => rfl
  | cons b l ih =>
    rw [List.takeWhile_cons_of_pos (by simpa using h b (by simp)), ih fun c hc => h c (by simp [hc])]
def wlen (l : List (List UInt8)) : Nat := (l.map fun x => x.length + 1).sum
theorem fields_wlen : ∀ (l cur : List UInt8), wlen (Lib.fieldsGo cur l) ≤ cur.length + l.length + 1
  | [], cur => by cases cur <;> simp [Lib.fieldsGo, wlen]
  | b :: l, cur => by
    have i1 := fields_wlen l []
    have i2 := fields_wlen l (cur ++ [b])
    unfold Lib.fieldsGo
    split
    · cases cur with
      | nil => simp at i1 ⊢; omega
      | cons c t => simp [wlen] at i1 ⊢; omega
    · simp at i2 ⊢; omega
theorem wlen_len (l : List (List UInt8)) : l.length ≤ wlen l := by
  induction l with
  | nil => simp [wlen]
  | cons x l ih => simp [wlen] at ih ⊢; omega
theorem tail_len (c : UInt8) (l : List (List UInt8)) : (Lib.joinTail [c] l).length = wlen l := by
  induction l with
  | nil => rfl
  | cons x l ih =>
    simp only [Lib.joinTail, wlen, List.map_cons, List.flatten_cons, List.length_append, List.length_cons, List.length_nil, List.sum_cons] at ih ⊢
    omega
theorem join_len (c : UInt8) (l : List (List UInt8)) : (Lib.join l [c]).length ≤ wlen l := by
  cases l with
  | nil => rw [Lib.join_nil]; exact Nat.zero_le _
  | cons x l =>
    rw [Lib.join_cons, List.length_append, tail_len]
    simp [wlen]

theorem strings_Join_says {l : List (List UInt8)} {c : UInt8} (h : wlen l ≤ 1000000) : strings_Join l [c] (Lib.join l [c]) :=
  ⟨by have := wlen_len l; omega, by have := join_len c l; omega, rfl⟩

abbrev Ws := List (List UInt8)
abbrev Ls := List (Int × Ws)
theorem u8 {b : UInt8} {c : Nat} (hc : c < 256) : b.toNat = c ↔ b = c.toUInt8 := by
  constructor
  · intro h; subst h; simp
  · rintro rfl; simp; omega

/-- Words of a text are short, joined. -/
theorem all_wlen (s : List UInt8) : ∀ x, x ∈ allL s → wlen x.2 ≤ s.length + 1 := by
  have key : ∀ (l : List (List UInt8)) (k : Int), (∀ y, y ∈ l → y.length ≤ s.length) → ∀ x, x ∈ linesFrom k l → wlen x.2 ≤ s.length + 1 := by
    intro l
    induction l with
    | nil => intro k _ x hx; simp [linesFrom] at hx
    | cons y l ih =>
      intro k hy x hx
      have hx' : x ∈ (if 0 < (wordsOf y).length then (k + 1, wordsOf y) :: linesFrom (k + 1) l else linesFrom (k + 1) l) := hx
      have one : wlen (wordsOf y) ≤ s.length + 1 := by
        have h1 := fields_wlen (head35 y) []
        have h2 := (head_mem (s := y)).2
        have h3 := hy y (by simp)
        unfold wordsOf Lib.fields
        simp at h1
        omega
      split at hx'
      · rcases List.mem_cons.1 hx' with rfl | hx'
        · exact one
        · exact ih _ (fun z hz => hy z (by simp [hz])) x hx'
      · exact ih _ (fun z hz => hy z (by simp [hz])) x hx'
  exact key _ 0 fun y hy => (split_mem hy).2

/-- A sign that is no ASCII, as bytes. -/
theorem fields_word : ∀ (w t cur : List UInt8), (∀ b, b ∈ w → Lib.isSp b = false) → Lib.fieldsGo cur (w ++ t) = Lib.fieldsGo (cur ++ w) t
  | [], t, cur, _ => by simp
  | b :: w, t, cur, h => by
    rw [List.cons_append, Lib.fieldsGo, if_neg (by rw [h b (by simp)]; simp), fields_word w t (cur ++ [b]) fun c hc => h c (by simp [hc])]
    simp
theorem fields_tail : ∀ (r : List (List UInt8)) (cur : List UInt8), cur ≠ [] → (∀ w, w ∈ r → w ≠ [] ∧ ∀ b, b ∈ w → Lib.isSp b = false) → Lib.fieldsGo cur (Lib.joinTail [32] r) = cur :: r
  | [], cur, h, _ => by cases cur <;> simp [Lib.joinTail, Lib.fieldsGo] at h ⊢
  | y :: r, cur, h, hr => by
    obtain ⟨h1, h2⟩ := hr y (by simp)
    have e : Lib.joinTail [32] (y :: r) = 32 :: (y ++ Lib.joinTail [32] r) := by simp [Lib.joinTail]
    have e2 : Lib.fieldsGo cur (32 :: (y ++ Lib.joinTail [32] r)) = if cur.isEmpty then Lib.fieldsGo [] (y ++ Lib.joinTail [32] r) else cur :: Lib.fieldsGo [] (y ++ Lib.joinTail [32] r) := rfl
    rw [e, e2, fields_word _ _ _ h2, List.nil_append, fields_tail r y h1 fun w hw => hr w (by simp [hw])]
    cases cur with
    | nil => exact absurd rfl h
    | cons c t => rfl
theorem fields_join {l : List (List UInt8)} (h : ∀ w, w ∈ l → w ≠ [] ∧ ∀ b, b ∈ w → Lib.isSp b = false) : Lib.fields (Lib.join l [32]) = l := by
  cases l with
  | nil => rfl
  | cons x r =>
    obtain ⟨h1, h2⟩ := h x (by simp)
    unfold Lib.fields
    rw [Lib.join_cons, fields_word _ _ _ h2, List.nil_append, fields_tail r x h1 fun w hw => h w (by simp [hw])]

theorem join_mem : ∀ {l : List (List UInt8)} {b : UInt8}, b ∈ Lib.join l [32] → b = 32 ∨ ∃ w, w ∈ l ∧ b ∈ w
  | [], b, h => by rw [Lib.join_nil] at h; simp at h
  | x :: r, b, h => by
    rw [Lib.join_cons, List.mem_append] at h
    rcases h with h | h
    · exact .inr ⟨x, by simp, h⟩
    · unfold Lib.joinTail at h
      rw [List.mem_flatten] at h
      obtain ⟨t, ht, hb⟩ := h
      rw [List.mem_map] at ht
      obtain ⟨w, hw, rfl⟩ := ht
      simp only [List.mem_append, List.mem_singleton] at hb
      rcases hb with h | h
      · exact .inl h
      · exact .inr ⟨w, by simp [hw], h⟩

end Go.Abs
end

section
/- Chapter 13 plain: numbers read, of both; rows of fractions held against one another. -/
namespace Go.Abs
open Go
set_option linter.unusedVariables false
set_option linter.unusedSimpArgs false
set_option linter.unnecessarySimpa false

abbrev Q3 := Bool × List Int × List Int
/-- Is a text a number? -/
def isN (w : By) : Prop := (ratR w).2.2.2 = 0
instance (w : By) : Decidable (isN w) := inferInstanceAs (Decidable (_ = _))
/-- The number of a text. -/
def numOf (w : By) : Q3 := ((ratR w).1, (ratR w).2.1, (ratR w).2.2.1)

theorem lines_Number_says (w : By) (hl : w.length ≤ 1000000) : lines_Number w (if isN w then ((numOf w).1, (numOf w).2.1, (numOf w).2.2, true) else (false, [], words 1, false)) := by
  unfold lines_Number
  have h := rat_Parse_says w hl
  refine ⟨(ratR w).1, (ratR w).2.1, (ratR w).2.2.1, (ratR w).2.2.2, h, IfB.neI (fun he => ?_) (fun he => ?_)⟩
  · rw [if_neg (show ¬ isN w from he)]; exact ⟨_, _, _, rat_Int0, rfl⟩
  · rw [if_pos (show isN w from he)]; rfl

theorem proof_numbers_says (l : List By) (hl : l.length ≤ 100000) (hw : ∀ w, w ∈ l → w.length ≤ 1000000) : proof_numbers l (if ∀ w, w ∈ l → isN w then (l.map numOf, decide (l.length ≤ 180)) else ([], false)) := by
  unfold proof_numbers
  refine LoopP.intro (fun z : Int × List Q3 => ∃ k : Nat, z.1 = k ∧ k ≤ l.length ∧ (∀ w, w ∈ l.take k → isN w) ∧ z.2 = (l.take k).map numOf) (fun z => l.length - z.1.toNat) ⟨0, rfl, by omega, by simp, by simp⟩ ?_
  rintro X ⟨z1, z2⟩ ⟨k, h1, hk, hn, h2⟩ hX
  simp only at h1 h2
  subst h1 h2
  unfold proof_numbers_L1
  dsimp only
  refine IfB.dec (fun h => ?_) (fun h => ?_)
  · have hkl : k < l.length := by omega
    have htk : l.take (k + 1) = l.take k ++ [l[k]] := by rw [List.take_add_one, List.getElem?_eq_getElem hkl]; rfl
    have hs := lines_Number_says l[k] (hw _ (List.getElem_mem hkl))
    refine ⟨_, Idx.nat hkl, ?_⟩
    by_cases hk2 : isN l[k]
    · rw [if_pos hk2] at hs
      refine ⟨_, _, _, true, hs, IfB_true.2 ⟨?_, ?_⟩⟩
      · unfold Fits; simp; omega
      · rw [wrap64' (by omega) (by omega)]
        refine hX _ ⟨k + 1, by dsimp only; omega, by omega, fun w hw => ?_, ?_⟩ (by dsimp only; omega)
        · rw [htk] at hw
          rcases List.mem_append.1 hw with hw | hw
          · exact hn w hw
          · simp at hw; subst hw; exact hk2
        · dsimp only
          rw [htk, List.map_append]; rfl
    · rw [if_neg hk2] at hs
      refine ⟨_, _, _, false, hs, IfB_false.2 ?_⟩
      rw [if_neg (fun h => hk2 (h _ (List.getElem_mem hkl)))]
  · have : k = l.length := by omega
    subst this
    rw [List.take_length] at hn ⊢
    rw [if_pos hn, List.length_map]
    exact IfB.dec (fun h => by rw [decide_eq_true (by omega)]) (fun h => by rw [decide_eq_false (by omega)])

/-- Digits, at most 400. -/
def dgOK (s : By) : Prop := s ≠ [] ∧ allDg s ∧ s.length ≤ 400
instance (s : By) : Decidable (dgOK s) := inferInstanceAs (Decidable (_ ∧ _))
/-! ### rows of fractions -/
end Go.Abs
end

section
/- Chapter 13 plain: what the document's reference takes for a number. -/
namespace Go.Abs
open Go
set_option linter.unusedVariables false
set_option linter.unusedSimpArgs false
set_option linter.unnecessarySimpa false

def allZ (s : By) : Prop := ∀ c, c ∈ s → c = 48
instance (s : By) : Decidable (allZ s) := inferInstanceAs (Decidable (∀ c, c ∈ s → c = 48))
theorem cut_no {a : By} {c : UInt8} (h : ∀ x, x ∈ a → x ≠ c) : Lib.cut a [c] = (a, [], false) := by
  have hi : Lib.index a [c] = -1 := by
    rw [Lib.index_one]
    induction a with
    | nil => rfl
    | cons x l ih =>
      have hx := h x (by simp)
      have := ih fun y hy => h y (by simp [hy])
      simp [Lib.indexByte, hx, this]
  unfold Lib.cut
  rw [hi]
  simp


end Go.Abs
end

section
/- Chapter 13 plain: a proof's lines, read by both. -/
namespace Go.Abs
open Go
set_option linter.unusedVariables false
set_option linter.unusedSimpArgs false
set_option linter.unnecessarySimpa false

abbrev Ln := List (Int × List By)
/-- Is a line one of numbers, behind a word? -/
def okP (kw : By) (ws : List By) : Prop := ws.head? = some kw ∧ ws.length ≤ 181 ∧ ∀ w, w ∈ ws.tail → isN w
instance (kw : By) (ws : List By) : Decidable (okP kw ws) := inferInstanceAs (Decidable (_ ∧ _ ∧ _))
/-- Lines that can be. -/
def lnOK (l : Ln) : Prop := ∀ x, x ∈ l → x.2 ≠ [] ∧ x.2.length ≤ 100000 ∧ ∀ w, w ∈ x.2 → w.length ≤ 1000000
theorem sub_tail {α : Type} (a : α) (l : List α) : sub (a :: l) (1 : Int) ((a :: l).length : Int) = l := by unfold sub; simp
theorem subok_tail {α : Type} (a : α) (l : List α) : SubOk (a :: l) (1 : Int) ((a :: l).length : Int) := ⟨by omega, by simp; omega, by omega⟩
theorem idx0 {α : Type} (a : α) (l : List α) : Idx (a :: l) (0 : Int) a := ⟨by omega, rfl⟩

theorem stepP {rest : Ln} {E0 : Prop} {E : Int → Prop} {N : Int → List Q3 → Prop} {kw : By} (hr : lnOK rest) (h0 : rest = [] → E0)
    (h1 : ∀ a ws r, rest = (a, ws) :: r → (okP kw ws → N a (ws.tail.map numOf)) ∧ (¬ okP kw ws → E a)) :
    IfB ((rest.length : Int) == (0 : Int)) E0
      (∃ (x26 : Int) (x27 : List (List UInt8)), Idx rest (0 : Int) (x26, x27) ∧
      SubOk x27 (1 : Int) (x27.length : Int) ∧
      ∃ (x30 : List (Bool × (List Int) × (List Int))) (x31 : Bool), proof_numbers (sub x27 (1 : Int) (x27.length : Int)) (x30, x31) ∧
      IfB x31
        (∃ (x33 : Int) (x34 : List (List UInt8)), Idx rest (0 : Int) (x33, x34) ∧
        ∃ (x36 : List UInt8), Idx x34 (0 : Int) x36 ∧
        IfB (!(x36 == kw))
          (∃ (x38 : Int) (x39 : List (List UInt8)), Idx rest (0 : Int) (x38, x39) ∧ E x38)
          (∃ (x41 : Int) (x42 : List (List UInt8)), Idx rest (0 : Int) (x41, x42) ∧
          SubOk rest (1 : Int) (rest.length : Int) ∧ N x41 x30))
        (∃ (x86 : Int) (x87 : List (List UInt8)), Idx rest (0 : Int) (x86, x87) ∧
        ∃ (x89 : List UInt8), Idx x87 (0 : Int) x89 ∧
        IfB (!(x89 == kw))
          (∃ (x91 : Int) (x92 : List (List UInt8)), Idx rest (0 : Int) (x91, x92) ∧ E x91)
          (∃ (x94 : Int) (x95 : List (List UInt8)), Idx rest (0 : Int) (x94, x95) ∧ E x94))) := by
  cases rest with
  | nil => exact IfB_true.2 (h0 rfl)
  | cons x r =>
    obtain ⟨a, ws⟩ := x
    obtain ⟨hne, hl, hwl⟩ := hr (a, ws) (by simp)
    dsimp only at hne hl hwl
    obtain ⟨hN, hE⟩ := h1 a ws r rfl
    refine IfB.eqI (fun h => by simp at h; omega) (fun _ => ?_)
    cases ws with
    | nil => exact absurd rfl hne
    | cons w l =>
      have hp := proof_numbers_says l (by simp at hl; omega) (fun v hv => hwl v (by simp [hv]))
      refine ⟨a, w :: l, idx0 _ _, subok_tail _ _, ?_⟩
      rw [sub_tail]
      by_cases hn : ∀ v, v ∈ l → isN v
      · rw [if_pos hn] at hp
        refine ⟨_, _, hp, IfB.dec (fun h => ?_) (fun h => ?_)⟩
        · refine ⟨a, w :: l, idx0 _ _, w, idx0 _ _, IfB.intro (fun hk => ⟨a, w :: l, idx0 _ _, hE fun ho => ?_⟩) (fun hk => ⟨a, w :: l, idx0 _ _, subok_tail _ _, hN ⟨?_, ?_, hn⟩⟩)⟩
          · have := ho.1
            simp at this hk
            exact hk this
          · simp at hk; simp [hk]
          · simp; omega
        · have : ¬ okP kw (w :: l) := fun ho => h (by have := ho.2.1; simp at this; omega)
          exact ⟨a, w :: l, idx0 _ _, w, idx0 _ _, IfB.intro (fun _ => ⟨a, w :: l, idx0 _ _, hE this⟩) (fun _ => ⟨a, w :: l, idx0 _ _, hE this⟩)⟩
      · rw [if_neg hn] at hp
        have : ¬ okP kw (w :: l) := fun ho => hn ho.2.2
        exact ⟨_, _, hp, IfB_false.2 ⟨a, w :: l, idx0 _ _, w, idx0 _ _, IfB.intro (fun _ => ⟨a, w :: l, idx0 _ _, hE this⟩) (fun _ => ⟨a, w :: l, idx0 _ _, hE this⟩)⟩⟩

theorem endP {rest : Ln} {E : Int → Prop} {N : Prop} (h0 : rest = [] → N) (h1 : ∀ a ws r, rest = (a, ws) :: r → E a) :
    IfB (decide ((rest.length : Int) > (0 : Int))) (∃ (x83 : Int) (x84 : List (List UInt8)), Idx rest (0 : Int) (x83, x84) ∧ E x83) N := by
  cases rest with
  | nil => exact IfB.dec (fun h => by simp at h) (fun _ => h0 rfl)
  | cons x r =>
    obtain ⟨a, ws⟩ := x
    exact IfB.dec (fun _ => ⟨a, ws, idx0 _ _, h1 a ws r rfl⟩) (fun h => absurd (by simp) h)

/-- The verdict of a first line. -/
def verd (w : List By) : Nat := if w = [[111, 112, 116, 105, 109, 97, 108]] then 1 else if w = [[105, 110, 102, 101, 97, 115, 105, 98, 108, 101]] then 2 else if w = [[117, 110, 98, 111, 117, 110, 100, 101, 100]] then 3 else 0
/-- The lines behind it: which is amiss, or their numbers' texts. -/
def lnR : List By → Int → Ln → Int ⊕ List (List By)
  | [], _, [] => .inr []
  | [], _, (a, _) :: _ => .inl a
  | _ :: _, last, [] => .inl last
  | kw :: ks, last, (a, ws) :: r => if okP kw ws then (match lnR ks a r with | .inl e => .inl e | .inr l => .inr (ws.tail :: l)) else .inl a
def kws (v : Nat) : List By := if v = 1 then [[120], [121]] else if v = 2 then [[121]] else [[120], [114, 97, 121]]
abbrev PT := Int × List By × List By × List By
/-- What a text's lines say: the line that is amiss, or verdict, x, y, ray. -/
def says13 : Ln → Int ⊕ PT
  | [] => .inl 0
  | (a, w) :: r =>
    if verd w = 0 then .inl a
    else match lnR (kws (verd w)) a r with
      | .inl e => .inl e
      | .inr l => .inr (if verd w = 1 then (1, l.getD 0 [], l.getD 1 [], []) else if verd w = 2 then (2, [], l.getD 0 [], []) else (3, l.getD 0 [], [], l.getD 1 []))
theorem says13_cons (a : Int) (w : List By) (r : Ln) : says13 ((a, w) :: r) = if verd w = 0 then .inl a else match lnR (kws (verd w)) a r with
      | .inl e => .inl e
      | .inr l => .inr (if verd w = 1 then (1, l.getD 0 [], l.getD 1 [], []) else if verd w = 2 then (2, [], l.getD 0 [], []) else (3, l.getD 0 [], [], l.getD 1 [])) := by rfl
def resP (x : Int ⊕ PT) : Int × List Q3 × List Q3 × List Q3 × Int × Int := match x with | .inl e => (0, [], [], [], e, 2) | .inr (v, x, y, z) => (v, x.map numOf, y.map numOf, z.map numOf, 0, 0)
theorem lnOK_tail {x : Int × List By} {l : Ln} (h : lnOK (x :: l)) : lnOK l := fun y hy => h y (by simp [hy])


theorem verd_le (w : List By) : verd w ≤ 3 := by unfold verd; split <;> (try split) <;> (try split) <;> omega
theorem verd_1 {w : List By} : verd w = 1 ↔ w = [[111, 112, 116, 105, 109, 97, 108]] := by
  unfold verd
  by_cases h : w = [[111, 112, 116, 105, 109, 97, 108]]
  · simp [h]
  · rw [if_neg h]; constructor
    · intro h'; split at h' <;> (try split at h') <;> omega
    · intro h'; exact absurd h' h
theorem verd_2 {w : List By} : verd w = 2 ↔ w = [[105, 110, 102, 101, 97, 115, 105, 98, 108, 101]] := by
  unfold verd
  by_cases h : w = [[105, 110, 102, 101, 97, 115, 105, 98, 108, 101]]
  · subst h; simp
  · constructor
    · intro h'
      repeat' split at h'
      all_goals first | omega | contradiction
    · intro h'; exact absurd h' h
theorem verd_3 {w : List By} : verd w = 3 ↔ w = [[117, 110, 98, 111, 117, 110, 100, 101, 100]] := by
  unfold verd
  by_cases h : w = [[117, 110, 98, 111, 117, 110, 100, 101, 100]]
  · subst h; simp
  · constructor
    · intro h'
      repeat' split at h'
      all_goals first | omega | contradiction
    · intro h'; exact absurd h' h

theorem proof_words_lines (a : Int) (w : List By) (rest : Ln) (hok : lnOK ((a, w) :: rest)) (R : Int × List Q3 × List Q3 × List Q3 × Int × Int) (hR : R = resP (says13 ((a, w) :: rest))) :
    LoopP (proof_Parse_L1 ((a, w) :: rest) [] [111, 112, 116, 105, 109, 97, 108] [105, 110, 102, 101, 97, 115, 105, 98, 108, 101] [117, 110, 98, 111, 117, 110, 100, 101, 100] R) ((0 : Int), (0 : Int)) := by
  refine LoopP.intro (fun z : Int × Int => ∃ k : Nat, z.1 = k ∧ k ≤ 4 ∧ z.2 = ((if verd w < k then verd w else 0 : Nat) : Int)) (fun z => 4 - z.1.toNat) ⟨0, rfl, by omega, by simp⟩ ?_
  rintro X ⟨z1, z2⟩ ⟨k, h1, hk, h2⟩ hX
  simp only at h1 h2
  subst h1 h2
  unfold proof_Parse_L1
  dsimp only
  have hw := (hok (a, w) (by simp)).1
  dsimp only at hw
  refine IfB.dec (fun h => ?_) (fun h => ?_)
  · have next : ∀ v : Int, v = ((if verd w < k + 1 then verd w else 0 : Nat) : Int) → X (IntKind.i64.wrap ((k : Int) + 1), v) := fun v hv => by
      rw [wrap64' (by omega) (by omega)]
      exact hX _ ⟨k + 1, by dsimp only; omega, by omega, hv⟩ (by dsimp only; omega)
    have keep : verd w ≠ k → X (IntKind.i64.wrap ((k : Int) + 1), ((if verd w < k then verd w else 0 : Nat) : Int)) := fun hv => next _ (by
      congr 1
      by_cases h' : verd w < k
      · rw [if_pos h', if_pos (by omega)]
      · rw [if_neg h', if_neg (by omega)])
    have round : ∀ x9 : By, 0 < k → (verd w = k ↔ w = [x9]) → ∃ (x11 : Int) (x12 : List (List UInt8)), Idx ((a, w) :: rest) (0 : Int) (x11, x12) ∧
      IfB ((x12.length : Int) == (1 : Int))
        (∃ (x14 : Int) (x15 : List (List UInt8)), Idx ((a, w) :: rest) (0 : Int) (x14, x15) ∧
        ∃ (x17 : List UInt8), Idx x15 (0 : Int) x17 ∧
        IfB (x17 == x9)
          (X ((IntKind.i64.wrap ((k : Int) + 1)), (k : Int)))
          (X ((IntKind.i64.wrap ((k : Int) + 1)), ((if verd w < k then verd w else 0 : Nat) : Int))))
        (X ((IntKind.i64.wrap ((k : Int) + 1)), ((if verd w < k then verd w else 0 : Nat) : Int))) := fun x9 h0 hiff => by
      refine ⟨a, w, idx0 _ _, IfB.eqI (fun h1 => ?_) (fun h1 => keep fun hv => h1 (by rw [hiff.1 hv]; rfl))⟩
      cases w with
      | nil => exact absurd rfl hw
      | cons y l =>
        have hl : l = [] := by simp at h1; exact List.length_eq_zero_iff.1 (by omega)
        subst hl
        refine ⟨a, [y], idx0 _ _, y, idx0 _ _, IfB.intro (fun h2 => ?_) (fun h2 => keep fun hv => ?_)⟩
        · have h2 : y = x9 := by simpa using h2
          have hv := hiff.2 (by rw [h2])
          exact next _ (by rw [hv, if_pos (by omega)])
        · have := hiff.1 hv
          simp at this h2
          exact h2 this
    match k, hk, h with
    | 0, _, _ => exact ⟨[], idx0 _ _, IfB.dec (fun h => by simp at h) (fun _ => by
        refine next _ ?_
        by_cases h' : verd w < 1
        · have : verd w = 0 := by omega
          simp [this]
        · simp [h'])⟩
    | 1, _, _ => exact ⟨[111, 112, 116, 105, 109, 97, 108], ⟨by omega, rfl⟩, IfB.dec (fun _ => round _ (by omega) verd_1) (fun h => absurd (by omega) h)⟩
    | 2, _, _ => exact ⟨[105, 110, 102, 101, 97, 115, 105, 98, 108, 101], ⟨by omega, rfl⟩, IfB.dec (fun _ => round _ (by omega) verd_2) (fun h => absurd (by omega) h)⟩
    | 3, _, _ => exact ⟨[117, 110, 98, 111, 117, 110, 100, 101, 100], ⟨by omega, rfl⟩, IfB.dec (fun _ => round _ (by omega) verd_3) (fun h => absurd (by omega) h)⟩
    | k + 4, hk, h => omega
  · have hk4 : k = 4 := by omega
    subst hk4
    have hv3 := verd_le w
    rw [if_pos (by omega)]
    clear hX h
    have hrest := lnOK_tail hok
    have R0 : ∀ e, says13 ((a, w) :: rest) = .inl e → R = (0, [], [], [], e, 2) := fun e h => by rw [hR, h]; rfl
    have R1 : ∀ v x y z, says13 ((a, w) :: rest) = .inr (v, x, y, z) → R = (v, x.map numOf, y.map numOf, z.map numOf, 0, 0) := fun v x y z h => by rw [hR, h]; rfl
    clear hR
    refine IfB.eqI (fun h => ⟨a, w, idx0 _ _, R0 _ ?_⟩) (fun h => ⟨a, w, idx0 _ _, subok_tail _ _, ?_⟩)
    · rw [says13_cons, if_pos (by omega)]
    simp only [sub_tail]
    have hne : ¬ verd w = 0 := by omega
    have hs : says13 ((a, w) :: rest) = match lnR (kws (verd w)) a rest with
      | .inl e => .inl e
      | .inr l => .inr (if verd w = 1 then (1, l.getD 0 [], l.getD 1 [], []) else if verd w = 2 then (2, [], l.getD 0 [], []) else (3, l.getD 0 [], [], l.getD 1 [])) := by
      rw [says13_cons, if_neg hne]
    rw [hs] at R0 R1
    clear hs h
    have h123 : verd w = 1 ∨ verd w = 2 ∨ verd w = 3 := by omega
    rcases h123 with hv | hv | hv
    · rw [hv] at R0 R1 ⊢
      simp only [kws, if_true] at R0 R1
      refine IfB.neI (fun _ => IfB.neI (fun _ => ?_) (fun h => absurd h (by omega))) (fun h => absurd h (by omega))
      refine stepP (kw := [120]) hrest (fun h => R0 _ (by subst h; rfl)) (fun a1 w1 r1 h => ⟨fun ho => ?_, fun hn => R0 _ (by subst h; simp only [lnR, if_neg hn])⟩)
      subst h
      simp only [sub_tail]
      refine stepP (kw := [121]) (lnOK_tail hrest) (fun h => R0 _ (by subst h; simp only [lnR, if_pos ho])) (fun a2 w2 r2 h => ⟨fun ho2 => ?_, fun hn => R0 _ (by subst h; simp only [lnR, if_pos ho, if_neg hn])⟩)
      subst h
      simp only [sub_tail]
      refine endP (fun h => R1 _ w1.tail w2.tail [] (by subst h; simp only [lnR, if_pos ho, if_pos ho2]; rfl)) (fun a3 w3 r3 h => R0 _ (by subst h; simp only [lnR, if_pos ho, if_pos ho2]))
    · rw [hv] at R0 R1 ⊢
      simp only [kws, show ¬ (2 : Nat) = 1 by omega, if_false, if_true] at R0 R1
      refine IfB.neI (fun h => absurd rfl h) (fun _ => ?_)
      refine stepP (kw := [121]) hrest (fun h => R0 _ (by subst h; rfl)) (fun a1 w1 r1 h => ⟨fun ho => ?_, fun hn => R0 _ (by subst h; simp only [lnR, if_neg hn])⟩)
      subst h
      simp only [sub_tail]
      refine endP (fun h => R1 _ [] w1.tail [] (by subst h; simp only [lnR, if_pos ho]; rfl)) (fun a3 w3 r3 h => R0 _ (by subst h; simp only [lnR, if_pos ho]))
    · rw [hv] at R0 R1 ⊢
      simp only [kws, show ¬ (3 : Nat) = 1 by omega, show ¬ (3 : Nat) = 2 by omega, if_false] at R0 R1
      refine IfB.neI (fun _ => IfB.neI (fun h => absurd rfl h) (fun _ => ?_)) (fun h => absurd h (by omega))
      refine stepP (kw := [120]) hrest (fun h => R0 _ (by subst h; rfl)) (fun a1 w1 r1 h => ⟨fun ho => ?_, fun hn => R0 _ (by subst h; simp only [lnR, if_neg hn])⟩)
      subst h
      simp only [sub_tail]
      refine stepP (kw := [114, 97, 121]) (lnOK_tail hrest) (fun h => R0 _ (by subst h; simp only [lnR, if_pos ho])) (fun a2 w2 r2 h => ⟨fun ho2 => ?_, fun hn => R0 _ (by subst h; simp only [lnR, if_pos ho, if_neg hn])⟩)
      subst h
      simp only [sub_tail]
      refine endP (fun h => R1 _ w1.tail [] w2.tail (by subst h; simp only [lnR, if_pos ho, if_pos ho2]; rfl)) (fun a3 w3 r3 h => R0 _ (by subst h; simp only [lnR, if_pos ho, if_pos ho2]))

theorem proof_Parse_says (s : By) (hl : s.length ≤ 3000) (hr : RightP s) (hok : lnOK (allL s)) : proof_Parse s (if allL s = [] then (0, [], [], [], 0, 2) else resP (says13 (allL s))) := by
  unfold proof_Parse
  refine ⟨_, _, lines_All_says (by omega) hr, IfB.neI (fun h => absurd rfl h) (fun _ => IfB.eqI (fun h => ?_) (fun h => ?_))⟩
  · rw [if_pos (List.length_eq_zero_iff.1 (by omega))]
  · cases ha : allL s with
    | nil => rw [ha] at h; simp at h
    | cons x rest =>
      obtain ⟨a, w⟩ := x
      rw [ha] at hok
      rw [if_neg (by simp)]
      exact ⟨_, _, _, _, rfl, proof_words_lines a w rest hok _ rfl⟩
/-! ### the document's reference -/
end Go.Abs
end

section
/- Chapter 13 plain: the document's reference of a proof's text. -/
namespace Go.Abs
open Go
set_option linter.unusedVariables false
set_option linter.unusedSimpArgs false
set_option linter.unnecessarySimpa false

end Go.Abs
end

section
/- Chapter 13 plain: ProofParses. -/
namespace Go.Abs
open Go
set_option linter.unusedVariables false
set_option linter.unusedSimpArgs false
set_option linter.unnecessarySimpa false

theorem awk13 (A B : Prop) (h : A) : ∃ x : Bool, offcutlaw13_awake x ∧ IfB x A B := ⟨true, rfl, IfB_true.2 h⟩

theorem wlen_mem {l : List By} {w : By} (h : w ∈ l) : w.length ≤ wlen l := by
  induction l with
  | nil => simp at h
  | cons x l ih =>
    have e : wlen (x :: l) = x.length + 1 + wlen l := by simp [wlen]
    rw [e]
    rcases List.mem_cons.1 h with rfl | h
    · omega
    · have := ih h; omega
theorem allL_ok {s : By} (hl : s.length ≤ 100000 - 1) : lnOK (allL s) ∧ (allL s).length ≤ s.length + 1 := by
  refine ⟨fun x hx => ?_, ?_⟩
  · obtain ⟨i, hi⟩ := List.mem_iff_getElem?.1 hx
    have h1 := Rising.at (linesFrom_rising (splitC 10 s) 0) hi
    have h2 := all_wlen s x hx
    have h3 := wlen_len x.2
    exact ⟨List.length_pos_iff.1 h1.1, by omega, fun w hw => by have := wlen_mem hw; omega⟩
  · have h1 := linesFrom_length (splitC 10 s) 0
    have h2 := split_len (c := 10) (s := s)
    have h3 := List.count_le_length (a := (10 : UInt8)) (l := s)
    show (linesFrom 0 (splitC 10 s)).length ≤ _
    omega

end Go.Abs
end

section
/- Numbers as decimal texts, plain. -/
namespace Go.Abs
open Go
set_option linter.unusedVariables false
set_option linter.unusedSimpArgs false
set_option linter.unnecessarySimpa false

/-- A digit. -/
def dch (n : Nat) : UInt8 := UInt8.ofNat (48 + n)
theorem dch_nat {n : Nat} (h : n ≤ 9) : (dch n).toNat = 48 + n := by
  unfold dch; rw [UInt8.toNat_ofNat_of_lt' (by show 48 + n < 256; omega)]
theorem dch_dg {n : Nat} (h : n ≤ 9) : dg (dch n) := by unfold dg; rw [dch_nat h]; omega
/-- A number's text. -/
def decT (n : Nat) : By := if h : n < 10 then [dch n] else decT (n / 10) ++ [dch (n % 10)]
termination_by n
decreasing_by omega
theorem decT_lt {n : Nat} (h : n < 10) : decT n = [dch n] := by rw [decT]; simp [h]
theorem decT_ge {n : Nat} (h : 10 ≤ n) : decT n = decT (n / 10) ++ [dch (n % 10)] := by rw [decT]; simp [show ¬ n < 10 by omega]
theorem allDg_one {b : UInt8} (h : dg b) : allDg [b] := by intro c hc; simp at hc; subst hc; exact h
theorem allDg_cons {b : UInt8} {l : By} : allDg (b :: l) ↔ dg b ∧ allDg l := by simp [allDg]
theorem decT_facts (n : Nat) : decT n ≠ [] ∧ allDg (decT n) ∧ dV 0 (decT n) = n ∧ (0 < n → (decT n).head? ≠ some 48) := by
  induction n using Nat.strongRecOn with
  | _ n ih =>
    by_cases h : n < 10
    · rw [decT_lt h]
      refine ⟨by simp, allDg_one (dch_dg (by omega)), by rw [dV_one, dch_nat (by omega)]; omega, fun h0 => ?_⟩
      simp only [List.head?_cons, ne_eq, Option.some.injEq]
      intro e
      have := congrArg UInt8.toNat e
      rw [dch_nat (by omega)] at this
      have h48 : (48 : UInt8).toNat = 48 := rfl
      omega
    · have hi := ih (n / 10) (by omega)
      rw [decT_ge (by omega)]
      refine ⟨by simp, allDg_app.2 ⟨hi.2.1, allDg_one (dch_dg (by omega))⟩, ?_, fun _ => ?_⟩
      · rw [dV_app0, dV_one, hi.2.2.1, dch_nat (by omega)]; simp; omega
      · rw [List.head?_append]
        have := hi.2.2.2 (by omega)
        cases hh : (decT (n / 10)).head? with
        | none => exact absurd (List.head?_eq_none_iff.1 hh) hi.1
        | some c => rw [hh] at this; simpa using this
theorem decT_ne (n : Nat) : decT n ≠ [] := (decT_facts n).1
theorem decT_dg (n : Nat) : allDg (decT n) := (decT_facts n).2.1
theorem dV_decT (n : Nat) : dV 0 (decT n) = n := (decT_facts n).2.2.1
theorem decT_len : ∀ (k n : Nat), n < 10 ^ (k + 1) → (decT n).length ≤ k + 1
  | 0, n, h => by rw [decT_lt (by simpa using h)]; simp
  | k + 1, n, h => by
    by_cases hn : n < 10
    · rw [decT_lt hn]; simp
    · rw [decT_ge (by omega), List.length_append]
      have := decT_len k (n / 10) (by rw [Nat.pow_succ] at h; omega)
      simp; omega
theorem decT_pos (n : Nat) : 0 < (decT n).length := List.length_pos_iff.2 (decT_ne n)
theorem divA (q P r : Nat) (h : r < P) : (q * P + r) / P = q := by
  rw [Nat.mul_comm, Nat.mul_add_div (by omega), Nat.div_eq_of_lt h]; omega
theorem dV_eq_len : ∀ {a b : By}, allDg a → allDg b → a.length = b.length → dV 0 a = dV 0 b → a = b
  | [], [], _, _, _, _ => rfl
  | x :: a, y :: b, ha, hb, hl, hv => by
    have ha := allDg_cons.1 ha
    have hb := allDg_cons.1 hb
    have hl : a.length = b.length := by simpa using hl
    rw [dV_cons, dV_cons, dV_acc a, dV_acc b, hl] at hv
    have h1 := dV_lt a ha.2
    have h2 := dV_lt b hb.2
    rw [hl] at h1
    have h3 := ha.1; have h4 := hb.1
    unfold dg at h3 h4
    have e1 := divA (0 * 10 + (x.toNat - 48)) (10 ^ b.length) (dV 0 a) h1
    have e2 := divA (0 * 10 + (y.toNat - 48)) (10 ^ b.length) (dV 0 b) h2
    have e : x.toNat - 48 = y.toNat - 48 := by
      rw [hv] at e1
      omega
    rw [e] at hv
    have hxy : x = y := UInt8.toNat_inj.1 (by omega)
    rw [hxy, dV_eq_len ha.2 hb.2 hl (by omega)]
/-- Digits without a nought ahead are a number's text. -/
theorem decT_of {s : By} (hd : allDg s) (hne : s ≠ []) (h0 : 1 < s.length → s.head? ≠ some 48) : s = decT (dV 0 s) := by
  refine dV_eq_len hd (decT_dg _) ?_ (dV_decT _).symm
  have h1 := dV_lt s hd
  have hp := List.length_pos_iff.2 hne
  have h2 := decT_len (s.length - 1) (dV 0 s) (by rw [show s.length - 1 + 1 = s.length from by omega]; exact h1)
  rcases Nat.lt_or_ge (decT (dV 0 s)).length s.length with hlt | hge
  · exfalso
    have hp2 := decT_pos (dV 0 s)
    have h3 := dV_lt _ (decT_dg (dV 0 s))
    rw [dV_decT] at h3
    cases s with
    | nil => exact hne rfl
    | cons b l =>
      have hb := allDg_cons.1 hd
      have hb1 := hb.1
      unfold dg at hb1
      have hnb := h0 (by omega)
      simp only [List.head?_cons, ne_eq, Option.some.injEq] at hnb
      have hb48 : b.toNat ≠ 48 := fun e => hnb (UInt8.toNat_inj.1 e)
      generalize (decT (dV 0 (b :: l))).length = L at *
      rw [dV_cons, dV_acc] at h3
      have h5 : 10 ^ L ≤ 10 ^ l.length := Nat.pow_le_pow_right (by omega) (by simp at hlt; omega)
      have h6 : 1 * 10 ^ l.length ≤ (0 * 10 + (b.toNat - 48)) * 10 ^ l.length := Nat.mul_le_mul_right _ (by omega)
      omega
  · omega

end Go.Abs
end

section
/- Numbers printed: nat.Text, whole.Text, rat.Text, and read again. -/
namespace Go.Abs
open Go
set_option linter.unusedVariables false
set_option linter.unusedSimpArgs false
set_option linter.unnecessarySimpa false

/-- Digits as numbers, the last first. -/
def DG (l : List Int) : Prop := ∀ x, x ∈ l → 48 ≤ x ∧ x ≤ 57
theorem DG_nil : DG [] := by intro x hx; simp at hx
theorem DG_snoc {l : List Int} {x : Int} : DG (l ++ [x]) ↔ DG l ∧ 48 ≤ x ∧ x ≤ 57 := by
  constructor
  · intro h; exact ⟨fun y hy => h y (by simp [hy]), h x (by simp)⟩
  · rintro ⟨h, hx⟩ y hy
    rcases List.mem_append.1 hy with hy | hy
    · exact h y hy
    · obtain rfl := List.mem_singleton.1 hy; exact hx
/-- The text of digits whose last comes first. -/
def LT (l : List Int) : By := byteS l.reverse
theorem LT_len (l : List Int) : (LT l).length = l.length := by simp [LT, byteS]
theorem LT_snoc (l : List Int) (x : Int) : LT (l ++ [x]) = UInt8.ofNat x.toNat :: LT l := by simp [LT, byteS]
theorem LT_dg {l : List Int} (h : DG l) : allDg (LT l) := by
  intro b hb
  simp only [LT, byteS, List.mem_map, List.mem_reverse] at hb
  obtain ⟨x, hx, rfl⟩ := hb
  have := h x hx
  unfold dg
  rw [UInt8.toNat_ofNat_of_lt' (show x.toNat < 256 by omega)]
  omega
theorem LT_val {l : List Int} {d : Nat} (hd : d ≤ 9) : dV 0 (LT (l ++ [48 + (d : Int)])) = dV 0 (LT l) + 10 ^ l.length * d := by
  rw [LT_snoc, dV_cons, dV_acc, LT_len, show (48 + (d : Int)).toNat = 48 + d from by omega, UInt8.toNat_ofNat_of_lt' (show 48 + d < 256 by omega)]
  rw [show 0 * 10 + (48 + d - 48) = d from by omega, Nat.mul_comm]; omega

theorem tmodN (a b : Nat) : Int.tmod (a : Int) (b : Int) = ((a % b : Nat) : Int) := by rw [Int.tmod_eq_emod_of_nonneg (by omega)]; rfl
theorem tdivN (a b : Nat) : Int.tdiv (a : Int) (b : Int) = ((a / b : Nat) : Int) := by rw [Int.tdiv_eq_ediv_of_nonneg (by omega)]; rfl

/-- Nine digits more. -/
theorem text_nine {n m D0 : Nat} {X1 : ((List Int) × (List Int)) → Prop} {x5 : List Int} {q0 : Nat} {E0 : List Int} (hq : q0 < 1000000000) (hl : E0.length = D0) (hD : D0 ≤ 10000000) (hg : DG E0) (hv : dV 0 (LT E0) + 10 ^ D0 * q0 + 10 ^ (D0 + 9) * m = n)
    (hX1 : ∀ E, E.length = D0 + 9 → DG E → dV 0 (LT E) + 10 ^ (D0 + 9) * m = n → X1 (x5, E)) : LoopP (nat_Text_L2 X1 x5) ((q0 : Int), (0 : Int), E0) := by
  refine LoopP.intro (fun z : Int × Int × List Int => ∃ i q : Nat, z.2.1 = i ∧ i ≤ 9 ∧ z.1 = q ∧ q < 10 ^ (9 - i) ∧ z.2.2.length = D0 + i ∧ DG z.2.2 ∧ dV 0 (LT z.2.2) + 10 ^ (D0 + i) * q + 10 ^ (D0 + 9) * m = n) (fun z => 9 - z.2.1.toNat) ⟨0, q0, rfl, by omega, rfl, by simpa using hq, by simpa using hl, hg, by simpa using hv⟩ ?_
  rintro X ⟨z1, z2, z3⟩ ⟨i, q, h1, hi, h2, hq, h3, hg, hv⟩ hX
  dsimp only at h1 h2 h3 hg hv
  subst h1; subst h2
  unfold nat_Text_L2
  refine IfB.dc (fun hlt => ?_) (fun hge => ?_)
  · have hi9 : i < 9 := by omega
    have hq9 : q < 10 ^ 9 := Nat.lt_of_lt_of_le hq (Nat.pow_le_pow_right (by omega) (by omega))
    have e1 : IntKind.u8.wrap (IntKind.u64.wrap (48 + Int.tmod (q : Int) 10)) = 48 + ((q % 10 : Nat) : Int) := by
      rw [show (10 : Int) = ((10 : Nat) : Int) from rfl, tmodN, wrapu64 (by omega) (by omega), wrapu8 (by omega) (by omega)]
    have e2 : IntKind.u64.wrap (Int.tdiv (q : Int) 10) = ((q / 10 : Nat) : Int) := by
      rw [show (10 : Int) = ((10 : Nat) : Int) from rfl, tdivN, wrapu64 (by omega) (by omega)]
    rw [e1, e2, wrap64' (n := (i : Int) + 1) (by omega) (by omega)]
    refine ⟨fits_of (by simp; omega) (by omega), hX _ ⟨i + 1, q / 10, by simp, by omega, rfl, ?_, by simp; omega, DG_snoc.2 ⟨hg, by omega, by omega⟩, ?_⟩ (by dsimp only; omega)⟩
    · have : 10 ^ (9 - i) = 10 ^ (9 - (i + 1)) * 10 := by rw [← Nat.pow_succ]; congr 1; omega
      omega
    · dsimp only
      rw [LT_val (by omega), h3, ← hv]
      have hp : 10 ^ (D0 + (i + 1)) = 10 ^ (D0 + i) * 10 := by rw [← Nat.pow_succ]; congr 1
      rw [hp]
      have hqq : q = q % 10 + 10 * (q / 10) := by omega
      have : 10 ^ (D0 + i) * q = 10 ^ (D0 + i) * (q % 10) + 10 ^ (D0 + i) * 10 * (q / 10) := by
        rw [Nat.mul_assoc, ← Nat.mul_add, ← hqq]
      omega
  · obtain rfl : i = 9 := by omega
    have : q = 0 := by simpa using hq
    subst this
    exact hX1 z3 (by omega) hg (by simpa using hv)

theorem text_rev (E : List Int) (h0 : 0 < E.length) (hl : E.length ≤ 100000000) : LoopP (nat_Text_L5 (LT E)) ((0 : Int), (((E.length - 1 : Nat) : Int)), E) := by
  refine LoopP.intro (fun z : Int × Int × List Int => ∃ i : Nat, z.1 = i ∧ 2 * i ≤ E.length + 1 ∧ z.2.1 = (E.length : Int) - 1 - i ∧ z.2.2.length = E.length ∧ ∀ (k : Nat) (h : k < E.length) (h' : k < z.2.2.length), z.2.2[k] = if k < i ∨ E.length - 1 < k + i then E[E.length - 1 - k] else E[k]) (fun z => (z.2.1 - z.1 + 1).toNat) ⟨0, rfl, by omega, by dsimp only; omega, rfl, fun k h h' => by rw [if_neg (by omega)]⟩ ?_
  rintro X ⟨z1, z2, S⟩ ⟨i, h1, hi, h2, h3, hS⟩ hX
  dsimp only at h1 h2 h3 hS
  subst h1
  unfold nat_Text_L5
  refine IfB.dc (fun hlt => ?_) (fun hge => ?_)
  · have hj : z2 = ((E.length - 1 - i : Nat) : Int) := by omega
    have hji : i < E.length - 1 - i := by omega
    subst hj
    have a1 : (E.length - 1 - i) < S.length := by omega
    have a2 : i < S.length := by omega
    refine ⟨_, Idx.nat a1, _, Idx.nat a2, _, Idx.nat a2, ?_⟩
    rw [Int.toNat_natCast, Int.toNat_natCast]
    refine ⟨_, Idx.nat (by simp; omega), ?_⟩
    rw [wrap64' (by omega) (by omega), wrap64' (by omega) (by omega)]
    refine hX _ ⟨i + 1, by simp, by omega, by dsimp only; omega, by simp [h3], fun k h h' => ?_⟩ (by dsimp only; omega)
    dsimp only
    rw [List.getElem_set, List.getElem_set]
    by_cases e1 : E.length - 1 - i = k
    · rw [if_pos e1, if_pos (by omega), hS i (by omega) a2, if_neg (by omega)]
      congr 1; omega
    · rw [if_neg e1]
      by_cases e2 : i = k
      · rw [if_pos e2, if_pos (by omega), hS _ (by omega) a1, if_neg (by omega)]
        congr 1; omega
      · rw [if_neg e2, hS k h (by omega)]
        by_cases e3 : k < i ∨ E.length - 1 < k + i
        · rw [if_pos e3, if_pos (by omega)]
        · rw [if_neg e3, if_neg (by omega)]
  · have : S = E.reverse := by
      apply List.ext_getElem (by simp [h3])
      intro k hk hk'
      rw [hS k (by omega) hk, List.getElem_reverse]
      by_cases e3 : k < i ∨ E.length - 1 < k + i
      · rw [if_pos e3]
      · rw [if_neg e3]; congr 1; omega
    rw [this]; rfl

theorem LT_last {E : List Int} (hE : E ≠ []) : (LT E).head? = some (UInt8.ofNat (E.getLast hE).toNat) := by
  have := List.dropLast_concat_getLast hE
  generalize E.getLast hE = x at *
  rw [← this, LT_snoc]; simp

theorem text_cut (E0 : List Int) (n : Nat) (hl : E0.length ≤ 100000000) (hg : DG E0) (hv : dV 0 (LT E0) = n) (hn : n = 0 → E0 = []) : LoopP (nat_Text_L4 (decT n)) E0 := by
  refine LoopP.intro (fun z : List Int => DG z ∧ dV 0 (LT z) = n ∧ z.length ≤ E0.length ∧ (n = 0 → z = [])) (fun z => z.length) ⟨hg, hv, Nat.le_refl _, hn⟩ ?_
  rintro X z ⟨hg, hv, hz, hn⟩ hX
  unfold nat_Text_L4
  have hw : 0 < z.length → IntKind.i64.wrap ((z.length : Int) - 1) = ((z.length - 1 : Nat) : Int) := fun h => by rw [wrap64' (by omega) (by omega)]; omega
  have fin : 0 < z.length → (1 < z.length → ∀ h : z ≠ [], z.getLast h ≠ 48) → decT n = LT z := fun h0 h => by
    have hne : LT z ≠ [] := by intro e; have := congrArg List.length e; rw [LT_len] at this; simp at this; rw [this] at h0; simp at h0
    rw [← hv]
    refine (decT_of (LT_dg hg) hne fun hl1 => ?_).symm
    rw [LT_len] at hl1
    have hz0 : z ≠ [] := by rintro rfl; simp at h0
    rw [LT_last hz0]
    intro e
    have hx := hg _ (List.getLast_mem hz0)
    have := congrArg (fun o => o.map UInt8.toNat) e
    simp only [Option.map_some, Option.some.injEq] at this
    rw [UInt8.toNat_ofNat_of_lt' (show (z.getLast hz0).toNat < 256 by omega)] at this
    have h48 : (48 : UInt8).toNat = 48 := rfl
    exact h hl1 hz0 (by omega)
  refine IfB.dc (fun h1 => ?_) (fun h1 => ?_)
  · have h1 : 1 < z.length := by omega
    have hz0 : z ≠ [] := by rintro rfl; simp at h1
    rw [hw (by omega)]
    have hlast : z[z.length - 1]'(by omega) = z.getLast hz0 := (List.getLast_eq_getElem hz0).symm
    refine ⟨_, Idx.nat (show z.length - 1 < z.length by omega), ?_⟩
    rw [hlast]
    refine IfB.eqI (fun h48 => ⟨⟨by omega, by omega⟩, ?_⟩) (fun h48 => IfB.eqI (fun h => by omega) (fun _ => ?_))
    · rw [Int.toNat_natCast]
      have e := List.dropLast_concat_getLast hz0
      rw [h48] at e
      have e2 : z.take (z.length - 1) = z.dropLast := by rw [List.dropLast_eq_take]
      rw [e2]
      have hg2 : DG z.dropLast := fun x hx => hg x (by rw [← e]; simp [hx])
      have hv2 : dV 0 (LT z.dropLast) = n := by
        have := LT_val (l := z.dropLast) (d := 0) (by omega)
        rw [show (48 + ((0 : Nat) : Int)) = 48 from rfl, e] at this
        omega
      refine hX _ ⟨hg2, hv2, by simp; omega, fun h0 => ?_⟩ (by simp; omega)
      have := hn h0; simp [this] at h1
    · rw [fin (by omega) (fun _ h => h48)]
      exact text_rev z (by omega) (by omega)
  · refine IfB.eqI (fun h => ?_) (fun h => ?_)
    · have : z = [] := List.length_eq_zero_iff.1 (by omega)
      subst this
      have : n = 0 := by rw [← hv]; rfl
      subst this
      rw [decT_lt (by omega)]; rfl
    · rw [hw (by omega), fin (by omega) (by omega)]
      exact text_rev z (by omega) (by omega)

theorem nat_Text_says (a : List Int) (ha : WS a) (hl : a.length ≤ 70000) : nat_Text a (decT (val a)) := by
  unfold nat_Text
  refine ⟨_, nat_trim_says a ha (by omega), ?_⟩
  have hb : val a < 10 ^ (10 * a.length) := by
    refine Nat.lt_of_lt_of_le (val_lt ha) ?_
    rw [Nat.pow_mul]
    exact Nat.pow_le_pow_left (by omega) _
  have hwl := wl ha
  generalize val a = n at *
  refine LoopP.intro (fun z : List Int × List Int => ∃ m j : Nat, z.1 = words m ∧ m ≤ n ∧ z.2.length = 9 * j ∧ DG z.2 ∧ dV 0 (LT z.2) + 10 ^ (9 * j) * m = n ∧ (j = 0 → m = n) ∧ 9 * j ≤ 10 * a.length + 9 ∧ (0 < j → 0 < n)) (fun z => val z.1) ⟨n, 0, rfl, by omega, rfl, DG_nil, by rw [show LT [] = [] from rfl, dV_nil]; simp, fun _ => rfl, by omega⟩ ?_
  rintro X ⟨z1, z2⟩ ⟨m, j, h1, hm, h2, hg, hv, hj0, hj, hjn⟩ hX
  dsimp only at h1 h2 hg hv
  subst h1
  unfold nat_Text_L1
  have hmw := words_len_le hm
  refine IfB.dc (fun h => ?_) (fun h => ?_)
  · have hm0 : m ≠ 0 := words_len_pos.1 (by omega)
    have hjj : 9 * j < 10 * a.length := by
      refine (Nat.pow_lt_pow_iff_right (show 1 < 10 by omega)).1 (Nat.lt_of_le_of_lt ?_ hb)
      have : 10 ^ (9 * j) * 1 ≤ 10 ^ (9 * j) * m := Nat.mul_le_mul_left _ (by omega)
      omega
    have hd := nat_DivMod_says (words m) (words 1000000000) (WS_words _) (WS_words _) (by omega) (by rw [words_one (by omega) (by omega)]; simp)
    rw [val_words, val_words, if_neg (by omega)] at hd
    have hs := nat_Small_says (words (m % 1000000000)) (WS_words _) (by have := words_len_le (Nat.mod_le m 1000000000); omega) (by rw [val_words]; omega)
    rw [val_words] at hs
    refine ⟨_, nat_Of_says 1000000000 (by omega), _, _, _, hd, _, _, hs, IfB_true.2 ?_⟩
    refine text_nine (n := n) (m := m / 1000000000) (D0 := 9 * j) (Nat.mod_lt _ (by omega)) h2 (by omega) hg ?_ fun E e1 e2 e3 => ?_
    · rw [← hv, Nat.pow_add, Nat.mul_assoc, Nat.add_assoc, ← Nat.mul_add]
      congr 2
      rw [show (10 : Nat) ^ 9 = 1000000000 from rfl]; omega
    · refine hX _ ⟨m / 1000000000, j + 1, rfl, Nat.le_trans (Nat.div_le_self _ _) hm, by dsimp only; omega, e2, by rw [show 9 * (j + 1) = 9 * j + 9 from by omega]; exact e3, by omega, by omega, by omega⟩ ?_
      dsimp only
      rw [val_words, val_words]
      exact Nat.div_lt_self (by omega) (by omega)
  · have hm0 : m = 0 := by
      rcases Nat.eq_zero_or_pos m with h' | h'
      · exact h'
      · have := words_len_pos.2 (show m ≠ 0 by omega); omega
    subst hm0
    refine text_cut z2 n (by omega) hg (by simpa using hv) fun h0 => ?_
    apply List.length_eq_zero_iff.1
    rcases Nat.eq_zero_or_pos j with hj' | hj'
    · omega
    · have := hjn hj'; omega

end Go.Abs
end

section
/- Whole numbers and fractions printed, and read again. -/
namespace Go.Abs
open Go
set_option linter.unusedVariables false
set_option linter.unusedSimpArgs false
set_option linter.unnecessarySimpa false

theorem decT_lenW {a : List Int} (h : WS a) : (decT (val a)).length ≤ 10 * a.length + 1 := by
  refine decT_len _ _ (Nat.lt_of_lt_of_le (val_lt h) ?_)
  refine Nat.le_trans ?_ (Nat.pow_le_pow_right (show 0 < 10 by omega) (Nat.le_succ _))
  rw [Nat.pow_mul]
  exact Nat.pow_le_pow_left (by omega) _

/-- A whole number's text. -/
def wtxt (z : Int) : By := if z < 0 then 45 :: decT z.natAbs else decT z.natAbs
theorem wtxt_len (p : Bool) {a : List Int} (h : WS a) : (wtxt (iV p (val a))).length ≤ 10 * a.length + 2 := by
  have := decT_lenW h
  unfold wtxt
  rw [iV_abs]
  split
  · simp; omega
  · omega

theorem whole_Text_says (p : Bool) (a : List Int) (ha : WS a) (hl : a.length ≤ 70000) : whole_Text p a (wtxt (iV p (val a))) := by
  unfold whole_Text
  have h1 := (sgn_iV p (val a)).1
  have hd := decT_lenW ha
  refine ⟨_, whole_Sign_says p a ha (by omega), IfB.dc (fun h => ⟨_, nat_Text_says a ha hl, fits_of (by simp; omega) (by omega), ?_⟩) (fun h => ⟨_, nat_Text_says a ha hl, ?_⟩)⟩
  · unfold wtxt; rw [if_pos (h1.1 h), iV_abs]; rfl
  · unfold wtxt; rw [if_neg (fun h' => h (h1.2 h')), iV_abs]

/-- A lowest fraction's text. -/
def rtxt (z : Int) (d : Nat) : By := if d = 1 then wtxt z else (wtxt z ++ [47]) ++ decT d
/-- A fraction, lowest: its numerator and its denominator. -/
def lowN (x : Bool × List Int × List Int) : Nat := val x.2.1 / Nat.gcd (val x.2.1) (den1 (val x.2.2))
def lowD (x : Bool × List Int × List Int) : Nat := den1 (val x.2.2) / Nat.gcd (val x.2.1) (den1 (val x.2.2))
theorem lowD_pos (x : Bool × List Int × List Int) : 0 < lowD x := by
  unfold lowD
  exact Nat.div_pos (Nat.gcd_le_right _ (den1_pos _)) (Nat.gcd_pos_of_pos_right _ (den1_pos _))
theorem low_cop (x : Bool × List Int × List Int) : Nat.gcd (lowN x) (lowD x) = 1 := Nat.coprime_div_gcd_div_gcd (Nat.gcd_pos_of_pos_right _ (den1_pos _))
theorem den1_self {d : Nat} (h : 0 < d) : den1 d = d := by unfold den1; rw [if_neg (by omega)]
def okX (x : Bool × List Int × List Int) (k : Nat) : Prop := WS x.2.1 ∧ WS x.2.2 ∧ x.2.1.length ≤ k ∧ x.2.2.length ≤ k
theorem lowN_len {x : Bool × List Int × List Int} {k : Nat} (h : okX x k) : (words (lowN x)).length ≤ k := by
  have := words_len_le (Nat.div_le_self (val x.2.1) (Nat.gcd (val x.2.1) (den1 (val x.2.2))))
  have := wl h.1
  have := h.2.2.1
  unfold lowN; omega
theorem lowD_len {x : Bool × List Int × List Int} {k : Nat} (h : okX x k) : (words (lowD x)).length ≤ k + 1 := by
  have h1 := words_len_le (Nat.div_le_self (den1 (val x.2.2)) (Nat.gcd (val x.2.1) (den1 (val x.2.2))))
  have h2 := wl h.2.1
  have h3 := h.2.2.2
  have h4 : (words (den1 (val x.2.2))).length ≤ k + 1 := by
    unfold den1
    split
    · rw [words_one (by omega) (by omega)]; simp
    · omega
  unfold lowD; omega
def lowP (x : Bool × List Int × List Int) : Bool := x.1 && decide (lowN x ≠ 0)
/-- The text of any fraction. -/
def txtQ (x : Bool × List Int × List Int) : By := rtxt (iV (lowP x) (lowN x)) (lowD x)

theorem rat_Make_low {x : Bool × List Int × List Int} {k : Nat} (h : okX x k) (hk : k ≤ 60000) : rat_Make x.1 x.2.1 x.2.2 (lowP x, words (lowN x), words (lowD x)) :=
  rat_Make_says x.1 x.2.1 x.2.2 h.1 h.2.1 (by have := h.2.2.1; omega) (by have := h.2.2.2; omega)
theorem rat_Make_again {x : Bool × List Int × List Int} {k : Nat} (h : okX x k) (hk : k ≤ 60000) : rat_Make (lowP x) (words (lowN x)) (words (lowD x)) (lowP x, words (lowN x), words (lowD x)) := by
  have l1 := lowN_len h
  have l2 := lowD_len h
  have := rat_Make_says (lowP x) (words (lowN x)) (words (lowD x)) (WS_words _) (WS_words _) (by omega) (by omega)
  rw [val_words, val_words, den1_self (lowD_pos x)] at this
  unfold ratC at this
  rw [low_cop, Nat.div_one, Nat.div_one] at this
  have e : (lowP x && decide (lowN x ≠ 0)) = lowP x := by unfold lowP; cases x.1 <;> simp
  rw [e] at this
  exact this

theorem rat_Text_says {x : Bool × List Int × List Int} {k : Nat} (h : okX x k) (hk : k ≤ 60000) : rat_Text x.1 x.2.1 x.2.2 (txtQ x) := by
  unfold rat_Text
  have l1 := lowN_len h
  have l2 := lowD_len h
  have hw : ∃ b : Bool, rat_Whole (lowP x) (words (lowN x)) (words (lowD x)) b ∧ (b = true ↔ lowD x = 1) := by
    have hc := nat_Compare_says (words (lowD x)) (words 1) (WS_words _) (WS_words _) (by omega) (by rw [words_one (by omega) (by omega)]; simp)
    rw [val_words, val_words] at hc
    have hp := lowD_pos x
    by_cases h1 : lowD x = 1
    · refine ⟨true, ⟨_, _, _, rat_Make_again h hk, _, nat_Of_says 1 (by omega), _, hc, IfB.eqI (fun _ => rfl) (fun hne => ?_)⟩, by simp [h1]⟩
      rw [h1] at hne; exact absurd rfl hne
    · refine ⟨false, ⟨_, _, _, rat_Make_again h hk, _, nat_Of_says 1 (by omega), _, hc, IfB.eqI (fun he => ?_) (fun _ => rfl)⟩, by simp [h1]⟩
      unfold cmpN at he
      split at he
      · omega
      · split at he <;> omega
  obtain ⟨b, hb, hbb⟩ := hw
  have ht := whole_Text_says (lowP x) (words (lowN x)) (WS_words _) (by omega)
  have hd := nat_Text_says (words (lowD x)) (WS_words _) (by omega)
  have tl := wtxt_len (lowP x) (WS_words (lowN x))
  have dl := decT_lenW (WS_words (lowD x))
  rw [val_words] at ht hd tl dl
  refine ⟨_, _, _, rat_Make_low h hk, b, hb, IfB.intro (fun e => ⟨_, ht, ?_⟩) (fun e => ⟨_, ht, fits_of (by simp; omega) (by omega), _, hd, fits_of (by simp; omega) (by omega), ?_⟩)⟩
  · unfold txtQ rtxt; rw [if_pos (hbb.1 e)]
  · unfold txtQ rtxt; rw [if_neg (fun h' => by rw [hbb.2 h'] at e; cases e)]

theorem iV_lowP (x : Bool × List Int × List Int) : iV (lowP x) (lowN x) = iV x.1 (lowN x) := by
  unfold lowP iV
  cases x.1 with
  | false => simp
  | true => by_cases h : lowN x = 0 <;> simp [h]
/-- A fraction is its lowest form. -/
theorem low_eqX (x : Bool × List Int × List Int) : iV x.1 (val x.2.1) * (lowD x : Int) = iV (lowP x) (lowN x) * (den1 (val x.2.2) : Int) := by
  rw [iV_lowP]
  have hg : 0 < Nat.gcd (val x.2.1) (den1 (val x.2.2)) := Nat.gcd_pos_of_pos_right _ (den1_pos _)
  have h1 : lowN x * Nat.gcd (val x.2.1) (den1 (val x.2.2)) = val x.2.1 := Nat.div_mul_cancel (Nat.gcd_dvd_left _ _)
  have h2 : lowD x * Nat.gcd (val x.2.1) (den1 (val x.2.2)) = den1 (val x.2.2) := Nat.div_mul_cancel (Nat.gcd_dvd_right _ _)
  have key : val x.2.1 * lowD x = lowN x * den1 (val x.2.2) := by
    rw [← h2]
    generalize Nat.gcd (val x.2.1) (den1 (val x.2.2)) = g at *
    rw [← h1, Nat.mul_assoc, Nat.mul_comm g]
  have key : (val x.2.1 : Int) * (lowD x : Int) = (lowN x : Int) * (den1 (val x.2.2) : Int) := by exact_mod_cast key
  unfold iV
  cases x.1 with
  | false => simpa using key
  | true => simp only [if_true, Int.neg_mul, key]

/-! ### read again -/
theorem hasP_digit {s : By} (h : allDg s) : Lib.hasPrefix s [45] = false := by
  unfold Lib.hasPrefix
  cases s with
  | nil => rfl
  | cons b l =>
    have hb := (allDg_cons.1 h).1
    unfold dg at hb
    simp only [List.isPrefixOf, Bool.and_true, beq_eq_false_iff_ne, ne_eq]
    intro e
    have : b.toNat = 45 := by rw [← e]; rfl
    omega
theorem parseR_decT {n : Nat} (h : (decT n).length ≤ 400) : parseR (decT n) = (words n, 0) := by
  unfold parseR
  rw [if_neg (by simp [decT_ne, decT_dg]), if_neg (by omega), dV_decT]
theorem wholeR_wtxt {p : Bool} {n : Nat} (h : (decT n).length ≤ 400) (hp : p = true → n ≠ 0) : wholeR (wtxt (iV p n)) = (p, words n, 0) := by
  unfold wtxt
  rw [iV_abs]
  cases p with
  | false =>
    rw [if_neg (by unfold iV; simp)]
    have e := hasP_digit (decT_dg n)
    have e2 : Lib.trimPrefix (decT n) [45] = decT n := by unfold Lib.trimPrefix; rw [e]; rfl
    unfold wholeR
    rw [e2, parseR_decT h, e]
    simp
  | true =>
    have h0 := hp rfl
    rw [if_pos (by unfold iV; simp; omega)]
    have e : Lib.hasPrefix (45 :: decT n) [45] = true := by simp [Lib.hasPrefix, List.isPrefixOf]
    have e2 : Lib.trimPrefix (45 :: decT n) [45] = decT n := by unfold Lib.trimPrefix; rw [e]; rfl
    unfold wholeR
    rw [e2, parseR_decT h, e]
    simp [val_words, h0]

theorem dg_ne {b : UInt8} (h : dg b) (c : UInt8) (hc : c.toNat < 48) : b ≠ c := by
  rintro rfl; unfold dg at h; omega
theorem wtxt_no47 (z : Int) : ∀ b, b ∈ wtxt z → b ≠ 47 := by
  intro b hb
  unfold wtxt at hb
  split at hb
  · rcases List.mem_cons.1 hb with rfl | hb
    · decide
    · exact dg_ne (decT_dg _ b hb) 47 (by decide)
  · exact dg_ne (decT_dg _ b hb) 47 (by decide)

theorem indexNo {s : By} {c : UInt8} (h : ∀ b, b ∈ s → b ≠ c) : Lib.index s [c] = -1 := by
  induction s with
  | nil => simp [Lib.index]
  | cons b l ih =>
    have hi := index1_cons b c l
    rw [if_neg (h b (by simp)), ih fun x hx => h x (by simp [hx])] at hi
    simpa using hi
theorem indexAt {a b : By} {c : UInt8} (h : ∀ x, x ∈ a → x ≠ c) : Lib.index (a ++ c :: b) [c] = a.length := by
  induction a with
  | nil =>
    have hi := index1_cons c c b
    rw [if_pos rfl] at hi
    simpa using hi
  | cons x l ih =>
    have hi := index1_cons x c (l ++ c :: b)
    rw [if_neg (h x (by simp)), ih fun y hy => h y (by simp [hy])] at hi
    have e : ((l.length : Int) == -1) = false := by rw [beq_eq_false_iff_ne]; omega
    rw [e] at hi
    simp only [Bool.false_eq_true, if_false] at hi
    rw [List.cons_append, hi]; simp
theorem cutNo {s : By} {c : UInt8} (h : ∀ b, b ∈ s → b ≠ c) : Lib.cut s [c] = (s, [], false) := by
  unfold Lib.cut
  rw [indexNo h, if_neg (by omega)]
theorem cutAt {a b : By} {c : UInt8} (h : ∀ x, x ∈ a → x ≠ c) : Lib.cut (a ++ c :: b) [c] = (a, b, true) := by
  unfold Lib.cut
  rw [indexAt h, if_pos (by omega)]
  simp

theorem ratR_txt {p : Bool} {n d : Nat} (hn : (decT n).length ≤ 400) (hd : (decT d).length ≤ 400) (hp : p = true → n ≠ 0) (hc : Nat.gcd n d = 1) (hd0 : 0 < d) : ratR (rtxt (iV p n) d) = (p, words n, words d, 0) := by
  have fin : ∀ e, val (words e) = e := val_words
  have hC : ratC p n d = (p, words n, words d) := by
    unfold ratC
    rw [hc, Nat.div_one, Nat.div_one]
    cases p with
    | false => rfl
    | true => have := hp rfl; simp [this]
  unfold rtxt ratR
  by_cases h1 : d = 1
  · subst h1
    rw [if_pos rfl, cutNo (wtxt_no47 _)]
    simp only [Bool.false_eq_true, if_false]
    rw [wholeR_wtxt hn hp, show ([49] : By) = decT 1 from by rw [decT_lt (by omega)]; rfl, parseR_decT hd]
    dsimp only
    rw [if_neg (by simp), if_neg (by simp), if_neg (by rw [val_words]; omega), val_words, val_words, hC]
  · rw [if_neg h1, List.append_assoc, List.singleton_append, cutAt (wtxt_no47 _)]
    simp only [if_true]
    rw [wholeR_wtxt hn hp, parseR_decT hd]
    dsimp only
    rw [if_neg (by simp), if_neg (by simp), if_neg (by rw [val_words]; omega), val_words, val_words, hC]

/-- The text of a fraction is read as that fraction, lowest. -/
theorem ratR_txtQ {x : Bool × List Int × List Int} {k : Nat} (h : okX x k) (hk : k ≤ 38) : ratR (txtQ x) = (lowP x, words (lowN x), words (lowD x), 0) := by
  have l1 := lowN_len h
  have l2 := lowD_len h
  have d1 := decT_lenW (WS_words (lowN x))
  have d2 := decT_lenW (WS_words (lowD x))
  rw [val_words] at d1 d2
  exact ratR_txt (by omega) (by omega) (by unfold lowP; simp) (low_cop x) (lowD_pos x)
theorem txtQ_len {x : Bool × List Int × List Int} {k : Nat} (h : okX x k) : (txtQ x).length ≤ 20 * k + 14 := by
  have l1 := lowN_len h
  have l2 := lowD_len h
  have d1 := wtxt_len (lowP x) (WS_words (lowN x))
  have d2 := decT_lenW (WS_words (lowD x))
  rw [val_words] at d1 d2
  unfold txtQ rtxt
  split
  · omega
  · simp only [List.length_append, List.length_singleton]; omega
/-- A fraction's text is a word. -/
theorem txtQ_wd (x : Bool × List Int × List Int) : txtQ x ≠ [] ∧ ∀ b, b ∈ txtQ x → 45 ≤ b.toNat ∧ b.toNat ≤ 57 := by
  have hd : ∀ n b, b ∈ decT n → 45 ≤ b.toNat ∧ b.toNat ≤ 57 := fun n b hb => by have := decT_dg n b hb; unfold dg at this; omega
  have hw : ∀ z, wtxt z ≠ [] ∧ ∀ b, b ∈ wtxt z → 45 ≤ b.toNat ∧ b.toNat ≤ 57 := fun z => by
    unfold wtxt
    split
    · refine ⟨by simp, fun b hb => ?_⟩
      rcases List.mem_cons.1 hb with rfl | hb
      · decide
      · exact hd _ b hb
    · exact ⟨decT_ne _, hd _⟩
  unfold txtQ rtxt
  split
  · exact hw _
  · refine ⟨by simp, fun b hb => ?_⟩
    rcases List.mem_append.1 hb with hb | hb
    · rcases List.mem_append.1 hb with hb | hb
      · exact (hw _).2 b hb
      · obtain rfl := List.mem_singleton.1 hb; decide
    · exact hd _ b hb

end Go.Abs
end

section
/- Lines of words, as they are printed and read. -/
namespace Go.Abs
open Go
set_option linter.unusedVariables false
set_option linter.unusedSimpArgs false
set_option linter.unnecessarySimpa false

abbrev Bs := List UInt8
def wdOK (w : Bs) : Prop := w ≠ [] ∧ ∀ b, b ∈ w → 33 ≤ b.toNat ∧ b.toNat ≤ 126 ∧ b.toNat ≠ 35
theorem wd_sp {w : Bs} (h : wdOK w) : w ≠ [] ∧ ∀ b, b ∈ w → Lib.isSp b = false := by
  refine ⟨h.1, fun b hb => ?_⟩
  have hr := h.2 b hb
  have k : ∀ c : Nat, c < 256 → b.toNat ≠ c → (b == c.toUInt8) = false := fun c hc h => by
    rw [beq_eq_false_iff_ne]; exact fun e => h ((u8 hc).2 e)
  have h9 := k 9 (by decide) (by omega); have h10 := k 10 (by decide) (by omega); have h11 := k 11 (by decide) (by omega); have h12 := k 12 (by decide) (by omega); have h13 := k 13 (by decide) (by omega); have h32 := k 32 (by decide) (by omega)
  unfold Lib.isSp
  simp at h9 h10 h11 h12 h13 h32 ⊢
  exact ⟨⟨⟨⟨⟨h9, h10⟩, h11⟩, h12⟩, h13⟩, h32⟩

/-- A line's text. -/
def lineT (ws : Ws) : Bs := Lib.join ws [32]
theorem line_mem {ws : Ws} (h : ∀ w, w ∈ ws → wdOK w) {b : UInt8} (hb : b ∈ lineT ws) : 32 ≤ b.toNat ∧ b.toNat ≤ 126 ∧ b.toNat ≠ 35 := by
  rcases join_mem hb with rfl | ⟨w, hw, hb⟩
  · decide
  · have := (h w hw).2 b hb; omega
theorem line_words {ws : Ws} (h : ∀ w, w ∈ ws → wdOK w) : wordsOf (lineT ws) = ws := by
  unfold wordsOf
  rw [head_none fun b hb e => by have := line_mem h hb; subst e; simp at this]
  exact fields_join fun w hw => wd_sp (h w hw)

theorem split_line : ∀ (a rest : Bs), (∀ b, b ∈ a → b ≠ 10) → splitC 10 (a ++ 10 :: rest) = a :: splitC 10 rest
  | [], rest, _ => by simp [splitC]
  | b :: a, rest, h => by
    have := split_line a rest fun c hc => h c (by simp [hc])
    rw [List.cons_append, splitC, if_neg (h b (by simp)), this]

/-- The text of lines. -/
def linesT : List Ws → Bs
  | [] => []
  | ws :: r => lineT ws ++ 10 :: linesT r
def linesN (k : Int) : List Ws → Ls
  | [] => []
  | ws :: r => (k + 1, ws) :: linesN (k + 1) r

theorem linesFrom_T : ∀ (l : List Ws) (k : Int) (rest : Bs), (∀ ws, ws ∈ l → ws ≠ [] ∧ ∀ w, w ∈ ws → wdOK w) → linesFrom k (splitC 10 (linesT l ++ rest)) = linesN k l ++ linesFrom (k + l.length) (splitC 10 rest)
  | [], k, rest, _ => by simp [linesT, linesN]
  | ws :: l, k, rest, h => by
    obtain ⟨h1, h2⟩ := h ws (by simp)
    have ih := linesFrom_T l (k + 1) rest fun w hw => h w (by simp [hw])
    have e : linesT (ws :: l) ++ rest = lineT ws ++ 10 :: (linesT l ++ rest) := by simp [linesT]
    rw [e, split_line _ _ fun b hb e => by have := line_mem h2 hb; subst e; simp at this]
    have hp : 0 < (wordsOf (lineT ws)).length := by rw [line_words h2]; exact List.length_pos_iff.2 h1
    rw [linesFrom, if_pos hp, line_words h2, ih]
    simp only [linesN, List.cons_append, List.length_cons]
    congr 3
    omega

theorem linesT_right : ∀ (l : List Ws), (∀ ws, ws ∈ l → ∀ w, w ∈ ws → wdOK w) → ∀ b, b ∈ linesT l → mayB b
  | [], _, b, hb => by simp [linesT] at hb
  | ws :: l, h, b, hb => by
    rw [linesT] at hb
    rcases List.mem_append.1 hb with hb | hb
    · have := line_mem (h ws (by simp)) hb; unfold mayB; omega
    · rcases List.mem_cons.1 hb with rfl | hb
      · unfold mayB; decide
      · exact linesT_right l (fun w hw => h w (by simp [hw])) b hb
theorem rightP_of {s : Bs} (h : ∀ b, b ∈ s → mayB b) : RightP s := fun i b hi hb => h b (List.mem_of_getElem? hb)

theorem linesN_length : ∀ (l : List Ws) (k : Int), (linesN k l).length = l.length
  | [], k => rfl
  | _ :: l, k => by simp [linesN, linesN_length l]

theorem lineT_len (ws : Ws) : (lineT ws).length ≤ wlen ws := join_len 32 ws
theorem linesT_len : ∀ (l : List Ws) (m : Nat), (∀ ws, ws ∈ l → wlen ws + 1 ≤ m) → (linesT l).length ≤ m * l.length
  | [], m, _ => by simp [linesT]
  | ws :: l, m, h => by
    have h1 := h ws (by simp)
    have h2 := lineT_len ws
    have h3 := linesT_len l m fun w hw => h w (by simp [hw])
    simp only [linesT, List.length_append, List.length_cons, Nat.mul_add, Nat.mul_one]
    omega
theorem lines_Join_says {l : Ws} (h : wlen l ≤ 1000000) : lines_Join l (lineT l) := ⟨_, strings_Join_says h, rfl⟩

theorem linesFrom_end (k : Int) : linesFrom k (splitC 10 []) = [] := by
  simp [splitC, linesFrom, wordsOf, head35, Lib.cut, Lib.index, Lib.fields, Lib.fieldsGo]
/-- The lines of a printed text. -/
theorem allL_T {l : List Ws} (h : ∀ ws, ws ∈ l → ws ≠ [] ∧ ∀ w, w ∈ ws → wdOK w) : allL (linesT l) = linesN 0 l := by
  have := linesFrom_T l 0 [] h
  rw [List.append_nil, linesFrom_end, List.append_nil] at this
  exact this
theorem linesT_rightP {l : List Ws} (h : ∀ ws, ws ∈ l → ws ≠ [] ∧ ∀ w, w ∈ ws → wdOK w) : RightP (linesT l) := rightP_of (linesT_right l fun ws hw => (h ws hw).2)
theorem lineT_one (w : Bs) : lineT [w] = w := by simp [lineT, Lib.join]

end Go.Abs
end

section
/- Chapter 13 plain: ProofPrints: a proof printed is read as it was. -/
namespace Go.Abs
open Go
set_option linter.unusedVariables false
set_option linter.unusedSimpArgs false
set_option linter.unnecessarySimpa false

/-- Words of 32 bits. -/
def wsQ (l : List Q3) : Prop := ∀ x, x ∈ l → WS x.2.1 ∧ WS x.2.2
def FewP (l : List Q3) : Prop := l.length ≤ 8 ∧ ∀ x, x ∈ l → x.2.1.length ≤ 3 ∧ x.2.2.length ≤ 3
instance (l : List Q3) : Decidable (FewP l) := inferInstanceAs (Decidable (_ ∧ _))
theorem Few5_says (l : List Q3) : offcutlaw05_Few l (decide (FewP l)) := by
  unfold offcutlaw05_Few
  refine LoopP.intro (fun z : Int => ∃ k : Nat, z = k ∧ k ≤ l.length ∧ k ≤ 9 ∧ ∀ i (h : i < l.length), i < k → l[i].2.1.length ≤ 3 ∧ l[i].2.2.length ≤ 3) (fun z => l.length - z.toNat) ⟨0, rfl, by omega, by omega, fun i _ h => by omega⟩ ?_
  rintro X z ⟨k, rfl, hk, hk9, hn⟩ hX
  unfold offcutlaw05_Few_L1
  have no : ∀ (h : k < l.length), ¬ (l[k].2.1.length ≤ 3 ∧ l[k].2.2.length ≤ 3) → decide (FewP l) = false := fun h hb => decide_eq_false fun hf => hb (hf.2 _ (List.getElem_mem h))
  have many : ∀ (h : ¬ (l.length : Int) ≤ 8), decide (FewP l) = false := fun h => decide_eq_false fun hf => h (by have := hf.1; omega)
  refine IfB.dec (fun h => IfB.dec (fun h8 => ?_) (fun h8 => ?_)) (fun h => ?_)
  · have hkl : k < l.length := by omega
    have hi := Idx.nat hkl
    have no := no hkl
    have hn2 : l[k].2.1.length ≤ 3 ∧ l[k].2.2.length ≤ 3 → ∀ i (h : i < l.length), i < k + 1 → l[i].2.1.length ≤ 3 ∧ l[i].2.2.length ≤ 3 := fun h0 i hi hik => by
      by_cases e : i = k
      · subst e; exact h0
      · exact hn i hi (by omega)
    generalize l[k] = q at *
    obtain ⟨b, n, d⟩ := q
    dsimp only at no hn2
    refine ⟨b, n, d, hi, IfB.dec (fun h1 => no (by omega)) (fun h1 => ⟨b, n, d, hi, IfB.dec (fun h2 => no (by omega)) (fun h2 => ?_)⟩)⟩
    rw [wrap64' (by omega) (by omega)]
    exact hX _ ⟨k + 1, by omega, by omega, by omega, hn2 (by omega)⟩ (by omega)
  · exact IfB.dec (fun h => by omega) (fun h => many h)
  · refine IfB.dec (fun h2 => decide_eq_true ⟨by omega, fun x hx => ?_⟩) (fun h2 => many h2)
    obtain ⟨i, hi, rfl⟩ := List.getElem_of_mem hx
    exact hn i hi (by omega)
theorem Few13_says (v : Int) (x y z : List Q3) : offcutlaw13_Few v x y z (decide (FewP x ∧ FewP y ∧ FewP z)) := by
  unfold offcutlaw13_Few
  refine ⟨_, Few5_says x, IfB.dec (fun h1 => ⟨_, Few5_says y, IfB.dec (fun h2 => ⟨_, Few5_says z, IfB.dec (fun h3 => ?_) (fun h3 => ?_)⟩) (fun h2 => ?_)⟩) (fun h1 => ?_)⟩ <;> simp [*]

/-- May it be a proof? -/
def mayP (v : Int) (x y z : List Q3) : Prop := (v = 1 ∧ z = []) ∨ (v = 2 ∧ x = [] ∧ z = []) ∨ (v = 3 ∧ y = [])
instance (v : Int) (x y z : List Q3) : Decidable (mayP v x y z) := inferInstanceAs (Decidable (_ ∨ _))
theorem len0 {α : Type} {l : List α} : l = [] ↔ (l.length : Int) = 0 := by rw [← List.length_eq_zero_iff]; omega

theorem Right13_says (v : Int) (x y z : List Q3) (hx : x.length ≤ 180) (hy : y.length ≤ 180) (hz : z.length ≤ 180) : proof_Right v x y z (decide (mayP v x y z)) := by
  unfold proof_Right mayP
  simp only [len0]
  repeat' (first | (refine IfB.neI (fun _ => ?_) (fun _ => ?_)) | (refine IfB.dec (fun _ => ?_) (fun _ => ?_)))
  all_goals first | (refine decide_eq_true ?_; omega) | (refine decide_eq_false ?_; omega) | omega
theorem right13_says (v : Int) (x y z : List Q3) (hx : x.length ≤ 180) (hy : y.length ≤ 180) (hz : z.length ≤ 180) : offcutlaw13_right v x y z (decide (mayP v x y z)) := by
  unfold offcutlaw13_right mayP
  rw [wrap64' (by omega) (by omega)]
  simp only [len0]
  repeat' (refine IfB.eqI (fun _ => ?_) (fun _ => ?_))
  all_goals first | (refine decide_eq_true ?_; omega) | (refine decide_eq_false ?_; omega) | omega

theorem okX_of {l : List Q3} (hw : wsQ l) (hf : FewP l) : ∀ x, x ∈ l → okX x 3 := fun x hx => ⟨(hw x hx).1, (hw x hx).2, (hf.2 x hx).1, (hf.2 x hx).2⟩

theorem vec_Texts_says {k : Nat} (hk : k ≤ 60000) (l : List Q3) (hl : l.length ≤ 1000000) (h : ∀ x, x ∈ l → okX x k) : vec_Texts l (l.map txtQ) := by
  unfold vec_Texts
  refine LoopP.intro (fun z : Int × List By => ∃ i : Nat, z.1 = i ∧ i ≤ l.length ∧ z.2 = (l.take i).map txtQ) (fun z => l.length - z.1.toNat) ⟨0, rfl, by omega, by simp⟩ ?_
  rintro X ⟨z1, z2⟩ ⟨i, h1, hi, h2⟩ hX
  dsimp only at h1 h2
  subst h1 h2
  unfold vec_Texts_L1
  refine IfB.dec (fun hlt => ?_) (fun hge => ?_)
  · have hil : i < l.length := by omega
    refine ⟨_, _, _, Idx.nat hil, _, rat_Text_says (h _ (List.getElem_mem hil)) hk, by unfold Fits; simp; omega, ?_⟩
    rw [wrap64' (by omega) (by omega)]
    refine hX _ ⟨i + 1, by simp, by omega, ?_⟩ (by dsimp only; omega)
    dsimp only
    rw [List.take_add_one, List.getElem?_eq_getElem hil, List.map_append]; rfl
  · have : i = l.length := by omega
    subst this
    rw [List.take_length]

/-- A line of a proof: its word, and the texts of a row. -/
def rowW (kw : By) (l : List Q3) : Ws := kw :: l.map txtQ
theorem rowW_wd {kw : By} {l : List Q3} (hk : wdOK kw) : ∀ w, w ∈ rowW kw l → wdOK w := fun w hw => by
  rcases List.mem_cons.1 hw with rfl | hw
  · exact hk
  · obtain ⟨x, _, rfl⟩ := List.mem_map.1 hw
    exact ⟨(txtQ_wd x).1, fun b hb => by have := (txtQ_wd x).2 b hb; omega⟩
theorem rowW_wlen {kw : By} {l : List Q3} (hk : kw.length ≤ 10) (hw : wsQ l) (hf : FewP l) : wlen (rowW kw l) ≤ 611 := by
  have : ∀ m : List Q3, (∀ x, x ∈ m → okX x 3) → wlen (m.map txtQ) ≤ 75 * m.length := by
    intro m
    induction m with
    | nil => intro _; simp [wlen]
    | cons x m ih =>
      intro h
      have h1 := txtQ_len (h x (by simp))
      have h2 := ih fun y hy => h y (by simp [hy])
      have e : wlen ((x :: m).map txtQ) = (txtQ x).length + 1 + wlen (m.map txtQ) := by simp [wlen]
      rw [e]; simp only [List.length_cons]; omega
  have h1 := this l (okX_of hw hf)
  have h2 := hf.1
  have e : wlen (rowW kw l) = kw.length + 1 + wlen (l.map txtQ) := by simp [wlen, rowW]
  omega

/-- One line printed. -/
theorem rowP {kw pre : By} {l : List Q3} {K : By → Prop} (hk : kw.length ≤ 10) (hw : wsQ l) (hf : FewP l) (hpre : pre.length ≤ 100000) (h : K (lineT (rowW kw l))) :
    ∃ (x13 : List By), vec_Texts l x13 ∧ IfB x13.isEmpty
      (∃ (x16 : By), lines_Join [kw] x16 ∧ Fits (x16.length + ([10] : By).length) 1 ∧ Fits (pre.length + (x16 ++ ([10] : By)).length) 1 ∧ K x16)
      (Fits ([kw].length + x13.length) 16 ∧ ∃ (x33 : By), lines_Join ([kw] ++ x13) x33 ∧ Fits (x33.length + ([10] : By).length) 1 ∧ Fits (pre.length + (x33 ++ ([10] : By)).length) 1 ∧ K x33) := by
  have hl := rowW_wlen (kw := kw) hk hw hf
  have hj := lines_Join_says (l := rowW kw l) (by omega)
  have hn := lineT_len (rowW kw l)
  have f1 : Fits ((lineT (rowW kw l)).length + ([10] : By).length) 1 := by unfold Fits; simp; omega
  have f2 : Fits (pre.length + (lineT (rowW kw l) ++ ([10] : By)).length) 1 := by unfold Fits; simp; omega
  have h8 := hf.1
  refine ⟨_, vec_Texts_says (k := 3) (by omega) l (by omega) (okX_of hw hf), IfB.intro (fun he => ?_) (fun he => ⟨by unfold Fits; simp; omega, _, hj, f1, f2, h⟩)⟩
  have e : rowW kw l = [kw] := by
    have : l.map txtQ = [] := List.isEmpty_iff.1 he
    simp [rowW, this]
  rw [e] at hj f1 f2 h
  exact ⟨_, hj, f1, f2, h⟩

def kO : By := [111, 112, 116, 105, 109, 97, 108]
def kI : By := [105, 110, 102, 101, 97, 115, 105, 98, 108, 101]
def kU : By := [117, 110, 98, 111, 117, 110, 100, 101, 100]
def printW (v : Int) (x y z : List Q3) : List Ws := if v = 1 then [[kO], rowW [120] x, rowW [121] y] else if v = 2 then [[kI], rowW [121] y] else [[kU], rowW [120] x, rowW [114, 97, 121] z]

theorem Print_says (v : Int) (x y z : List Q3) (hx : FewP x) (hy : FewP y) (hz : FewP z) (wx : wsQ x) (wy : wsQ y) (wz : wsQ z) (hm : mayP v x y z) : proof_Print v x y z (linesT (printW v x y z), 0) := by
  have hr := Right13_says v x y z (by have := hx.1; omega) (by have := hy.1; omega) (by have := hz.1; omega)
  rw [decide_eq_true hm] at hr
  have jx := lineT_len (rowW [120] x); have jy := lineT_len (rowW [121] y)
  have kx := rowW_wlen (kw := [120]) (by simp) wx hx; have ky := rowW_wlen (kw := [121]) (by simp) wy hy
  have e1 : ∀ w : By, lineT [w] = w := lineT_one
  unfold proof_Print
  refine ⟨true, hr, IfB_true.2 ⟨_, _, _, _, rfl, ?_⟩⟩
  rcases hm with ⟨rfl, hz0⟩ | ⟨rfl, hx0, hz0⟩ | ⟨rfl, hy0⟩
  · refine ⟨kO, ⟨by omega, rfl⟩, by unfold Fits kO; simp, IfB.neI (fun _ => IfB.neI (fun _ => ?_) (fun h => absurd h (by omega))) (fun h => absurd h (by omega))⟩
    refine rowP (by simp) wx hx (by simp [kO]) ?_
    refine rowP (by simp) wy hy (by simp [kO]; omega) ?_
    simp [printW, linesT, e1]
  · refine ⟨kI, ⟨by omega, rfl⟩, by unfold Fits kI; simp, IfB.neI (fun h => absurd rfl h) (fun _ => ?_)⟩
    refine rowP (by simp) wy hy (by simp [kI]) ?_
    simp [printW, linesT, e1]
  · refine ⟨kU, ⟨by omega, rfl⟩, by unfold Fits kU; simp, IfB.neI (fun _ => IfB.neI (fun h => absurd rfl h) (fun _ => ?_)) (fun h => absurd h (by omega))⟩
    refine rowP (by simp) wx hx (by simp [kU]) ?_
    refine rowP (by simp) wz hz (by simp [kU]; omega) ?_
    simp [printW, linesT, e1]
theorem Print_no (v : Int) (x y z : List Q3) (hx : FewP x) (hy : FewP y) (hz : FewP z) (hm : ¬ mayP v x y z) : proof_Print v x y z ([], 1) := by
  have hr := Right13_says v x y z (by have := hx.1; omega) (by have := hy.1; omega) (by have := hz.1; omega)
  rw [decide_eq_false hm] at hr
  exact ⟨false, hr, IfB_false.2 rfl⟩

/-! ### read again -/
/-- A fraction, lowest. -/
def lowQ (x : Q3) : Q3 := (lowP x, words (lowN x), words (lowD x))
theorem isN_txt {x : Q3} (h : okX x 3) : isN (txtQ x) ∧ numOf (txtQ x) = lowQ x := by
  have := ratR_txtQ h (by omega)
  unfold isN numOf
  rw [this]
  exact ⟨rfl, rfl⟩
theorem okP_row {kw : By} {l : List Q3} (hw : wsQ l) (hf : FewP l) : okP kw (rowW kw l) := by
  refine ⟨rfl, by have := hf.1; simp [rowW]; omega, fun w hw' => ?_⟩
  obtain ⟨x, hx, rfl⟩ := List.mem_map.1 (show w ∈ l.map txtQ from hw')
  exact (isN_txt (okX_of hw hf x hx)).1
theorem map_row {kw : By} {l : List Q3} (hw : wsQ l) (hf : FewP l) : (rowW kw l).tail.map numOf = l.map lowQ := by
  show (l.map txtQ).map numOf = _
  rw [List.map_map]
  exact List.map_congr_left fun x hx => (isN_txt (okX_of hw hf x hx)).2

theorem printW_wd (v : Int) (x y z : List Q3) : ∀ ws, ws ∈ printW v x y z → ws ≠ [] ∧ ∀ w, w ∈ ws → wdOK w := by
  have kk : ∀ (k : By) (l : List Q3), wdOK k → rowW k l ≠ [] ∧ ∀ w, w ∈ rowW k l → wdOK w := fun k l h => ⟨by simp [rowW], rowW_wd h⟩
  have k1 : ∀ k : By, wdOK k → [k] ≠ [] ∧ ∀ w, w ∈ [k] → wdOK w := fun k h => ⟨by simp, by simpa using h⟩
  have a1 : wdOK kO := by unfold wdOK kO; decide
  have a2 : wdOK kI := by unfold wdOK kI; decide
  have a3 : wdOK kU := by unfold wdOK kU; decide
  have a4 : wdOK [120] := by unfold wdOK; decide
  have a5 : wdOK [121] := by unfold wdOK; decide
  have a6 : wdOK [114, 97, 121] := by unfold wdOK; decide
  intro ws hw
  unfold printW at hw
  split at hw
  · simp only [List.mem_cons, List.not_mem_nil, or_false] at hw
    rcases hw with rfl | rfl | rfl
    · exact k1 _ a1
    · exact kk _ _ a4
    · exact kk _ _ a5
  · split at hw
    · simp only [List.mem_cons, List.not_mem_nil, or_false] at hw
      rcases hw with rfl | rfl
      · exact k1 _ a2
      · exact kk _ _ a5
    · simp only [List.mem_cons, List.not_mem_nil, or_false] at hw
      rcases hw with rfl | rfl | rfl
      · exact k1 _ a3
      · exact kk _ _ a4
      · exact kk _ _ a6

theorem printW_len (v : Int) (x y z : List Q3) (hx : FewP x) (hy : FewP y) (hz : FewP z) (wx : wsQ x) (wy : wsQ y) (wz : wsQ z) : (linesT (printW v x y z)).length ≤ 1836 := by
  have h3 : (printW v x y z).length ≤ 3 := by
    unfold printW; split
    · simp
    · split <;> simp
  have k1 : ∀ k : By, k.length ≤ 10 → wlen [k] ≤ 11 := fun k h => by simp [wlen]; omega
  have a1 := rowW_wlen (kw := [120]) (by simp) wx hx
  have a2 := rowW_wlen (kw := [121]) (by simp) wy hy
  have a3 := rowW_wlen (kw := [114, 97, 121]) (by simp) wz hz
  have b1 := k1 kO (by simp [kO]); have b2 := k1 kI (by simp [kI]); have b3 := k1 kU (by simp [kU])
  have := linesT_len (printW v x y z) 612 fun ws hw => by
    unfold printW at hw
    split at hw
    · simp only [List.mem_cons, List.not_mem_nil, or_false] at hw
      rcases hw with rfl | rfl | rfl <;> omega
    · split at hw
      · simp only [List.mem_cons, List.not_mem_nil, or_false] at hw
        rcases hw with rfl | rfl <;> omega
      · simp only [List.mem_cons, List.not_mem_nil, or_false] at hw
        rcases hw with rfl | rfl | rfl <;> omega
  omega

theorem Parse_print (v : Int) (x y z : List Q3) (hx : FewP x) (hy : FewP y) (hz : FewP z) (wx : wsQ x) (wy : wsQ y) (wz : wsQ z) (hm : mayP v x y z) : proof_Parse (linesT (printW v x y z)) (v, x.map lowQ, y.map lowQ, z.map lowQ, 0, 0) := by
  have hl := printW_len v x y z hx hy hz wx wy wz
  have hp := proof_Parse_says (linesT (printW v x y z)) (by omega) (linesT_rightP (printW_wd v x y z)) (allL_ok (by omega)).1
  rw [allL_T (printW_wd v x y z)] at hp
  have hne : linesN 0 (printW v x y z) ≠ [] := by
    intro h
    have := congrArg List.length h
    rw [linesN_length] at this
    unfold printW at this
    split at this
    · simp at this
    · split at this <;> simp at this
  rw [if_neg hne] at hp
  clear hne
  have ox := okP_row (kw := [120]) wx hx; have oy := okP_row (kw := [121]) wy hy; have oz := okP_row (kw := [114, 97, 121]) wz hz
  have mx := map_row (kw := [120]) wx hx; have my := map_row (kw := [121]) wy hy; have mz := map_row (kw := [114, 97, 121]) wz hz
  rcases hm with ⟨rfl, hz0⟩ | ⟨rfl, hx0, hz0⟩ | ⟨rfl, hy0⟩
  · subst hz0
    have e : printW 1 x y [] = [[kO], rowW [120] x, rowW [121] y] := by simp [printW]
    rw [e] at hp ⊢
    simp only [linesN] at hp
    rw [says13_cons, show verd [kO] = 1 from verd_1.2 rfl, if_neg (by omega)] at hp
    simp only [kws, if_true, lnR, if_pos ox, if_pos oy] at hp
    simp only [resP, List.getD_cons_zero, List.getD_cons_succ, mx, my] at hp
    exact hp
  · subst hz0 hx0
    have e : printW 2 [] y [] = [[kI], rowW [121] y] := by simp [printW]
    rw [e] at hp ⊢
    simp only [linesN] at hp
    rw [says13_cons, show verd [kI] = 2 from verd_2.2 rfl, if_neg (by omega)] at hp
    simp only [kws, if_true, show ¬ (2 : Nat) = 1 by omega, if_false, lnR, if_pos oy] at hp
    simp only [resP, List.getD_cons_zero, List.getD_cons_succ, my] at hp
    exact hp
  · subst hy0
    have e : printW 3 x [] z = [[kU], rowW [120] x, rowW [114, 97, 121] z] := by simp [printW]
    rw [e] at hp ⊢
    simp only [linesN] at hp
    rw [says13_cons, show verd [kU] = 3 from verd_3.2 rfl, if_neg (by omega)] at hp
    simp only [kws, show ¬ (3 : Nat) = 1 by omega, show ¬ (3 : Nat) = 2 by omega, if_false, lnR, if_pos ox, if_pos oz] at hp
    simp only [resP, List.getD_cons_zero, List.getD_cons_succ, mx, mz] at hp
    exact hp

theorem same_low {x : Q3} (h : okX x 3) : vec_Same_1 x.1 x.2.1 x.2.2 (lowQ x).1 (lowQ x).2.1 (lowQ x).2.2 true := by
  have l1 := lowN_len h
  have l2 := lowD_len h
  have := rat_Compare_says x.1 x.2.1 x.2.2 (lowP x) (words (lowN x)) (words (lowD x)) h.1 h.2.1 (WS_words _) (WS_words _) (by have := h.2.2.1; omega) (by have := h.2.2.2; omega) (by omega) (by omega)
  rw [val_words, val_words, den1_self (lowD_pos x), low_eqX x] at this
  refine ⟨_, this, ?_⟩
  unfold cmpZ
  rw [if_neg (by omega), if_neg (by omega)]
  exact IfB_true.2 rfl
theorem vec_Same_low (l : List Q3) (hw : wsQ l) (hf : FewP l) : vec_Same l (l.map lowQ) true := by
  have h8 := hf.1
  unfold vec_Same
  refine IfB.neI (fun h => absurd (by simp) h) (fun _ => ?_)
  refine LoopP.intro (fun z : Int => ∃ k : Nat, z = k ∧ k ≤ l.length) (fun z => l.length - z.toNat) ⟨0, rfl, by omega⟩ ?_
  rintro X z ⟨k, rfl, hk⟩ hX
  unfold vec_Same_L1
  refine IfB.dec (fun h1 => ?_) (fun h1 => rfl)
  have hkl : k < l.length := by omega
  have i2 : Idx (l.map lowQ) (k : Int) (lowQ l[k]) := ⟨by omega, by simp [hkl]⟩
  refine ⟨_, _, _, Idx.nat hkl, _, _, _, i2, true, same_low (okX_of hw hf _ (List.getElem_mem hkl)), IfB_true.2 ?_⟩
  rw [wrap64' (by omega) (by omega)]
  exact hX _ ⟨k + 1, by omega, by omega⟩ (by omega)

theorem law_prints (v : Int) (x y z : List Q3) (wx : wsQ x) (wy : wsQ y) (wz : wsQ z) : offcutlaw13_ProofPrints v x y z true := by
  unfold offcutlaw13_ProofPrints
  refine ⟨_, Few13_says v x y z, IfB.dec (fun hf => ?_) (fun _ => awk13 _ _ rfl)⟩
  obtain ⟨fx, fy, fz⟩ := hf
  have s1 := fx.1; have s2 := fy.1; have s3 := fz.1
  by_cases hm : mayP v x y z
  · refine ⟨_, _, Print_says v x y z fx fy fz wx wy wz hm, _, right13_says v x y z (by omega) (by omega) (by omega), ?_⟩
    rw [decide_eq_true hm]
    refine IfB_true.2 ⟨_, _, _, _, _, _, Parse_print v x y z fx fy fz wx wy wz hm, IfB.eqI (fun _ => IfB.eqI (fun _ => IfB.eqI (fun _ => ?_) (fun h => absurd rfl h)) (fun h => absurd rfl h)) (fun h => absurd rfl h)⟩
    have hs : proof_Same v x y z v (x.map lowQ) (y.map lowQ) (z.map lowQ) true := by
      unfold proof_Same
      exact IfB.eqI (fun _ => ⟨true, vec_Same_low x wx fx, IfB_true.2 ⟨true, vec_Same_low y wy fy, IfB_true.2 ⟨true, vec_Same_low z wz fz, IfB_true.2 rfl⟩⟩⟩) (fun h => absurd rfl h)
    have hr := Right13_says v (x.map lowQ) (y.map lowQ) (z.map lowQ) (by simp; omega) (by simp; omega) (by simp; omega)
    have : mayP v (x.map lowQ) (y.map lowQ) (z.map lowQ) := by
      unfold mayP at hm ⊢; simpa using hm
    rw [decide_eq_true this] at hr
    exact ⟨true, hs, IfB_true.2 ⟨true, hr, IfB_true.2 (awk13 _ _ rfl)⟩⟩
  · refine ⟨_, _, Print_no v x y z fx fy fz hm, _, right13_says v x y z (by omega) (by omega) (by omega), ?_⟩
    rw [decide_eq_false hm]
    exact IfB_false.2 (IfB.intro (fun _ => IfB.eqI (fun _ => awk13 _ _ rfl) (fun h => absurd rfl h)) (fun h => by simp at h))

end Go.Abs
end
