/- Part of a proof, in few files: LLin L13a L13b L13c L13d L13e LDec LTxt. -/
import Derived.Test.YtdbfgnpobfbfmaaGreatDoorMAgK15
import Derived.Test.YtdbfgnpobfbfmaaGreatDoorMAgK10
import Derived.Laws.RangeAny
import Derived.Test.YtdbfgnpobfbfmaaGreatDoorMAgK21

section
namespace Go.Abs
open Go
set_option linter.unusedVariables false
set_option linter.unusedSimpArgs false
set_option linter.unnecessarySimpa false
theorem IfB.dec {p : Prop} [Decidable p] {A B : Prop} (h1 : p → A) (h2 : ¬ p → B) : IfB (decide p) A B := ⟨fun h => h1 (of_decide_eq_true h), fun h => h2 (of_decide_eq_false h)⟩
theorem IfB.eqi {a b : Int} {A B : Prop} (h1 : a = b → A) (h2 : a ≠ b → B) : IfB (a == b) A B := ⟨fun h => h1 (by simpa using h), fun h => h2 (by simpa using h)⟩
theorem IfB.nei {a b : Int} {A B : Prop} (h1 : a ≠ b → A) (h2 : a = b → B) : IfB (a != b) A B := ⟨fun h => h1 (by simpa using h), fun h => h2 (by simpa using h)⟩
theorem IfB.bool {b : Bool} {A B : Prop} (h1 : b = true → A) (h2 : b = false → B) : IfB b A B := ⟨h1, h2⟩
theorem rune_at {s : List UInt8} {k : Nat} {b : UInt8} (h : s[k]? = some b) : (b.toNat < 128 ∧ runeAt s k = (b.toNat : Int) ∧ runeLen s k = 1) ∨ (128 ≤ b.toNat ∧ 128 ≤ runeAt s k ∧ 1 ≤ runeLen s k) := by
  obtain ⟨hk, hb⟩ := List.getElem?_eq_some_iff.1 h
  have hk' : k < (ByteArray.mk s.toArray).size := by simpa [ByteArray.size] using hk
  have e : (ByteArray.mk s.toArray)[k]'hk' = b := by
    rw [← hb]; rfl
  by_cases ha : b.toNat < 128
  · have := Go.decode_ascii (ByteArray.mk s.toArray) k hk' (by rw [e]; exact ha)
    rw [e] at this
    exact .inl ⟨ha, by simp [runeAt, this], by simp [runeLen, this]⟩
  · have := Go.decode_high (ByteArray.mk s.toArray) k hk' (by rw [e]; omega)
    exact .inr ⟨by omega, by simp only [runeAt]; omega, this.2⟩
def nmOk (i : Nat) (b : UInt8) : Prop := (97 ≤ b.toNat ∧ b.toNat ≤ 122) ∨ (i ≠ 0 ∧ (b.toNat = 95 ∨ (48 ≤ b.toNat ∧ b.toNat ≤ 57)))
def NameTo (s : List UInt8) (k : Nat) : Prop := ∀ i b, i < k → s[i]? = some b → nmOk i b
def NameP (s : List UInt8) : Prop := 1 ≤ s.length ∧ s.length ≤ 16 ∧ NameTo s s.length
theorem NameTo.next {s : List UInt8} {k : Nat} {b : UInt8} (h : NameTo s k) (hb : s[k]? = some b) (hn : nmOk k b) : NameTo s (k + 1) := fun i c hi hc => by
  by_cases e : i = k
  · subst e; rw [hb] at hc; cases hc; exact hn
  · exact h i c (by omega) hc
theorem not_name {s : List UInt8} {k : Nat} {b : UInt8} (hb : s[k]? = some b) (hn : ¬ nmOk k b) : ¬ NameP s := fun h => hn (h.2.2 k b (List.getElem?_eq_some_iff.1 hb).1 hb)
theorem lines_Name_says {s : List UInt8} {r : Bool} (hr : r = true ↔ NameP s) : lines_Name s r := by
  have no : ¬ NameP s → r = false := fun h => by cases r with | false => rfl | true => exact absurd (hr.1 rfl) h
  unfold lines_Name
  refine LoopP.intro (fun k => k ≤ s.length ∧ NameTo s k) (fun k => s.length - k) ⟨Nat.zero_le _, fun i b h => by omega⟩ ?_
  rintro X k ⟨hk, hn⟩ hX
  unfold lines_Name_L1
  refine IfB.dec (fun hlt => ?_) (fun hge => ?_)
  · obtain ⟨b, hb⟩ : ∃ b, s[k]? = some b := ⟨_, List.getElem?_eq_getElem hlt⟩
    have hc := rune_at hb
    generalize hcc : runeAt s k = c at hc ⊢
    have go : (97 ≤ c ∧ c ≤ 122) ∨ (k ≠ 0 ∧ (c = 95 ∨ (48 ≤ c ∧ c ≤ 57))) → X (k + runeLen s k) := fun h => by
      rcases hc with ⟨h1, h2, h3⟩ | ⟨h1, h2, h3⟩
      · rw [h3]
        exact hX _ ⟨hlt, hn.next hb (by unfold nmOk; omega)⟩ (by omega)
      · omega
    have bad : ¬ ((97 ≤ c ∧ c ≤ 122) ∨ (k ≠ 0 ∧ (c = 95 ∨ (48 ≤ c ∧ c ≤ 57)))) → r = false := fun h => no (not_name hb (by
      unfold nmOk
      rcases hc with ⟨h1, h2, h3⟩ | ⟨h1, h2, h3⟩ <;> omega))
    repeat' (first | (refine IfB.dec (fun _ => ?_) (fun _ => ?_)) | (refine IfB.eqi (fun _ => ?_) (fun _ => ?_)) | (refine IfB.nei (fun _ => ?_) (fun _ => ?_)))
    all_goals first | (refine go ?_; omega) | (refine bad ?_; omega)
  · have e : k = s.length := by omega
    subst e
    refine IfB.dec (fun h1 => IfB.dec (fun h2 => hr.2 ⟨by omega, by omega, hn⟩) (fun h2 => no fun h => by have := h.2.1; omega)) (fun h1 => no fun h => by have := h.1; omega)
def mayB (b : UInt8) : Prop := b.toNat = 10 ∨ (32 ≤ b.toNat ∧ b.toNat ≤ 126)
def RightTo (s : List UInt8) (k : Nat) : Prop := ∀ i b, i < k → s[i]? = some b → mayB b
def RightP (s : List UInt8) : Prop := RightTo s s.length
theorem RightP.mem {s : List UInt8} (h : RightP s) {b : UInt8} (hb : b ∈ s) : mayB b := by
  obtain ⟨i, hi, e⟩ := List.getElem_of_mem hb
  exact h i b hi (by rw [List.getElem?_eq_getElem hi, e])
theorem RightTo.next {s : List UInt8} {k : Nat} {b : UInt8} (h : RightTo s k) (hb : s[k]? = some b) (hn : mayB b) : RightTo s (k + 1) := fun i c hi hc => by
  by_cases e : i = k
  · subst e; rw [hb] at hc; cases hc; exact hn
  · exact h i c (by omega) hc
theorem lines_may_says {c : Int} {r : Bool} (hr : r = true ↔ (c = 10 ∨ (32 ≤ c ∧ c ≤ 126))) : lines_may c r := by
  have no : ¬ (c = 10 ∨ (32 ≤ c ∧ c ≤ 126)) → r = false := fun h => by cases r with | false => rfl | true => exact absurd (hr.1 rfl) h
  unfold lines_may
  refine IfB.eqi (fun h => hr.2 (.inl h)) (fun h => IfB.dec (fun h1 => IfB.dec (fun h2 => hr.2 (.inr ⟨h1, h2⟩)) (fun h2 => no (by omega))) (fun h1 => no (by omega)))
theorem split_mem {c : UInt8} : ∀ {s : List UInt8} {x : List UInt8}, x ∈ splitC c s → (∀ b, b ∈ x → b ∈ s) ∧ x.length ≤ s.length
  | [], x, h => by simp [splitC] at h; subst h; simp
  | b :: l, x, h => by
    unfold splitC at h
    split at h
    · rcases List.mem_cons.1 h with rfl | h
      · simp
      · obtain ⟨h1, h2⟩ := split_mem h
        exact ⟨fun b hb => List.mem_cons_of_mem _ (h1 b hb), by simp; omega⟩
    · obtain ⟨y, r, e⟩ := splitC_ne c l
      rw [e] at h
      simp only at h
      rcases List.mem_cons.1 h with rfl | h
      · obtain ⟨h1, h2⟩ := split_mem (c := c) (s := l) (x := y) (by rw [e]; simp)
        refine ⟨fun d hd => ?_, by simp; omega⟩
        rcases List.mem_cons.1 hd with rfl | hd
        · simp
        · exact List.mem_cons_of_mem _ (h1 d hd)
      · obtain ⟨h1, h2⟩ := split_mem (c := c) (s := l) (x := x) (by rw [e]; simp [h])
        exact ⟨fun b hb => List.mem_cons_of_mem _ (h1 b hb), by simp; omega⟩
theorem split_len {c : UInt8} : ∀ {s : List UInt8}, (splitC c s).length = s.count c + 1
  | [] => rfl
  | b :: l => by
    unfold splitC
    split
    · rename_i e; subst e; rw [List.length_cons, split_len]; simp
    · rename_i e
      obtain ⟨y, r, e2⟩ := splitC_ne c l
      have := split_len (c := c) (s := l)
      rw [e2] at this ⊢
      rw [List.count_cons_of_ne (by simpa using e)]
      simpa using this
def head35 (s : List UInt8) : List UInt8 := (Lib.cut s [35]).1
theorem cut_fst {s : List UInt8} {c : UInt8} : ∃ n, (Lib.cut s [c]).1 = s.take n := by
  unfold Lib.cut
  split
  · exact ⟨_, rfl⟩
  · exact ⟨s.length, by simp⟩
theorem head_mem {s : List UInt8} : (∀ b, b ∈ head35 s → b ∈ s) ∧ (head35 s).length ≤ s.length := by
  unfold head35
  obtain ⟨n, e⟩ := cut_fst (s := s) (c := 35)
  rw [e]
  exact ⟨fun b hb => List.mem_of_mem_take hb, by simp; omega⟩
def wordsOf (s : List UInt8) : List (List UInt8) := Lib.fields (head35 s)
def linesFrom (k : Int) : List (List UInt8) → List (Int × List (List UInt8))
  | [] => []
  | s :: l => if 0 < (wordsOf s).length then (k + 1, wordsOf s) :: linesFrom (k + 1) l else linesFrom (k + 1) l
def allL (s : List UInt8) : List (Int × List (List UInt8)) := linesFrom 0 (splitC 10 s)
theorem linesFrom_length : ∀ (l : List (List UInt8)) (k : Int), (linesFrom k l).length ≤ l.length
  | [], k => by simp [linesFrom]
  | s :: l, k => by
    have := linesFrom_length l (k + 1)
    unfold linesFrom
    split <;> simp <;> omega
theorem lines_All_says {s : List UInt8} (hl : s.length ≤ 65536) (hr : RightP s) : lines_All s (allL s, 0) := by
  unfold lines_All
  refine IfB.dec (fun h => by omega) (fun _ => ?_)
  refine LoopP.intro (fun k => k ≤ s.length) (fun k => s.length - k) (Nat.zero_le _) ?_
  intro X k hk hX
  unfold lines_All_L1
  refine IfB.dec (fun hlt => ?_) (fun hge => ?_)
  · obtain ⟨b, hb⟩ : ∃ b, s[k]? = some b := ⟨_, List.getElem?_eq_getElem hlt⟩
    have hm : mayB b := hr k b hlt hb
    unfold mayB at hm
    rcases rune_at hb with ⟨h1, h2, h3⟩ | ⟨h1, h2, h3⟩
    · refine ⟨true, lines_may_says (by rw [h2]; simp; omega), IfB_true.2 ?_⟩
      rw [h3]
      exact hX _ hlt (by omega)
    · omega
  · refine ⟨splitC 10 s, ⟨by unfold Short; omega, 10, rfl, rfl⟩, ?_⟩
    generalize hp : splitC 10 s = ps
    have hmem : ∀ x, x ∈ ps → (∀ b, b ∈ x → mayB b) ∧ x.length ≤ 65536 := fun x hx => by
      obtain ⟨h1, h2⟩ := split_mem (hp ▸ hx)
      exact ⟨fun b hb => hr.mem (h1 b hb), by omega⟩
    have hlen : ps.length ≤ 65537 := by
      rw [← hp, split_len]
      have := List.count_le_length (a := (10 : UInt8)) (l := s)
      omega
    have goal : linesFrom 0 ps = allL s := by unfold allL; rw [hp]
    rw [← goal]
    refine LoopP.intro (fun z : Int × List (Int × List (List UInt8)) => ∃ done rest : List (List UInt8), ps = done ++ rest ∧ z.1 = done.length ∧ z.2.length ≤ done.length ∧ z.2 ++ linesFrom done.length rest = linesFrom 0 ps) (fun z => ps.length - z.1.toNat) ⟨[], ps, rfl, rfl, by simp, by simp⟩ ?_
    rintro X ⟨z, out⟩ ⟨done, rest, e, hz, ho, hj⟩ hX
    simp only at hz ho hj
    subst hz
    unfold lines_All_L2
    refine IfB.dec (fun hlt => ?_) (fun hge => ?_)
    · cases rest with
      | nil => rw [e] at hlt; simp at hlt
      | cons x rest =>
        have hx := hmem x (by rw [e]; simp)
        have hdl : done.length < ps.length := by rw [e]; simp
        refine ⟨x, ⟨Int.natCast_nonneg _, by rw [e]; simp⟩, (Lib.cut x [35]).1, (Lib.cut x [35]).2.1, (Lib.cut x [35]).2.2, ⟨by unfold Short; omega, 35, rfl, rfl⟩, ?_⟩
        have ew : ∀ A : Prop, A → IfB (Lib.cut x [35]).2.2 A A := fun A h => IfB.intro (fun _ => h) (fun _ => h)
        refine ew _ ?_
        obtain ⟨m1, m2⟩ := head_mem (s := x)
        refine ⟨wordsOf x, ⟨by unfold Short; unfold head35 at m2; omega, fun b hb => ?_, rfl⟩, ?_⟩
        · have := hx.1 b (m1 b hb); unfold mayB at this; omega
        have hw : IntKind.i64.wrap ((done.length : Int) + 1) = ((done ++ [x]).length : Int) := by rw [wrap64 (by constructor <;> omega)]; simp
        have hps : ps = (done ++ [x]) ++ rest := by rw [e]; simp
        have hj2 := hj
        have hcons : linesFrom (done.length : Int) (x :: rest) = if 0 < (wordsOf x).length then ((done.length : Int) + 1, wordsOf x) :: linesFrom ((done.length : Int) + 1) rest else linesFrom ((done.length : Int) + 1) rest := rfl
        rw [hcons] at hj2
        have ec : ((done ++ [x]).length : Int) = (done.length : Int) + 1 := by simp
        have em : ps.length - ((done ++ [x]).length : Int).toNat < ps.length - (done.length : Int).toNat := by simp; omega
        rw [hw]
        refine IfB.dec (fun hpos => ?_) (fun hpos => ?_)
        · rw [if_pos (by omega)] at hj2
          refine ⟨by unfold Fits; simp; omega, hX _ ⟨done ++ [x], rest, hps, rfl, by simp; omega, ?_⟩ em⟩
          simp only [ec, List.append_assoc, List.singleton_append]
          exact hj2
        · rw [if_neg (by omega)] at hj2
          refine hX _ ⟨done ++ [x], rest, hps, rfl, by simp; omega, ?_⟩ em
          simp only [ec]
          exact hj2
    · have : rest = [] := by
        cases rest with
        | nil => rfl
        | cons x r => rw [e] at hge; simp at hge; omega
      subst this
      simp only [linesFrom, List.append_nil] at hj
      rw [hj]
def Rising (lo hi : Int) : List (Int × List (List UInt8)) → Prop
  | [] => True
  | x :: l => lo < x.1 ∧ x.1 ≤ hi ∧ 0 < x.2.length ∧ Rising x.1 hi l
theorem Rising.lower {lo lo' hi : Int} (h : lo' ≤ lo) : ∀ {l : List (Int × List (List UInt8))}, Rising lo hi l → Rising lo' hi l
  | [], _ => trivial
  | x :: l, ⟨a, b⟩ => ⟨by omega, b⟩
theorem linesFrom_rising : ∀ (l : List (List UInt8)) (k : Int), Rising k (k + l.length) (linesFrom k l)
  | [], k => trivial
  | s :: l, k => by
    have ih := linesFrom_rising l (k + 1)
    have e : k + 1 + (l.length : Int) = k + ((s :: l).length : Int) := by simp; omega
    rw [e] at ih
    unfold linesFrom
    split
    · rename_i hw
      exact ⟨by simp; omega, by simp; omega, hw, ih⟩
    · exact ih.lower (by omega)
theorem Rising.at {hi : Int} : ∀ {l : List (Int × List (List UInt8))} {lo : Int} {i : Nat} {x : Int × List (List UInt8)}, Rising lo hi l → l[i]? = some x → 0 < x.2.length ∧ x.1 ≤ hi ∧ (∀ y, i ≠ 0 → l[i - 1]? = some y → y.1 < x.1) ∧ lo < x.1
  | [], _, i, x, _, h => by simp at h
  | z :: l, lo, 0, x, hr, h => by
    simp at h; subst h
    exact ⟨hr.2.2.1, hr.2.1, fun y h => absurd rfl h, hr.1⟩
  | z :: l, lo, i + 1, x, hr, h => by
    simp at h
    obtain ⟨h1, h2, h3, h4⟩ := Rising.at hr.2.2.2 h
    refine ⟨h1, h2, fun y _ hy => ?_, by have := hr.1; omega⟩
    cases i with
    | zero => simp at hy; subst hy; exact h4
    | succ i => simp at hy; exact h3 y (by omega) (by simpa using hy)
theorem head_none {s : List UInt8} (h : ∀ b, b ∈ s → b ≠ 35) : head35 s = s := by
  unfold head35
  rw [cut_one]
  induction s with
  | nil => rfl
  | cons b l ih =>
    rw [List.takeWhile_cons_of_pos (by simpa using h b (by simp)), ih fun c hc => h c (by simp [hc])]
def wlen (l : List (List UInt8)) : Nat := (l.map fun x => x.length + 1).sum
theorem fields_wlen : ∀ (l cur : List UInt8), wlen (Lib.fieldsGo cur l) ≤ cur.length + l.length + 1
  | [], cur => by cases cur <;> simp [Lib.fieldsGo, wlen]
  | b :: l, cur => by
    have i1 := fields_wlen l []
    have i2 := fields_wlen l (cur ++ [b])
    unfold Lib.fieldsGo
    split
    · cases cur with
      | nil => simp at i1 ⊢; omega
      | cons c t => simp [wlen] at i1 ⊢; omega
    · simp at i2 ⊢; omega
theorem wlen_len (l : List (List UInt8)) : l.length ≤ wlen l := by
  induction l with
  | nil => simp [wlen]
  | cons x l ih => simp [wlen] at ih ⊢; omega
theorem tail_len (c : UInt8) (l : List (List UInt8)) : (Lib.joinTail [c] l).length = wlen l := by
  induction l with
  | nil => rfl
  | cons x l ih =>
    simp only [Lib.joinTail, wlen, List.map_cons, List.flatten_cons, List.length_append, List.length_cons, List.length_nil, List.sum_cons] at ih ⊢
    omega
theorem join_len (c : UInt8) (l : List (List UInt8)) : (Lib.join l [c]).length ≤ wlen l := by
  cases l with
  | nil => rw [Lib.join_nil]; exact Nat.zero_le _
  | cons x l =>
    rw [Lib.join_cons, List.length_append, tail_len]
    simp [wlen]
theorem strings_Join_says {l : List (List UInt8)} {c : UInt8} (h : wlen l ≤ 1000000) : strings_Join l [c] (Lib.join l [c]) :=
  ⟨by have := wlen_len l; omega, by have := join_len c l; omega, rfl⟩
abbrev Ws := List (List UInt8)
abbrev Ls := List (Int × Ws)
theorem u8 {b : UInt8} {c : Nat} (hc : c < 256) : b.toNat = c ↔ b = c.toUInt8 := by
  constructor
  · intro h; subst h; simp
  · rintro rfl; simp; omega
theorem lines_All_form {s : List UInt8} (hl : s.length ≤ 65536) (hr : ¬ RightP s) : lines_All s ([], 2) := by
  unfold lines_All
  refine IfB.dec (fun h => by omega) (fun _ => ?_)
  refine LoopP.intro (fun k => k ≤ s.length ∧ RightTo s k) (fun k => s.length - k) ⟨Nat.zero_le _, fun i b h => by omega⟩ ?_
  rintro X k ⟨hk, hn⟩ hX
  unfold lines_All_L1
  refine IfB.dec (fun hlt => ?_) (fun hge => ?_)
  · obtain ⟨b, hb⟩ : ∃ b, s[k]? = some b := ⟨_, List.getElem?_eq_getElem hlt⟩
    by_cases hm : mayB b
    · have hm' := hm
      unfold mayB at hm'
      rcases rune_at hb with ⟨h1, h2, h3⟩ | ⟨h1, h2, h3⟩
      · refine ⟨true, lines_may_says (by rw [h2]; simp; omega), IfB_true.2 ?_⟩
        rw [h3]
        exact hX _ ⟨hlt, hn.next hb hm⟩ (by omega)
      · omega
    · have hm' := hm
      unfold mayB at hm'
      refine ⟨false, lines_may_says ?_, IfB_false.2 rfl⟩
      rcases rune_at hb with ⟨h1, h2, h3⟩ | ⟨h1, h2, h3⟩
      · rw [h2]; simp; omega
      · simp; omega
  · exfalso
    have e : k = s.length := by omega
    subst e
    exact hr hn
theorem all_wlen (s : List UInt8) : ∀ x, x ∈ allL s → wlen x.2 ≤ s.length + 1 := by
  have key : ∀ (l : List (List UInt8)) (k : Int), (∀ y, y ∈ l → y.length ≤ s.length) → ∀ x, x ∈ linesFrom k l → wlen x.2 ≤ s.length + 1 := by
    intro l
    induction l with
    | nil => intro k _ x hx; simp [linesFrom] at hx
    | cons y l ih =>
      intro k hy x hx
      have hx' : x ∈ (if 0 < (wordsOf y).length then (k + 1, wordsOf y) :: linesFrom (k + 1) l else linesFrom (k + 1) l) := hx
      have one : wlen (wordsOf y) ≤ s.length + 1 := by
        have h1 := fields_wlen (head35 y) []
        have h2 := (head_mem (s := y)).2
        have h3 := hy y (by simp)
        unfold wordsOf Lib.fields
        simp at h1
        omega
      split at hx'
      · rcases List.mem_cons.1 hx' with rfl | hx'
        · exact one
        · exact ih _ (fun z hz => hy z (by simp [hz])) x hx'
      · exact ih _ (fun z hz => hy z (by simp [hz])) x hx'
  exact key _ 0 fun y hy => (split_mem hy).2
theorem fields_word : ∀ (w t cur : List UInt8), (∀ b, b ∈ w → Lib.isSp b = false) → Lib.fieldsGo cur (w ++ t) = Lib.fieldsGo (cur ++ w) t
  | [], t, cur, _ => by simp
  | b :: w, t, cur, h => by
    rw [List.cons_append, Lib.fieldsGo, if_neg (by rw [h b (by simp)]; simp), fields_word w t (cur ++ [b]) fun c hc => h c (by simp [hc])]
    simp
theorem fields_tail : ∀ (r : List (List UInt8)) (cur : List UInt8), cur ≠ [] → (∀ w, w ∈ r → w ≠ [] ∧ ∀ b, b ∈ w → Lib.isSp b = false) → Lib.fieldsGo cur (Lib.joinTail [32] r) = cur :: r
  | [], cur, h, _ => by cases cur <;> simp [Lib.joinTail, Lib.fieldsGo] at h ⊢
  | y :: r, cur, h, hr => by
    obtain ⟨h1, h2⟩ := hr y (by simp)
    have e : Lib.joinTail [32] (y :: r) = 32 :: (y ++ Lib.joinTail [32] r) := by simp [Lib.joinTail]
    have e2 : Lib.fieldsGo cur (32 :: (y ++ Lib.joinTail [32] r)) = if cur.isEmpty then Lib.fieldsGo [] (y ++ Lib.joinTail [32] r) else cur :: Lib.fieldsGo [] (y ++ Lib.joinTail [32] r) := rfl
    rw [e, e2, fields_word _ _ _ h2, List.nil_append, fields_tail r y h1 fun w hw => hr w (by simp [hw])]
    cases cur with
    | nil => exact absurd rfl h
    | cons c t => rfl
theorem fields_join {l : List (List UInt8)} (h : ∀ w, w ∈ l → w ≠ [] ∧ ∀ b, b ∈ w → Lib.isSp b = false) : Lib.fields (Lib.join l [32]) = l := by
  cases l with
  | nil => rfl
  | cons x r =>
    obtain ⟨h1, h2⟩ := h x (by simp)
    unfold Lib.fields
    rw [Lib.join_cons, fields_word _ _ _ h2, List.nil_append, fields_tail r x h1 fun w hw => h w (by simp [hw])]
def mkB (s : List UInt8) : ByteArray := ⟨s.toArray⟩
theorem mkB_inj {a b : List UInt8} (h : mkB a = mkB b) : a = b := by
  have : (mkB a).data.toList = (mkB b).data.toList := by rw [h]
  simpa [mkB] using this
theorem join_mem : ∀ {l : List (List UInt8)} {b : UInt8}, b ∈ Lib.join l [32] → b = 32 ∨ ∃ w, w ∈ l ∧ b ∈ w
  | [], b, h => by rw [Lib.join_nil] at h; simp at h
  | x :: r, b, h => by
    rw [Lib.join_cons, List.mem_append] at h
    rcases h with h | h
    · exact .inr ⟨x, by simp, h⟩
    · unfold Lib.joinTail at h
      rw [List.mem_flatten] at h
      obtain ⟨t, ht, hb⟩ := h
      rw [List.mem_map] at ht
      obtain ⟨w, hw, rfl⟩ := ht
      simp only [List.mem_append, List.mem_singleton] at hb
      rcases hb with h | h
      · exact .inl h
      · exact .inr ⟨w, by simp [hw], h⟩
end Go.Abs
end

section
namespace Go.Abs
open Go
set_option linter.unusedVariables false
set_option linter.unusedSimpArgs false
set_option linter.unnecessarySimpa false
abbrev Q3 := Bool × List Int × List Int
def isN (w : By) : Prop := (ratR w).2.2.2 = 0
instance (w : By) : Decidable (isN w) := inferInstanceAs (Decidable (_ = _))
def numOf (w : By) : Q3 := ((ratR w).1, (ratR w).2.1, (ratR w).2.2.1)
theorem lines_Number_says (w : By) (hl : w.length ≤ 1000000) : lines_Number w (if isN w then ((numOf w).1, (numOf w).2.1, (numOf w).2.2, true) else (false, [], words 1, false)) := by
  unfold lines_Number
  have h := rat_Parse_says w hl
  refine ⟨(ratR w).1, (ratR w).2.1, (ratR w).2.2.1, (ratR w).2.2.2, h, IfB.neI (fun he => ?_) (fun he => ?_)⟩
  · rw [if_neg (show ¬ isN w from he)]; exact ⟨_, _, _, rat_Int0, rfl⟩
  · rw [if_pos (show isN w from he)]; rfl
def dgOK (s : By) : Prop := s ≠ [] ∧ allDg s ∧ s.length ≤ 400
instance (s : By) : Decidable (dgOK s) := inferInstanceAs (Decidable (_ ∧ _))
theorem dgOK_parse (s : By) : dgOK s ↔ (parseR s).2 = 0 := by
  unfold dgOK parseR
  by_cases h : s = [] ∨ ¬ allDg s
  · rw [if_pos h]
    constructor
    · rintro ⟨h1, h2, _⟩; exact (h.elim h1 (fun h => h h2)).elim
    · intro h'; simp at h'
  · rw [if_neg h]
    have h1 : s ≠ [] := fun e => h (.inl e)
    have h2 : allDg s := Decidable.byContradiction fun e => h (.inr e)
    by_cases h3 : 400 < s.length
    · rw [if_pos h3]
      constructor
      · rintro ⟨_, _, h4⟩; omega
      · intro h'; simp at h'
    · rw [if_neg h3]; exact ⟨fun _ => rfl, fun _ => ⟨h1, h2, by omega⟩⟩
def okQ (x : Q3) : Prop := WS x.2.1 ∧ WS x.2.2 ∧ x.2.1.length ≤ 10000 ∧ x.2.2.length ≤ 10000
theorem numOf_ok (w : By) : okQ (numOf w) := by
  have hp : ∀ (v : Nat), True := fun _ => trivial
  unfold okQ numOf ratR
  dsimp only
  have h1 := parseR_len (if (Lib.cut w [47]).2.2 then (Lib.cut w [47]).2.1 else [49])
  have h2 := wholeR_len (Lib.cut w [47]).1
  have h3 := parseR_WS (if (Lib.cut w [47]).2.2 then (Lib.cut w [47]).2.1 else [49])
  have h4 := wholeR_WS (Lib.cut w [47]).1
  generalize parseR (if (Lib.cut w [47]).2.2 then (Lib.cut w [47]).2.1 else [49]) = P at *
  generalize wholeR (Lib.cut w [47]).1 = A at *
  split
  · exact ⟨WS_nil, WS_nil, by simp, by simp⟩
  · split
    · exact ⟨WS_nil, WS_nil, by simp, by simp⟩
    · split
      · exact ⟨WS_nil, WS_nil, by simp, by simp⟩
      · refine ⟨WS_words _, WS_words _, ?_, ?_⟩
        · exact Nat.le_trans (words_len_le (Nat.div_le_self _ _)) (Nat.le_trans (wl h4) (by omega))
        · exact Nat.le_trans (words_len_le (Nat.div_le_self _ _)) (Nat.le_trans (wl h3) (by omega))
end Go.Abs
end

section
namespace Go.Abs
open Go
set_option linter.unusedVariables false
set_option linter.unusedSimpArgs false
set_option linter.unnecessarySimpa false
theorem dV_zero : ∀ {s : By}, allDg s → (dV 0 s = 0 ↔ ∀ b, b ∈ s → b = 48)
  | [], _ => by simp [dV_nil]
  | b :: l, h => by
    have hb := h b (by simp)
    have ih := dV_zero (s := l) fun c hc => h c (by simp [hc])
    unfold dg at hb
    rw [dV_cons, dV_acc]
    have hp : 0 < 10 ^ l.length := Nat.pow_pos (by omega)
    have hb48 : b = 48 ↔ b.toNat = 48 := ⟨fun e => by subst e; rfl, fun e => UInt8.toNat_inj.1 e⟩
    constructor
    · intro h0
      have h1 : (0 * 10 + (b.toNat - 48)) * 10 ^ l.length = 0 := by omega
      have h2 : dV 0 l = 0 := by omega
      rcases Nat.mul_eq_zero.1 h1 with h3 | h3
      · intro c hc
        rcases List.mem_cons.1 hc with rfl | hc
        · exact hb48.2 (by omega)
        · exact ih.1 h2 c hc
      · omega
    · intro h0
      have h1 : b.toNat = 48 := hb48.1 (h0 b (by simp))
      have h2 := ih.2 fun c hc => h0 c (by simp [hc])
      rw [h1, h2]; simp
def allZ (s : By) : Prop := ∀ c, c ∈ s → c = 48
instance (s : By) : Decidable (allZ s) := inferInstanceAs (Decidable (∀ c, c ∈ s → c = 48))
def numU (t : By) : Bool :=
  if (Lib.cut t [47]).2.2 then decide (dgOK (Lib.cut t [47]).1) && decide (dgOK (Lib.cut t [47]).2.1) && !decide (allZ (Lib.cut t [47]).2.1) else decide (dgOK t)
theorem cut_app {a b : By} {c : UInt8} (h : ∀ x, x ∈ a → x ≠ c) : Lib.cut (a ++ c :: b) [c] = (a, b, true) := by
  have hi : Lib.index (a ++ c :: b) [c] = (a.length : Int) := by
    rw [Lib.index_one]
    induction a with
    | nil => simp [Lib.indexByte]
    | cons x l ih =>
      have hx := h x (by simp)
      have := ih fun y hy => h y (by simp [hy])
      simp [Lib.indexByte, hx, this]
  unfold Lib.cut
  rw [hi]
  simp
theorem cut_no {a : By} {c : UInt8} (h : ∀ x, x ∈ a → x ≠ c) : Lib.cut a [c] = (a, [], false) := by
  have hi : Lib.index a [c] = -1 := by
    rw [Lib.index_one]
    induction a with
    | nil => rfl
    | cons x l ih =>
      have hx := h x (by simp)
      have := ih fun y hy => h y (by simp [hy])
      simp [Lib.indexByte, hx, this]
  unfold Lib.cut
  rw [hi]
  simp
theorem trimP_cons (b : UInt8) (l : By) : Lib.trimPrefix (b :: l) [45] = if b = 45 then l else b :: l := by
  unfold Lib.trimPrefix Lib.hasPrefix
  by_cases h : b = 45
  · subst h; simp [List.isPrefixOf]
  · have : ¬ (45 = b) := fun e => h e.symm
    simp [List.isPrefixOf, h, this]
theorem dw_nil2 : ∀ (w : By), w.dropWhile (fun y : UInt8 => !(y == 47)) = [] ↔ ∀ x, x ∈ w → (!(x == 47)) = true
  | [] => by simp
  | b :: l => by
    rw [List.dropWhile_cons]
    by_cases h : (!(b == 47)) = true
    · rw [if_pos h, dw_nil2 l]
      constructor
      · intro h' x hx
        rcases List.mem_cons.1 hx with rfl | hx
        · exact h
        · exact h' x hx
      · exact fun h' x hx => h' x (by simp [hx])
    · rw [if_neg h]
      exact ⟨fun e => by simp at e, fun h' => absurd (h' b (by simp)) h⟩
theorem dw_head : ∀ (w : By), w.dropWhile (fun y : UInt8 => !(y == 47)) ≠ [] → ∀ y l, w.dropWhile (fun y : UInt8 => !(y == 47)) = y :: l → y = 47
  | [], h => by simp at h
  | b :: l, h => by
    rw [List.dropWhile_cons] at h ⊢
    by_cases hb : (!(b == 47)) = true
    · rw [if_pos hb] at h ⊢; exact dw_head l h
    · rw [if_neg hb]
      intro y l' e
      cases e
      simpa using hb
theorem tw_mem : ∀ (w : By) (x : UInt8), x ∈ w.takeWhile (fun y : UInt8 => !(y == 47)) → (!(x == 47)) = true
  | [], x, h => by simp at h
  | b :: l, x, h => by
    rw [List.takeWhile_cons] at h
    split at h
    · rename_i hb
      rcases List.mem_cons.1 h with rfl | h
      · exact hb
      · exact tw_mem l x h
    · simp at h
theorem numU_isN (w : By) : numU (Lib.trimPrefix w [45]) = decide (isN w) := by
  have fin : (numU (Lib.trimPrefix w [45]) = true ↔ isN w) → numU (Lib.trimPrefix w [45]) = decide (isN w) := fun h => by
    by_cases hh : isN w
    · rw [decide_eq_true hh]; exact h.2 hh
    · rw [decide_eq_false hh]; exact Bool.eq_false_iff.2 fun e => hh (h.1 e)
  apply fin
  clear fin
  have hone : parseR [49] = (words 1, 0) := by
    unfold parseR
    rw [if_neg (by decide), if_neg (by decide)]
    rfl
  have wz : ∀ a : By, (wholeR a).2.2 = 0 ↔ dgOK (Lib.trimPrefix a [45]) := fun a => by
    rw [dgOK_parse]
    unfold wholeR
    split
    · rename_i h; exact ⟨fun h' => absurd h' h, fun h' => absurd h' h⟩
    · rename_i h; exact ⟨fun _ => by omega, fun _ => rfl⟩
  have pz : ∀ b : By, dgOK b → (val (parseR b).1 = 0 ↔ allZ b) := fun b hb => by
    unfold parseR
    rw [if_neg (fun h => h.elim hb.1 fun h => h hb.2.1), if_neg (by have := hb.2.2; omega), val_words]
    exact dV_zero hb.2.1
  by_cases hs : ∃ a b, w = a ++ 47 :: b ∧ ∀ x, x ∈ a → x ≠ 47
  · obtain ⟨a, b, rfl, ha⟩ := hs
    have hc := cut_app (b := b) ha
    have ht : Lib.trimPrefix (a ++ 47 :: b) [45] = Lib.trimPrefix a [45] ++ 47 :: b ∧ ∀ x, x ∈ Lib.trimPrefix a [45] → x ≠ 47 := by
      cases a with
      | nil => refine ⟨?_, by simp [Lib.trimPrefix, Lib.hasPrefix]⟩
               rw [List.nil_append, trimP_cons, if_neg (by decide)]; rfl
      | cons y l =>
        rw [List.cons_append, trimP_cons, trimP_cons]
        split
        · exact ⟨rfl, fun x hx => ha x (by simp [hx])⟩
        · exact ⟨rfl, ha⟩
    have hc2 := cut_app (b := b) ht.2
    rw [ht.1]
    unfold numU isN ratR
    rw [hc2, hc]
    dsimp only
    simp only [if_true]
    have w1 := wz a
    by_cases h1 : dgOK (Lib.trimPrefix a [45])
    · rw [if_neg (by rw [w1.2 h1]; simp)]
      by_cases h2 : dgOK b
      · have e2 := (dgOK_parse b).1 h2
        rw [if_neg (by rw [e2]; simp)]
        by_cases h3 : allZ b
        · rw [if_pos ((pz b h2).2 h3)]; simp [h1, h2, h3]
        · rw [if_neg (fun h => h3 ((pz b h2).1 h))]; simp [h1, h2, h3]
      · have e2 : (parseR b).2 ≠ 0 := fun h => h2 ((dgOK_parse b).2 h)
        rw [if_pos e2]; simp [h2, e2]
    · have e1 : (wholeR a).2.2 ≠ 0 := fun h => h1 (w1.1 h)
      rw [if_pos e1]; simp [h1, e1]
  · have hno : ∀ x, x ∈ w → x ≠ 47 := by
      intro x hx e
      subst e
      refine hs ⟨w.takeWhile (fun y => !(y == 47)), (w.dropWhile (fun y => !(y == 47))).tail, ?_, fun x hx => ?_⟩
      · have h1 := (List.takeWhile_append_dropWhile (p := fun y : UInt8 => !(y == 47)) (l := w)).symm
        have h2 : w.dropWhile (fun y : UInt8 => !(y == 47)) ≠ [] := fun e => by
          have := (dw_nil2 w).1 e 47 hx
          simp at this
        have h3 := dw_head w h2
        cases hd : w.dropWhile (fun y : UInt8 => !(y == 47)) with
        | nil => exact absurd hd h2
        | cons y l =>
          rw [hd] at h1
          have : y = 47 := h3 y l hd
          subst this
          exact h1
      · have := tw_mem w x hx
        intro e; subst e; simp at this
    have hno2 : ∀ x, x ∈ Lib.trimPrefix w [45] → x ≠ 47 := fun x hx => hno x (by
      unfold Lib.trimPrefix at hx
      split at hx
      · exact List.mem_of_mem_drop hx
      · exact hx)
    unfold numU isN ratR
    rw [cut_no hno2, cut_no hno]
    dsimp only
    simp only [Bool.false_eq_true, if_false]
    rw [hone]
    have w1 := wz w
    have v1 : ¬ val (words 1, (0 : Int)).1 = 0 := by rw [val_words]; omega
    by_cases h1 : dgOK (Lib.trimPrefix w [45])
    · rw [if_neg (by rw [w1.2 h1]; simp)]
      rw [if_neg (show ¬ (words 1, (0 : Int)).2 ≠ 0 by simp), if_neg v1]; simp [h1]
    · have e1 : (wholeR w).2.2 ≠ 0 := fun h => h1 (w1.1 h)
      rw [if_pos e1]; simp [h1, e1]
end Go.Abs
end

section
namespace Go.Abs
open Go
set_option linter.unusedVariables false
set_option linter.unusedSimpArgs false
set_option linter.unnecessarySimpa false
def okP (kw : By) (ws : List By) : Prop := ws.head? = some kw ∧ ws.length ≤ 181 ∧ ∀ w, w ∈ ws.tail → isN w
instance (kw : By) (ws : List By) : Decidable (okP kw ws) := inferInstanceAs (Decidable (_ ∧ _ ∧ _))
theorem sub_tail {α : Type} (a : α) (l : List α) : sub (a :: l) (1 : Int) ((a :: l).length : Int) = l := by unfold sub; simp
theorem subok_tail {α : Type} (a : α) (l : List α) : SubOk (a :: l) (1 : Int) ((a :: l).length : Int) := ⟨by omega, by simp; omega, by omega⟩
theorem idx0 {α : Type} (a : α) (l : List α) : Idx (a :: l) (0 : Int) a := ⟨by omega, rfl⟩
end Go.Abs
end

section
namespace Go.Abs
open Go
set_option linter.unusedVariables false
set_option linter.unusedSimpArgs false
set_option linter.unnecessarySimpa false
end Go.Abs
end

section
namespace Go.Abs
open Go
set_option linter.unusedVariables false
set_option linter.unusedSimpArgs false
set_option linter.unnecessarySimpa false
end Go.Abs
end

section
namespace Go.Abs
open Go
set_option linter.unusedVariables false
set_option linter.unusedSimpArgs false
set_option linter.unnecessarySimpa false
def dch (n : Nat) : UInt8 := UInt8.ofNat (48 + n)
theorem dch_nat {n : Nat} (h : n ≤ 9) : (dch n).toNat = 48 + n := by
  unfold dch; rw [UInt8.toNat_ofNat_of_lt' (by show 48 + n < 256; omega)]
theorem dch_dg {n : Nat} (h : n ≤ 9) : dg (dch n) := by unfold dg; rw [dch_nat h]; omega
def decT (n : Nat) : By := if h : n < 10 then [dch n] else decT (n / 10) ++ [dch (n % 10)]
termination_by n
decreasing_by omega
theorem decT_lt {n : Nat} (h : n < 10) : decT n = [dch n] := by rw [decT]; simp [h]
theorem decT_ge {n : Nat} (h : 10 ≤ n) : decT n = decT (n / 10) ++ [dch (n % 10)] := by rw [decT]; simp [show ¬ n < 10 by omega]
theorem allDg_one {b : UInt8} (h : dg b) : allDg [b] := by intro c hc; simp at hc; subst hc; exact h
theorem allDg_cons {b : UInt8} {l : By} : allDg (b :: l) ↔ dg b ∧ allDg l := by simp [allDg]
theorem decT_facts (n : Nat) : decT n ≠ [] ∧ allDg (decT n) ∧ dV 0 (decT n) = n ∧ (0 < n → (decT n).head? ≠ some 48) := by
  induction n using Nat.strongRecOn with
  | _ n ih =>
    by_cases h : n < 10
    · rw [decT_lt h]
      refine ⟨by simp, allDg_one (dch_dg (by omega)), by rw [dV_one, dch_nat (by omega)]; omega, fun h0 => ?_⟩
      simp only [List.head?_cons, ne_eq, Option.some.injEq]
      intro e
      have := congrArg UInt8.toNat e
      rw [dch_nat (by omega)] at this
      have h48 : (48 : UInt8).toNat = 48 := rfl
      omega
    · have hi := ih (n / 10) (by omega)
      rw [decT_ge (by omega)]
      refine ⟨by simp, allDg_app.2 ⟨hi.2.1, allDg_one (dch_dg (by omega))⟩, ?_, fun _ => ?_⟩
      · rw [dV_app0, dV_one, hi.2.2.1, dch_nat (by omega)]; simp; omega
      · rw [List.head?_append]
        have := hi.2.2.2 (by omega)
        cases hh : (decT (n / 10)).head? with
        | none => exact absurd (List.head?_eq_none_iff.1 hh) hi.1
        | some c => rw [hh] at this; simpa using this
theorem decT_ne (n : Nat) : decT n ≠ [] := (decT_facts n).1
theorem decT_dg (n : Nat) : allDg (decT n) := (decT_facts n).2.1
theorem dV_decT (n : Nat) : dV 0 (decT n) = n := (decT_facts n).2.2.1
theorem decT_len : ∀ (k n : Nat), n < 10 ^ (k + 1) → (decT n).length ≤ k + 1
  | 0, n, h => by rw [decT_lt (by simpa using h)]; simp
  | k + 1, n, h => by
    by_cases hn : n < 10
    · rw [decT_lt hn]; simp
    · rw [decT_ge (by omega), List.length_append]
      have := decT_len k (n / 10) (by rw [Nat.pow_succ] at h; omega)
      simp; omega
theorem decT_pos (n : Nat) : 0 < (decT n).length := List.length_pos_iff.2 (decT_ne n)
theorem divA (q P r : Nat) (h : r < P) : (q * P + r) / P = q := by
  rw [Nat.mul_comm, Nat.mul_add_div (by omega), Nat.div_eq_of_lt h]; omega
theorem dV_eq_len : ∀ {a b : By}, allDg a → allDg b → a.length = b.length → dV 0 a = dV 0 b → a = b
  | [], [], _, _, _, _ => rfl
  | x :: a, y :: b, ha, hb, hl, hv => by
    have ha := allDg_cons.1 ha
    have hb := allDg_cons.1 hb
    have hl : a.length = b.length := by simpa using hl
    rw [dV_cons, dV_cons, dV_acc a, dV_acc b, hl] at hv
    have h1 := dV_lt a ha.2
    have h2 := dV_lt b hb.2
    rw [hl] at h1
    have h3 := ha.1; have h4 := hb.1
    unfold dg at h3 h4
    have e1 := divA (0 * 10 + (x.toNat - 48)) (10 ^ b.length) (dV 0 a) h1
    have e2 := divA (0 * 10 + (y.toNat - 48)) (10 ^ b.length) (dV 0 b) h2
    have e : x.toNat - 48 = y.toNat - 48 := by
      rw [hv] at e1
      omega
    rw [e] at hv
    have hxy : x = y := UInt8.toNat_inj.1 (by omega)
    rw [hxy, dV_eq_len ha.2 hb.2 hl (by omega)]
theorem decT_of {s : By} (hd : allDg s) (hne : s ≠ []) (h0 : 1 < s.length → s.head? ≠ some 48) : s = decT (dV 0 s) := by
  refine dV_eq_len hd (decT_dg _) ?_ (dV_decT _).symm
  have h1 := dV_lt s hd
  have hp := List.length_pos_iff.2 hne
  have h2 := decT_len (s.length - 1) (dV 0 s) (by rw [show s.length - 1 + 1 = s.length from by omega]; exact h1)
  rcases Nat.lt_or_ge (decT (dV 0 s)).length s.length with hlt | hge
  · exfalso
    have hp2 := decT_pos (dV 0 s)
    have h3 := dV_lt _ (decT_dg (dV 0 s))
    rw [dV_decT] at h3
    cases s with
    | nil => exact hne rfl
    | cons b l =>
      have hb := allDg_cons.1 hd
      have hb1 := hb.1
      unfold dg at hb1
      have hnb := h0 (by omega)
      simp only [List.head?_cons, ne_eq, Option.some.injEq] at hnb
      have hb48 : b.toNat ≠ 48 := fun e => hnb (UInt8.toNat_inj.1 e)
      generalize (decT (dV 0 (b :: l))).length = L at *
      rw [dV_cons, dV_acc] at h3
      have h5 : 10 ^ L ≤ 10 ^ l.length := Nat.pow_le_pow_right (by omega) (by simp at hlt; omega)
      have h6 : 1 * 10 ^ l.length ≤ (0 * 10 + (b.toNat - 48)) * 10 ^ l.length := Nat.mul_le_mul_right _ (by omega)
      omega
  · omega
end Go.Abs
end

section
namespace Go.Abs
open Go
set_option linter.unusedVariables false
set_option linter.unusedSimpArgs false
set_option linter.unnecessarySimpa false
def DG (l : List Int) : Prop := ∀ x, x ∈ l → 48 ≤ x ∧ x ≤ 57
theorem DG_nil : DG [] := by intro x hx; simp at hx
theorem DG_snoc {l : List Int} {x : Int} : DG (l ++ [x]) ↔ DG l ∧ 48 ≤ x ∧ x ≤ 57 := by
  constructor
  · intro h; exact ⟨fun y hy => h y (by simp [hy]), h x (by simp)⟩
  · rintro ⟨h, hx⟩ y hy
    rcases List.mem_append.1 hy with hy | hy
    · exact h y hy
    · obtain rfl := List.mem_singleton.1 hy; exact hx
def LT (l : List Int) : By := byteS l.reverse
theorem LT_len (l : List Int) : (LT l).length = l.length := by simp [LT, byteS]
theorem LT_snoc (l : List Int) (x : Int) : LT (l ++ [x]) = UInt8.ofNat x.toNat :: LT l := by simp [LT, byteS]
theorem LT_dg {l : List Int} (h : DG l) : allDg (LT l) := by
  intro b hb
  simp only [LT, byteS, List.mem_map, List.mem_reverse] at hb
  obtain ⟨x, hx, rfl⟩ := hb
  have := h x hx
  unfold dg
  rw [UInt8.toNat_ofNat_of_lt' (show x.toNat < 256 by omega)]
  omega
theorem LT_val {l : List Int} {d : Nat} (hd : d ≤ 9) : dV 0 (LT (l ++ [48 + (d : Int)])) = dV 0 (LT l) + 10 ^ l.length * d := by
  rw [LT_snoc, dV_cons, dV_acc, LT_len, show (48 + (d : Int)).toNat = 48 + d from by omega, UInt8.toNat_ofNat_of_lt' (show 48 + d < 256 by omega)]
  rw [show 0 * 10 + (48 + d - 48) = d from by omega, Nat.mul_comm]; omega
theorem tmodN (a b : Nat) : Int.tmod (a : Int) (b : Int) = ((a % b : Nat) : Int) := by rw [Int.tmod_eq_emod_of_nonneg (by omega)]; rfl
theorem tdivN (a b : Nat) : Int.tdiv (a : Int) (b : Int) = ((a / b : Nat) : Int) := by rw [Int.tdiv_eq_ediv_of_nonneg (by omega)]; rfl
theorem text_nine {n m D0 : Nat} {X1 : ((List Int) × (List Int)) → Prop} {x5 : List Int} {q0 : Nat} {E0 : List Int} (hq : q0 < 1000000000) (hl : E0.length = D0) (hD : D0 ≤ 10000000) (hg : DG E0) (hv : dV 0 (LT E0) + 10 ^ D0 * q0 + 10 ^ (D0 + 9) * m = n)
    (hX1 : ∀ E, E.length = D0 + 9 → DG E → dV 0 (LT E) + 10 ^ (D0 + 9) * m = n → X1 (x5, E)) : LoopP (nat_Text_L2 X1 x5) ((q0 : Int), (0 : Int), E0) := by
  refine LoopP.intro (fun z : Int × Int × List Int => ∃ i q : Nat, z.2.1 = i ∧ i ≤ 9 ∧ z.1 = q ∧ q < 10 ^ (9 - i) ∧ z.2.2.length = D0 + i ∧ DG z.2.2 ∧ dV 0 (LT z.2.2) + 10 ^ (D0 + i) * q + 10 ^ (D0 + 9) * m = n) (fun z => 9 - z.2.1.toNat) ⟨0, q0, rfl, by omega, rfl, by simpa using hq, by simpa using hl, hg, by simpa using hv⟩ ?_
  rintro X ⟨z1, z2, z3⟩ ⟨i, q, h1, hi, h2, hq, h3, hg, hv⟩ hX
  dsimp only at h1 h2 h3 hg hv
  subst h1; subst h2
  unfold nat_Text_L2
  refine IfB.dc (fun hlt => ?_) (fun hge => ?_)
  · have hi9 : i < 9 := by omega
    have hq9 : q < 10 ^ 9 := Nat.lt_of_lt_of_le hq (Nat.pow_le_pow_right (by omega) (by omega))
    have e1 : IntKind.u8.wrap (IntKind.u64.wrap (48 + Int.tmod (q : Int) 10)) = 48 + ((q % 10 : Nat) : Int) := by
      rw [show (10 : Int) = ((10 : Nat) : Int) from rfl, tmodN, wrapu64 (by omega) (by omega), wrapu8 (by omega) (by omega)]
    have e2 : IntKind.u64.wrap (Int.tdiv (q : Int) 10) = ((q / 10 : Nat) : Int) := by
      rw [show (10 : Int) = ((10 : Nat) : Int) from rfl, tdivN, wrapu64 (by omega) (by omega)]
    rw [e1, e2, wrap64' (n := (i : Int) + 1) (by omega) (by omega)]
    refine ⟨fits_of (by simp; omega) (by omega), hX _ ⟨i + 1, q / 10, by simp, by omega, rfl, ?_, by simp; omega, DG_snoc.2 ⟨hg, by omega, by omega⟩, ?_⟩ (by dsimp only; omega)⟩
    · have : 10 ^ (9 - i) = 10 ^ (9 - (i + 1)) * 10 := by rw [← Nat.pow_succ]; congr 1; omega
      omega
    · dsimp only
      rw [LT_val (by omega), h3, ← hv]
      have hp : 10 ^ (D0 + (i + 1)) = 10 ^ (D0 + i) * 10 := by rw [← Nat.pow_succ]; congr 1
      rw [hp]
      have hqq : q = q % 10 + 10 * (q / 10) := by omega
      have : 10 ^ (D0 + i) * q = 10 ^ (D0 + i) * (q % 10) + 10 ^ (D0 + i) * 10 * (q / 10) := by
        rw [Nat.mul_assoc, ← Nat.mul_add, ← hqq]
      omega
  · obtain rfl : i = 9 := by omega
    have : q = 0 := by simpa using hq
    subst this
    exact hX1 z3 (by omega) hg (by simpa using hv)
theorem text_rev (E : List Int) (h0 : 0 < E.length) (hl : E.length ≤ 100000000) : LoopP (nat_Text_L5 (LT E)) ((0 : Int), (((E.length - 1 : Nat) : Int)), E) := by
  refine LoopP.intro (fun z : Int × Int × List Int => ∃ i : Nat, z.1 = i ∧ 2 * i ≤ E.length + 1 ∧ z.2.1 = (E.length : Int) - 1 - i ∧ z.2.2.length = E.length ∧ ∀ (k : Nat) (h : k < E.length) (h' : k < z.2.2.length), z.2.2[k] = if k < i ∨ E.length - 1 < k + i then E[E.length - 1 - k] else E[k]) (fun z => (z.2.1 - z.1 + 1).toNat) ⟨0, rfl, by omega, by dsimp only; omega, rfl, fun k h h' => by rw [if_neg (by omega)]⟩ ?_
  rintro X ⟨z1, z2, S⟩ ⟨i, h1, hi, h2, h3, hS⟩ hX
  dsimp only at h1 h2 h3 hS
  subst h1
  unfold nat_Text_L5
  refine IfB.dc (fun hlt => ?_) (fun hge => ?_)
  · have hj : z2 = ((E.length - 1 - i : Nat) : Int) := by omega
    have hji : i < E.length - 1 - i := by omega
    subst hj
    have a1 : (E.length - 1 - i) < S.length := by omega
    have a2 : i < S.length := by omega
    refine ⟨_, Idx.nat a1, _, Idx.nat a2, _, Idx.nat a2, ?_⟩
    rw [Int.toNat_natCast, Int.toNat_natCast]
    refine ⟨_, Idx.nat (by simp; omega), ?_⟩
    rw [wrap64' (by omega) (by omega), wrap64' (by omega) (by omega)]
    refine hX _ ⟨i + 1, by simp, by omega, by dsimp only; omega, by simp [h3], fun k h h' => ?_⟩ (by dsimp only; omega)
    dsimp only
    rw [List.getElem_set, List.getElem_set]
    by_cases e1 : E.length - 1 - i = k
    · rw [if_pos e1, if_pos (by omega), hS i (by omega) a2, if_neg (by omega)]
      congr 1; omega
    · rw [if_neg e1]
      by_cases e2 : i = k
      · rw [if_pos e2, if_pos (by omega), hS _ (by omega) a1, if_neg (by omega)]
        congr 1; omega
      · rw [if_neg e2, hS k h (by omega)]
        by_cases e3 : k < i ∨ E.length - 1 < k + i
        · rw [if_pos e3, if_pos (by omega)]
        · rw [if_neg e3, if_neg (by omega)]
  · have : S = E.reverse := by
      apply List.ext_getElem (by simp [h3])
      intro k hk hk'
      rw [hS k (by omega) hk, List.getElem_reverse]
      by_cases e3 : k < i ∨ E.length - 1 < k + i
      · rw [if_pos e3]
      · rw [if_neg e3]; congr 1; omega
    rw [this]; rfl
theorem LT_last {E : List Int} (hE : E ≠ []) : (LT E).head? = some (UInt8.ofNat (E.getLast hE).toNat) := by
  have := List.dropLast_concat_getLast hE
  generalize E.getLast hE = x at *
  rw [← this, LT_snoc]; simp
theorem text_cut (E0 : List Int) (n : Nat) (hl : E0.length ≤ 100000000) (hg : DG E0) (hv : dV 0 (LT E0) = n) (hn : n = 0 → E0 = []) : LoopP (nat_Text_L4 (decT n)) E0 := by
  refine LoopP.intro (fun z : List Int => DG z ∧ dV 0 (LT z) = n ∧ z.length ≤ E0.length ∧ (n = 0 → z = [])) (fun z => z.length) ⟨hg, hv, Nat.le_refl _, hn⟩ ?_
  rintro X z ⟨hg, hv, hz, hn⟩ hX
  unfold nat_Text_L4
  have hw : 0 < z.length → IntKind.i64.wrap ((z.length : Int) - 1) = ((z.length - 1 : Nat) : Int) := fun h => by rw [wrap64' (by omega) (by omega)]; omega
  have fin : 0 < z.length → (1 < z.length → ∀ h : z ≠ [], z.getLast h ≠ 48) → decT n = LT z := fun h0 h => by
    have hne : LT z ≠ [] := by intro e; have := congrArg List.length e; rw [LT_len] at this; simp at this; rw [this] at h0; simp at h0
    rw [← hv]
    refine (decT_of (LT_dg hg) hne fun hl1 => ?_).symm
    rw [LT_len] at hl1
    have hz0 : z ≠ [] := by rintro rfl; simp at h0
    rw [LT_last hz0]
    intro e
    have hx := hg _ (List.getLast_mem hz0)
    have := congrArg (fun o => o.map UInt8.toNat) e
    simp only [Option.map_some, Option.some.injEq] at this
    rw [UInt8.toNat_ofNat_of_lt' (show (z.getLast hz0).toNat < 256 by omega)] at this
    have h48 : (48 : UInt8).toNat = 48 := rfl
    exact h hl1 hz0 (by omega)
  refine IfB.dc (fun h1 => ?_) (fun h1 => ?_)
  · have h1 : 1 < z.length := by omega
    have hz0 : z ≠ [] := by rintro rfl; simp at h1
    rw [hw (by omega)]
    have hlast : z[z.length - 1]'(by omega) = z.getLast hz0 := (List.getLast_eq_getElem hz0).symm
    refine ⟨_, Idx.nat (show z.length - 1 < z.length by omega), ?_⟩
    rw [hlast]
    refine IfB.eqI (fun h48 => ⟨⟨by omega, by omega⟩, ?_⟩) (fun h48 => IfB.eqI (fun h => by omega) (fun _ => ?_))
    · rw [Int.toNat_natCast]
      have e := List.dropLast_concat_getLast hz0
      rw [h48] at e
      have e2 : z.take (z.length - 1) = z.dropLast := by rw [List.dropLast_eq_take]
      rw [e2]
      have hg2 : DG z.dropLast := fun x hx => hg x (by rw [← e]; simp [hx])
      have hv2 : dV 0 (LT z.dropLast) = n := by
        have := LT_val (l := z.dropLast) (d := 0) (by omega)
        rw [show (48 + ((0 : Nat) : Int)) = 48 from rfl, e] at this
        omega
      refine hX _ ⟨hg2, hv2, by simp; omega, fun h0 => ?_⟩ (by simp; omega)
      have := hn h0; simp [this] at h1
    · rw [fin (by omega) (fun _ h => h48)]
      exact text_rev z (by omega) (by omega)
  · refine IfB.eqI (fun h => ?_) (fun h => ?_)
    · have : z = [] := List.length_eq_zero_iff.1 (by omega)
      subst this
      have : n = 0 := by rw [← hv]; rfl
      subst this
      rw [decT_lt (by omega)]; rfl
    · rw [hw (by omega), fin (by omega) (by omega)]
      exact text_rev z (by omega) (by omega)
theorem nat_Text_says (a : List Int) (ha : WS a) (hl : a.length ≤ 70000) : nat_Text a (decT (val a)) := by
  unfold nat_Text
  refine ⟨_, nat_trim_says a ha (by omega), ?_⟩
  have hb : val a < 10 ^ (10 * a.length) := by
    refine Nat.lt_of_lt_of_le (val_lt ha) ?_
    rw [Nat.pow_mul]
    exact Nat.pow_le_pow_left (by omega) _
  have hwl := wl ha
  generalize val a = n at *
  refine LoopP.intro (fun z : List Int × List Int => ∃ m j : Nat, z.1 = words m ∧ m ≤ n ∧ z.2.length = 9 * j ∧ DG z.2 ∧ dV 0 (LT z.2) + 10 ^ (9 * j) * m = n ∧ (j = 0 → m = n) ∧ 9 * j ≤ 10 * a.length + 9 ∧ (0 < j → 0 < n)) (fun z => val z.1) ⟨n, 0, rfl, by omega, rfl, DG_nil, by rw [show LT [] = [] from rfl, dV_nil]; simp, fun _ => rfl, by omega⟩ ?_
  rintro X ⟨z1, z2⟩ ⟨m, j, h1, hm, h2, hg, hv, hj0, hj, hjn⟩ hX
  dsimp only at h1 h2 hg hv
  subst h1
  unfold nat_Text_L1
  have hmw := words_len_le hm
  refine IfB.dc (fun h => ?_) (fun h => ?_)
  · have hm0 : m ≠ 0 := words_len_pos.1 (by omega)
    have hjj : 9 * j < 10 * a.length := by
      refine (Nat.pow_lt_pow_iff_right (show 1 < 10 by omega)).1 (Nat.lt_of_le_of_lt ?_ hb)
      have : 10 ^ (9 * j) * 1 ≤ 10 ^ (9 * j) * m := Nat.mul_le_mul_left _ (by omega)
      omega
    have hd := nat_DivMod_says (words m) (words 1000000000) (WS_words _) (WS_words _) (by omega) (by rw [words_one (by omega) (by omega)]; simp)
    rw [val_words, val_words, if_neg (by omega)] at hd
    have hs := nat_Small_says (words (m % 1000000000)) (WS_words _) (by have := words_len_le (Nat.mod_le m 1000000000); omega) (by rw [val_words]; omega)
    rw [val_words] at hs
    refine ⟨_, nat_Of_says 1000000000 (by omega), _, _, _, hd, _, _, hs, IfB_true.2 ?_⟩
    refine text_nine (n := n) (m := m / 1000000000) (D0 := 9 * j) (Nat.mod_lt _ (by omega)) h2 (by omega) hg ?_ fun E e1 e2 e3 => ?_
    · rw [← hv, Nat.pow_add, Nat.mul_assoc, Nat.add_assoc, ← Nat.mul_add]
      congr 2
      rw [show (10 : Nat) ^ 9 = 1000000000 from rfl]; omega
    · refine hX _ ⟨m / 1000000000, j + 1, rfl, Nat.le_trans (Nat.div_le_self _ _) hm, by dsimp only; omega, e2, by rw [show 9 * (j + 1) = 9 * j + 9 from by omega]; exact e3, by omega, by omega, by omega⟩ ?_
      dsimp only
      rw [val_words, val_words]
      exact Nat.div_lt_self (by omega) (by omega)
  · have hm0 : m = 0 := by
      rcases Nat.eq_zero_or_pos m with h' | h'
      · exact h'
      · have := words_len_pos.2 (show m ≠ 0 by omega); omega
    subst hm0
    refine text_cut z2 n (by omega) hg (by simpa using hv) fun h0 => ?_
    apply List.length_eq_zero_iff.1
    rcases Nat.eq_zero_or_pos j with hj' | hj'
    · omega
    · have := hjn hj'; omega
end Go.Abs
end
