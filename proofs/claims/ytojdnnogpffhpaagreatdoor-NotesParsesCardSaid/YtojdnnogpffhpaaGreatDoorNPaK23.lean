/- Part of a proof, in few files: L13b L13c L13d L13e LDec LTxt LTxt2 LLin2 L13f LQ L8a L8b L8c L8d L8e L8f L8g L8h L8i L8j L8k LQ2 LQ3 LQ4 LM1b. -/
import Derived.Test.YtojdnnogpffhpaaGreatDoorNPaK22
import Derived.Test.YtojdnnogpffhpaaGreatDoorNPaK15

section
namespace Go.Abs
open Go
set_option linter.unusedVariables false
set_option linter.unusedSimpArgs false
set_option linter.unnecessarySimpa false
theorem dV_zero : ∀ {s : By}, allDg s → (dV 0 s = 0 ↔ ∀ b, b ∈ s → b = 48)
  | [], _ => by simp [dV_nil]
  | b :: l, h => by
    have hb := h b (by simp)
    have ih := dV_zero (s := l) fun c hc => h c (by simp [hc])
    unfold dg at hb
    rw [dV_cons, dV_acc]
    have hp : 0 < 10 ^ l.length := Nat.pow_pos (by omega)
    have hb48 : b = 48 ↔ b.toNat = 48 := ⟨fun e => by subst e; rfl, fun e => UInt8.toNat_inj.1 e⟩
    constructor
    · intro h0
      have h1 : (0 * 10 + (b.toNat - 48)) * 10 ^ l.length = 0 := by omega
      have h2 : dV 0 l = 0 := by omega
      rcases Nat.mul_eq_zero.1 h1 with h3 | h3
      · intro c hc
        rcases List.mem_cons.1 hc with rfl | hc
        · exact hb48.2 (by omega)
        · exact ih.1 h2 c hc
      · omega
    · intro h0
      have h1 : b.toNat = 48 := hb48.1 (h0 b (by simp))
      have h2 := ih.2 fun c hc => h0 c (by simp [hc])
      rw [h1, h2]; simp
def allZ (s : By) : Prop := ∀ c, c ∈ s → c = 48
instance (s : By) : Decidable (allZ s) := inferInstanceAs (Decidable (∀ c, c ∈ s → c = 48))
def numU (t : By) : Bool :=
  if (Lib.cut t [47]).2.2 then decide (dgOK (Lib.cut t [47]).1) && decide (dgOK (Lib.cut t [47]).2.1) && !decide (allZ (Lib.cut t [47]).2.1) else decide (dgOK t)
theorem cut_app {a b : By} {c : UInt8} (h : ∀ x, x ∈ a → x ≠ c) : Lib.cut (a ++ c :: b) [c] = (a, b, true) := by
  have hi : Lib.index (a ++ c :: b) [c] = (a.length : Int) := by
    rw [Lib.index_one]
    induction a with
    | nil => simp [Lib.indexByte]
    | cons x l ih =>
      have hx := h x (by simp)
      have := ih fun y hy => h y (by simp [hy])
      simp [Lib.indexByte, hx, this]
  unfold Lib.cut
  rw [hi]
  simp
theorem cut_no {a : By} {c : UInt8} (h : ∀ x, x ∈ a → x ≠ c) : Lib.cut a [c] = (a, [], false) := by
  have hi : Lib.index a [c] = -1 := by
    rw [Lib.index_one]
    induction a with
    | nil => rfl
    | cons x l ih =>
      have hx := h x (by simp)
      have := ih fun y hy => h y (by simp [hy])
      simp [Lib.indexByte, hx, this]
  unfold Lib.cut
  rw [hi]
  simp
theorem trimP_cons (b : UInt8) (l : By) : Lib.trimPrefix (b :: l) [45] = if b = 45 then l else b :: l := by
  unfold Lib.trimPrefix Lib.hasPrefix
  by_cases h : b = 45
  · subst h; simp [List.isPrefixOf]
  · have : ¬ (45 = b) := fun e => h e.symm
    simp [List.isPrefixOf, h, this]
theorem dw_nil2 : ∀ (w : By), w.dropWhile (fun y : UInt8 => !(y == 47)) = [] ↔ ∀ x, x ∈ w → (!(x == 47)) = true
  | [] => by simp
  | b :: l => by
    rw [List.dropWhile_cons]
    by_cases h : (!(b == 47)) = true
    · rw [if_pos h, dw_nil2 l]
      constructor
      · intro h' x hx
        rcases List.mem_cons.1 hx with rfl | hx
        · exact h
        · exact h' x hx
      · exact fun h' x hx => h' x (by simp [hx])
    · rw [if_neg h]
      exact ⟨fun e => by simp at e, fun h' => absurd (h' b (by simp)) h⟩
theorem dw_head : ∀ (w : By), w.dropWhile (fun y : UInt8 => !(y == 47)) ≠ [] → ∀ y l, w.dropWhile (fun y : UInt8 => !(y == 47)) = y :: l → y = 47
  | [], h => by simp at h
  | b :: l, h => by
    rw [List.dropWhile_cons] at h ⊢
    by_cases hb : (!(b == 47)) = true
    · rw [if_pos hb] at h ⊢; exact dw_head l h
    · rw [if_neg hb]
      intro y l' e
      cases e
      simpa using hb
theorem tw_mem : ∀ (w : By) (x : UInt8), x ∈ w.takeWhile (fun y : UInt8 => !(y == 47)) → (!(x == 47)) = true
  | [], x, h => by simp at h
  | b :: l, x, h => by
    rw [List.takeWhile_cons] at h
    split at h
    · rename_i hb
      rcases List.mem_cons.1 h with rfl | h
      · exact hb
      · exact tw_mem l x h
    · simp at h
theorem numU_isN (w : By) : numU (Lib.trimPrefix w [45]) = decide (isN w) := by
  have fin : (numU (Lib.trimPrefix w [45]) = true ↔ isN w) → numU (Lib.trimPrefix w [45]) = decide (isN w) := fun h => by
    by_cases hh : isN w
    · rw [decide_eq_true hh]; exact h.2 hh
    · rw [decide_eq_false hh]; exact Bool.eq_false_iff.2 fun e => hh (h.1 e)
  apply fin
  clear fin
  have hone : parseR [49] = (words 1, 0) := by
    unfold parseR
    rw [if_neg (by decide), if_neg (by decide)]
    rfl
  have wz : ∀ a : By, (wholeR a).2.2 = 0 ↔ dgOK (Lib.trimPrefix a [45]) := fun a => by
    rw [dgOK_parse]
    unfold wholeR
    split
    · rename_i h; exact ⟨fun h' => absurd h' h, fun h' => absurd h' h⟩
    · rename_i h; exact ⟨fun _ => by omega, fun _ => rfl⟩
  have pz : ∀ b : By, dgOK b → (val (parseR b).1 = 0 ↔ allZ b) := fun b hb => by
    unfold parseR
    rw [if_neg (fun h => h.elim hb.1 fun h => h hb.2.1), if_neg (by have := hb.2.2; omega), val_words]
    exact dV_zero hb.2.1
  by_cases hs : ∃ a b, w = a ++ 47 :: b ∧ ∀ x, x ∈ a → x ≠ 47
  · obtain ⟨a, b, rfl, ha⟩ := hs
    have hc := cut_app (b := b) ha
    have ht : Lib.trimPrefix (a ++ 47 :: b) [45] = Lib.trimPrefix a [45] ++ 47 :: b ∧ ∀ x, x ∈ Lib.trimPrefix a [45] → x ≠ 47 := by
      cases a with
      | nil => refine ⟨?_, by simp [Lib.trimPrefix, Lib.hasPrefix]⟩
               rw [List.nil_append, trimP_cons, if_neg (by decide)]; rfl
      | cons y l =>
        rw [List.cons_append, trimP_cons, trimP_cons]
        split
        · exact ⟨rfl, fun x hx => ha x (by simp [hx])⟩
        · exact ⟨rfl, ha⟩
    have hc2 := cut_app (b := b) ht.2
    rw [ht.1]
    unfold numU isN ratR
    rw [hc2, hc]
    dsimp only
    simp only [if_true]
    have w1 := wz a
    by_cases h1 : dgOK (Lib.trimPrefix a [45])
    · rw [if_neg (by rw [w1.2 h1]; simp)]
      by_cases h2 : dgOK b
      · have e2 := (dgOK_parse b).1 h2
        rw [if_neg (by rw [e2]; simp)]
        by_cases h3 : allZ b
        · rw [if_pos ((pz b h2).2 h3)]; simp [h1, h2, h3]
        · rw [if_neg (fun h => h3 ((pz b h2).1 h))]; simp [h1, h2, h3]
      · have e2 : (parseR b).2 ≠ 0 := fun h => h2 ((dgOK_parse b).2 h)
        rw [if_pos e2]; simp [h2, e2]
    · have e1 : (wholeR a).2.2 ≠ 0 := fun h => h1 (w1.1 h)
      rw [if_pos e1]; simp [h1, e1]
  · have hno : ∀ x, x ∈ w → x ≠ 47 := by
      intro x hx e
      subst e
      refine hs ⟨w.takeWhile (fun y => !(y == 47)), (w.dropWhile (fun y => !(y == 47))).tail, ?_, fun x hx => ?_⟩
      · have h1 := (List.takeWhile_append_dropWhile (p := fun y : UInt8 => !(y == 47)) (l := w)).symm
        have h2 : w.dropWhile (fun y : UInt8 => !(y == 47)) ≠ [] := fun e => by
          have := (dw_nil2 w).1 e 47 hx
          simp at this
        have h3 := dw_head w h2
        cases hd : w.dropWhile (fun y : UInt8 => !(y == 47)) with
        | nil => exact absurd hd h2
        | cons y l =>
          rw [hd] at h1
          have : y = 47 := h3 y l hd
          subst this
          exact h1
      · have := tw_mem w x hx
        intro e; subst e; simp at this
    have hno2 : ∀ x, x ∈ Lib.trimPrefix w [45] → x ≠ 47 := fun x hx => hno x (by
      unfold Lib.trimPrefix at hx
      split at hx
      · exact List.mem_of_mem_drop hx
      · exact hx)
    unfold numU isN ratR
    rw [cut_no hno2, cut_no hno]
    dsimp only
    simp only [Bool.false_eq_true, if_false]
    rw [hone]
    have w1 := wz w
    have v1 : ¬ val (words 1, (0 : Int)).1 = 0 := by rw [val_words]; omega
    by_cases h1 : dgOK (Lib.trimPrefix w [45])
    · rw [if_neg (by rw [w1.2 h1]; simp)]
      rw [if_neg (show ¬ (words 1, (0 : Int)).2 ≠ 0 by simp), if_neg v1]; simp [h1]
    · have e1 : (wholeR w).2.2 ≠ 0 := fun h => h1 (w1.1 h)
      rw [if_pos e1]; simp [h1, e1]
end Go.Abs
end

section
namespace Go.Abs
open Go
set_option linter.unusedVariables false
set_option linter.unusedSimpArgs false
set_option linter.unnecessarySimpa false
def okP (kw : By) (ws : List By) : Prop := ws.head? = some kw ∧ ws.length ≤ 181 ∧ ∀ w, w ∈ ws.tail → isN w
instance (kw : By) (ws : List By) : Decidable (okP kw ws) := inferInstanceAs (Decidable (_ ∧ _ ∧ _))
theorem sub_tail {α : Type} (a : α) (l : List α) : sub (a :: l) (1 : Int) ((a :: l).length : Int) = l := by unfold sub; simp
theorem subok_tail {α : Type} (a : α) (l : List α) : SubOk (a :: l) (1 : Int) ((a :: l).length : Int) := ⟨by omega, by simp; omega, by omega⟩
theorem idx0 {α : Type} (a : α) (l : List α) : Idx (a :: l) (0 : Int) a := ⟨by omega, rfl⟩
end Go.Abs
end

section
namespace Go.Abs
open Go
set_option linter.unusedVariables false
set_option linter.unusedSimpArgs false
set_option linter.unnecessarySimpa false
end Go.Abs
end

section
namespace Go.Abs
open Go
set_option linter.unusedVariables false
set_option linter.unusedSimpArgs false
set_option linter.unnecessarySimpa false
end Go.Abs
end

section
namespace Go.Abs
open Go
set_option linter.unusedVariables false
set_option linter.unusedSimpArgs false
set_option linter.unnecessarySimpa false
def dch (n : Nat) : UInt8 := UInt8.ofNat (48 + n)
def decT (n : Nat) : By := if h : n < 10 then [dch n] else decT (n / 10) ++ [dch (n % 10)]
termination_by n
decreasing_by omega
end Go.Abs
end

section
namespace Go.Abs
open Go
set_option linter.unusedVariables false
set_option linter.unusedSimpArgs false
set_option linter.unnecessarySimpa false
end Go.Abs
end

section
namespace Go.Abs
open Go
set_option linter.unusedVariables false
set_option linter.unusedSimpArgs false
set_option linter.unnecessarySimpa false
theorem den1_self {d : Nat} (h : 0 < d) : den1 d = d := by unfold den1; rw [if_neg (by omega)]
def okX (x : Bool × List Int × List Int) (k : Nat) : Prop := WS x.2.1 ∧ WS x.2.2 ∧ x.2.1.length ≤ k ∧ x.2.2.length ≤ k
end Go.Abs
end

section
namespace Go.Abs
open Go
set_option linter.unusedVariables false
set_option linter.unusedSimpArgs false
set_option linter.unnecessarySimpa false
abbrev Bs := List UInt8
def wdOK (w : Bs) : Prop := w ≠ [] ∧ ∀ b, b ∈ w → 33 ≤ b.toNat ∧ b.toNat ≤ 126 ∧ b.toNat ≠ 35
theorem wd_sp {w : Bs} (h : wdOK w) : w ≠ [] ∧ ∀ b, b ∈ w → Lib.isSp b = false := by
  refine ⟨h.1, fun b hb => ?_⟩
  have hr := h.2 b hb
  have k : ∀ c : Nat, c < 256 → b.toNat ≠ c → (b == c.toUInt8) = false := fun c hc h => by
    rw [beq_eq_false_iff_ne]; exact fun e => h ((u8 hc).2 e)
  have h9 := k 9 (by decide) (by omega); have h10 := k 10 (by decide) (by omega); have h11 := k 11 (by decide) (by omega); have h12 := k 12 (by decide) (by omega); have h13 := k 13 (by decide) (by omega); have h32 := k 32 (by decide) (by omega)
  unfold Lib.isSp
  simp at h9 h10 h11 h12 h13 h32 ⊢
  exact ⟨⟨⟨⟨⟨h9, h10⟩, h11⟩, h12⟩, h13⟩, h32⟩
def lineT (ws : Ws) : Bs := Lib.join ws [32]
theorem line_mem {ws : Ws} (h : ∀ w, w ∈ ws → wdOK w) {b : UInt8} (hb : b ∈ lineT ws) : 32 ≤ b.toNat ∧ b.toNat ≤ 126 ∧ b.toNat ≠ 35 := by
  rcases join_mem hb with rfl | ⟨w, hw, hb⟩
  · decide
  · have := (h w hw).2 b hb; omega
theorem line_words {ws : Ws} (h : ∀ w, w ∈ ws → wdOK w) : wordsOf (lineT ws) = ws := by
  unfold wordsOf
  rw [head_none fun b hb e => by have := line_mem h hb; subst e; simp at this]
  exact fields_join fun w hw => wd_sp (h w hw)
theorem split_line : ∀ (a rest : Bs), (∀ b, b ∈ a → b ≠ 10) → splitC 10 (a ++ 10 :: rest) = a :: splitC 10 rest
  | [], rest, _ => by simp [splitC]
  | b :: a, rest, h => by
    have := split_line a rest fun c hc => h c (by simp [hc])
    rw [List.cons_append, splitC, if_neg (h b (by simp)), this]
def linesT : List Ws → Bs
  | [] => []
  | ws :: r => lineT ws ++ 10 :: linesT r
def linesN (k : Int) : List Ws → Ls
  | [] => []
  | ws :: r => (k + 1, ws) :: linesN (k + 1) r
theorem linesFrom_T : ∀ (l : List Ws) (k : Int) (rest : Bs), (∀ ws, ws ∈ l → ws ≠ [] ∧ ∀ w, w ∈ ws → wdOK w) → linesFrom k (splitC 10 (linesT l ++ rest)) = linesN k l ++ linesFrom (k + l.length) (splitC 10 rest)
  | [], k, rest, _ => by simp [linesT, linesN]
  | ws :: l, k, rest, h => by
    obtain ⟨h1, h2⟩ := h ws (by simp)
    have ih := linesFrom_T l (k + 1) rest fun w hw => h w (by simp [hw])
    have e : linesT (ws :: l) ++ rest = lineT ws ++ 10 :: (linesT l ++ rest) := by simp [linesT]
    rw [e, split_line _ _ fun b hb e => by have := line_mem h2 hb; subst e; simp at this]
    have hp : 0 < (wordsOf (lineT ws)).length := by rw [line_words h2]; exact List.length_pos_iff.2 h1
    rw [linesFrom, if_pos hp, line_words h2, ih]
    simp only [linesN, List.cons_append, List.length_cons]
    congr 3
    omega
theorem linesT_right : ∀ (l : List Ws), (∀ ws, ws ∈ l → ∀ w, w ∈ ws → wdOK w) → ∀ b, b ∈ linesT l → mayB b
  | [], _, b, hb => by simp [linesT] at hb
  | ws :: l, h, b, hb => by
    rw [linesT] at hb
    rcases List.mem_append.1 hb with hb | hb
    · have := line_mem (h ws (by simp)) hb; unfold mayB; omega
    · rcases List.mem_cons.1 hb with rfl | hb
      · unfold mayB; decide
      · exact linesT_right l (fun w hw => h w (by simp [hw])) b hb
theorem rightP_of {s : Bs} (h : ∀ b, b ∈ s → mayB b) : RightP s := fun i b hi hb => h b (List.mem_of_getElem? hb)
theorem lineT_len (ws : Ws) : (lineT ws).length ≤ wlen ws := join_len 32 ws
theorem linesT_len : ∀ (l : List Ws) (m : Nat), (∀ ws, ws ∈ l → wlen ws + 1 ≤ m) → (linesT l).length ≤ m * l.length
  | [], m, _ => by simp [linesT]
  | ws :: l, m, h => by
    have h1 := h ws (by simp)
    have h2 := lineT_len ws
    have h3 := linesT_len l m fun w hw => h w (by simp [hw])
    simp only [linesT, List.length_append, List.length_cons, Nat.mul_add, Nat.mul_one]
    omega
theorem lines_Join_says {l : Ws} (h : wlen l ≤ 1000000) : lines_Join l (lineT l) := ⟨_, strings_Join_says h, rfl⟩
theorem linesFrom_end (k : Int) : linesFrom k (splitC 10 []) = [] := by
  simp [splitC, linesFrom, wordsOf, head35, Lib.cut, Lib.index, Lib.fields, Lib.fieldsGo]
theorem allL_T {l : List Ws} (h : ∀ ws, ws ∈ l → ws ≠ [] ∧ ∀ w, w ∈ ws → wdOK w) : allL (linesT l) = linesN 0 l := by
  have := linesFrom_T l 0 [] h
  rw [List.append_nil, linesFrom_end, List.append_nil] at this
  exact this
theorem linesT_rightP {l : List Ws} (h : ∀ ws, ws ∈ l → ws ≠ [] ∧ ∀ w, w ∈ ws → wdOK w) : RightP (linesT l) := rightP_of (linesT_right l fun ws hw => (h ws hw).2)
end Go.Abs
end

section
namespace Go.Abs
open Go
set_option linter.unusedVariables false
set_option linter.unusedSimpArgs false
set_option linter.unnecessarySimpa false
def FewP (l : List Q3) : Prop := l.length ≤ 8 ∧ ∀ x, x ∈ l → x.2.1.length ≤ 3 ∧ x.2.2.length ≤ 3
instance (l : List Q3) : Decidable (FewP l) := inferInstanceAs (Decidable (_ ∧ _))
theorem Few5_says (l : List Q3) : offcutlaw05_Few l (decide (FewP l)) := by
  unfold offcutlaw05_Few
  refine LoopP.intro (fun z : Int => ∃ k : Nat, z = k ∧ k ≤ l.length ∧ k ≤ 9 ∧ ∀ i (h : i < l.length), i < k → l[i].2.1.length ≤ 3 ∧ l[i].2.2.length ≤ 3) (fun z => l.length - z.toNat) ⟨0, rfl, by omega, by omega, fun i _ h => by omega⟩ ?_
  rintro X z ⟨k, rfl, hk, hk9, hn⟩ hX
  unfold offcutlaw05_Few_L1
  have no : ∀ (h : k < l.length), ¬ (l[k].2.1.length ≤ 3 ∧ l[k].2.2.length ≤ 3) → decide (FewP l) = false := fun h hb => decide_eq_false fun hf => hb (hf.2 _ (List.getElem_mem h))
  have many : ∀ (h : ¬ (l.length : Int) ≤ 8), decide (FewP l) = false := fun h => decide_eq_false fun hf => h (by have := hf.1; omega)
  refine IfB.dec (fun h => IfB.dec (fun h8 => ?_) (fun h8 => ?_)) (fun h => ?_)
  · have hkl : k < l.length := by omega
    have hi := Idx.nat hkl
    have no := no hkl
    have hn2 : l[k].2.1.length ≤ 3 ∧ l[k].2.2.length ≤ 3 → ∀ i (h : i < l.length), i < k + 1 → l[i].2.1.length ≤ 3 ∧ l[i].2.2.length ≤ 3 := fun h0 i hi hik => by
      by_cases e : i = k
      · subst e; exact h0
      · exact hn i hi (by omega)
    generalize l[k] = q at *
    obtain ⟨b, n, d⟩ := q
    dsimp only at no hn2
    refine ⟨b, n, d, hi, IfB.dec (fun h1 => no (by omega)) (fun h1 => ⟨b, n, d, hi, IfB.dec (fun h2 => no (by omega)) (fun h2 => ?_)⟩)⟩
    rw [wrap64' (by omega) (by omega)]
    exact hX _ ⟨k + 1, by omega, by omega, by omega, hn2 (by omega)⟩ (by omega)
  · exact IfB.dec (fun h => by omega) (fun h => many h)
  · refine IfB.dec (fun h2 => decide_eq_true ⟨by omega, fun x hx => ?_⟩) (fun h2 => many h2)
    obtain ⟨i, hi, rfl⟩ := List.getElem_of_mem hx
    exact hn i hi (by omega)
def mayP (v : Int) (x y z : List Q3) : Prop := (v = 1 ∧ z = []) ∨ (v = 2 ∧ x = [] ∧ z = []) ∨ (v = 3 ∧ y = [])
instance (v : Int) (x y z : List Q3) : Decidable (mayP v x y z) := inferInstanceAs (Decidable (_ ∨ _))
end Go.Abs
end

section
namespace Go.Abs
open Go
set_option linter.unusedVariables false
set_option linter.unusedSimpArgs false
set_option linter.unnecessarySimpa false
abbrev Fr := Bool × List Int × List Int
def qv (x : Fr) : Rat := Rat.divInt (iV x.1 (val x.2.1)) (den1 (val x.2.2))
theorem divInt_eq {a c b d : Int} (hb : 0 < b) (hd : 0 < d) : Rat.divInt a b = Rat.divInt c d ↔ a * d = c * b := Rat.divInt_eq_divInt_iff (by omega) (by omega)
theorem qv_ratQ {z : Int} {d : Nat} (hd : 0 < d) : qv (ratQ z d) = Rat.divInt z d := by
  unfold qv ratQ
  dsimp only
  have hg : 0 < Nat.gcd z.natAbs d := Nat.gcd_pos_of_pos_right _ hd
  have h1 : z.natAbs / Nat.gcd z.natAbs d * Nat.gcd z.natAbs d = z.natAbs := Nat.div_mul_cancel (Nat.gcd_dvd_left _ _)
  have h2 : d / Nat.gcd z.natAbs d * Nat.gcd z.natAbs d = d := Nat.div_mul_cancel (Nat.gcd_dvd_right _ _)
  have h3 : 0 < d / Nat.gcd z.natAbs d := Nat.div_pos (Nat.gcd_le_right _ hd) hg
  rw [val_words, val_words, den1_self h3, divInt_eq (by omega) (by omega)]
  generalize Nat.gcd z.natAbs d = g at *
  generalize z.natAbs / g = n' at *
  generalize d / g = d' at *
  subst h2
  unfold iV
  by_cases hz : z < 0
  · simp only [hz, decide_true, if_true]
    have e : z = -((n' * g : Nat) : Int) := by omega
    rw [e]; push_cast
    rw [Int.neg_mul, Int.neg_mul]
    congr 1
    rw [Int.mul_assoc, Int.mul_comm (g : Int)]
  · simp only [hz, decide_false, Bool.false_eq_true, if_false]
    have e : z = ((n' * g : Nat) : Int) := by omega
    rw [e]; push_cast
    rw [Int.mul_assoc, Int.mul_comm (g : Int)]
theorem ratQ_ok {z : Int} {d k : Nat} (hz : (words z.natAbs).length ≤ k) (hd : (words d).length ≤ k) : okX (ratQ z d) k :=
  ⟨WS_words _, WS_words _, Nat.le_trans (words_len_le (Nat.div_le_self _ _)) hz, Nat.le_trans (words_len_le (Nat.div_le_self _ _)) hd⟩
theorem okX.mono {x : Fr} {a b : Nat} (h : okX x a) (hab : a ≤ b) : okX x b := ⟨h.1, h.2.1, Nat.le_trans h.2.2.1 hab, Nat.le_trans h.2.2.2 hab⟩
theorem den_len {l : List Int} {k : Nat} (hw : WS l) (hl : l.length ≤ k) : (words (den1 (val l))).length ≤ k + 1 := by
  have := wl hw
  unfold den1
  split
  · rw [words_one (by omega) (by omega)]; simp
  · omega
theorem mulw (a b : Nat) : (words (a * b)).length ≤ (words a).length + (words b).length := by
  have := words_mul_len (WS_words a) (WS_words b)
  rwa [val_words, val_words] at this
def mulF (x y : Fr) : Fr := ratQ (iV x.1 (val x.2.1) * iV y.1 (val y.2.1)) (den1 (val x.2.2) * den1 (val y.2.2))
theorem mulR {x y : Fr} {a b : Nat} (hx : okX x a) (hy : okX y b) (ha : a ≤ 10000) (hb : b ≤ 10000) : rat_Mul x.1 x.2.1 x.2.2 y.1 y.2.1 y.2.2 (mulF x y) ∧ qv (mulF x y) = qv x * qv y ∧ okX (mulF x y) (a + b + 2) := by
  unfold mulF
  refine ⟨rat_Mul_says x.1 x.2.1 x.2.2 y.1 y.2.1 y.2.2 hx.1 hx.2.1 hy.1 hy.2.1 (by have := hx.2.2.1; omega) (by have := hx.2.2.2; omega) (by have := hy.2.2.1; omega) (by have := hy.2.2.2; omega), ?_, ratQ_ok ?_ ?_⟩
  · rw [qv_ratQ (Nat.mul_pos (den1_pos _) (den1_pos _))]
    unfold qv
    rw [Rat.divInt_mul_divInt]; push_cast; rfl
  · rw [Int.natAbs_mul, iV_abs, iV_abs]
    have h1 := mulw (val x.2.1) (val y.2.1)
    have h2 := wl hx.1; have h3 := wl hy.1
    have h4 := hx.2.2.1; have h5 := hy.2.2.1
    omega
  · have h1 := mulw (den1 (val x.2.2)) (den1 (val y.2.2))
    have h2 := den_len hx.2.1 hx.2.2.2
    have h3 := den_len hy.2.1 hy.2.2.2
    omega
def zeroF : Fr := (false, [], words 1)
theorem zeroR : rat_Int 0 zeroF ∧ qv zeroF = 0 ∧ okX zeroF 1 := by
  refine ⟨rat_Int0, ?_, WS_nil, WS_words _, by simp [zeroF], by unfold zeroF; rw [words_one (by omega) (by omega)]; simp⟩
  unfold qv iV zeroF
  simp only [val_nil, Bool.false_eq_true, if_false]
  exact Rat.zero_divInt _
end Go.Abs
end

section
namespace Go.Abs
open Go
set_option linter.unusedVariables false
set_option linter.unusedSimpArgs false
set_option linter.unnecessarySimpa false
abbrev Tm := Bool × Option By × By
abbrev TM := By × Bool × List Int × List Int
noncomputable def nameB (w : By) : Bool := @decide (NameP w) (Classical.propDecidable _)
theorem nameB_iff (w : By) : nameB w = true ↔ NameP w := by unfold nameB; exact @decide_eq_true_iff _ (Classical.propDecidable _)
def signS (first : Bool) (l : Ws) : Option (Bool × Ws) :=
  match l with
  | [] => if first then some (false, []) else none
  | w :: r => if w = [45] then some (true, r) else if first then some (false, w :: r) else if w = [43] then some (false, r) else none
def numS (l : Ws) : Option By × Ws := match l with | [] => (none, []) | w :: r => if numU w then (some w, r) else (none, w :: r)
noncomputable def nameS (neg : Bool) (l : Ws) : Option (Tm × Ws) :=
  match (numS l).2 with | [] => none | w :: r => if nameB w then some ((neg, (numS l).1, w), r) else none
noncomputable def stepS (first : Bool) (l : Ws) : Option (Tm × Ws) := match signS first l with | none => none | some (neg, l1) => nameS neg l1
theorem numS_len (l : Ws) : (numS l).2.length ≤ l.length := by
  unfold numS; cases l with
  | nil => simp
  | cons w r => simp only; split <;> simp
theorem nameS_lt {neg : Bool} {l : Ws} {t : Tm} {r : Ws} (h : nameS neg l = some (t, r)) : r.length < l.length := by
  unfold nameS at h
  have := numS_len l
  split at h
  · cases h
  · rename_i w r' e
    rw [e] at this
    split at h
    · cases h; simp at this; omega
    · cases h
theorem signS_len {first : Bool} {l l1 : Ws} {neg : Bool} (h : signS first l = some (neg, l1)) : l1.length ≤ l.length := by
  unfold signS at h
  split at h
  · split at h <;> cases h; simp
  · split at h
    · cases h; simp
    · split at h
      · cases h; simp
      · split at h <;> cases h; simp
theorem stepS_lt {first : Bool} {l : Ws} {t : Tm} {r : Ws} (h : stepS first l = some (t, r)) : r.length < l.length := by
  unfold stepS at h
  split at h
  · cases h
  · rename_i neg l1 e
    have := signS_len e; have := nameS_lt h; omega
noncomputable def sumS (first : Bool) (l : Ws) : Option (List Tm) :=
  if first = false ∧ l = [] then some [] else
  match h : stepS first l with
  | none => none
  | some (t, r) => (sumS false r).map (t :: ·)
termination_by l.length
decreasing_by exact stepS_lt h
theorem sumS_nil : sumS false [] = some [] := by rw [sumS]; simp
theorem sumS_step {first : Bool} {l : Ws} (hl : first = true ∨ l ≠ []) : sumS first l = match stepS first l with | none => none | some (t, r) => (sumS false r).map (t :: ·) := by
  rw [sumS, if_neg (by rintro ⟨h1, h2⟩; rcases hl with h | h; · rw [h1] at h; cases h
                       · exact h h2)]
  split <;> rename_i h <;> rw [h]
noncomputable def sumW (l : Ws) : Option (List Tm) := if l = [[48]] then some [] else sumS true l
def sgF (neg : Bool) : Fr := (neg, words 1, words 1)
theorem sg1 (neg : Bool) : rat_Int (if neg then -1 else 1) (sgF neg) := by
  have w1 : (words 1).length ≤ 70000 := by rw [words_one (by omega) (by omega)]; simp
  have hm : whole_Make neg (words 1) (neg, words 1) := by
    have := whole_Make_says neg (words 1) (WS_words 1) (by omega)
    rw [val_words] at this
    simpa using this
  have hr : rat_Make neg (words 1) (words 1) (sgF neg) := by
    have := rat_Make_says neg (words 1) (words 1) (WS_words 1) (WS_words 1) w1 w1
    rw [val_words] at this
    have e : ratC neg 1 (den1 1) = sgF neg := by unfold ratC den1 sgF; simp
    rwa [e] at this
  have h1 := nat_Of_says 1 (by omega)
  unfold rat_Int whole_Of
  cases neg with
  | true => exact ⟨true, words 1, IfB_true.2 ⟨words 1, h1, true, words 1, hm, rfl⟩, words 1, h1, _, _, _, hr, rfl⟩
  | false => exact ⟨false, words 1, IfB_false.2 ⟨words 1, h1, false, words 1, hm, rfl⟩, words 1, h1, _, _, _, hr, rfl⟩
theorem sgF_ok (neg : Bool) : okX (sgF neg) 1 := ⟨WS_words 1, WS_words 1, by unfold sgF; rw [words_one (by omega) (by omega)]; simp, by unfold sgF; rw [words_one (by omega) (by omega)]; simp⟩
def numV : Option By → Fr | none => sgF false | some w => numOf w
theorem numOf_okX (w : By) : okX (numOf w) 10000 := ⟨(numOf_ok w).1, (numOf_ok w).2.1, (numOf_ok w).2.2.1, (numOf_ok w).2.2.2⟩
theorem numV_ok (o : Option By) : okX (numV o) 10000 := by
  cases o with
  | none => exact (sgF_ok false).mono (by omega)
  | some w => exact numOf_okX w
def tmV (t : Tm) : Fr := mulF (sgF t.1) (numV t.2.1)
theorem tmV_mul (neg : Bool) (o : Option By) (n : By) : rat_Mul (sgF neg).1 (sgF neg).2.1 (sgF neg).2.2 (numV o).1 (numV o).2.1 (numV o).2.2 (tmV (neg, o, n)) := (mulR (sgF_ok neg) (numV_ok o) (by omega) (by omega)).1
def tmM (t : Tm) : TM := (t.2.2, tmV t)
theorem first_at : ∀ {w : By} {c : UInt8}, c ∈ w → ∃ a b, w = a ++ c :: b ∧ ∀ x, x ∈ a → x ≠ c
  | [], c, h => by cases h
  | y :: l, c, h => by
    by_cases hy : y = c
    · exact ⟨[], l, by rw [hy]; rfl, by simp⟩
    · have hc : c ∈ l := by
        rcases List.mem_cons.1 h with e | e
        · exact absurd e.symm hy
        · exact e
      obtain ⟨a, b, e, ha⟩ := first_at hc
      refine ⟨y :: a, b, by rw [e]; rfl, fun x hx => ?_⟩
      rcases List.mem_cons.1 hx with rfl | hx
      · exact hy
      · exact ha x hx
theorem numU_no45 {w : By} (h : (45 : UInt8) ∈ w) : numU w = false := by
  have hd : ∀ s : By, (45 : UInt8) ∈ s → ¬ dgOK s := fun s hs hk => by have := hk.2.1 _ hs; unfold dg at this; revert this; decide
  unfold numU
  split
  · rename_i hc
    have hw : w = (Lib.cut w [47]).1 ++ 47 :: (Lib.cut w [47]).2.1 := by
      by_cases hs : (47 : UInt8) ∈ w
      · obtain ⟨a, b, rfl, ha⟩ := first_at hs; rw [cut_app ha]
      · rw [cut_no (fun x hx e => hs (by rw [← e]; exact hx))] at hc; cases hc
    rw [hw] at h
    rcases List.mem_append.1 h with h | h
    · rw [decide_eq_false (hd _ h)]; simp
    · rcases List.mem_cons.1 h with h | h
      · exact absurd h (by decide)
      · rw [decide_eq_false (hd _ h)]; simp
  · rw [decide_eq_false (hd _ h)]
theorem numU_isN' {w : By} (h : (45 : UInt8) ∉ w) : numU w = decide (isN w) := by
  have := numU_isN w
  cases w with
  | nil => exact this
  | cons b l =>
    rw [trimP_cons, if_neg (fun e => h (by rw [e]; simp))] at this
    exact this
end Go.Abs
end

section
namespace Go.Abs
open Go
set_option linter.unusedVariables false
set_option linter.unusedSimpArgs false
set_option linter.unnecessarySimpa false
theorem IfB.be {α : Type} [BEq α] [LawfulBEq α] {a b : α} {A B : Prop} (h1 : a = b → A) (h2 : a ≠ b → B) : IfB (a == b) A B := ⟨fun h => h1 (by simpa using h), fun h => h2 (by simpa using h)⟩
theorem IfB.nbe {α : Type} [BEq α] [LawfulBEq α] {a b : α} {A B : Prop} (h1 : a ≠ b → A) (h2 : a = b → B) : IfB (!(a == b)) A B := ⟨fun h => h1 (by simpa using h), fun h => h2 (by simpa using h)⟩
noncomputable def nameN (neg : Bool) (o : Option By) (l : Ws) : Option (Tm × Ws) := match l with | [] => none | w :: r => if nameB w then some ((neg, o, w), r) else none
abbrev SX := Ws × Bool × List TM
def KS (X : SX → Prop) (r : List TM × Bool) (out : List TM) : Option (Tm × Ws) → Prop
  | none => r = ([], false)
  | some (t, rest) => X (rest, false, out ++ [tmM t])
def NmC (sg v : Fr) (l : Ws) (out : List TM) (X : SX → Prop) (r : List TM × Bool) : Prop :=
  ∃ x25 : By, Idx l (0 : Int) x25 ∧ ∃ x27 : Bool, lines_Name x25 x27 ∧ IfB x27
    (∃ x29 : By, Idx l (0 : Int) x29 ∧ ∃ (x31 : Bool) (x32 : List Int) (x33 : List Int), rat_Mul sg.1 sg.2.1 sg.2.2 v.1 v.2.1 v.2.2 (x31, x32, x33) ∧
     Fits (out.length + [(x29, x31, x32, x33)].length) 72 ∧ SubOk l (1 : Int) (l.length : Int) ∧ X (sub l (1 : Int) (l.length : Int), false, out ++ [(x29, x31, x32, x33)]))
    (r = (([] : List TM), false))
theorem nmP {neg : Bool} {o : Option By} {l : Ws} {out : List TM} {X : SX → Prop} {r : List TM × Bool} (hl : l ≠ []) (ho : out.length ≤ 1000000) (h : KS X r out (nameN neg o l)) : NmC (sgF neg) (numV o) l out X r := by
  cases l with
  | nil => exact absurd rfl hl
  | cons w t =>
    refine ⟨w, idx0 w t, nameB w, lines_Name_says (nameB_iff w), IfB.bool (fun hn => ?_) (fun hn => ?_)⟩
    · simp only [nameN, hn, if_true, KS] at h
      refine ⟨w, idx0 w t, _, _, _, tmV_mul neg o w, by unfold Fits; simp; omega, subok_tail w t, ?_⟩
      rw [sub_tail]; exact h
    · simp only [nameN, hn, KS] at h
      exact h
theorem numS_suf (l : Ws) : (numS l).2 <:+ l := by
  unfold numS
  cases l with
  | nil => exact List.suffix_refl _
  | cons w l => simp only; split <;> first | exact List.suffix_cons _ _ | exact List.suffix_refl _
theorem nameS_suf {neg : Bool} {l : Ws} {t : Tm} {r : Ws} (h : nameS neg l = some (t, r)) : r <:+ l := by
  have hs := numS_suf l
  unfold nameS at h
  split at h
  · cases h
  · rename_i w r' e
    rw [e] at hs
    split at h
    · cases h; exact (List.suffix_cons _ _).trans hs
    · cases h
theorem signS_suf {first : Bool} {l l1 : Ws} {neg : Bool} (h : signS first l = some (neg, l1)) : l1 <:+ l := by
  unfold signS at h
  split at h
  · split at h <;> cases h; exact List.suffix_refl _
  · split at h
    · cases h; exact List.suffix_cons _ _
    · split at h
      · cases h; exact List.suffix_refl _
      · split at h <;> cases h; exact List.suffix_cons _ _
theorem stepS_suf {first : Bool} {l : Ws} {t : Tm} {r : Ws} (h : stepS first l = some (t, r)) : r <:+ l := by
  unfold stepS at h
  split at h
  · cases h
  · rename_i neg l1 e; exact (nameS_suf h).trans (signS_suf e)
end Go.Abs
end

section
namespace Go.Abs
open Go
set_option linter.unusedVariables false
set_option linter.unusedSimpArgs false
set_option linter.unnecessarySimpa false
end Go.Abs
end

section
namespace Go.Abs
open Go
open Classical
set_option linter.unusedVariables false
set_option linter.unusedSimpArgs false
set_option linter.unnecessarySimpa false
def colonB (w : By) : Bool := w.getLast? == some 58
theorem getD_at {α : Type} {l : List α} {k : Nat} {d : α} (h : k < l.length) : l.getD k d = l[k] := by simp [List.getD, h]
def relOf (w : By) : Option Int := if w = [60, 61] then some (-1) else if w = [61] then some 0 else if w = [62, 61] then some 1 else none
abbrev Ln8 := By × List Tm × Int × By
def midW (ws : Ws) : Ws := sub ws (1 : Int) (IntKind.i64.wrap ((ws.length : Int) - 2))
def w0W (ws : Ws) : By := ws.headD []
def wrW (ws : Ws) : By := ws.getD (ws.length - 2) []
def wlW (ws : Ws) : By := ws.getD (ws.length - 1) []
def rowOK (ws : Ws) : Prop := 4 ≤ ws.length ∧ colonB (w0W ws) = true ∧ nameB (w0W ws).dropLast = true ∧ (relOf (wrW ws)).isSome = true ∧ isN (wlW ws)
noncomputable def rowS (ws : Ws) : Option Ln8 := if rowOK ws then (sumW (midW ws)).map fun ts => ((w0W ws).dropLast, ts, (relOf (wrW ws)).getD 0, wlW ws) else none
def wrdOK (ws : Ws) : Prop := ws.length ≤ 100000 ∧ ∀ w, w ∈ ws → w.length ≤ 1000000
theorem mem_wl {ws : Ws} (h4 : 4 ≤ ws.length) : wlW ws ∈ ws := by unfold wlW; rw [getD_at (by omega)]; exact List.getElem_mem _
end Go.Abs
end

section
namespace Go.Abs
open Go
open Classical
set_option linter.unusedVariables false
set_option linter.unusedSimpArgs false
set_option linter.unnecessarySimpa false
def minB : By := [109, 105, 110]
noncomputable def firstS (ws : Ws) : Option Ln8 := if w0W ws = minB then (sumW ws.tail).map fun ts => ([], ts, 0, []) else none
end Go.Abs
end

section
namespace Go.Abs
open Go
open Classical
set_option linter.unusedVariables false
set_option linter.unusedSimpArgs false
set_option linter.unnecessarySimpa false
theorem take_succ {α : Type} {l : List α} {k : Nat} (h : k < l.length) : l.take (k + 1) = l.take k ++ [l[k]] := by rw [List.take_add_one, List.getElem?_eq_getElem h]; rfl
theorem nodup_succ {l : List By} {k : Nat} (h : k < l.length) : (l.take (k + 1)).Nodup ↔ (l.take k).Nodup ∧ l[k] ∉ l.take k := by
  rw [take_succ h, List.nodup_append]
  constructor
  · rintro ⟨a, _, c⟩
    exact ⟨a, fun hm => c _ hm _ (by simp) rfl⟩
  · rintro ⟨a, b⟩
    exact ⟨a, by simp, fun x hx y hy e => by simp at hy; subst hy; subst e; exact b hx⟩
def idxN (l : Ws) (x : By) : Int := if x ∈ l then ((l.idxOf x : Nat) : Int) else -1
theorem idxFrom_says (x : By) : ∀ (l : Ws) (i : Nat), Lib.idxFromS (l.map mkB) (mkB x) i = if x ∈ l then ((i + l.idxOf x : Nat) : Int) else -1
  | [], i => by simp [Lib.idxFromS]
  | y :: l, i => by
    rw [List.map_cons, Lib.idxFromS]
    by_cases h : y = x
    · subst h; simp
    · rw [if_neg (fun e => h (mkB_inj e)), idxFrom_says x l (i + 1)]
      have h' : ¬ x = y := fun e => h e.symm
      by_cases hm : x ∈ l
      · rw [if_pos hm, if_pos (by simp [hm])]
        have hb : (y == x) = false := by simpa using h
        have e : (y :: l).idxOf x = l.idxOf x + 1 := by rw [List.idxOf_cons, hb]; rfl
        rw [e]; omega
      · rw [if_neg hm, if_neg (by simp [h', hm])]
theorem lines_Index_says (l : Ws) (x : By) (hl : l.length ≤ 100000000) : lines_Index l x (idxN l x) := by
  refine ⟨_, ⟨by omega, ?_⟩, rfl⟩
  have := idxFrom_says x l 0
  rw [Nat.zero_add] at this
  exact this.symm
theorem idxN_neg {l : Ws} {x : By} : idxN l x < 0 ↔ x ∉ l := by unfold idxN; split <;> rename_i h <;> simp [h] <;> omega
theorem idxN_at {l : Ws} {x : By} (h : x ∈ l) : idxN l x = ((l.idxOf x : Nat) : Int) ∧ l.idxOf x < l.length := ⟨if_pos h, List.idxOf_lt_length_of_mem h⟩
def addN (vs : Ws) (ns : List By) : Ws := ns.foldl (fun vs n => if n ∈ vs then vs else vs ++ [n]) vs
end Go.Abs
end

section
namespace Go.Abs
open Go
open Classical
set_option linter.unusedVariables false
set_option linter.unusedSimpArgs false
set_option linter.unnecessarySimpa false
noncomputable def lineS (k : Nat) (ws : Ws) : Option Ln8 := if k = 0 then firstS ws else rowS ws
def dupT (ts : List Tm) : Prop := ¬ (ts.map (·.2.2)).Nodup
abbrev St8 := Ws × List Ln8
def nmsT (ts : List Tm) : List By := ts.map (·.2.2)
noncomputable def stepM (k : Nat) (st : St8) (ws : Ws) : Int ⊕ St8 :=
  match lineS k ws with
  | none => .inl 2
  | some x => if dupT x.2.1 ∨ (k ≠ 0 ∧ x.1 ∈ (st.2.drop 1).map (·.1)) then .inl 3 else
    if 60 < (addN st.1 (nmsT x.2.1)).length ∨ (k ≠ 0 ∧ 61 ≤ st.2.length) then .inl 4 else .inr (addN st.1 (nmsT x.2.1), st.2 ++ [x])
end Go.Abs
end

section
namespace Go.Abs
open Go
open Classical
set_option linter.unusedVariables false
set_option linter.unusedSimpArgs false
set_option linter.unnecessarySimpa false
theorem nameS_facts {neg : Bool} {l : Ws} {t : Tm} {r : Ws} (h : nameS neg l = some (t, r)) : NameP t.2.2 ∧ ∀ w, t.2.1 = some w → isN w ∧ w ∈ l := by
  unfold nameS at h
  split at h
  · cases h
  · rename_i w r' e
    split at h
    · rename_i hn
      cases h
      refine ⟨(nameB_iff _).1 hn, fun w' hw => ?_⟩
      unfold numS at hw
      split at hw
      · cases hw
      · rename_i w2 r2
        split at hw
        · rename_i hu
          cases hw
          have h45 : (45 : UInt8) ∉ w' := fun h => by rw [numU_no45 h] at hu; cases hu
          rw [numU_isN' h45] at hu
          exact ⟨of_decide_eq_true hu, by simp⟩
        · cases hw
    · cases h
theorem stepS_facts {first : Bool} {l : Ws} {t : Tm} {r : Ws} (h : stepS first l = some (t, r)) : NameP t.2.2 ∧ ∀ w, t.2.1 = some w → isN w ∧ w ∈ l := by
  unfold stepS at h
  split at h
  · cases h
  · rename_i neg l1 e
    obtain ⟨a, b⟩ := nameS_facts h
    exact ⟨a, fun w hw => ⟨(b w hw).1, (signS_suf e).subset (b w hw).2⟩⟩
theorem sumS_facts : ∀ (n : Nat) (first : Bool) (l : Ws) (ts : List Tm), l.length ≤ n → sumS first l = some ts → ∀ t, t ∈ ts → NameP t.2.2 ∧ ∀ w, t.2.1 = some w → isN w ∧ w ∈ l := by
  intro n
  induction n with
  | zero =>
    intro first l ts hl h t ht
    have : l = [] := List.length_eq_zero_iff.1 (by omega)
    subst this
    cases first with
    | false => rw [sumS_nil] at h; cases h; cases ht
    | true => rw [sumS_step (.inl rfl)] at h; cases h
  | succ n ih =>
    intro first l ts hl h t ht
    by_cases hc : first = true ∨ l ≠ []
    · rw [sumS_step hc] at h
      cases hs : stepS first l with
      | none => rw [hs] at h; cases h
      | some p =>
        obtain ⟨t1, r⟩ := p
        rw [hs] at h
        have hlt := stepS_lt hs
        simp only [Option.map_eq_some_iff] at h
        obtain ⟨ts', h1, rfl⟩ := h
        rcases List.mem_cons.1 ht with rfl | ht
        · exact stepS_facts hs
        · obtain ⟨a, b⟩ := ih false r ts' (by omega) h1 t ht
          exact ⟨a, fun w hw => ⟨(b w hw).1, (stepS_suf hs).subset (b w hw).2⟩⟩
    · have e1 : first = false := by cases first <;> simp_all
      have e2 : l = [] := Classical.byContradiction fun h => hc (.inr h)
      subst e1 e2
      rw [sumS_nil] at h; cases h; cases ht
theorem sumW_facts {l : Ws} {ts : List Tm} (h : sumW l = some ts) : ∀ t, t ∈ ts → NameP t.2.2 ∧ ∀ w, t.2.1 = some w → isN w ∧ w ∈ l := by
  unfold sumW at h
  split at h
  · cases h; intro t ht; cases ht
  · exact sumS_facts l.length true l ts (Nat.le_refl _) h
theorem relOf_range (w : By) : -1 ≤ (relOf w).getD 0 ∧ (relOf w).getD 0 ≤ 1 := by
  unfold relOf
  split
  · decide
  · split
    · decide
    · split <;> decide
structure LnOK (ws : Ws) (x : Ln8) : Prop where
  names : ∀ t, t ∈ x.2.1 → NameP t.2.2 ∧ ∀ w, t.2.1 = some w → isN w ∧ w ∈ ws
structure RwOK (ws : Ws) (x : Ln8) : Prop where
  name : NameP x.1
  rel : -1 ≤ x.2.2.1 ∧ x.2.2.1 ≤ 1
  num : isN x.2.2.2
  mem : x.2.2.2 ∈ ws
theorem mid_mem {ws : Ws} {w : By} (h : w ∈ midW ws) : w ∈ ws := by unfold midW sub at h; exact List.mem_of_mem_drop (List.mem_of_mem_take h)
theorem rowS_ok {ws : Ws} {x : Ln8} (h : rowS ws = some x) : LnOK ws x ∧ RwOK ws x := by
  unfold rowS at h
  split at h
  · rename_i hk
    simp only [Option.map_eq_some_iff] at h
    obtain ⟨ts, h1, rfl⟩ := h
    obtain ⟨h4, hc, hn, hr, hN⟩ := hk
    exact ⟨⟨fun t ht => ⟨(sumW_facts h1 t ht).1, fun w hw => ⟨((sumW_facts h1 t ht).2 w hw).1, mid_mem ((sumW_facts h1 t ht).2 w hw).2⟩⟩⟩, ⟨(nameB_iff _).1 hn, relOf_range _, hN, mem_wl h4⟩⟩
  · cases h
theorem firstS_ok {ws : Ws} {x : Ln8} (h : firstS ws = some x) : LnOK ws x := by
  unfold firstS at h
  split at h
  · simp only [Option.map_eq_some_iff] at h
    obtain ⟨ts, h1, rfl⟩ := h
    exact ⟨fun t ht => ⟨(sumW_facts h1 t ht).1, fun w hw => ⟨((sumW_facts h1 t ht).2 w hw).1, List.mem_of_mem_tail ((sumW_facts h1 t ht).2 w hw).2⟩⟩⟩
  · cases h
theorem addN_mem (v : By) : ∀ (ns : List By) (vs : Ws), v ∈ addN vs ns ↔ v ∈ vs ∨ v ∈ ns
  | [], vs => by simp [addN]
  | n :: ns, vs => by
    show v ∈ addN (if n ∈ vs then vs else vs ++ [n]) ns ↔ _
    rw [addN_mem v ns]
    split
    · rename_i h
      constructor
      · rintro (h1 | h1)
        · exact .inl h1
        · exact .inr (by simp [h1])
      · rintro (h1 | h1)
        · exact .inl h1
        · rcases List.mem_cons.1 h1 with rfl | h1
          · exact .inl h
          · exact .inr h1
    · simp [or_assoc]
theorem addN_nodup : ∀ (ns : List By) (vs : Ws), vs.Nodup → (addN vs ns).Nodup
  | [], vs, h => h
  | n :: ns, vs, h => by
    show (addN (if n ∈ vs then vs else vs ++ [n]) ns).Nodup
    refine addN_nodup ns _ ?_
    split
    · exact h
    · rename_i hn
      rw [List.nodup_append]
      exact ⟨h, by simp, fun a ha b hb e => by simp at hb; subst hb; subst e; exact hn ha⟩
structure InvS (k : Nat) (st : St8) : Prop where
  len : st.2.length = k
  v60 : st.1.length ≤ 60
  r61 : k ≤ 61
  nd : st.1.Nodup
  nm : ∀ v, v ∈ st.1 → NameP v
  sub : ∀ x, x ∈ st.2 → ∀ t, t ∈ x.2.1 → t.2.2 ∈ st.1
  dup : ∀ x, x ∈ st.2 → ¬ dupT x.2.1
  rows : ((st.2.drop 1).map (·.1)).Nodup
  rok : ∀ x, x ∈ st.2.drop 1 → NameP x.1 ∧ (-1 ≤ x.2.2.1 ∧ x.2.2.1 ≤ 1) ∧ isN x.2.2.2
theorem InvS.zero : InvS 0 ([], []) := ⟨rfl, by simp, by omega, by simp, by simp, by simp, by simp, by simp, by simp⟩
theorem InvS.step {k : Nat} {st st' : St8} {ws : Ws} (h : InvS k st) (hs : stepM k st ws = .inr st') : InvS (k + 1) st' := by
  unfold stepM at hs
  split at hs
  · cases hs
  · rename_i x hx
    split at hs
    · cases hs
    · rename_i h1
      split at hs
      · cases hs
      · rename_i h2
        cases hs
        have hln : LnOK ws x := by
          unfold lineS at hx
          split at hx
          · exact firstS_ok hx
          · exact (rowS_ok hx).1
        refine ⟨by simp [h.len], ?_, ?_, addN_nodup _ _ h.nd, ?_, ?_, ?_, ?_, ?_⟩
        · exact Nat.le_of_not_lt fun e => h2 (.inl e)
        · by_cases hk : k = 0
          · omega
          · have := h.len
            have : ¬ 61 ≤ st.2.length := fun e => h2 (.inr ⟨hk, e⟩)
            omega
        · intro v hv
          rcases (addN_mem v _ _).1 hv with hv | hv
          · exact h.nm v hv
          · obtain ⟨t, ht, rfl⟩ := List.mem_map.1 hv
            exact (hln.names t ht).1
        · intro y hy t ht
          refine (addN_mem _ _ _).2 ?_
          rcases List.mem_append.1 hy with hy | hy
          · exact .inl (h.sub y hy t ht)
          · simp at hy; subst hy
            exact .inr (List.mem_map.2 ⟨t, ht, rfl⟩)
        · intro y hy
          rcases List.mem_append.1 hy with hy | hy
          · exact h.dup y hy
          · simp at hy; subst hy
            exact fun e => h1 (.inl e)
        · by_cases hk : k = 0
          · have : st.2 = [] := List.length_eq_zero_iff.1 (by have := h.len; omega)
            rw [this]; simp
          · rw [List.drop_append_of_le_length (by have := h.len; omega), List.map_append, List.nodup_append]
            refine ⟨h.rows, by simp, fun a ha b hb e => ?_⟩
            simp at hb
            subst hb; subst e
            exact h1 (.inr ⟨hk, ha⟩)
        · intro y hy
          by_cases hk : k = 0
          · have : st.2 = [] := List.length_eq_zero_iff.1 (by have := h.len; omega)
            rw [this] at hy; simp at hy
          · rw [List.drop_append_of_le_length (by have := h.len; omega)] at hy
            rcases List.mem_append.1 hy with hy | hy
            · exact h.rok y hy
            · simp at hy; subst hy
              have hr : rowS ws = some y := by unfold lineS at hx; rwa [if_neg hk] at hx
              have := (rowS_ok hr).2
              exact ⟨this.name, this.rel, this.num⟩
end Go.Abs
end

section
namespace Go.Abs
open Go
open Classical
set_option linter.unusedVariables false
set_option linter.unusedSimpArgs false
set_option linter.unnecessarySimpa false
def LsOK (l : Ls) : Prop := l.length ≤ 100000 ∧ ∀ x, x ∈ l → wrdOK x.2 ∧ x.2 ≠ []
theorem wlen_mem8 : ∀ {l : Ws} {w : By}, w ∈ l → w.length + 1 ≤ wlen l
  | x :: l, w, h => by
    have e : wlen (x :: l) = x.length + 1 + wlen l := by simp [wlen]
    rw [e]
    rcases List.mem_cons.1 h with rfl | h
    · omega
    · have := wlen_mem8 h; omega
theorem allLs_ok {s : By} (hl : s.length ≤ 65536) : LsOK (allL s) := by
  constructor
  · have := linesFrom_length (splitC 10 s) 0
    have h2 : (splitC 10 s).length = s.count 10 + 1 := split_len
    have h3 : s.count 10 ≤ s.length := List.count_le_length
    unfold allL; omega
  · intro x hx
    have hw := all_wlen s x hx
    have h0 := wlen_len x.2
    refine ⟨⟨by omega, fun w hw' => ?_⟩, ?_⟩
    · have := wlen_mem8 hw'
      omega
    · have hr := linesFrom_rising (splitC 10 s) 0
      obtain ⟨i, hi, e⟩ := List.mem_iff_getElem.1 hx
      have := (hr.at (i := i) (x := x) (by unfold allL at hi e; rw [List.getElem?_eq_getElem hi, e])).1
      exact fun e => by rw [e] at this; simp at this
end Go.Abs
end

section
namespace Go.Abs
open Go
open Classical
set_option linter.unusedVariables false
set_option linter.unusedSimpArgs false
set_option linter.unnecessarySimpa false
end Go.Abs
end

section
namespace Go.Abs
open Go
open Classical
set_option linter.unusedVariables false
set_option linter.unusedSimpArgs false
set_option linter.unnecessarySimpa false
abbrev MRow := By × List Fr × Int × Bool × List Int × List Int
def NamesP (l : Ws) : Prop := l.Nodup ∧ ∀ v, v ∈ l → NameP v
theorem idx_take {l : Ws} {k : Nat} (hk : k < l.length) : l.idxOf l[k] = k ↔ l[k] ∉ l.take k := by
  have hlt : l.idxOf l[k] < l.length := List.idxOf_lt_length_of_mem (List.getElem_mem hk)
  have he : l[l.idxOf l[k]] = l[k] := List.getElem_idxOf hlt
  constructor
  · intro h hm
    obtain ⟨i, hi, e⟩ := List.mem_take_iff_getElem.1 hm
    have hik : i < k := by omega
    have hil : i < l.length := by omega
    have := List.not_of_lt_findIdx (p := (· == l[k])) (xs := l) (i := i) (by show i < l.idxOf l[k]; omega)
    rw [e] at this
    simp at this
  · intro h
    rcases Nat.lt_or_ge (l.idxOf l[k]) k with h1 | h1
    · exact absurd (List.mem_take_iff_getElem.2 ⟨l.idxOf l[k], by omega, he⟩) h
    · rcases Nat.lt_or_ge k (l.idxOf l[k]) with h2 | h2
      · have := List.not_of_lt_findIdx (p := (· == l[k])) (xs := l) (i := k) h2
        simp at this
      · omega
theorem idx_nodup {l : Ws} {k : Nat} (hk : k < l.length) (hn : l.Nodup) : l.idxOf l[k] = k := (idx_take hk).2 ((nodup_succ hk).1 (hn.sublist (List.take_sublist _ _))).2
theorem model_names_says (l : Ws) (hl : l.length ≤ 1000000) : model_names l (decide (NamesP l)) := by
  unfold model_names
  refine LoopP.intro (fun z : Int => ∃ k : Nat, z = k ∧ k ≤ l.length ∧ (l.take k).Nodup ∧ ∀ v, v ∈ l.take k → NameP v) (fun z => l.length - z.toNat) ⟨0, rfl, by omega, by simp, by simp⟩ ?_
  rintro X z ⟨k, rfl, hk, hn, hm⟩ hX
  unfold model_names_L1
  dsimp only
  refine IfB.dec (fun h => ?_) (fun h => ?_)
  · have hkl : k < l.length := by omega
    refine ⟨_, Idx.nat hkl, _, lines_Name_says (nameB_iff _), IfB.bool (fun hN => ?_) (fun hN => ?_)⟩
    · have hN := (nameB_iff _).1 hN
      refine ⟨_, lines_Index_says l _ (by omega), ?_⟩
      rw [(idxN_at (List.getElem_mem hkl)).1]
      refine IfB.nei (fun he => ?_) (fun he => ?_)
      · refine decide_eq_false fun hp => he ?_
        rw [idx_nodup hkl hp.1]
      · rw [wrap64' (by omega) (by omega)]
        have := (idx_take hkl).1 (by omega)
        refine hX _ ⟨k + 1, by omega, by omega, (nodup_succ hkl).2 ⟨hn, this⟩, fun v hv => ?_⟩ (by omega)
        rw [take_succ hkl, List.mem_append] at hv
        rcases hv with hv | hv
        · exact hm v hv
        · simp at hv; subst hv; exact hN
    · refine decide_eq_false fun hp => ?_
      rw [(nameB_iff _).2 (hp.2 _ (List.getElem_mem hkl))] at hN; cases hN
  · have e : k = l.length := by omega
    subst e
    rw [List.take_length] at hn hm
    exact decide_eq_true ⟨hn, hm⟩
def MayM (V : Ws) (C : List Fr) (R : List MRow) : Prop := V.length ≤ 60 ∧ C.length = V.length ∧ R.length ≤ 60 ∧ NamesP V ∧ NamesP (R.map (·.1)) ∧ ∀ r, r ∈ R → r.2.1.length = V.length ∧ -1 ≤ r.2.2.1 ∧ r.2.2.1 ≤ 1
theorem model_Right_says (V : Ws) (C : List Fr) (R : List MRow) : model_Right V C R (decide (MayM V C R)) := by
  unfold model_Right
  refine IfB.dec (fun h1 => ?_) (fun h1 => decide_eq_false fun h => h1 (by have := h.1; omega))
  refine IfB.eqi (fun h2 => ?_) (fun h2 => decide_eq_false fun h => h2 (by have := h.2.1; omega))
  refine IfB.dec (fun h3 => ?_) (fun h3 => decide_eq_false fun h => h3 (by have := h.2.2.1; omega))
  refine ⟨_, model_names_says V (by omega), IfB.dec (fun h4 => ?_) (fun h4 => decide_eq_false fun h => h4 h.2.2.2.1)⟩
  refine LoopP.intro (fun z : Int × Ws => ∃ k : Nat, z.1 = k ∧ k ≤ R.length ∧ z.2 = (R.map (·.1)).take k) (fun z => R.length - z.1.toNat) ⟨0, rfl, by omega, by simp⟩ ?_
  rintro X ⟨z1, z2⟩ ⟨k, e1, hk, e2⟩ hX
  simp only at e1 e2
  subst e1
  unfold model_Right_L1
  dsimp only
  refine IfB.dec (fun h => ?_) (fun h => ?_)
  · have hkl : k < R.length := by omega
    refine ⟨R[k].1, R[k].2.1, R[k].2.2.1, R[k].2.2.2.1, R[k].2.2.2.2.1, R[k].2.2.2.2.2, Idx.nat hkl, by unfold Fits; rw [e2]; simp; omega, ?_⟩
    rw [wrap64' (by omega) (by omega)]
    refine hX _ ⟨k + 1, by dsimp only; omega, by omega, ?_⟩ (by dsimp only; omega)
    dsimp only
    rw [take_succ (by simpa using hkl), e2]; simp
  · have e : k = R.length := by omega
    subst e
    rw [List.take_of_length_le (by simp)] at e2
    refine ⟨_, model_names_says z2 (by rw [e2]; simp; omega), ?_⟩
    rw [e2]
    refine IfB.dec (fun h5 => ?_) (fun h5 => decide_eq_false fun h => h5 h.2.2.2.2.1)
    refine LoopP.intro (fun z : Int => ∃ k : Nat, z = k ∧ k ≤ R.length ∧ ∀ r, r ∈ R.take k → r.2.1.length = V.length ∧ -1 ≤ r.2.2.1 ∧ r.2.2.1 ≤ 1) (fun z => R.length - z.toNat) ⟨0, rfl, by omega, by simp⟩ ?_
    rintro Y z ⟨k, rfl, hk, hm⟩ hY
    unfold model_Right_L2
    dsimp only
    refine IfB.dec (fun h => ?_) (fun h => ?_)
    · have hkl : k < R.length := by omega
      have hmem := List.getElem_mem hkl
      have no : ∀ p : Prop, p → ¬ (R[k].2.1.length = V.length ∧ -1 ≤ R[k].2.2.1 ∧ R[k].2.2.1 ≤ 1) → IfB (decide ((k : Int) ≥ 0)) (decide (MayM V C R) = false) (decide (MayM V C R) = true) := fun _ _ hno =>
        IfB.dec (fun _ => decide_eq_false fun h => hno (h.2.2.2.2.2 _ hmem)) (fun h => absurd (by omega) h)
      refine ⟨R[k].1, R[k].2.1, R[k].2.2.1, R[k].2.2.2.1, R[k].2.2.2.2.1, R[k].2.2.2.2.2, Idx.nat hkl, IfB.nei (fun a => no True trivial (fun h => a (by omega))) (fun a => IfB.dec (fun b => no True trivial (fun h => by omega)) (fun b => IfB.dec (fun c => no True trivial (fun h => by omega)) (fun c => ?_)))⟩
      rw [wrap64' (by omega) (by omega)]
      refine hY _ ⟨k + 1, by omega, by omega, fun r hr => ?_⟩ (by omega)
      rw [take_succ hkl, List.mem_append] at hr
      rcases hr with hr | hr
      · exact hm r hr
      · simp at hr; subst hr; exact ⟨by omega, by omega, by omega⟩
    · have e : k = R.length := by omega
      subst e
      rw [List.take_length] at hm
      exact decide_eq_true ⟨by omega, by omega, by omega, h4, h5, hm⟩
end Go.Abs
end

section
namespace Go.Abs
open Go
set_option linter.unusedVariables false
set_option linter.unusedSimpArgs false
set_option linter.unnecessarySimpa false
def okV (l : List Fr) (k : Nat) : Prop := l.length ≤ 8 ∧ ∀ x, x ∈ l → okX x k
end Go.Abs
end

section
namespace Go.Abs
open Go
open Classical
set_option linter.unusedVariables false
set_option linter.unusedSimpArgs false
set_option linter.unnecessarySimpa false
structure Sml (A : List (List Fr)) (B C : List Fr) (k : Nat) : Prop where
  rows : A.length ≤ 4
  row : ∀ r, r ∈ A → okV r k
  b : okV B k
  c : okV C k
theorem okV.mono {l : List Fr} {a b : Nat} (h : okV l a) (hab : a ≤ b) : okV l b := ⟨h.1, fun x hx => (h.2 x hx).mono hab⟩
theorem Sml.zero {A : List (List Fr)} {B C : List Fr} {k : Nat} (h : Sml A B C k) (hk : 1 ≤ k) : Sml A (List.replicate B.length zeroF) C k :=
  ⟨h.rows, h.row, ⟨by simp; exact h.b.1, fun x hx => by rw [List.eq_of_mem_replicate hx]; exact zeroR.2.2.mono hk⟩, h.c⟩
end Go.Abs
end

section
namespace Go.Abs
open Go
open Classical
set_option linter.unusedVariables false
set_option linter.unusedSimpArgs false
set_option linter.unnecessarySimpa false
theorem Sml.mono {A : List (List Fr)} {B C : List Fr} {a b : Nat} (h : Sml A B C a) (hab : a ≤ b) : Sml A B C b := ⟨h.rows, fun r hr => (h.row r hr).mono hab, h.b.mono hab, h.c.mono hab⟩
end Go.Abs
end

section
namespace Go.Abs
open Go
open Classical
set_option linter.unusedVariables false
set_option linter.unusedSimpArgs false
set_option linter.unnecessarySimpa false
abbrev Rw := By × List Fr × Int × Fr
def FewR (r : Rw) : Prop := r.1.length ≤ 20 ∧ FewP r.2.1 ∧ FewP [r.2.2.2]
def FewM (V : List By) (C : List Fr) (R : List Rw) : Prop := V.length ≤ 8 ∧ (∀ s, s ∈ V → s.length ≤ 20) ∧ R.length ≤ 6 ∧ (∀ r, r ∈ R → FewR r) ∧ FewP C
theorem FewRows {V : List By} {C : List Fr} {R : List Rw} {F : (Int → Prop) → Int → Prop} {b : Bool}
    (hF : ∀ (X : Int → Prop) (s : Int), F X s = IfB (decide (s < (R.length : Int)))
      (IfB (decide (s ≤ (6 : Int)))
        (∃ (x8 : By) (x9 : List Fr) (x10 : Int) (x11 : Bool) (x12 : List Int) (x13 : List Int), Idx R s (x8, x9, x10, x11, x12, x13) ∧
        IfB (decide ((x8.length : Int) > (20 : Int))) (b = false)
          (∃ (x16 : By) (x17 : List Fr) (x18 : Int) (x19 : Bool) (x20 : List Int) (x21 : List Int), Idx R s (x16, x17, x18, x19, x20, x21) ∧
          ∃ (x23 : Bool), offcutlaw05_Few x17 x23 ∧
          IfB x23
            (∃ (x25 : By) (x26 : List Fr) (x27 : Int) (x28 : Bool) (x29 : List Int) (x30 : List Int), Idx R s (x25, x26, x27, x28, x29, x30) ∧
            ∃ (x32 : Bool), offcutlaw05_Few [(x28, x29, x30)] x32 ∧
            IfB x32 (X (IntKind.i64.wrap (s + 1))) (b = false))
            (b = false)))
        (IfB (decide ((V.length : Int) ≤ (8 : Int)))
          (IfB (decide ((R.length : Int) ≤ (6 : Int))) (∃ (x36 : Bool), offcutlaw05_Few C x36 ∧ IfB x36 (b = true) (b = false)) (b = false)) (b = false)))
      (IfB (decide ((V.length : Int) ≤ (8 : Int)))
        (IfB (decide ((R.length : Int) ≤ (6 : Int))) (∃ (x40 : Bool), offcutlaw05_Few C x40 ∧ IfB x40 (b = true) (b = false)) (b = false)) (b = false)))
    (hb : b = decide (FewM V C R)) (hV : V.length ≤ 8 → ∀ s, s ∈ V → s.length ≤ 20) : LoopP F (0 : Int) := by
  have no : ¬ FewM V C R → b = false := fun h => by rw [hb]; exact decide_eq_false h
  refine LoopP.intro (fun z : Int => ∃ k : Nat, z = k ∧ k ≤ R.length ∧ k ≤ 7 ∧ ∀ i (h : i < R.length), i < k → FewR R[i]) (fun z => R.length - z.toNat) ⟨0, rfl, by omega, by omega, fun i _ h => by omega⟩ ?_
  rintro X z ⟨k, rfl, hk, hk9, hn⟩ hX
  rw [hF]
  refine IfB.dc (fun h => IfB.dc (fun h8 => ?_) (fun h8 => ?_)) (fun h => ?_)
  · have hkl : k < R.length := by omega
    have hi := Idx.nat hkl
    have hmem := List.getElem_mem hkl
    have hn2 : FewR R[k] → ∀ i (h : i < R.length), i < k + 1 → FewR R[i] := fun h0 i hi hik => by
      by_cases e : i = k
      · subst e; exact h0
      · exact hn i hi (by omega)
    have bad : ¬ FewR R[k] → b = false := fun h => no fun hm => h (hm.2.2.2.1 _ hmem)
    generalize R[k] = q at *
    obtain ⟨nm, cf, rel, bb, bn, bd⟩ := q
    refine ⟨nm, cf, rel, bb, bn, bd, hi, IfB.dc (fun h1 => bad fun hf => by have := hf.1; dsimp only at this; omega) (fun h1 => ⟨nm, cf, rel, bb, bn, bd, hi, _, Few5_says cf, IfB.dc (fun h2 => ⟨nm, cf, rel, bb, bn, bd, hi, _, Few5_says _, IfB.dc (fun h3 => ?_) (fun h3 => bad fun hf => h3 hf.2.2)⟩) (fun h2 => bad fun hf => h2 hf.2.1)⟩)⟩
    rw [wrap64' (by omega) (by omega)]
    exact hX _ ⟨k + 1, by omega, by omega, by omega, hn2 ⟨by dsimp only; omega, h2, h3⟩⟩ (by omega)
  · exact IfB.dc (fun h1 => IfB.dc (fun h2 => by omega) (fun h2 => no fun hm => h2 (by have := hm.2.2.1; omega))) (fun h1 => no fun hm => h1 (by have := hm.1; omega))
  · refine IfB.dc (fun h1 => IfB.dc (fun h2 => ⟨_, Few5_says C, IfB.dc (fun h3 => ?_) (fun h3 => no fun hm => h3 hm.2.2.2.2)⟩) (fun h2 => no fun hm => h2 (by have := hm.2.2.1; omega))) (fun h1 => no fun hm => h1 (by have := hm.1; omega))
    rw [hb]
    exact decide_eq_true ⟨by omega, hV (by omega), by omega, fun r hr => by
      obtain ⟨i, hi, rfl⟩ := List.getElem_of_mem hr
      exact hn i hi (by omega), h3⟩
theorem Few8_says (V : List By) (C : List Fr) (R : List Rw) : offcutlaw08_Few V C R (decide (FewM V C R)) := by
  unfold offcutlaw08_Few
  refine LoopP.intro (fun z : Int => ∃ k : Nat, z = k ∧ k ≤ V.length ∧ k ≤ 9 ∧ ∀ i (h : i < V.length), i < k → V[i].length ≤ 20) (fun z => V.length - z.toNat) ⟨0, rfl, by omega, by omega, fun i _ h => by omega⟩ ?_
  rintro X z ⟨k, rfl, hk, hk9, hn⟩ hX
  unfold offcutlaw08_Few_L1
  have hall : k = V.length → ∀ s, s ∈ V → s.length ≤ 20 := fun e s hs => by
    obtain ⟨i, hi, rfl⟩ := List.getElem_of_mem hs
    exact hn i hi (by omega)
  refine IfB.dc (fun h => IfB.dc (fun h8 => ?_) (fun h8 => ?_)) (fun h => ?_)
  · have hkl : k < V.length := by omega
    refine ⟨_, Idx.nat hkl, IfB.dc (fun h1 => decide_eq_false fun hm => ?_) (fun h1 => ?_)⟩
    · have := hm.2.1 _ (List.getElem_mem hkl); omega
    · rw [wrap64' (by omega) (by omega)]
      refine hX _ ⟨k + 1, by omega, by omega, by omega, fun i hi hik => ?_⟩ (by omega)
      by_cases e : i = k
      · subst e; omega
      · exact hn i hi (by omega)
  · exact FewRows (fun X s => rfl) rfl (fun h => by omega)
  · exact FewRows (fun X s => rfl) rfl (fun _ => hall (by omega))
end Go.Abs
end
