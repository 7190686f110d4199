/- Part of a proof, in few files: LDec LTxt LLin LTxt2 LQ L13a L13b L13c L13d L13e LLin2 L13f LQ2 LQ3 LQ4 LM1. -/
import Derived.Test.YtdbfgnpobfbfmaaGreatDoorMSaK43
import Derived.Test.YtdbfgnpobfbfmaaGreatDoorMSaK33
import Derived.Test.YtdbfgnpobfbfmaaGreatDoorMSaK18
import Derived.Laws.RangeAny
import Derived.Test.YtdbfgnpobfbfmaaGreatDoorMSaK34

section
/- Numbers as decimal texts, plain. -/
namespace Go.Abs
open Go
set_option linter.unusedVariables false
set_option linter.unusedSimpArgs false
set_option linter.unnecessarySimpa false

end Go.Abs
end

section
/- Numbers printed: nat.Text, whole.Text, rat.Text, and read again. -/
namespace Go.Abs
open Go
set_option linter.unusedVariables false
set_option linter.unusedSimpArgs false
set_option linter.unnecessarySimpa false

end Go.Abs
end

section
/- Lines, plain: names, bytes that may be, lines and their words; joined words. -/
namespace Go.Abs
open Go
set_option linter.unusedVariables false
set_option linter.unusedSimpArgs false
set_option linter.unnecessarySimpa false

theorem IfB.dec {p : Prop} [Decidable p] {A B : Prop} (h1 : p → A) (h2 : ¬ p → B) : IfB (decide p) A B := ⟨fun h => h1 (of_decide_eq_true h), fun h => h2 (of_decide_eq_false h)⟩
theorem IfB.bool {b : Bool} {A B : Prop} (h1 : b = true → A) (h2 : b = false → B) : IfB b A B := ⟨h1, h2⟩

/-- What is told of lines: by rising numbers, with words. -/
def Rising (lo hi : Int) : List (Int × List (List UInt8)) → Prop
  | [] => True
  | x :: l => lo < x.1 ∧ x.1 ≤ hi ∧ 0 < x.2.length ∧ Rising x.1 hi l
theorem Rising.at {hi : Int} : ∀ {l : List (Int × List (List UInt8))} {lo : Int} {i : Nat} {x : Int × List (List UInt8)}, Rising lo hi l → l[i]? = some x → 0 < x.2.length ∧ x.1 ≤ hi ∧ (∀ y, i ≠ 0 → l[i - 1]? = some y → y.1 < x.1) ∧ lo < x.1
  | [], _, i, x, _, h => by simp at h
  | z :: l, lo, 0, x, hr, h => by
    simp at h; subst h
    exact ⟨hr.2.2.1, hr.2.1, fun y h => absurd rfl h, hr.1⟩
  | z :: l, lo, i + 1, x, hr, h => by
    simp at h
    obtain ⟨h1, h2, h3, h4⟩ := Rising.at hr.2.2.2 h
    refine ⟨h1, h2, fun y _ hy => ?_, by have := hr.1; omega⟩
    cases i with
    | zero => simp at hy; subst hy; exact h4
    | succ i => simp at hy; exact h3 y (by omega) (by simpa using hy)

end Go.Abs
end

section
/- Whole numbers and fractions printed, and read again. -/
namespace Go.Abs
open Go
set_option linter.unusedVariables false
set_option linter.unusedSimpArgs false
set_option linter.unnecessarySimpa false

theorem den1_self {d : Nat} (h : 0 < d) : den1 d = d := by unfold den1; rw [if_neg (by omega)]
def okX (x : Bool × List Int × List Int) (k : Nat) : Prop := WS x.2.1 ∧ WS x.2.2 ∧ x.2.1.length ≤ k ∧ x.2.2.length ≤ k
/-! ### read again -/
end Go.Abs
end

section
/- Fractions by what they stand for: numbers of Rat. -/
namespace Go.Abs
open Go
set_option linter.unusedVariables false
set_option linter.unusedSimpArgs false
set_option linter.unnecessarySimpa false

abbrev Fr := Bool × List Int × List Int
/-- What a fraction stands for. -/
def qv (x : Fr) : Rat := Rat.divInt (iV x.1 (val x.2.1)) (den1 (val x.2.2))
theorem divInt_le {a c b d : Int} (hb : 0 < b) (hd : 0 < d) : Rat.divInt a b ≤ Rat.divInt c d ↔ a * d ≤ c * b := by
  rw [Rat.le_iff_sub_nonneg, Rat.sub_eq_add_neg, Rat.neg_divInt, Rat.divInt_add_divInt _ _ (by omega) (by omega), Rat.divInt_nonneg_iff_of_pos_right (Int.mul_pos hd hb), Int.neg_mul]
  omega
theorem divInt_eq {a c b d : Int} (hb : 0 < b) (hd : 0 < d) : Rat.divInt a b = Rat.divInt c d ↔ a * d = c * b := Rat.divInt_eq_divInt_iff (by omega) (by omega)
theorem divInt_lt {a c b d : Int} (hb : 0 < b) (hd : 0 < d) : Rat.divInt a b < Rat.divInt c d ↔ a * d < c * b := by
  rw [← Rat.not_le, divInt_le hd hb]; omega
theorem d1p (n : Nat) : (0 : Int) < (den1 n : Int) := by have := den1_pos n; omega

theorem qv_ratQ {z : Int} {d : Nat} (hd : 0 < d) : qv (ratQ z d) = Rat.divInt z d := by
  unfold qv ratQ
  dsimp only
  have hg : 0 < Nat.gcd z.natAbs d := Nat.gcd_pos_of_pos_right _ hd
  have h1 : z.natAbs / Nat.gcd z.natAbs d * Nat.gcd z.natAbs d = z.natAbs := Nat.div_mul_cancel (Nat.gcd_dvd_left _ _)
  have h2 : d / Nat.gcd z.natAbs d * Nat.gcd z.natAbs d = d := Nat.div_mul_cancel (Nat.gcd_dvd_right _ _)
  have h3 : 0 < d / Nat.gcd z.natAbs d := Nat.div_pos (Nat.gcd_le_right _ hd) hg
  rw [val_words, val_words, den1_self h3, divInt_eq (by omega) (by omega)]
  generalize Nat.gcd z.natAbs d = g at *
  generalize z.natAbs / g = n' at *
  generalize d / g = d' at *
  subst h2
  unfold iV
  by_cases hz : z < 0
  · simp only [hz, decide_true, if_true]
    have e : z = -((n' * g : Nat) : Int) := by omega
    rw [e]; push_cast
    rw [Int.neg_mul, Int.neg_mul]
    congr 1
    rw [Int.mul_assoc, Int.mul_comm (g : Int)]
  · simp only [hz, decide_false, Bool.false_eq_true, if_false]
    have e : z = ((n' * g : Nat) : Int) := by omega
    rw [e]; push_cast
    rw [Int.mul_assoc, Int.mul_comm (g : Int)]

theorem ratQ_ok {z : Int} {d k : Nat} (hz : (words z.natAbs).length ≤ k) (hd : (words d).length ≤ k) : okX (ratQ z d) k :=
  ⟨WS_words _, WS_words _, Nat.le_trans (words_len_le (Nat.div_le_self _ _)) hz, Nat.le_trans (words_len_le (Nat.div_le_self _ _)) hd⟩
theorem okX.mono {x : Fr} {a b : Nat} (h : okX x a) (hab : a ≤ b) : okX x b := ⟨h.1, h.2.1, Nat.le_trans h.2.2.1 hab, Nat.le_trans h.2.2.2 hab⟩
theorem den_len {l : List Int} {k : Nat} (hw : WS l) (hl : l.length ≤ k) : (words (den1 (val l))).length ≤ k + 1 := by
  have := wl hw
  unfold den1
  split
  · rw [words_one (by omega) (by omega)]; simp
  · omega
theorem mulw (a b : Nat) : (words (a * b)).length ≤ (words a).length + (words b).length := by
  have := words_mul_len (WS_words a) (WS_words b)
  rwa [val_words, val_words] at this
theorem addw {a b k : Nat} (ha : (words a).length ≤ k) (hb : (words b).length ≤ k) : (words (a + b)).length ≤ k + 1 := by
  have h1 := val_lt (WS_words a); have h2 := val_lt (WS_words b)
  rw [val_words] at h1 h2
  have p1 : 4294967296 ^ (words a).length ≤ 4294967296 ^ k := Nat.pow_le_pow_right (by omega) ha
  have p2 : 4294967296 ^ (words b).length ≤ 4294967296 ^ k := Nat.pow_le_pow_right (by omega) hb
  refine words_len _ _ ?_
  rw [Nat.pow_succ]; omega

def addF (x y : Fr) : Fr := ratQ (iV x.1 (val x.2.1) * (den1 (val y.2.2) : Int) + iV y.1 (val y.2.1) * (den1 (val x.2.2) : Int)) (den1 (val x.2.2) * den1 (val y.2.2))
theorem addR {x y : Fr} {a b : Nat} (hx : okX x a) (hy : okX y b) (ha : a ≤ 10000) (hb : b ≤ 10000) : rat_Add x.1 x.2.1 x.2.2 y.1 y.2.1 y.2.2 (addF x y) ∧ qv (addF x y) = qv x + qv y ∧ okX (addF x y) (a + b + 2) := by
  unfold addF
  have h2 := den_len hx.2.1 hx.2.2.2
  have h3 := den_len hy.2.1 hy.2.2.2
  refine ⟨rat_Add_says x.1 x.2.1 x.2.2 y.1 y.2.1 y.2.2 hx.1 hx.2.1 hy.1 hy.2.1 (by have := hx.2.2.1; omega) (by have := hx.2.2.2; omega) (by have := hy.2.2.1; omega) (by have := hy.2.2.2; omega), ?_, ratQ_ok ?_ ?_⟩
  · rw [qv_ratQ (Nat.mul_pos (den1_pos _) (den1_pos _))]
    unfold qv
    rw [Rat.divInt_add_divInt _ _ (by have := d1p (val x.2.2); omega) (by have := d1p (val y.2.2); omega)]; push_cast; rfl
  · refine Nat.le_trans (words_len_le (Int.natAbs_add_le _ _)) ?_
    rw [Int.natAbs_mul, Int.natAbs_mul, iV_abs, iV_abs, Int.natAbs_natCast, Int.natAbs_natCast]
    have h4 := mulw (val x.2.1) (den1 (val y.2.2))
    have h5 := mulw (val y.2.1) (den1 (val x.2.2))
    have h6 := wl hx.1; have h7 := wl hy.1
    have h8 := hx.2.2.1; have h9 := hy.2.2.1
    exact addw (k := a + b + 1) (by omega) (by omega)
  · have h1 := mulw (den1 (val x.2.2)) (den1 (val y.2.2))
    omega

theorem cmpR {x y : Fr} {a b : Nat} (hx : okX x a) (hy : okX y b) (ha : a ≤ 20000) (hb : b ≤ 20000) : ∃ c, rat_Compare x.1 x.2.1 x.2.2 y.1 y.2.1 y.2.2 c ∧ (c = 0 ↔ qv x = qv y) ∧ (c > 0 ↔ qv y < qv x) ∧ (c < 0 ↔ qv x < qv y) := by
  refine ⟨_, rat_Compare_says x.1 x.2.1 x.2.2 y.1 y.2.1 y.2.2 hx.1 hx.2.1 hy.1 hy.2.1 (by have := hx.2.2.1; omega) (by have := hx.2.2.2; omega) (by have := hy.2.2.1; omega) (by have := hy.2.2.2; omega), ?_⟩
  unfold qv
  rw [divInt_eq (d1p _) (d1p _), divInt_lt (d1p _) (d1p _), divInt_lt (d1p _) (d1p _)]
  generalize iV x.1 (val x.2.1) * (den1 (val y.2.2) : Int) = A
  generalize iV y.1 (val y.2.1) * (den1 (val x.2.2) : Int) = B
  unfold cmpZ
  split
  · omega
  · split <;> omega

theorem signR {x : Fr} {a : Nat} (hx : okX x a) (ha : a ≤ 20000) : ∃ c, rat_Sign x.1 x.2.1 x.2.2 c ∧ (c = 0 ↔ qv x = 0) ∧ (c > 0 ↔ 0 < qv x) ∧ (c < 0 ↔ qv x < 0) := by
  refine ⟨_, ⟨_, whole_Sign_says x.1 x.2.1 hx.1 (by have := hx.2.2.1; omega), rfl⟩, ?_⟩
  have h := sgn_iV x.1 (val x.2.1)
  have e : (0 : Rat) = Rat.divInt 0 1 := by rw [Rat.zero_divInt]
  unfold qv
  rw [e, divInt_eq (d1p _) (by omega), divInt_lt (d1p _) (by omega), divInt_lt (by omega) (d1p _)]
  obtain ⟨h1, h2, h3, h4⟩ := h
  generalize iV x.1 (val x.2.1) = A at *
  generalize sgn x.1 (val x.2.1) = C at *
  refine ⟨?_, ?_, ?_⟩ <;> omega

end Go.Abs
end

section
/- Chapter 13 plain: numbers read, of both; rows of fractions held against one another. -/
namespace Go.Abs
open Go
set_option linter.unusedVariables false
set_option linter.unusedSimpArgs false
set_option linter.unnecessarySimpa false

abbrev Q3 := Bool × List Int × List Int
/-- Is a text a number? -/
def isN (w : By) : Prop := (ratR w).2.2.2 = 0
instance (w : By) : Decidable (isN w) := inferInstanceAs (Decidable (_ = _))
/-- Digits, at most 400. -/
def dgOK (s : By) : Prop := s ≠ [] ∧ allDg s ∧ s.length ≤ 400
instance (s : By) : Decidable (dgOK s) := inferInstanceAs (Decidable (_ ∧ _))
/-! ### rows of fractions -/
end Go.Abs
end

section
/- Chapter 13 plain: what the document's reference takes for a number. -/
namespace Go.Abs
open Go
set_option linter.unusedVariables false
set_option linter.unusedSimpArgs false
set_option linter.unnecessarySimpa false

def allZ (s : By) : Prop := ∀ c, c ∈ s → c = 48
instance (s : By) : Decidable (allZ s) := inferInstanceAs (Decidable (∀ c, c ∈ s → c = 48))
end Go.Abs
end

section
/- Chapter 13 plain: a proof's lines, read by both. -/
namespace Go.Abs
open Go
set_option linter.unusedVariables false
set_option linter.unusedSimpArgs false
set_option linter.unnecessarySimpa false

/-- Is a line one of numbers, behind a word? -/
def okP (kw : By) (ws : List By) : Prop := ws.head? = some kw ∧ ws.length ≤ 181 ∧ ∀ w, w ∈ ws.tail → isN w
instance (kw : By) (ws : List By) : Decidable (okP kw ws) := inferInstanceAs (Decidable (_ ∧ _ ∧ _))
/-! ### the document's reference -/
end Go.Abs
end

section
/- Chapter 13 plain: the document's reference of a proof's text. -/
namespace Go.Abs
open Go
set_option linter.unusedVariables false
set_option linter.unusedSimpArgs false
set_option linter.unnecessarySimpa false

end Go.Abs
end

section
/- Chapter 13 plain: ProofParses. -/
namespace Go.Abs
open Go
set_option linter.unusedVariables false
set_option linter.unusedSimpArgs false
set_option linter.unnecessarySimpa false

end Go.Abs
end

section
/- Lines of words, as they are printed and read. -/
namespace Go.Abs
open Go
set_option linter.unusedVariables false
set_option linter.unusedSimpArgs false
set_option linter.unnecessarySimpa false

end Go.Abs
end

section
/- Chapter 13 plain: ProofPrints: a proof printed is read as it was. -/
namespace Go.Abs
open Go
set_option linter.unusedVariables false
set_option linter.unusedSimpArgs false
set_option linter.unnecessarySimpa false

/-- Words of 32 bits. -/
def wsQ (l : List Q3) : Prop := ∀ x, x ∈ l → WS x.2.1 ∧ WS x.2.2
def FewP (l : List Q3) : Prop := l.length ≤ 8 ∧ ∀ x, x ∈ l → x.2.1.length ≤ 3 ∧ x.2.2.length ≤ 3
instance (l : List Q3) : Decidable (FewP l) := inferInstanceAs (Decidable (_ ∧ _))
theorem Few5_says (l : List Q3) : offcutlaw05_Few l (decide (FewP l)) := by
  unfold offcutlaw05_Few
  refine LoopP.intro (fun z : Int => ∃ k : Nat, z = k ∧ k ≤ l.length ∧ k ≤ 9 ∧ ∀ i (h : i < l.length), i < k → l[i].2.1.length ≤ 3 ∧ l[i].2.2.length ≤ 3) (fun z => l.length - z.toNat) ⟨0, rfl, by omega, by omega, fun i _ h => by omega⟩ ?_
  rintro X z ⟨k, rfl, hk, hk9, hn⟩ hX
  unfold offcutlaw05_Few_L1
  have no : ∀ (h : k < l.length), ¬ (l[k].2.1.length ≤ 3 ∧ l[k].2.2.length ≤ 3) → decide (FewP l) = false := fun h hb => decide_eq_false fun hf => hb (hf.2 _ (List.getElem_mem h))
  have many : ∀ (h : ¬ (l.length : Int) ≤ 8), decide (FewP l) = false := fun h => decide_eq_false fun hf => h (by have := hf.1; omega)
  refine IfB.dec (fun h => IfB.dec (fun h8 => ?_) (fun h8 => ?_)) (fun h => ?_)
  · have hkl : k < l.length := by omega
    have hi := Idx.nat hkl
    have no := no hkl
    have hn2 : l[k].2.1.length ≤ 3 ∧ l[k].2.2.length ≤ 3 → ∀ i (h : i < l.length), i < k + 1 → l[i].2.1.length ≤ 3 ∧ l[i].2.2.length ≤ 3 := fun h0 i hi hik => by
      by_cases e : i = k
      · subst e; exact h0
      · exact hn i hi (by omega)
    generalize l[k] = q at *
    obtain ⟨b, n, d⟩ := q
    dsimp only at no hn2
    refine ⟨b, n, d, hi, IfB.dec (fun h1 => no (by omega)) (fun h1 => ⟨b, n, d, hi, IfB.dec (fun h2 => no (by omega)) (fun h2 => ?_)⟩)⟩
    rw [wrap64' (by omega) (by omega)]
    exact hX _ ⟨k + 1, by omega, by omega, by omega, hn2 (by omega)⟩ (by omega)
  · exact IfB.dec (fun h => by omega) (fun h => many h)
  · refine IfB.dec (fun h2 => decide_eq_true ⟨by omega, fun x hx => ?_⟩) (fun h2 => many h2)
    obtain ⟨i, hi, rfl⟩ := List.getElem_of_mem hx
    exact hn i hi (by omega)
/-- May it be a proof? -/
def mayP (v : Int) (x y z : List Q3) : Prop := (v = 1 ∧ z = []) ∨ (v = 2 ∧ x = [] ∧ z = []) ∨ (v = 3 ∧ y = [])
instance (v : Int) (x y z : List Q3) : Decidable (mayP v x y z) := inferInstanceAs (Decidable (_ ∨ _))
theorem okX_of {l : List Q3} (hw : wsQ l) (hf : FewP l) : ∀ x, x ∈ l → okX x 3 := fun x hx => ⟨(hw x hx).1, (hw x hx).2, (hf.2 x hx).1, (hf.2 x hx).2⟩

/-! ### read again -/
end Go.Abs
end

section
/- Rows of fractions and problems, by what they stand for: dots, what fits, what is proved. -/
namespace Go.Abs
open Go
set_option linter.unusedVariables false
set_option linter.unusedSimpArgs false
set_option linter.unnecessarySimpa false

abbrev vq (l : List Fr) : List Rat := l.map qv
/-- A short row of fractions. -/
def okV (l : List Fr) (k : Nat) : Prop := l.length ≤ 8 ∧ ∀ x, x ∈ l → okX x k
end Go.Abs
end

section
/- Problems: which may be, what fits, what is proved; as the program tells it, and by what fractions stand for. -/
namespace Go.Abs
open Go
open Classical
set_option linter.unusedVariables false
set_option linter.unusedSimpArgs false
set_option linter.unnecessarySimpa false

/-- A small problem: rows, what they come to, costs. -/
structure Sml (A : List (List Fr)) (B C : List Fr) (k : Nat) : Prop where
  rows : A.length ≤ 4
  row : ∀ r, r ∈ A → okV r k
  b : okV B k
  c : okV C k
theorem okV.mono {l : List Fr} {a b : Nat} (h : okV l a) (hab : a ≤ b) : okV l b := ⟨h.1, fun x hx => (h.2 x hx).mono hab⟩

end Go.Abs
end

section
/- ProofChecks: what arithmetic says is what the program says. -/
namespace Go.Abs
open Go
open Classical
set_option linter.unusedVariables false
set_option linter.unusedSimpArgs false
set_option linter.unnecessarySimpa false

theorem okV_of {l : List Fr} (hw : wsQ l) (hf : FewP l) : okV l 3 := ⟨hf.1, okX_of hw hf⟩
theorem Sml.mono {A : List (List Fr)} {B C : List Fr} {a b : Nat} (h : Sml A B C a) (hab : a ≤ b) : Sml A B C b := ⟨h.rows, fun r hr => (h.row r hr).mono hab, h.b.mono hab, h.c.mono hab⟩

end Go.Abs
end

section
/- ModelSame: models are the same just if all that they have is, by what numbers stand for. -/
namespace Go.Abs
open Go
open Classical
set_option linter.unusedVariables false
set_option linter.unusedSimpArgs false
set_option linter.unnecessarySimpa false

abbrev Rw := By × List Fr × Int × Fr
theorem awk08 (A B : Prop) (h : A) : ∃ x : Bool, offcutlaw08_awake x ∧ IfB x A B := ⟨true, rfl, IfB_true.2 h⟩

/-- A row of a model that may be gone through. -/
def FewR (r : Rw) : Prop := r.1.length ≤ 20 ∧ FewP r.2.1 ∧ FewP [r.2.2.2]
def FewM (V : List By) (C : List Fr) (R : List Rw) : Prop := V.length ≤ 8 ∧ (∀ s, s ∈ V → s.length ≤ 20) ∧ R.length ≤ 6 ∧ (∀ r, r ∈ R → FewR r) ∧ FewP C

theorem FewRows {V : List By} {C : List Fr} {R : List Rw} {F : (Int → Prop) → Int → Prop} {b : Bool}
    (hF : ∀ (X : Int → Prop) (s : Int), F X s = IfB (decide (s < (R.length : Int)))
      (IfB (decide (s ≤ (6 : Int)))
        (∃ (x8 : By) (x9 : List Fr) (x10 : Int) (x11 : Bool) (x12 : List Int) (x13 : List Int), Idx R s (x8, x9, x10, x11, x12, x13) ∧
        IfB (decide ((x8.length : Int) > (20 : Int))) (b = false)
          (∃ (x16 : By) (x17 : List Fr) (x18 : Int) (x19 : Bool) (x20 : List Int) (x21 : List Int), Idx R s (x16, x17, x18, x19, x20, x21) ∧
          ∃ (x23 : Bool), offcutlaw05_Few x17 x23 ∧
          IfB x23
            (∃ (x25 : By) (x26 : List Fr) (x27 : Int) (x28 : Bool) (x29 : List Int) (x30 : List Int), Idx R s (x25, x26, x27, x28, x29, x30) ∧
            ∃ (x32 : Bool), offcutlaw05_Few [(x28, x29, x30)] x32 ∧
            IfB x32 (X (IntKind.i64.wrap (s + 1))) (b = false))
            (b = false)))
        (IfB (decide ((V.length : Int) ≤ (8 : Int)))
          (IfB (decide ((R.length : Int) ≤ (6 : Int))) (∃ (x36 : Bool), offcutlaw05_Few C x36 ∧ IfB x36 (b = true) (b = false)) (b = false)) (b = false)))
      (IfB (decide ((V.length : Int) ≤ (8 : Int)))
        (IfB (decide ((R.length : Int) ≤ (6 : Int))) (∃ (x40 : Bool), offcutlaw05_Few C x40 ∧ IfB x40 (b = true) (b = false)) (b = false)) (b = false)))
    (hb : b = decide (FewM V C R)) (hV : V.length ≤ 8 → ∀ s, s ∈ V → s.length ≤ 20) : LoopP F (0 : Int) := by
  have no : ¬ FewM V C R → b = false := fun h => by rw [hb]; exact decide_eq_false h
  refine LoopP.intro (fun z : Int => ∃ k : Nat, z = k ∧ k ≤ R.length ∧ k ≤ 7 ∧ ∀ i (h : i < R.length), i < k → FewR R[i]) (fun z => R.length - z.toNat) ⟨0, rfl, by omega, by omega, fun i _ h => by omega⟩ ?_
  rintro X z ⟨k, rfl, hk, hk9, hn⟩ hX
  rw [hF]
  refine IfB.dc (fun h => IfB.dc (fun h8 => ?_) (fun h8 => ?_)) (fun h => ?_)
  · have hkl : k < R.length := by omega
    have hi := Idx.nat hkl
    have hmem := List.getElem_mem hkl
    have hn2 : FewR R[k] → ∀ i (h : i < R.length), i < k + 1 → FewR R[i] := fun h0 i hi hik => by
      by_cases e : i = k
      · subst e; exact h0
      · exact hn i hi (by omega)
    have bad : ¬ FewR R[k] → b = false := fun h => no fun hm => h (hm.2.2.2.1 _ hmem)
    generalize R[k] = q at *
    obtain ⟨nm, cf, rel, bb, bn, bd⟩ := q
    refine ⟨nm, cf, rel, bb, bn, bd, hi, IfB.dc (fun h1 => bad fun hf => by have := hf.1; dsimp only at this; omega) (fun h1 => ⟨nm, cf, rel, bb, bn, bd, hi, _, Few5_says cf, IfB.dc (fun h2 => ⟨nm, cf, rel, bb, bn, bd, hi, _, Few5_says _, IfB.dc (fun h3 => ?_) (fun h3 => bad fun hf => h3 hf.2.2)⟩) (fun h2 => bad fun hf => h2 hf.2.1)⟩)⟩
    rw [wrap64' (by omega) (by omega)]
    exact hX _ ⟨k + 1, by omega, by omega, by omega, hn2 ⟨by dsimp only; omega, h2, h3⟩⟩ (by omega)
  · exact IfB.dc (fun h1 => IfB.dc (fun h2 => by omega) (fun h2 => no fun hm => h2 (by have := hm.2.2.1; omega))) (fun h1 => no fun hm => h1 (by have := hm.1; omega))
  · refine IfB.dc (fun h1 => IfB.dc (fun h2 => ⟨_, Few5_says C, IfB.dc (fun h3 => ?_) (fun h3 => no fun hm => h3 hm.2.2.2.2)⟩) (fun h2 => no fun hm => h2 (by have := hm.2.2.1; omega))) (fun h1 => no fun hm => h1 (by have := hm.1; omega))
    rw [hb]
    exact decide_eq_true ⟨by omega, hV (by omega), by omega, fun r hr => by
      obtain ⟨i, hi, rfl⟩ := List.getElem_of_mem hr
      exact hn i hi (by omega), h3⟩

theorem Few8_says (V : List By) (C : List Fr) (R : List Rw) : offcutlaw08_Few V C R (decide (FewM V C R)) := by
  unfold offcutlaw08_Few
  refine LoopP.intro (fun z : Int => ∃ k : Nat, z = k ∧ k ≤ V.length ∧ k ≤ 9 ∧ ∀ i (h : i < V.length), i < k → V[i].length ≤ 20) (fun z => V.length - z.toNat) ⟨0, rfl, by omega, by omega, fun i _ h => by omega⟩ ?_
  rintro X z ⟨k, rfl, hk, hk9, hn⟩ hX
  unfold offcutlaw08_Few_L1
  have hall : k = V.length → ∀ s, s ∈ V → s.length ≤ 20 := fun e s hs => by
    obtain ⟨i, hi, rfl⟩ := List.getElem_of_mem hs
    exact hn i hi (by omega)
  refine IfB.dc (fun h => IfB.dc (fun h8 => ?_) (fun h8 => ?_)) (fun h => ?_)
  · have hkl : k < V.length := by omega
    refine ⟨_, Idx.nat hkl, IfB.dc (fun h1 => decide_eq_false fun hm => ?_) (fun h1 => ?_)⟩
    · have := hm.2.1 _ (List.getElem_mem hkl); omega
    · rw [wrap64' (by omega) (by omega)]
      refine hX _ ⟨k + 1, by omega, by omega, by omega, fun i hi hik => ?_⟩ (by omega)
      by_cases e : i = k
      · subst e; omega
      · exact hn i hi (by omega)
  · exact FewRows (fun X s => rfl) rfl (fun h => by omega)
  · exact FewRows (fun X s => rfl) rfl (fun _ => hall (by omega))

theorem vec_Same_says {a b : List Fr} {k : Nat} (hk : k ≤ 1000) (la : a.length ≤ 1000) (ha : ∀ x, x ∈ a → okX x k) (hb : ∀ x, x ∈ b → okX x k) : vec_Same a b (decide (vq a = vq b)) := by
  unfold vec_Same
  refine IfB.neI (fun h => decide_eq_false fun e => h (by have := congrArg List.length e; simp at this; omega)) (fun hlen => ?_)
  refine LoopP.intro (fun z : Int => ∃ i : Nat, z = i ∧ i ≤ a.length ∧ ∀ j (h1 : j < a.length) (h2 : j < b.length), j < i → qv a[j] = qv b[j]) (fun z => a.length - z.toNat) ⟨0, rfl, by omega, fun j _ _ h => by omega⟩ ?_
  rintro X z ⟨i, rfl, hi, hn⟩ hX
  unfold vec_Same_L1
  refine IfB.dc (fun h1 => ?_) (fun h1 => decide_eq_true ?_)
  · have hia : i < a.length := by omega
    have hib : i < b.length := by omega
    obtain ⟨c, c1, c2, _⟩ := cmpR (ha _ (List.getElem_mem hia)) (hb _ (List.getElem_mem hib)) (by omega) (by omega)
    have hs : vec_Same_1 a[i].1 a[i].2.1 a[i].2.2 b[i].1 b[i].2.1 b[i].2.2 (decide (qv a[i] = qv b[i])) := ⟨c, c1, IfB.eqI (fun h => decide_eq_true (c2.1 h)) (fun h => decide_eq_false fun e => h (c2.2 e))⟩
    refine ⟨_, _, _, Idx.nat hia, _, _, _, Idx.nat hib, _, hs, IfB.dc (fun he => ?_) (fun he => decide_eq_false fun e => he ?_)⟩
    · rw [wrap64' (by omega) (by omega)]
      refine hX _ ⟨i + 1, by omega, by omega, fun j h1 h2 hj => ?_⟩ (by omega)
      by_cases e : j = i
      · subst e; exact he
      · exact hn j h1 h2 (by omega)
    · have h1 : (vq a)[i]'(by simp; exact hia) = qv a[i] := by simp [vq]
      have h2 : (vq b)[i]'(by simp; exact hib) = qv b[i] := by simp [vq]
      rw [← h1, ← h2]
      congr 1
  · refine List.ext_getElem (by simp; omega) fun j h1 h2 => ?_
    simp only [vq, List.length_map] at h1 h2
    simp only [vq, List.getElem_map]
    exact hn j h1 h2 (by omega)

theorem Equal_refl (l : List By) (hl : l.length ≤ 1000000) : slices_Equal_string_string l l true := by
  unfold slices_Equal_string_string
  refine IfB.neI (fun h => absurd rfl h) (fun _ => ?_)
  refine LoopP.intro (fun z : Int => ∃ i : Nat, z = i ∧ i ≤ l.length) (fun z => l.length - z.toNat) ⟨0, rfl, by omega⟩ ?_
  rintro X z ⟨i, rfl, hi⟩ hX
  unfold slices_Equal_string_string_L1
  refine IfB.dc (fun h1 => ?_) (fun _ => rfl)
  have hil : i < l.length := by omega
  refine ⟨_, Idx.nat hil, _, Idx.nat hil, IfB.intro (fun h => by simp at h) (fun _ => ?_)⟩
  rw [wrap64' (by omega) (by omega)]
  exact hX _ ⟨i + 1, by omega, by omega⟩ (by omega)

/-- Words of 32 bits in a row of a model. -/
def wsR (r : Rw) : Prop := wsQ r.2.1 ∧ wsQ [r.2.2.2]
theorem rowsSame {R : List Rw} (hR : R.length ≤ 1000) (hf : ∀ r, r ∈ R → FewR r) (hw : ∀ r, r ∈ R → wsR r) : LoopP (model_Same_L1 R R true) (0 : Int) := by
  refine LoopP.intro (fun z : Int => ∃ i : Nat, z = i ∧ i ≤ R.length) (fun z => R.length - z.toNat) ⟨0, rfl, by omega⟩ ?_
  rintro X z ⟨i, rfl, hi⟩ hX
  unfold model_Same_L1
  refine IfB.dc (fun h1 => ?_) (fun _ => rfl)
  have hil : i < R.length := by omega
  have hi := Idx.nat hil
  have f1 := hf _ (List.getElem_mem hil)
  have w1 := hw _ (List.getElem_mem hil)
  generalize R[i] = q at *
  obtain ⟨nm, cf, rel, bb, bn, bd⟩ := q
  have oc := okV_of w1.1 f1.2.1
  have ob : okX (bb, bn, bd) 3 := (okV_of w1.2 f1.2.2).2 _ (by simp)
  obtain ⟨c, c1, c2, _⟩ := cmpR ob ob (by omega) (by omega)
  have hv := vec_Same_says (k := 3) (by omega) (by have := oc.1; omega) oc.2 oc.2
  rw [show decide (vq cf = vq cf) = true from decide_eq_true rfl] at hv
  have hs : model_Same_1 nm cf rel bb bn bd nm cf rel bb bn bd true := by
    unfold model_Same_1
    refine IfB.intro (fun _ => IfB.eqI (fun _ => ⟨true, hv, IfB_true.2 ⟨c, c1, IfB.eqI (fun _ => rfl) (fun h => absurd (c2.2 rfl) h)⟩⟩) (fun h => absurd rfl h)) (fun h => by simp at h)
  refine ⟨nm, cf, rel, bb, bn, bd, hi, nm, cf, rel, bb, bn, bd, hi, true, hs, IfB_true.2 ?_⟩
  rw [wrap64' (by omega) (by omega)]
  exact hX _ ⟨i + 1, by omega, by omega⟩ (by omega)

theorem law_msame (V : List By) (C : List Fr) (R : List Rw) (k : Int) (b : Bool) (bn bd : List Int) (wC : wsQ C) (wR : ∀ r, r ∈ R → wsR r) (wb : wsQ [(b, bn, bd)]) : offcutlaw08_ModelSame V C R k b bn bd true := by
  unfold offcutlaw08_ModelSame
  refine ⟨_, Few8_says V C R, IfB.dc (fun fm => ⟨_, Few5_says [(b, bn, bd)], IfB.dc (fun fb => ?_) (fun _ => awk08 _ _ rfl)⟩) (fun _ => awk08 _ _ rfl)⟩
  obtain ⟨f1, f2, f3, f4, f5⟩ := fm
  have oC := okV_of wC f5
  have ob : okX (b, bn, bd) 3 := (okV_of wb fb).2 _ (by simp)
  have c8 := oC.1
  have same : ∀ C' : List Fr, C'.length = C.length → (∀ x, x ∈ C' → okX x 8) → model_Same V C R V C' R (decide (vq C = vq C')) := fun C' hl hC' => by
    unfold model_Same
    refine ⟨true, Equal_refl V (by omega), IfB_true.2 ⟨_, vec_Same_says (k := 8) (by omega) (by omega) (fun x hx => (oC.2 x hx).mono (by omega)) hC', IfB.dc (fun h => ?_) (fun h => decide_eq_false h)⟩⟩
    rw [show decide (vq C = vq C') = true from decide_eq_true h]
    exact IfB.neI (fun h => absurd rfl h) (fun _ => rowsSame (by omega) f4 wR)
  have h1 := same C rfl fun x hx => (oC.2 x hx).mono (by omega)
  rw [show decide (vq C = vq C) = true from decide_eq_true rfl] at h1
  refine ⟨true, h1, IfB_true.2 (IfB.dc (fun _ => awk08 _ _ rfl) (fun hk0 => IfB.dc (fun _ => awk08 _ _ rfl) (fun hk1 => ?_)))⟩
  obtain ⟨n, rfl⟩ : ∃ n : Nat, k = n := ⟨k.toNat, by omega⟩
  have hn : n < C.length := by omega
  refine IfB.intro (fun h => ?_) (fun _ => ⟨by unfold Fits; simp; omega, ?_⟩)
  · have := List.isEmpty_iff.1 h; rw [this] at hn; simp at hn
  obtain ⟨a1, a2, a3⟩ := addR (oC.2 _ (List.getElem_mem hn)) ob (by omega) (by omega)
  have h2 := same (C.set n (addF C[n] (b, bn, bd))) (by simp) fun x hx => by
    rcases List.mem_or_eq_of_mem_set hx with h | h
    · exact (oC.2 x h).mono (by omega)
    · rw [h]; exact a3
  have hiff : vq C = vq (C.set n (addF C[n] (b, bn, bd))) ↔ qv (b, bn, bd) = 0 := by
    have e : vq (C.set n (addF C[n] (b, bn, bd))) = (vq C).set n (qv C[n] + qv (b, bn, bd)) := by unfold vq; rw [List.map_set, a2]
    rw [e]
    constructor
    · intro h
      have h3 : (vq C)[n]'(by simp; exact hn) = ((vq C).set n (qv C[n] + qv (b, bn, bd)))[n]'(by simp; exact hn) := by congr 1
      rw [List.getElem_set_self] at h3
      simp only [vq, List.getElem_map] at h3
      grind
    · intro h
      rw [h]
      have : qv C[n] + 0 = (vq C)[n]'(by simp; exact hn) := by simp only [vq, List.getElem_map]; grind
      rw [this, List.set_getElem_self]
  obtain ⟨c, c1, c2, _⟩ := signR ob (by omega)
  refine ⟨_, _, _, Idx.nat hn, _, _, _, a1, _, _, _, (by rw [List.nil_append]; exact Idx.nat hn), _, h2, IfB.dc (fun h => ⟨c, c1, IfB.eqI (fun _ => awk08 _ _ rfl) (fun hc => absurd (c2.2 (hiff.1 h)) hc)⟩) (fun h => ⟨c, c1, IfB.eqI (fun hc => absurd (hiff.2 (c2.1 hc)) h) (fun _ => awk08 _ _ rfl)⟩)⟩

end Go.Abs
end
