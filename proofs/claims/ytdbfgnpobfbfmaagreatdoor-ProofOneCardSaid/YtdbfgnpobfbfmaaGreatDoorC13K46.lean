/- Part of a proof, in few files: LDec LTxt LLin LTxt2 LQ L13a L13b L13c L13d L13e LLin2 L13f LQ2 LQ3 LQ4 LQ5. -/
import Derived.Test.YtdbfgnpobfbfmaaGreatDoorC13K40
import Derived.Test.YtdbfgnpobfbfmaaGreatDoorC13K31
import Derived.Test.YtdbfgnpobfbfmaaGreatDoorC13K18
import Derived.Laws.RangeAny

section
/- Numbers as decimal texts, plain. -/
namespace Go.Abs
open Go
set_option linter.unusedVariables false
set_option linter.unusedSimpArgs false
set_option linter.unnecessarySimpa false

end Go.Abs
end

section
/- Numbers printed: nat.Text, whole.Text, rat.Text, and read again. -/
namespace Go.Abs
open Go
set_option linter.unusedVariables false
set_option linter.unusedSimpArgs false
set_option linter.unnecessarySimpa false

end Go.Abs
end

section
/- Lines, plain: names, bytes that may be, lines and their words; joined words. -/
namespace Go.Abs
open Go
set_option linter.unusedVariables false
set_option linter.unusedSimpArgs false
set_option linter.unnecessarySimpa false

theorem IfB.dec {p : Prop} [Decidable p] {A B : Prop} (h1 : p → A) (h2 : ¬ p → B) : IfB (decide p) A B := ⟨fun h => h1 (of_decide_eq_true h), fun h => h2 (of_decide_eq_false h)⟩
theorem IfB.bool {b : Bool} {A B : Prop} (h1 : b = true → A) (h2 : b = false → B) : IfB b A B := ⟨h1, h2⟩

/-- What is told of lines: by rising numbers, with words. -/
def Rising (lo hi : Int) : List (Int × List (List UInt8)) → Prop
  | [] => True
  | x :: l => lo < x.1 ∧ x.1 ≤ hi ∧ 0 < x.2.length ∧ Rising x.1 hi l
theorem Rising.at {hi : Int} : ∀ {l : List (Int × List (List UInt8))} {lo : Int} {i : Nat} {x : Int × List (List UInt8)}, Rising lo hi l → l[i]? = some x → 0 < x.2.length ∧ x.1 ≤ hi ∧ (∀ y, i ≠ 0 → l[i - 1]? = some y → y.1 < x.1) ∧ lo < x.1
  | [], _, i, x, _, h => by simp at h
  | z :: l, lo, 0, x, hr, h => by
    simp at h; subst h
    exact ⟨hr.2.2.1, hr.2.1, fun y h => absurd rfl h, hr.1⟩
  | z :: l, lo, i + 1, x, hr, h => by
    simp at h
    obtain ⟨h1, h2, h3, h4⟩ := Rising.at hr.2.2.2 h
    refine ⟨h1, h2, fun y _ hy => ?_, by have := hr.1; omega⟩
    cases i with
    | zero => simp at hy; subst hy; exact h4
    | succ i => simp at hy; exact h3 y (by omega) (by simpa using hy)

end Go.Abs
end

section
/- Whole numbers and fractions printed, and read again. -/
namespace Go.Abs
open Go
set_option linter.unusedVariables false
set_option linter.unusedSimpArgs false
set_option linter.unnecessarySimpa false

/-- A fraction, lowest: its numerator and its denominator. -/
def lowN (x : Bool × List Int × List Int) : Nat := val x.2.1 / Nat.gcd (val x.2.1) (den1 (val x.2.2))
def lowD (x : Bool × List Int × List Int) : Nat := den1 (val x.2.2) / Nat.gcd (val x.2.1) (den1 (val x.2.2))
theorem lowD_pos (x : Bool × List Int × List Int) : 0 < lowD x := by
  unfold lowD
  exact Nat.div_pos (Nat.gcd_le_right _ (den1_pos _)) (Nat.gcd_pos_of_pos_right _ (den1_pos _))
theorem den1_self {d : Nat} (h : 0 < d) : den1 d = d := by unfold den1; rw [if_neg (by omega)]
def okX (x : Bool × List Int × List Int) (k : Nat) : Prop := WS x.2.1 ∧ WS x.2.2 ∧ x.2.1.length ≤ k ∧ x.2.2.length ≤ k
theorem lowN_len {x : Bool × List Int × List Int} {k : Nat} (h : okX x k) : (words (lowN x)).length ≤ k := by
  have := words_len_le (Nat.div_le_self (val x.2.1) (Nat.gcd (val x.2.1) (den1 (val x.2.2))))
  have := wl h.1
  have := h.2.2.1
  unfold lowN; omega
theorem lowD_len {x : Bool × List Int × List Int} {k : Nat} (h : okX x k) : (words (lowD x)).length ≤ k + 1 := by
  have h1 := words_len_le (Nat.div_le_self (den1 (val x.2.2)) (Nat.gcd (val x.2.1) (den1 (val x.2.2))))
  have h2 := wl h.2.1
  have h3 := h.2.2.2
  have h4 : (words (den1 (val x.2.2))).length ≤ k + 1 := by
    unfold den1
    split
    · rw [words_one (by omega) (by omega)]; simp
    · omega
  unfold lowD; omega
def lowP (x : Bool × List Int × List Int) : Bool := x.1 && decide (lowN x ≠ 0)
theorem rat_Make_low {x : Bool × List Int × List Int} {k : Nat} (h : okX x k) (hk : k ≤ 60000) : rat_Make x.1 x.2.1 x.2.2 (lowP x, words (lowN x), words (lowD x)) :=
  rat_Make_says x.1 x.2.1 x.2.2 h.1 h.2.1 (by have := h.2.2.1; omega) (by have := h.2.2.2; omega)
theorem iV_lowP (x : Bool × List Int × List Int) : iV (lowP x) (lowN x) = iV x.1 (lowN x) := by
  unfold lowP iV
  cases x.1 with
  | false => simp
  | true => by_cases h : lowN x = 0 <;> simp [h]
/-- A fraction is its lowest form. -/
theorem low_eqX (x : Bool × List Int × List Int) : iV x.1 (val x.2.1) * (lowD x : Int) = iV (lowP x) (lowN x) * (den1 (val x.2.2) : Int) := by
  rw [iV_lowP]
  have hg : 0 < Nat.gcd (val x.2.1) (den1 (val x.2.2)) := Nat.gcd_pos_of_pos_right _ (den1_pos _)
  have h1 : lowN x * Nat.gcd (val x.2.1) (den1 (val x.2.2)) = val x.2.1 := Nat.div_mul_cancel (Nat.gcd_dvd_left _ _)
  have h2 : lowD x * Nat.gcd (val x.2.1) (den1 (val x.2.2)) = den1 (val x.2.2) := Nat.div_mul_cancel (Nat.gcd_dvd_right _ _)
  have key : val x.2.1 * lowD x = lowN x * den1 (val x.2.2) := by
    rw [← h2]
    generalize Nat.gcd (val x.2.1) (den1 (val x.2.2)) = g at *
    rw [← h1, Nat.mul_assoc, Nat.mul_comm g]
  have key : (val x.2.1 : Int) * (lowD x : Int) = (lowN x : Int) * (den1 (val x.2.2) : Int) := by exact_mod_cast key
  unfold iV
  cases x.1 with
  | false => simpa using key
  | true => simp only [if_true, Int.neg_mul, key]

/-! ### read again -/
end Go.Abs
end

section
/- Fractions by what they stand for: numbers of Rat. -/
namespace Go.Abs
open Go
set_option linter.unusedVariables false
set_option linter.unusedSimpArgs false
set_option linter.unnecessarySimpa false

abbrev Fr := Bool × List Int × List Int
/-- What a fraction stands for. -/
def qv (x : Fr) : Rat := Rat.divInt (iV x.1 (val x.2.1)) (den1 (val x.2.2))
theorem divInt_le {a c b d : Int} (hb : 0 < b) (hd : 0 < d) : Rat.divInt a b ≤ Rat.divInt c d ↔ a * d ≤ c * b := by
  rw [Rat.le_iff_sub_nonneg, Rat.sub_eq_add_neg, Rat.neg_divInt, Rat.divInt_add_divInt _ _ (by omega) (by omega), Rat.divInt_nonneg_iff_of_pos_right (Int.mul_pos hd hb), Int.neg_mul]
  omega
theorem divInt_eq {a c b d : Int} (hb : 0 < b) (hd : 0 < d) : Rat.divInt a b = Rat.divInt c d ↔ a * d = c * b := Rat.divInt_eq_divInt_iff (by omega) (by omega)
theorem divInt_lt {a c b d : Int} (hb : 0 < b) (hd : 0 < d) : Rat.divInt a b < Rat.divInt c d ↔ a * d < c * b := by
  rw [← Rat.not_le, divInt_le hd hb]; omega
theorem d1p (n : Nat) : (0 : Int) < (den1 n : Int) := by have := den1_pos n; omega

theorem qv_ratQ {z : Int} {d : Nat} (hd : 0 < d) : qv (ratQ z d) = Rat.divInt z d := by
  unfold qv ratQ
  dsimp only
  have hg : 0 < Nat.gcd z.natAbs d := Nat.gcd_pos_of_pos_right _ hd
  have h1 : z.natAbs / Nat.gcd z.natAbs d * Nat.gcd z.natAbs d = z.natAbs := Nat.div_mul_cancel (Nat.gcd_dvd_left _ _)
  have h2 : d / Nat.gcd z.natAbs d * Nat.gcd z.natAbs d = d := Nat.div_mul_cancel (Nat.gcd_dvd_right _ _)
  have h3 : 0 < d / Nat.gcd z.natAbs d := Nat.div_pos (Nat.gcd_le_right _ hd) hg
  rw [val_words, val_words, den1_self h3, divInt_eq (by omega) (by omega)]
  generalize Nat.gcd z.natAbs d = g at *
  generalize z.natAbs / g = n' at *
  generalize d / g = d' at *
  subst h2
  unfold iV
  by_cases hz : z < 0
  · simp only [hz, decide_true, if_true]
    have e : z = -((n' * g : Nat) : Int) := by omega
    rw [e]; push_cast
    rw [Int.neg_mul, Int.neg_mul]
    congr 1
    rw [Int.mul_assoc, Int.mul_comm (g : Int)]
  · simp only [hz, decide_false, Bool.false_eq_true, if_false]
    have e : z = ((n' * g : Nat) : Int) := by omega
    rw [e]; push_cast
    rw [Int.mul_assoc, Int.mul_comm (g : Int)]

theorem ratQ_ok {z : Int} {d k : Nat} (hz : (words z.natAbs).length ≤ k) (hd : (words d).length ≤ k) : okX (ratQ z d) k :=
  ⟨WS_words _, WS_words _, Nat.le_trans (words_len_le (Nat.div_le_self _ _)) hz, Nat.le_trans (words_len_le (Nat.div_le_self _ _)) hd⟩
theorem okX.mono {x : Fr} {a b : Nat} (h : okX x a) (hab : a ≤ b) : okX x b := ⟨h.1, h.2.1, Nat.le_trans h.2.2.1 hab, Nat.le_trans h.2.2.2 hab⟩
theorem den_len {l : List Int} {k : Nat} (hw : WS l) (hl : l.length ≤ k) : (words (den1 (val l))).length ≤ k + 1 := by
  have := wl hw
  unfold den1
  split
  · rw [words_one (by omega) (by omega)]; simp
  · omega
theorem mulw (a b : Nat) : (words (a * b)).length ≤ (words a).length + (words b).length := by
  have := words_mul_len (WS_words a) (WS_words b)
  rwa [val_words, val_words] at this
theorem addw {a b k : Nat} (ha : (words a).length ≤ k) (hb : (words b).length ≤ k) : (words (a + b)).length ≤ k + 1 := by
  have h1 := val_lt (WS_words a); have h2 := val_lt (WS_words b)
  rw [val_words] at h1 h2
  have p1 : 4294967296 ^ (words a).length ≤ 4294967296 ^ k := Nat.pow_le_pow_right (by omega) ha
  have p2 : 4294967296 ^ (words b).length ≤ 4294967296 ^ k := Nat.pow_le_pow_right (by omega) hb
  refine words_len _ _ ?_
  rw [Nat.pow_succ]; omega

def mulF (x y : Fr) : Fr := ratQ (iV x.1 (val x.2.1) * iV y.1 (val y.2.1)) (den1 (val x.2.2) * den1 (val y.2.2))
def addF (x y : Fr) : Fr := ratQ (iV x.1 (val x.2.1) * (den1 (val y.2.2) : Int) + iV y.1 (val y.2.1) * (den1 (val x.2.2) : Int)) (den1 (val x.2.2) * den1 (val y.2.2))
theorem mulR {x y : Fr} {a b : Nat} (hx : okX x a) (hy : okX y b) (ha : a ≤ 10000) (hb : b ≤ 10000) : rat_Mul x.1 x.2.1 x.2.2 y.1 y.2.1 y.2.2 (mulF x y) ∧ qv (mulF x y) = qv x * qv y ∧ okX (mulF x y) (a + b + 2) := by
  unfold mulF
  refine ⟨rat_Mul_says x.1 x.2.1 x.2.2 y.1 y.2.1 y.2.2 hx.1 hx.2.1 hy.1 hy.2.1 (by have := hx.2.2.1; omega) (by have := hx.2.2.2; omega) (by have := hy.2.2.1; omega) (by have := hy.2.2.2; omega), ?_, ratQ_ok ?_ ?_⟩
  · rw [qv_ratQ (Nat.mul_pos (den1_pos _) (den1_pos _))]
    unfold qv
    rw [Rat.divInt_mul_divInt]; push_cast; rfl
  · rw [Int.natAbs_mul, iV_abs, iV_abs]
    have h1 := mulw (val x.2.1) (val y.2.1)
    have h2 := wl hx.1; have h3 := wl hy.1
    have h4 := hx.2.2.1; have h5 := hy.2.2.1
    omega
  · have h1 := mulw (den1 (val x.2.2)) (den1 (val y.2.2))
    have h2 := den_len hx.2.1 hx.2.2.2
    have h3 := den_len hy.2.1 hy.2.2.2
    omega

theorem addR {x y : Fr} {a b : Nat} (hx : okX x a) (hy : okX y b) (ha : a ≤ 10000) (hb : b ≤ 10000) : rat_Add x.1 x.2.1 x.2.2 y.1 y.2.1 y.2.2 (addF x y) ∧ qv (addF x y) = qv x + qv y ∧ okX (addF x y) (a + b + 2) := by
  unfold addF
  have h2 := den_len hx.2.1 hx.2.2.2
  have h3 := den_len hy.2.1 hy.2.2.2
  refine ⟨rat_Add_says x.1 x.2.1 x.2.2 y.1 y.2.1 y.2.2 hx.1 hx.2.1 hy.1 hy.2.1 (by have := hx.2.2.1; omega) (by have := hx.2.2.2; omega) (by have := hy.2.2.1; omega) (by have := hy.2.2.2; omega), ?_, ratQ_ok ?_ ?_⟩
  · rw [qv_ratQ (Nat.mul_pos (den1_pos _) (den1_pos _))]
    unfold qv
    rw [Rat.divInt_add_divInt _ _ (by have := d1p (val x.2.2); omega) (by have := d1p (val y.2.2); omega)]; push_cast; rfl
  · refine Nat.le_trans (words_len_le (Int.natAbs_add_le _ _)) ?_
    rw [Int.natAbs_mul, Int.natAbs_mul, iV_abs, iV_abs, Int.natAbs_natCast, Int.natAbs_natCast]
    have h4 := mulw (val x.2.1) (den1 (val y.2.2))
    have h5 := mulw (val y.2.1) (den1 (val x.2.2))
    have h6 := wl hx.1; have h7 := wl hy.1
    have h8 := hx.2.2.1; have h9 := hy.2.2.1
    exact addw (k := a + b + 1) (by omega) (by omega)
  · have h1 := mulw (den1 (val x.2.2)) (den1 (val y.2.2))
    omega

theorem cmpR {x y : Fr} {a b : Nat} (hx : okX x a) (hy : okX y b) (ha : a ≤ 20000) (hb : b ≤ 20000) : ∃ c, rat_Compare x.1 x.2.1 x.2.2 y.1 y.2.1 y.2.2 c ∧ (c = 0 ↔ qv x = qv y) ∧ (c > 0 ↔ qv y < qv x) ∧ (c < 0 ↔ qv x < qv y) := by
  refine ⟨_, rat_Compare_says x.1 x.2.1 x.2.2 y.1 y.2.1 y.2.2 hx.1 hx.2.1 hy.1 hy.2.1 (by have := hx.2.2.1; omega) (by have := hx.2.2.2; omega) (by have := hy.2.2.1; omega) (by have := hy.2.2.2; omega), ?_⟩
  unfold qv
  rw [divInt_eq (d1p _) (d1p _), divInt_lt (d1p _) (d1p _), divInt_lt (d1p _) (d1p _)]
  generalize iV x.1 (val x.2.1) * (den1 (val y.2.2) : Int) = A
  generalize iV y.1 (val y.2.1) * (den1 (val x.2.2) : Int) = B
  unfold cmpZ
  split
  · omega
  · split <;> omega

theorem signR {x : Fr} {a : Nat} (hx : okX x a) (ha : a ≤ 20000) : ∃ c, rat_Sign x.1 x.2.1 x.2.2 c ∧ (c = 0 ↔ qv x = 0) ∧ (c > 0 ↔ 0 < qv x) ∧ (c < 0 ↔ qv x < 0) := by
  refine ⟨_, ⟨_, whole_Sign_says x.1 x.2.1 hx.1 (by have := hx.2.2.1; omega), rfl⟩, ?_⟩
  have h := sgn_iV x.1 (val x.2.1)
  have e : (0 : Rat) = Rat.divInt 0 1 := by rw [Rat.zero_divInt]
  unfold qv
  rw [e, divInt_eq (d1p _) (by omega), divInt_lt (d1p _) (by omega), divInt_lt (by omega) (d1p _)]
  obtain ⟨h1, h2, h3, h4⟩ := h
  generalize iV x.1 (val x.2.1) = A at *
  generalize sgn x.1 (val x.2.1) = C at *
  refine ⟨?_, ?_, ?_⟩ <;> omega

/-- A fraction, lowest. -/
def lowX (x : Fr) : Fr := (lowP x, words (lowN x), words (lowD x))
theorem makeR {x : Fr} {a : Nat} (hx : okX x a) (ha : a ≤ 20000) : rat_Make x.1 x.2.1 x.2.2 (lowX x) ∧ qv (lowX x) = qv x ∧ okX (lowX x) (a + 1) := by
  refine ⟨rat_Make_low hx (by omega), ?_, WS_words _, WS_words _, Nat.le_trans (lowN_len hx) (by omega), lowD_len hx⟩
  unfold qv lowX
  dsimp only
  rw [val_words, val_words, den1_self (lowD_pos x), divInt_eq (by have := lowD_pos x; omega) (d1p _)]
  exact (low_eqX x).symm
def zeroF : Fr := (false, [], words 1)
theorem zeroR : rat_Int 0 zeroF ∧ qv zeroF = 0 ∧ okX zeroF 1 := by
  refine ⟨rat_Int0, ?_, WS_nil, WS_words _, by simp [zeroF], by unfold zeroF; rw [words_one (by omega) (by omega)]; simp⟩
  unfold qv iV zeroF
  simp only [val_nil, Bool.false_eq_true, if_false]
  exact Rat.zero_divInt _

end Go.Abs
end

section
/- Chapter 13 plain: numbers read, of both; rows of fractions held against one another. -/
namespace Go.Abs
open Go
set_option linter.unusedVariables false
set_option linter.unusedSimpArgs false
set_option linter.unnecessarySimpa false

abbrev Q3 := Bool × List Int × List Int
/-- Is a text a number? -/
def isN (w : By) : Prop := (ratR w).2.2.2 = 0
instance (w : By) : Decidable (isN w) := inferInstanceAs (Decidable (_ = _))
/-- Digits, at most 400. -/
def dgOK (s : By) : Prop := s ≠ [] ∧ allDg s ∧ s.length ≤ 400
instance (s : By) : Decidable (dgOK s) := inferInstanceAs (Decidable (_ ∧ _))
/-! ### rows of fractions -/
end Go.Abs
end

section
/- Chapter 13 plain: what the document's reference takes for a number. -/
namespace Go.Abs
open Go
set_option linter.unusedVariables false
set_option linter.unusedSimpArgs false
set_option linter.unnecessarySimpa false

def allZ (s : By) : Prop := ∀ c, c ∈ s → c = 48
instance (s : By) : Decidable (allZ s) := inferInstanceAs (Decidable (∀ c, c ∈ s → c = 48))
end Go.Abs
end

section
/- Chapter 13 plain: a proof's lines, read by both. -/
namespace Go.Abs
open Go
set_option linter.unusedVariables false
set_option linter.unusedSimpArgs false
set_option linter.unnecessarySimpa false

/-- Is a line one of numbers, behind a word? -/
def okP (kw : By) (ws : List By) : Prop := ws.head? = some kw ∧ ws.length ≤ 181 ∧ ∀ w, w ∈ ws.tail → isN w
instance (kw : By) (ws : List By) : Decidable (okP kw ws) := inferInstanceAs (Decidable (_ ∧ _ ∧ _))
/-! ### the document's reference -/
end Go.Abs
end

section
/- Chapter 13 plain: the document's reference of a proof's text. -/
namespace Go.Abs
open Go
set_option linter.unusedVariables false
set_option linter.unusedSimpArgs false
set_option linter.unnecessarySimpa false

end Go.Abs
end

section
/- Chapter 13 plain: ProofParses. -/
namespace Go.Abs
open Go
set_option linter.unusedVariables false
set_option linter.unusedSimpArgs false
set_option linter.unnecessarySimpa false

theorem awk13 (A B : Prop) (h : A) : ∃ x : Bool, offcutlaw13_awake x ∧ IfB x A B := ⟨true, rfl, IfB_true.2 h⟩

end Go.Abs
end

section
/- Lines of words, as they are printed and read. -/
namespace Go.Abs
open Go
set_option linter.unusedVariables false
set_option linter.unusedSimpArgs false
set_option linter.unnecessarySimpa false

end Go.Abs
end

section
/- Chapter 13 plain: ProofPrints: a proof printed is read as it was. -/
namespace Go.Abs
open Go
set_option linter.unusedVariables false
set_option linter.unusedSimpArgs false
set_option linter.unnecessarySimpa false

/-- Words of 32 bits. -/
def wsQ (l : List Q3) : Prop := ∀ x, x ∈ l → WS x.2.1 ∧ WS x.2.2
def FewP (l : List Q3) : Prop := l.length ≤ 8 ∧ ∀ x, x ∈ l → x.2.1.length ≤ 3 ∧ x.2.2.length ≤ 3
instance (l : List Q3) : Decidable (FewP l) := inferInstanceAs (Decidable (_ ∧ _))
theorem Few5_says (l : List Q3) : offcutlaw05_Few l (decide (FewP l)) := by
  unfold offcutlaw05_Few
  refine LoopP.intro (fun z : Int => ∃ k : Nat, z = k ∧ k ≤ l.length ∧ k ≤ 9 ∧ ∀ i (h : i < l.length), i < k → l[i].2.1.length ≤ 3 ∧ l[i].2.2.length ≤ 3) (fun z => l.length - z.toNat) ⟨0, rfl, by omega, by omega, fun i _ h => by omega⟩ ?_
  rintro X z ⟨k, rfl, hk, hk9, hn⟩ hX
  unfold offcutlaw05_Few_L1
  have no : ∀ (h : k < l.length), ¬ (l[k].2.1.length ≤ 3 ∧ l[k].2.2.length ≤ 3) → decide (FewP l) = false := fun h hb => decide_eq_false fun hf => hb (hf.2 _ (List.getElem_mem h))
  have many : ∀ (h : ¬ (l.length : Int) ≤ 8), decide (FewP l) = false := fun h => decide_eq_false fun hf => h (by have := hf.1; omega)
  refine IfB.dec (fun h => IfB.dec (fun h8 => ?_) (fun h8 => ?_)) (fun h => ?_)
  · have hkl : k < l.length := by omega
    have hi := Idx.nat hkl
    have no := no hkl
    have hn2 : l[k].2.1.length ≤ 3 ∧ l[k].2.2.length ≤ 3 → ∀ i (h : i < l.length), i < k + 1 → l[i].2.1.length ≤ 3 ∧ l[i].2.2.length ≤ 3 := fun h0 i hi hik => by
      by_cases e : i = k
      · subst e; exact h0
      · exact hn i hi (by omega)
    generalize l[k] = q at *
    obtain ⟨b, n, d⟩ := q
    dsimp only at no hn2
    refine ⟨b, n, d, hi, IfB.dec (fun h1 => no (by omega)) (fun h1 => ⟨b, n, d, hi, IfB.dec (fun h2 => no (by omega)) (fun h2 => ?_)⟩)⟩
    rw [wrap64' (by omega) (by omega)]
    exact hX _ ⟨k + 1, by omega, by omega, by omega, hn2 (by omega)⟩ (by omega)
  · exact IfB.dec (fun h => by omega) (fun h => many h)
  · refine IfB.dec (fun h2 => decide_eq_true ⟨by omega, fun x hx => ?_⟩) (fun h2 => many h2)
    obtain ⟨i, hi, rfl⟩ := List.getElem_of_mem hx
    exact hn i hi (by omega)
theorem Few13_says (v : Int) (x y z : List Q3) : offcutlaw13_Few v x y z (decide (FewP x ∧ FewP y ∧ FewP z)) := by
  unfold offcutlaw13_Few
  refine ⟨_, Few5_says x, IfB.dec (fun h1 => ⟨_, Few5_says y, IfB.dec (fun h2 => ⟨_, Few5_says z, IfB.dec (fun h3 => ?_) (fun h3 => ?_)⟩) (fun h2 => ?_)⟩) (fun h1 => ?_)⟩ <;> simp [*]

/-- May it be a proof? -/
def mayP (v : Int) (x y z : List Q3) : Prop := (v = 1 ∧ z = []) ∨ (v = 2 ∧ x = [] ∧ z = []) ∨ (v = 3 ∧ y = [])
instance (v : Int) (x y z : List Q3) : Decidable (mayP v x y z) := inferInstanceAs (Decidable (_ ∨ _))
theorem len0 {α : Type} {l : List α} : l = [] ↔ (l.length : Int) = 0 := by rw [← List.length_eq_zero_iff]; omega

theorem Right13_says (v : Int) (x y z : List Q3) (hx : x.length ≤ 180) (hy : y.length ≤ 180) (hz : z.length ≤ 180) : proof_Right v x y z (decide (mayP v x y z)) := by
  unfold proof_Right mayP
  simp only [len0]
  repeat' (first | (refine IfB.neI (fun _ => ?_) (fun _ => ?_)) | (refine IfB.dec (fun _ => ?_) (fun _ => ?_)))
  all_goals first | (refine decide_eq_true ?_; omega) | (refine decide_eq_false ?_; omega) | omega
theorem right13_says (v : Int) (x y z : List Q3) (hx : x.length ≤ 180) (hy : y.length ≤ 180) (hz : z.length ≤ 180) : offcutlaw13_right v x y z (decide (mayP v x y z)) := by
  unfold offcutlaw13_right mayP
  rw [wrap64' (by omega) (by omega)]
  simp only [len0]
  repeat' (refine IfB.eqI (fun _ => ?_) (fun _ => ?_))
  all_goals first | (refine decide_eq_true ?_; omega) | (refine decide_eq_false ?_; omega) | omega

theorem okX_of {l : List Q3} (hw : wsQ l) (hf : FewP l) : ∀ x, x ∈ l → okX x 3 := fun x hx => ⟨(hw x hx).1, (hw x hx).2, (hf.2 x hx).1, (hf.2 x hx).2⟩

/-! ### read again -/
end Go.Abs
end

section
/- Rows of fractions and problems, by what they stand for: dots, what fits, what is proved. -/
namespace Go.Abs
open Go
set_option linter.unusedVariables false
set_option linter.unusedSimpArgs false
set_option linter.unnecessarySimpa false

def dotQ : List Rat → List Rat → Rat
  | a :: l, b :: m => a * b + dotQ l m
  | _, _ => 0
abbrev vq (l : List Fr) : List Rat := l.map qv
/-- A short row of fractions. -/
def okV (l : List Fr) (k : Nat) : Prop := l.length ≤ 8 ∧ ∀ x, x ∈ l → okX x k
def stepF (acc x y : Fr) : Fr := if qv x = 0 ∨ qv y = 0 then acc else addF acc (mulF x y)
def dotF : Fr → List Fr → List Fr → Fr
  | acc, x :: l, y :: m => dotF (stepF acc x y) l m
  | acc, _, _ => acc
theorem dotF_nil1 (acc : Fr) (m : List Fr) : dotF acc [] m = acc := by cases m <;> rfl
theorem dotF_nil2 (acc : Fr) (l : List Fr) : dotF acc l [] = acc := by cases l <;> rfl

theorem stepF_ok {acc x y : Fr} {s k : Nat} (h1 : okX acc s) (hx : okX x k) (hy : okX y k) (hs : s ≤ 1000) (hk : k ≤ 20) : qv (stepF acc x y) = qv acc + qv x * qv y ∧ okX (stepF acc x y) (s + (2 * k + 4)) := by
  unfold stepF
  split
  · rename_i h
    refine ⟨?_, h1.mono (by omega)⟩
    rcases h with h | h <;> rw [h] <;> grind
  · obtain ⟨m1, m2, m3⟩ := mulR hx hy (by omega) (by omega)
    obtain ⟨a1, a2, a3⟩ := addR h1 m3 (by omega) (by omega)
    exact ⟨by rw [a2, m2], a3.mono (by omega)⟩
theorem dotF_ok {k : Nat} (hk : k ≤ 20) : ∀ (a b : List Fr) (acc : Fr) (s : Nat), okX acc s → s + a.length * (2 * k + 4) ≤ 1000 → (∀ x, x ∈ a → okX x k) → (∀ x, x ∈ b → okX x k) → qv (dotF acc a b) = qv acc + dotQ (vq a) (vq b) ∧ okX (dotF acc a b) 1000
  | [], b, acc, s, h1, hs, _, _ => by
    rw [dotF_nil1]
    refine ⟨?_, h1.mono (by omega)⟩
    simp only [vq, List.map_nil, dotQ]; grind
  | x :: a, [], acc, s, h1, hs, _, _ => by
    rw [dotF_nil2]
    refine ⟨?_, h1.mono (by omega)⟩
    simp only [vq, List.map_nil, List.map_cons, dotQ]; grind
  | x :: a, y :: b, acc, s, h1, hs, ha, hb => by
    simp only [List.length_cons, Nat.add_mul, Nat.one_mul] at hs
    obtain ⟨e1, e2⟩ := stepF_ok h1 (ha x (by simp)) (hb y (by simp)) (by omega) hk
    obtain ⟨f1, f2⟩ := dotF_ok hk a b (stepF acc x y) _ e2 (by omega) (fun z hz => ha z (by simp [hz])) (fun z hz => hb z (by simp [hz]))
    refine ⟨?_, f2⟩
    show qv (dotF (stepF acc x y) a b) = _
    rw [f1, e1]
    simp only [vq, List.map_cons, dotQ]; grind

theorem Dot_ok {a b : List Fr} {k : Nat} (hk : k ≤ 20) (ha : okV a k) (hb : okV b k) : qv (dotF zeroF a b) = dotQ (vq a) (vq b) ∧ okX (dotF zeroF a b) 1000 := by
  have h8 := ha.1
  have hm : a.length * (2 * k + 4) ≤ 8 * 44 := Nat.mul_le_mul h8 (by omega)
  obtain ⟨h1, h2⟩ := dotF_ok hk a b zeroF 1 zeroR.2.2 (by omega) ha.2 hb.2
  refine ⟨?_, h2⟩
  rw [h1, zeroR.2.1]; grind

theorem Dot_says {a b : List Fr} {k : Nat} (hk : k ≤ 20) (ha : okV a k) (hb : okV b k) : vec_Dot a b (dotF zeroF a b) := by
  unfold vec_Dot
  have ha8 := ha.1; have hb8 := hb.1
  refine ⟨_, _, _, zeroR.1, ?_⟩
  refine LoopP.intro (fun z : Int × Fr => ∃ i : Nat, z.1 = i ∧ i ≤ a.length ∧ i ≤ b.length ∧ okX z.2 (1 + i * (2 * k + 4)) ∧ dotF z.2 (a.drop i) (b.drop i) = dotF zeroF a b) (fun z => a.length - z.1.toNat) ⟨0, rfl, by omega, by omega, zeroR.2.2.mono (by omega), rfl⟩ ?_
  rintro X ⟨z1, acc⟩ ⟨i, h1, hia, hib, hs, hd⟩ hX
  dsimp only at h1 hs hd
  subst h1
  unfold vec_Dot_L1
  have him : i * (2 * k + 4) ≤ 8 * 44 := Nat.mul_le_mul (by omega) (by omega)
  refine IfB.dc (fun hlt => ?_) (fun hge => ?_)
  · have hi : i < a.length ∧ i < b.length := by split at hlt <;> omega
    obtain ⟨hi1, hi2⟩ := hi
    have hx := ha.2 _ (List.getElem_mem hi1)
    have hy := hb.2 _ (List.getElem_mem hi2)
    rw [List.drop_eq_getElem_cons hi1, List.drop_eq_getElem_cons hi2] at hd
    have hd : dotF (stepF acc a[i] b[i]) (a.drop (i + 1)) (b.drop (i + 1)) = dotF zeroF a b := hd
    obtain ⟨c1, s1, s2, _⟩ := signR hx (by omega)
    obtain ⟨c2, t1, t2, _⟩ := signR hy (by omega)
    obtain ⟨_, so⟩ := stepF_ok hs hx hy (by omega) hk
    have nx : ∀ w : Fr, w = stepF acc a[i] b[i] → X (IntKind.i64.wrap ((i : Int) + 1), w) := fun w hw => by
      rw [wrap64' (by omega) (by omega)]
      refine hX _ ⟨i + 1, by simp, by omega, by omega, ?_, by dsimp only; rw [hw]; exact hd⟩ (by dsimp only; omega)
      dsimp only
      rw [hw]
      exact so.mono (by rw [Nat.add_mul]; omega)
    refine ⟨_, _, _, Idx.nat hi1, _, _, _, Idx.nat hi2, c1, s1, IfB.neI (fun h => ⟨c2, t1, IfB.neI (fun h' => ?_) (fun h' => ?_)⟩) (fun h => ?_)⟩
    · obtain ⟨m1, m2, m3⟩ := mulR hx hy (by omega) (by omega)
      obtain ⟨a1, a2, a3⟩ := addR hs m3 (by omega) (by omega)
      refine ⟨_, _, _, m1, _, _, _, a1, nx _ ?_⟩
      unfold stepF
      rw [if_neg (by rintro (q | q); exact h (s2.2 q); exact h' (t2.2 q))]; rfl
    · refine nx _ ?_
      unfold stepF
      rw [if_pos (.inr (t2.1 h'))]
    · refine nx _ ?_
      unfold stepF
      rw [if_pos (.inl (s2.1 h))]
  · have : a.drop i = [] ∨ b.drop i = [] := by
      rcases Nat.lt_or_ge i a.length with h | h
      · right; apply List.drop_eq_nil_of_le; split at hge <;> omega
      · left; exact List.drop_eq_nil_of_le h
    rcases this with e | e
    · rw [e, dotF_nil1] at hd; exact hd.symm
    · rw [e, dotF_nil2] at hd; exact hd.symm

end Go.Abs
end

section
/- Problems: which may be, what fits, what is proved; as the program tells it, and by what fractions stand for. -/
namespace Go.Abs
open Go
open Classical
set_option linter.unusedVariables false
set_option linter.unusedSimpArgs false
set_option linter.unnecessarySimpa false

/-- A small problem: rows, what they come to, costs. -/
structure Sml (A : List (List Fr)) (B C : List Fr) (k : Nat) : Prop where
  rows : A.length ≤ 4
  row : ∀ r, r ∈ A → okV r k
  b : okV B k
  c : okV C k
def RightQ (A : List (List Fr)) (B C : List Fr) : Prop := B.length = A.length ∧ ∀ r, r ∈ A → r.length = C.length

theorem Right_says {A : List (List Fr)} {B C : List Fr} {k : Nat} (h : Sml A B C k) : shape_Right A B C (decide (RightQ A B C)) := by
  unfold shape_Right
  have h1 := h.rows; have h2 := h.c.1
  refine IfB.dc (fun _ => IfB.dc (fun _ => IfB.eqI (fun hB => ?_) (fun hB => decide_eq_false fun hr => hB (by rw [hr.1]))) (fun h => by omega)) (fun h => by omega)
  refine LoopP.intro (fun z : Int => ∃ i : Nat, z = i ∧ i ≤ A.length ∧ ∀ j (hj : j < A.length), j < i → A[j].length = C.length) (fun z => A.length - z.toNat) ⟨0, rfl, by omega, fun j _ hj => by omega⟩ ?_
  rintro X z ⟨i, rfl, hi, hn⟩ hX
  unfold shape_Right_L1
  refine IfB.dc (fun hlt => ?_) (fun hge => decide_eq_true ⟨by omega, fun r hr => ?_⟩)
  · have hi' : i < A.length := by omega
    refine ⟨_, Idx.nat hi', IfB.neI (fun hne => IfB.dc (fun _ => decide_eq_false fun hr => hne (by rw [hr.2 _ (List.getElem_mem hi')])) (fun h => by omega)) (fun he => ?_)⟩
    rw [wrap64' (by omega) (by omega)]
    refine hX _ ⟨i + 1, by omega, by omega, fun j hj hji => ?_⟩ (by omega)
    by_cases e : j = i
    · subst e; omega
    · exact hn j hj (by omega)
  · obtain ⟨j, hj, rfl⟩ := List.getElem_of_mem hr
    exact hn j hj (by omega)

def colF (A : List (List Fr)) (k : Nat) : List Fr := A.map fun r => lowX (r.getD k zeroF)
def colV (A : List (List Fr)) (k : Nat) : List Rat := A.map fun r => qv (r.getD k zeroF)

theorem Column_says {A : List (List Fr)} {B C : List Fr} {k n : Nat} (h : Sml A B C k) (hk : k ≤ 20) (hr : RightQ A B C) (hn : n < C.length) : shape_Column A B C (n : Int) (colF A n) := by
  unfold shape_Column
  have h1 := h.rows; have h2 := h.c.1
  have hR := Right_says h
  rw [decide_eq_true hr] at hR
  refine ⟨true, hR, IfB_true.2 (IfB.dc (fun h => by omega) (fun _ => IfB.dc (fun h => by omega) (fun _ => ?_)))⟩
  refine LoopP.intro (fun z : Int × List Fr => ∃ i : Nat, z.1 = i ∧ i ≤ A.length ∧ z.2 = colF (A.take i) n) (fun z => A.length - z.1.toNat) ⟨0, rfl, by omega, by simp [colF]⟩ ?_
  rintro X ⟨z1, z2⟩ ⟨i, e1, hi, e2⟩ hX
  dsimp only at e1 e2
  subst e1 e2
  unfold shape_Column_L1
  refine IfB.dc (fun hlt => ?_) (fun hge => ?_)
  · have hi' : i < A.length := by omega
    have hrow := h.row _ (List.getElem_mem hi')
    have hl : n < A[i].length := by rw [hr.2 _ (List.getElem_mem hi')]; exact hn
    obtain ⟨m1, m2, m3⟩ := makeR (hrow.2 _ (List.getElem_mem hl)) (by omega)
    refine ⟨_, Idx.nat hi', _, _, _, Idx.nat hl, _, _, _, Idx.nat hl, _, _, _, m1, by unfold Fits; simp [colF]; omega, ?_⟩
    rw [wrap64' (by omega) (by omega)]
    refine hX _ ⟨i + 1, by simp, by omega, ?_⟩ (by dsimp only; omega)
    dsimp only
    unfold colF
    rw [List.take_add_one, List.getElem?_eq_getElem hi', List.map_append]
    have : (A[i].getD n zeroF) = A[i][n] := by rw [List.getD_eq_getElem?_getD, List.getElem?_eq_getElem hl]; rfl
    simp only [Option.toList_some, List.map_cons, List.map_nil, this]; rfl
  · have : i = A.length := by omega
    subst this
    rw [List.take_length]

theorem getF_ok {r : List Fr} {k n : Nat} (h : okV r k) (hk : 1 ≤ k) : okX (r.getD n zeroF) k := by
  rw [List.getD_eq_getElem?_getD]
  cases hn : r[n]? with
  | none => exact zeroR.2.2.mono hk
  | some x => exact h.2 x (List.mem_of_getElem? hn)
theorem colF_ok {A : List (List Fr)} {B C : List Fr} {k n : Nat} (h : Sml A B C k) (hk : 1 ≤ k) (hk2 : k ≤ 19) : okV (colF A n) (k + 1) ∧ vq (colF A n) = colV A n := by
  have h1 := h.rows
  refine ⟨⟨by simp [colF]; omega, fun x hx => ?_⟩, ?_⟩
  · obtain ⟨r, hr, rfl⟩ := List.mem_map.1 hx
    exact (makeR (getF_ok (h.row r hr) hk) (by omega)).2.2
  · unfold vq colF colV
    rw [List.map_map]
    exact List.map_congr_left fun r hr => (makeR (getF_ok (h.row r hr) hk) (by omega)).2.1

/-- Numbers that fit. -/
def DoesQ (A : List (List Fr)) (B C x : List Fr) : Prop := RightQ A B C ∧ x.length = C.length ∧ (∀ v, v ∈ x → 0 ≤ qv v) ∧ ∀ i (h : i < A.length) (h' : i < B.length), dotQ (vq A[i]) (vq x) = qv B[i]

theorem okV.mono {l : List Fr} {a b : Nat} (h : okV l a) (hab : a ≤ b) : okV l b := ⟨h.1, fun x hx => (h.2 x hx).mono hab⟩

theorem Does_says {A : List (List Fr)} {B C x : List Fr} {k : Nat} (h : Sml A B C k) (hx : okV x k) (hk : k ≤ 20) : shape_Does A B C x (decide (DoesQ A B C x)) := by
  unfold shape_Does
  have h1 := h.rows; have h2 := h.c.1; have h3 := hx.1
  refine ⟨_, Right_says h, IfB.dc (fun hr => IfB.neI (fun hne => decide_eq_false fun hd => hne (by rw [hd.2.1])) (fun hlen => ?_)) (fun hr => decide_eq_false fun hd => hr hd.1)⟩
  refine LoopP.intro (fun z : Int => ∃ i : Nat, z = i ∧ i ≤ x.length ∧ ∀ j (hj : j < x.length), j < i → 0 ≤ qv x[j]) (fun z => x.length - z.toNat) ⟨0, rfl, by omega, fun j _ hj => by omega⟩ ?_
  rintro X z ⟨i, rfl, hi, hn⟩ hX
  unfold shape_Does_L1
  refine IfB.dc (fun hlt => ?_) (fun hge => ?_)
  · have hi' : i < x.length := by omega
    obtain ⟨c, s1, _, _, s4⟩ := signR (hx.2 _ (List.getElem_mem hi')) (by omega)
    have hd1 : shape_Does_1 x[i].1 x[i].2.1 x[i].2.2 (decide (c < 0)) := ⟨c, s1, IfB.dc (fun h => by simp [h]) (fun h => by simp [h])⟩
    refine ⟨_, _, _, Idx.nat hi', _, hd1, IfB.dc (fun hc => IfB.dc (fun _ => decide_eq_false fun hd => ?_) (fun h => by omega)) (fun hc => ?_)⟩
    · have := hd.2.2.1 _ (List.getElem_mem hi')
      exact absurd (s4.1 hc) (Rat.not_lt.2 this)
    · rw [wrap64' (by omega) (by omega)]
      refine hX _ ⟨i + 1, by omega, by omega, fun j hj hji => ?_⟩ (by omega)
      by_cases e : j = i
      · subst e; exact Rat.not_lt.1 fun h => hc (s4.2 h)
      · exact hn j hj (by omega)
  · have hpos : ∀ v, v ∈ x → 0 ≤ qv v := fun v hv => by
      obtain ⟨j, hj, rfl⟩ := List.getElem_of_mem hv
      exact hn j hj (by omega)
    clear hX hn
    refine LoopP.intro (fun z : Int => ∃ i : Nat, z = i ∧ i ≤ A.length ∧ ∀ j (hj : j < A.length) (hj' : j < B.length), j < i → dotQ (vq A[j]) (vq x) = qv B[j]) (fun z => A.length - z.toNat) ⟨0, rfl, by omega, fun j _ _ hj => by omega⟩ ?_
    rintro X z ⟨i, rfl, hi, hn⟩ hX
    unfold shape_Does_L3
    refine IfB.dc (fun hlt => ?_) (fun hge => decide_eq_true ⟨hr, by omega, hpos, fun j hj hj' => hn j hj hj' (by omega)⟩)
    have hi' : i < A.length := by omega
    have hib : i < B.length := by rw [hr.1]; exact hi'
    have hrow := h.row _ (List.getElem_mem hi')
    obtain ⟨d1, d2⟩ := Dot_ok hk hrow hx
    obtain ⟨c, c1, c2, _⟩ := cmpR d2 (h.b.2 _ (List.getElem_mem hib)) (by omega) (by omega)
    refine ⟨_, Idx.nat hi', _, _, _, Dot_says hk hrow hx, _, _, _, Idx.nat hib, c, c1, IfB.neI (fun hc => decide_eq_false fun hd => hc (c2.2 ?_)) (fun hc => ?_)⟩
    · rw [d1]; exact hd.2.2.2 i hi' hib
    · rw [wrap64' (by omega) (by omega)]
      refine hX _ ⟨i + 1, by omega, by omega, fun j hj hj' hji => ?_⟩ (by omega)
      by_cases e : j = i
      · subst e; rw [← d1]; exact c2.1 hc
      · exact hn j hj hj' (by omega)

/-- Numbers for the rows come, at each place, to a bound at most. -/
def UnderQ (A : List (List Fr)) (C y : List Fr) (bd : Nat → Rat) : Prop := y.length = A.length ∧ ∀ k, k < C.length → dotQ (vq y) (colV A k) ≤ bd k
def cV (C : List Fr) (k : Nat) : Rat := qv (C.getD k zeroF)

theorem Ints0_says (n : Nat) (hn : n ≤ 100) : vec_Ints (List.replicate n (0 : Int)) (List.replicate n zeroF) := by
  unfold vec_Ints
  refine LoopP.intro (fun z : Int × List Fr => ∃ i : Nat, z.1 = i ∧ i ≤ n ∧ z.2 = List.replicate i zeroF) (fun z => n - z.1.toNat) ⟨0, rfl, by omega, rfl⟩ ?_
  rintro X ⟨z1, z2⟩ ⟨i, e1, hi, e2⟩ hX
  dsimp only at e1 e2
  subst e1 e2
  unfold vec_Ints_L1
  refine IfB.dc (fun hlt => ?_) (fun hge => ?_)
  · simp only [List.length_replicate] at hlt
    refine ⟨0, ⟨by omega, by rw [List.getElem?_replicate, if_pos (by omega)]⟩, _, _, _, zeroR.1, by unfold Fits; simp; omega, ?_⟩
    rw [wrap64' (by omega) (by omega)]
    refine hX _ ⟨i + 1, by simp, by omega, ?_⟩ (by dsimp only; omega)
    dsimp only
    rw [List.replicate_succ']; rfl
  · simp only [List.length_replicate] at hge
    have : i = n := by omega
    rw [this]

theorem Lower_says {A : List (List Fr)} {B C y : List Fr} {k : Nat} (h : Sml A B C k) (hy : okV y k) (hk1 : 1 ≤ k) (hk : k ≤ 19) :
    proof_Lower A B C y (if RightQ A B C ∧ UnderQ A C y (cV C) then ((dotF zeroF y B).1, (dotF zeroF y B).2.1, (dotF zeroF y B).2.2, true) else (zeroF.1, zeroF.2.1, zeroF.2.2, false)) := by
  unfold proof_Lower
  have h1 := h.rows; have h2 := h.c.1; have h3 := hy.1
  refine ⟨_, Right_says h, IfB.dc (fun hr => IfB.neI (fun hne => ⟨_, _, _, zeroR.1, ?_⟩) (fun hlen => ?_)) (fun hr => ⟨_, _, _, zeroR.1, ?_⟩)⟩
  · rw [if_neg fun h => hne (by rw [h.2.1])]; rfl
  · refine LoopP.intro (fun z : Int => ∃ i : Nat, z = i ∧ i ≤ C.length ∧ ∀ j, j < i → dotQ (vq y) (colV A j) ≤ cV C j) (fun z => C.length - z.toNat) ⟨0, rfl, by omega, fun j hj => by omega⟩ ?_
    rintro X z ⟨i, rfl, hi, hn⟩ hX
    unfold proof_Lower_L1
    refine IfB.dc (fun hlt => ?_) (fun hge => ⟨_, _, _, Dot_says (by omega) hy h.b, ?_⟩)
    · have hi' : i < C.length := by omega
      obtain ⟨f1, f2⟩ := colF_ok (n := i) h hk1 (by omega)
      obtain ⟨d1, d2⟩ := Dot_ok (k := k + 1) (by omega) (hy.mono (by omega)) f1
      obtain ⟨c, c1, _, c3, _⟩ := cmpR d2 (h.c.2 _ (List.getElem_mem hi')) (by omega) (by omega)
      have hcv : cV C i = qv C[i] := by unfold cV; rw [List.getD_eq_getElem?_getD, List.getElem?_eq_getElem hi']; rfl
      rw [d1, f2, ← hcv] at c3
      refine ⟨_, Column_says h (by omega) hr hi', _, _, _, Dot_says (k := k + 1) (by omega) (hy.mono (by omega)) f1, _, _, _, Idx.nat hi', c, c1, IfB.dc (fun hc => ⟨_, _, _, zeroR.1, ?_⟩) (fun hc => ?_)⟩
      · rw [if_neg fun h => absurd (c3.1 hc) (Rat.not_lt.2 (h.2.2 i hi'))]; rfl
      · rw [wrap64' (by omega) (by omega)]
        refine hX _ ⟨i + 1, by omega, by omega, fun j hj => ?_⟩ (by omega)
        by_cases e : j = i
        · subst e; exact Rat.not_lt.1 fun h => hc (c3.2 h)
        · exact hn j (by omega)
    · rw [if_pos ⟨hr, by omega, fun j hj => hn j (by omega)⟩]
  · rw [if_neg fun h => hr h.1]; rfl

/-- What a verdict's numbers prove, by what they stand for. -/
def HoldsQ (A : List (List Fr)) (B C : List Fr) (v : Int) (x y z : List Fr) : Prop :=
  if v = 1 then UnderQ A C y (cV C) ∧ DoesQ A B C x ∧ dotQ (vq y) (vq B) = dotQ (vq C) (vq x)
  else if v = 2 then UnderQ A C y (fun _ => 0) ∧ 0 < dotQ (vq y) (vq B)
  else DoesQ A B C x ∧ DoesQ A (List.replicate B.length zeroF) C z ∧ dotQ (vq C) (vq z) < 0

theorem Sml.zero {A : List (List Fr)} {B C : List Fr} {k : Nat} (h : Sml A B C k) (hk : 1 ≤ k) : Sml A (List.replicate B.length zeroF) C k :=
  ⟨h.rows, h.row, ⟨by simp; exact h.b.1, fun x hx => by rw [List.eq_of_mem_replicate hx]; exact zeroR.2.2.mono hk⟩, h.c⟩

theorem holds_says {A : List (List Fr)} {B C x y z : List Fr} {v : Int} {k : Nat} (h : Sml A B C k) (hx : okV x k) (hy : okV y k) (hz : okV z k) (hk1 : 1 ≤ k) (hk : k ≤ 19) (hr : RightQ A B C) :
    proof_holds A B C v x y z (decide (HoldsQ A B C v x y z)) := by
  unfold proof_holds HoldsQ
  have h1 := h.rows; have h2 := h.c.1; have hb := h.b.1
  refine IfB.eqI (fun hv => ?_) (fun hv => IfB.eqI (fun hv2 => ?_) (fun hv2 => ?_))
  · simp only [if_pos hv]
    have hL := Lower_says h hy hk1 hk
    by_cases hu : UnderQ A C y (cV C)
    · rw [if_pos ⟨hr, hu⟩] at hL
      obtain ⟨d1, d2⟩ := Dot_ok (k := k) (by omega) hy h.b
      obtain ⟨e1, e2⟩ := Dot_ok (k := k) (by omega) h.c hx
      obtain ⟨c, c1, c2, _⟩ := cmpR d2 e2 (by omega) (by omega)
      rw [d1, e1] at c2
      refine ⟨_, _, _, _, hL, IfB_true.2 ⟨_, Does_says h hx (by omega), IfB.dc (fun hd => ⟨_, _, _, Dot_says (by omega) h.c hx, c, c1, IfB.eqI (fun hc => decide_eq_true ⟨hu, hd, c2.1 hc⟩) (fun hc => decide_eq_false fun h => hc (c2.2 h.2.2))⟩) (fun hd => decide_eq_false fun h => hd h.2.1)⟩⟩
    · rw [if_neg fun h => hu h.2] at hL
      exact ⟨_, _, _, _, hL, IfB_false.2 (decide_eq_false fun h => hu h.1)⟩
  · simp only [if_neg hv, if_pos hv2]
    refine IfB.neI (fun hne => decide_eq_false fun h => hne (by rw [h.1.1])) (fun hlen => ?_)
    refine LoopP.intro (fun z : Int => ∃ i : Nat, z = i ∧ i ≤ C.length ∧ ∀ j, j < i → dotQ (vq y) (colV A j) ≤ 0) (fun z => C.length - z.toNat) ⟨0, rfl, by omega, fun j hj => by omega⟩ ?_
    rintro X w ⟨i, rfl, hi, hn⟩ hX
    unfold proof_holds_L1
    refine IfB.dc (fun hlt => ?_) (fun hge => ?_)
    · have hi' : i < C.length := by omega
      obtain ⟨f1, f2⟩ := colF_ok (n := i) h hk1 (by omega)
      obtain ⟨d1, d2⟩ := Dot_ok (k := k + 1) (by omega) (hy.mono (by omega)) f1
      obtain ⟨c, c1, _, c3, _⟩ := cmpR d2 zeroR.2.2 (by omega) (by omega)
      rw [d1, f2, zeroR.2.1] at c3
      have hz1 : proof_holds_1 (i : Int) (zeroF.1, zeroF.2.1, zeroF.2.2) := ⟨_, _, _, zeroR.1, rfl⟩
      refine ⟨_, Column_says h (by omega) hr hi', _, _, _, Dot_says (k := k + 1) (by omega) (hy.mono (by omega)) f1, _, _, _, hz1, c, c1, IfB.dc (fun hc => decide_eq_false fun h => absurd (c3.1 hc) (Rat.not_lt.2 (h.1.2 i hi'))) (fun hc => ?_)⟩
      rw [wrap64' (by omega) (by omega)]
      refine hX _ ⟨i + 1, by omega, by omega, fun j hj => ?_⟩ (by omega)
      by_cases e : j = i
      · subst e; exact Rat.not_lt.1 fun h => hc (c3.2 h)
      · exact hn j (by omega)
    · obtain ⟨d1, d2⟩ := Dot_ok (k := k) (by omega) hy h.b
      obtain ⟨c, c1, _, c3, _⟩ := signR d2 (by omega)
      rw [d1] at c3
      have hu : UnderQ A C y (fun _ => 0) := ⟨by omega, fun j hj => hn j (by omega)⟩
      exact ⟨_, _, _, Dot_says (by omega) hy h.b, c, c1, IfB.dc (fun hc => decide_eq_true ⟨hu, c3.1 hc⟩) (fun hc => decide_eq_false fun h => hc (c3.2 h.2))⟩
  · simp only [if_neg hv, if_neg hv2]
    refine ⟨⟨by omega, fits_of (by omega) (by omega), fits_of (by omega) (by omega)⟩, List.replicate B.length zeroF, ?_, _, Does_says h hx (by omega), IfB.dc (fun hd => ?_) (fun hd => decide_eq_false fun h => hd h.1)⟩
    · rw [Int.toNat_natCast]; exact Ints0_says _ (by omega)
    · obtain ⟨d1, d2⟩ := Dot_ok (k := k) (by omega) h.c hz
      obtain ⟨c, c1, _, _, c4⟩ := signR d2 (by omega)
      rw [d1] at c4
      exact ⟨_, Does_says (h.zero hk1) hz (by omega), IfB.dc (fun hd2 => ⟨_, _, _, Dot_says (by omega) h.c hz, c, c1, IfB.dc (fun hc => decide_eq_true ⟨hd, hd2, c4.1 hc⟩) (fun hc => decide_eq_false fun h => hc (c4.2 h.2.2))⟩) (fun hd2 => decide_eq_false fun h => hd2 h.2.1)⟩

theorem Check_says {A : List (List Fr)} {B C x y z : List Fr} {v : Int} {k : Nat} (h : Sml A B C k) (hx : okV x k) (hy : okV y k) (hz : okV z k) (hk1 : 1 ≤ k) (hk : k ≤ 19) :
    proof_Check A B C v x y z (if RightQ A B C ∧ mayP v x y z then (if HoldsQ A B C v x y z then 0 else 12) else 1) := by
  unfold proof_Check
  have hR := Right13_says v x y z (by have := hx.1; omega) (by have := hy.1; omega) (by have := hz.1; omega)
  refine ⟨_, Right_says h, IfB.dc (fun hr => ⟨_, hR, ?_⟩) (fun hr => by rw [if_neg fun h => hr h.1])⟩
  by_cases hm : mayP v x y z
  · rw [show (decide (mayP v x y z)) = true from decide_eq_true hm]
    refine IfB_true.2 ⟨_, holds_says h hx hy hz hk1 hk hr, IfB.dc (fun hh => ?_) (fun hh => ?_)⟩
    · rw [if_pos ⟨hr, hm⟩, if_pos hh]
    · rw [if_pos ⟨hr, hm⟩, if_neg hh]
  · rw [show (decide (mayP v x y z)) = false from decide_eq_false hm]
    refine IfB_false.2 ?_
    rw [if_neg fun h => hm h.2]

end Go.Abs
end

section
/- ProofChecks: what arithmetic says is what the program says. -/
namespace Go.Abs
open Go
open Classical
set_option linter.unusedVariables false
set_option linter.unusedSimpArgs false
set_option linter.unnecessarySimpa false

def FewA (A : List (List Fr)) : Prop := A.length ≤ 4 ∧ ∀ r, r ∈ A → FewP r
theorem Few6_says (A : List (List Fr)) : offcutlaw06_Few A (decide (FewA A)) := by
  unfold offcutlaw06_Few
  refine LoopP.intro (fun z : Int => ∃ k : Nat, z = k ∧ k ≤ A.length ∧ k ≤ 5 ∧ ∀ i (h : i < A.length), i < k → FewP A[i]) (fun z => A.length - z.toNat) ⟨0, rfl, by omega, by omega, fun i _ h => by omega⟩ ?_
  rintro X z ⟨k, rfl, hk, hk9, hn⟩ hX
  unfold offcutlaw06_Few_L1
  have many : ∀ (h : ¬ (A.length : Int) ≤ 4), decide (FewA A) = false := fun h => decide_eq_false fun hf => h (by have := hf.1; omega)
  refine IfB.dc (fun h => IfB.dc (fun h8 => ?_) (fun h8 => ?_)) (fun h => ?_)
  · have hkl : k < A.length := by omega
    refine ⟨_, Idx.nat hkl, _, Few5_says A[k], IfB.dc (fun hf => ?_) (fun hf => decide_eq_false fun h => hf (h.2 _ (List.getElem_mem hkl)))⟩
    rw [wrap64' (by omega) (by omega)]
    refine hX _ ⟨k + 1, by omega, by omega, by omega, fun i hi hik => ?_⟩ (by omega)
    by_cases e : i = k
    · subst e; exact hf
    · exact hn i hi (by omega)
  · exact IfB.dc (fun h => by omega) (fun h => many h)
  · refine IfB.dc (fun h2 => decide_eq_true ⟨by omega, fun x hx => ?_⟩) (fun h2 => many h2)
    obtain ⟨i, hi, rfl⟩ := List.getElem_of_mem hx
    exact hn i hi (by omega)
theorem Few11_says (A : List (List Fr)) (B C : List Fr) : offcutlaw11_Few A B C (decide (FewA A ∧ FewP B ∧ FewP C)) := by
  unfold offcutlaw11_Few
  refine ⟨_, Few6_says A, IfB.dc (fun h1 => ⟨_, Few5_says B, IfB.dc (fun h2 => ⟨_, Few5_says C, IfB.dc (fun h3 => ?_) (fun h3 => ?_)⟩) (fun h2 => ?_)⟩) (fun h1 => ?_)⟩ <;> simp [*]

theorem okV_of {l : List Fr} (hw : wsQ l) (hf : FewP l) : okV l 3 := ⟨hf.1, okX_of hw hf⟩
theorem Sml_of {A : List (List Fr)} {B C : List Fr} (hA : ∀ r, r ∈ A → wsQ r) (hB : wsQ B) (hC : wsQ C) (h : FewA A ∧ FewP B ∧ FewP C) : Sml A B C 3 :=
  ⟨h.1.1, fun r hr => okV_of (hA r hr) (h.1.2 r hr), okV_of hB h.2.1, okV_of hC h.2.2⟩
theorem Sml.mono {A : List (List Fr)} {B C : List Fr} {a b : Nat} (h : Sml A B C a) (hab : a ≤ b) : Sml A B C b := ⟨h.rows, fun r hr => (h.row r hr).mono hab, h.b.mono hab, h.c.mono hab⟩

theorem dotQ_snoc : ∀ (l m : List Rat) (a b : Rat), l.length = m.length → dotQ (l ++ [a]) (m ++ [b]) = dotQ l m + a * b
  | [], [], a, b, _ => by simp only [List.nil_append, dotQ]; grind
  | x :: l, y :: m, a, b, h => by
    simp only [List.cons_append, dotQ]
    rw [dotQ_snoc l m a b (by simpa using h)]; grind
  | [], _ :: _, _, _, h => by simp at h
  | _ :: _, [], _, _, h => by simp at h

/-- One column, summed up row for row. -/
theorem sumL {A : List (List Fr)} {B C y : List Fr} {k n : Nat} {F : (Int × Fr → Prop) → Int × Fr → Prop} (h : Sml A B C k) (hy : okV y k) (hk : k ≤ 20) (hr : RightQ A B C) (hn : n < C.length) (hlen : y.length = A.length)
    (hF : ∀ (X : Int × Fr → Prop) (i : Nat) (acc : Fr), (∀ (hi : i < A.length) (hi' : i < y.length) (hj : n < A[i].length), okX acc 1000 → X (((i : Int) + 1), addF acc (mulF y[i] A[i][n])) → F X ((i : Int), acc)) ∧ (i = A.length → okX acc 1000 → qv acc = dotQ (vq y) (colV A n) → F X ((i : Int), acc))) : LoopP F ((0 : Int), zeroF) := by
  have h1 := h.rows
  refine LoopP.intro (fun z : Int × Fr => ∃ i : Nat, z.1 = i ∧ i ≤ A.length ∧ okX z.2 (1 + i * (2 * k + 4)) ∧ qv z.2 = dotQ (vq (y.take i)) (colV (A.take i) n)) (fun z => A.length - z.1.toNat) ⟨0, rfl, by omega, zeroR.2.2.mono (by omega), by rw [zeroR.2.1]; simp [dotQ, vq, colV]⟩ ?_
  rintro X ⟨z1, acc⟩ ⟨i, e1, hi, hs, hq⟩ hX
  dsimp only at e1 hs hq
  subst e1
  have him : i * (2 * k + 4) ≤ 4 * 44 := Nat.mul_le_mul (by omega) (by omega)
  by_cases hlt : i < A.length
  · have hy' : i < y.length := by omega
    have hrow := h.row _ (List.getElem_mem hlt)
    have hl : n < A[i].length := by rw [hr.2 _ (List.getElem_mem hlt)]; exact hn
    obtain ⟨m1, m2, m3⟩ := mulR (hy.2 _ (List.getElem_mem hy')) (hrow.2 _ (List.getElem_mem hl)) (by omega) (by omega)
    obtain ⟨a1, a2, a3⟩ := addR hs m3 (by omega) (by omega)
    refine (hF X i acc).1 hlt hy' hl (hs.mono (by omega)) (hX _ ⟨i + 1, by simp, by omega, ?_, ?_⟩ (by dsimp only; omega))
    · exact a3.mono (by rw [Nat.add_mul]; omega)
    · dsimp only
      rw [a2, m2, hq]
      unfold vq colV
      rw [List.take_add_one, List.getElem?_eq_getElem hy', List.take_add_one, List.getElem?_eq_getElem hlt, List.map_append, List.map_append]
      simp only [Option.toList_some, List.map_cons, List.map_nil]
      rw [dotQ_snoc _ _ _ _ (by simp; omega)]
      have : (A[i].getD n zeroF) = A[i][n] := by rw [List.getD_eq_getElem?_getD, List.getElem?_eq_getElem hl]; rfl
      rw [this]
  · have : i = A.length := by omega
    subst this
    rw [List.take_length, ← hlen, List.take_length] at hq
    exact (hF X _ acc).2 rfl (hs.mono (by omega)) hq

theorem add_of {acc x y : Fr} {k : Nat} (ha : okX acc 1000) (hx : okX x k) (hy : okX y k) (hk : k ≤ 20) : rat_Mul x.1 x.2.1 x.2.2 y.1 y.2.1 y.2.2 (mulF x y) ∧ rat_Add acc.1 acc.2.1 acc.2.2 (mulF x y).1 (mulF x y).2.1 (mulF x y).2.2 (addF acc (mulF x y)) := by
  obtain ⟨m1, _, m3⟩ := mulR hx hy (by omega) (by omega)
  exact ⟨m1, (addR ha m3 (by omega) (by omega)).1⟩

theorem Proved_says {A : List (List Fr)} {B C x y z : List Fr} {v : Int} {k : Nat} (h : Sml A B C k) (hx : okV x k) (hy : okV y k) (hz : okV z k) (hk1 : 1 ≤ k) (hk : k ≤ 19) (hr : RightQ A B C) (hm : mayP v x y z) (bs : List Int) (st : Int) :
    offcutlaw12_Proved A B C v x y z bs st (decide (HoldsQ A B C v x y z)) := by
  unfold offcutlaw12_Proved HoldsQ
  have h1 := h.rows; have h2 := h.c.1; have hb := h.b.1
  rcases hm with ⟨rfl, hz0⟩ | ⟨rfl, hx0, hz0⟩ | ⟨rfl, hy0⟩
  · simp only [if_true]
    refine IfB.eqI (fun _ => IfB.eqI (fun _ => ⟨_, Does_says h hx (by omega), IfB.dc (fun hd => ?_) (fun hd => decide_eq_false fun h => hd h.2.1)⟩) (fun hne => absurd (by rw [hz0]; rfl) hne)) (fun h => absurd rfl h)
    have hU : IfB ((y.length : Int) != (A.length : Int)) (decide (UnderQ A C y (cV C)) = false) (LoopP (offcutlaw12_Proved_L1 A C y (decide (UnderQ A C y (cV C)))) (0 : Int)) := by
      refine IfB.neI (fun hne => decide_eq_false fun h => hne (by rw [h.1])) (fun hlen => ?_)
      have hlen : y.length = A.length := by omega
      refine LoopP.intro (fun z : Int => ∃ i : Nat, z = i ∧ i ≤ C.length ∧ ∀ j, j < i → dotQ (vq y) (colV A j) ≤ cV C j) (fun z => C.length - z.toNat) ⟨0, rfl, by omega, fun j hj => by omega⟩ ?_
      rintro X w ⟨n, rfl, hi, hn⟩ hX
      unfold offcutlaw12_Proved_L1
      refine IfB.dc (fun hlt => ⟨_, _, _, zeroR.1, ?_⟩) (fun hge => decide_eq_true ⟨hlen, fun j hj => hn j (by omega)⟩)
      have hi' : n < C.length := by omega
      refine sumL h hy (by omega) hr hi' hlen (fun X2 i acc => ⟨fun g1 g2 g3 ga gX => ?_, fun g1 ga gq => ?_⟩)
      · obtain ⟨m1, a1⟩ := add_of ga (hy.2 _ (List.getElem_mem g2)) ((h.row _ (List.getElem_mem g1)).2 _ (List.getElem_mem g3)) (by omega)
        unfold offcutlaw12_Proved_L2
        refine IfB.dc (fun _ => ⟨_, Idx.nat g1, _, _, _, Idx.nat g2, _, _, _, Idx.nat g3, _, _, _, m1, _, _, _, a1, ?_⟩) (fun h => by omega)
        rw [wrap64' (by omega) (by omega)]; exact gX
      · subst g1
        unfold offcutlaw12_Proved_L2
        have hcv : cV C n = qv C[n] := by unfold cV; rw [List.getD_eq_getElem?_getD, List.getElem?_eq_getElem hi']; rfl
        obtain ⟨c, c1, _, c3, _⟩ := cmpR ga (h.c.2 _ (List.getElem_mem hi')) (by omega) (by omega)
        rw [gq, ← hcv] at c3
        refine IfB.dc (fun h => by omega) (fun _ => ⟨_, _, _, Idx.nat hi', c, c1, IfB.dc (fun hc => ?_) (fun hc => decide_eq_false fun h => absurd (c3.1 (by omega)) (Rat.not_lt.2 (h.2 n hi')))⟩)
        rw [wrap64' (by omega) (by omega)]
        refine hX _ ⟨n + 1, by omega, by omega, fun j hj => ?_⟩ (by omega)
        by_cases e : j = n
        · subst e; exact Rat.not_lt.1 fun h => absurd (c3.2 h) (by omega)
        · exact hn j (by omega)
    obtain ⟨d1, d2⟩ := Dot_ok (k := k) (by omega) hy h.b
    obtain ⟨e1, e2⟩ := Dot_ok (k := k) (by omega) h.c hx
    obtain ⟨c, c1, c2, _⟩ := cmpR d2 e2 (by omega) (by omega)
    rw [d1, e1] at c2
    exact ⟨_, hU, IfB.dc (fun hu => ⟨_, _, _, Dot_says (by omega) hy h.b, _, _, _, Dot_says (by omega) h.c hx, c, c1, IfB.eqI (fun hc => decide_eq_true ⟨hu, hd, c2.1 hc⟩) (fun hc => decide_eq_false fun h => hc (c2.2 h.2.2))⟩) (fun hu => decide_eq_false fun h => hu h.1)⟩
  · simp only [show ¬ (2 : Int) = 1 by omega, if_false, if_true]
    refine IfB.eqI (fun h => absurd h (by omega)) (fun _ => IfB.eqI (fun _ => IfB.eqI (fun _ => IfB.neI (fun hne => decide_eq_false fun h => hne (by rw [h.1.1])) (fun hlen => ?_)) (fun hne => absurd (by rw [hx0, hz0]; rfl) hne)) (fun h => absurd rfl h))
    have hlen : y.length = A.length := by omega
    refine LoopP.intro (fun z : Int => ∃ i : Nat, z = i ∧ i ≤ C.length ∧ ∀ j, j < i → dotQ (vq y) (colV A j) ≤ 0) (fun z => C.length - z.toNat) ⟨0, rfl, by omega, fun j hj => by omega⟩ ?_
    rintro X w ⟨n, rfl, hi, hn⟩ hX
    unfold offcutlaw12_Proved_L3
    refine IfB.dc (fun hlt => ⟨_, _, _, zeroR.1, ?_⟩) (fun hge => ?_)
    · have hi' : n < C.length := by omega
      refine sumL h hy (by omega) hr hi' hlen (fun X2 i acc => ⟨fun g1 g2 g3 ga gX => ?_, fun g1 ga gq => ?_⟩)
      · obtain ⟨m1, a1⟩ := add_of ga (hy.2 _ (List.getElem_mem g2)) ((h.row _ (List.getElem_mem g1)).2 _ (List.getElem_mem g3)) (by omega)
        unfold offcutlaw12_Proved_L4
        refine IfB.dc (fun _ => ⟨_, Idx.nat g1, _, _, _, Idx.nat g2, _, _, _, Idx.nat g3, _, _, _, m1, _, _, _, a1, ?_⟩) (fun h => by omega)
        rw [wrap64' (by omega) (by omega)]; exact gX
      · subst g1
        unfold offcutlaw12_Proved_L4
        obtain ⟨c, c1, _, c3, _⟩ := signR ga (by omega)
        rw [gq] at c3
        have hp3 : offcutlaw12_Proved_3 (n : Int) acc.1 acc.2.1 acc.2.2 (decide (c ≤ 0)) := ⟨c, c1, IfB.dc (fun h => by simp [h]) (fun h => by simp; omega)⟩
        refine IfB.dc (fun h => by omega) (fun _ => ⟨_, hp3, IfB.dc (fun hc => ?_) (fun hc => decide_eq_false fun h => absurd (c3.1 (by omega)) (Rat.not_lt.2 (h.1.2 n hi')))⟩)
        rw [wrap64' (by omega) (by omega)]
        refine hX _ ⟨n + 1, by omega, by omega, fun j hj => ?_⟩ (by omega)
        by_cases e : j = n
        · subst e; exact Rat.not_lt.1 fun h => absurd (c3.2 h) (by omega)
        · exact hn j (by omega)
    · obtain ⟨d1, d2⟩ := Dot_ok (k := k) (by omega) hy h.b
      obtain ⟨c, c1, _, c3, _⟩ := signR d2 (by omega)
      rw [d1] at c3
      have hu : UnderQ A C y (fun _ => 0) := ⟨hlen, fun j hj => hn j (by omega)⟩
      exact ⟨_, _, _, Dot_says (by omega) hy h.b, c, c1, IfB.dc (fun hc => decide_eq_true ⟨hu, c3.1 hc⟩) (fun hc => decide_eq_false fun h => hc (c3.2 h.2))⟩
  · simp only [show ¬ (3 : Int) = 1 by omega, show ¬ (3 : Int) = 2 by omega, if_false]
    have hmin : (if (90 : Int) < (B.length : Int) then 90 else (B.length : Int)) = (B.length : Int) := by rw [if_neg (by omega)]
    rw [hmin]
    refine IfB.eqI (fun h => absurd h (by omega)) (fun _ => IfB.eqI (fun h => absurd h (by omega)) (fun _ => IfB.eqI (fun _ => ?_) (fun h => absurd rfl h)))
    refine ⟨⟨by omega, fits_of (by omega) (by omega), fits_of (by omega) (by omega)⟩, List.replicate B.length zeroF, ?_, IfB.eqI (fun _ => ⟨_, Does_says h hx (by omega), IfB.dc (fun hd => ?_) (fun hd => decide_eq_false fun h => hd h.1)⟩) (fun hne => absurd (by rw [hy0]; rfl) hne)⟩
    · rw [Int.toNat_natCast]; exact Ints0_says _ (by omega)
    · obtain ⟨d1, d2⟩ := Dot_ok (k := k) (by omega) h.c hz
      obtain ⟨c, c1, _, _, c4⟩ := signR d2 (by omega)
      rw [d1] at c4
      exact ⟨_, Does_says (h.zero hk1) hz (by omega), IfB.dc (fun hd2 => ⟨_, _, _, Dot_says (by omega) h.c hz, c, c1, IfB.dc (fun hc => decide_eq_true ⟨hd, hd2, c4.1 hc⟩) (fun hc => decide_eq_false fun h => hc (c4.2 h.2.2))⟩) (fun hd2 => decide_eq_false fun h => hd2 h.2.1)⟩

theorem law_checks (A : List (List Fr)) (B C : List Fr) (v : Int) (x y z : List Fr) (wA : ∀ r, r ∈ A → wsQ r) (wB : wsQ B) (wC : wsQ C) (wx : wsQ x) (wy : wsQ y) (wz : wsQ z) : offcutlaw13_ProofChecks A B C v x y z true := by
  unfold offcutlaw13_ProofChecks
  refine ⟨_, Few11_says A B C, IfB.dc (fun f1 => ⟨_, Few13_says v x y z, IfB.dc (fun f2 => ?_) (fun _ => awk13 _ _ rfl)⟩) (fun _ => awk13 _ _ rfl)⟩
  obtain ⟨fx, fy, fz⟩ := f2
  have hS := Sml_of wA wB wC f1
  have ox := okV_of wx fx; have oy := okV_of wy fy; have oz := okV_of wz fz
  have hC := Check_says (v := v) hS ox oy oz (by omega) (by omega)
  have s1 := fx.1; have s2 := fy.1; have s3 := fz.1
  have hR := Right13_says v x y z (by omega) (by omega) (by omega)
  have hr := right13_says v x y z (by omega) (by omega) (by omega)
  have hSR := Right_says hS
  by_cases hm : mayP v x y z
  · rw [show decide (mayP v x y z) = true from decide_eq_true hm] at hR hr
    by_cases hq : RightQ A B C
    · rw [show decide (RightQ A B C) = true from decide_eq_true hq] at hSR
      rw [if_pos ⟨hq, hm⟩] at hC
      have hP := Proved_says hS ox oy oz (by omega) (by omega) hq hm [] 0
      refine ⟨_, hC, true, hR, IfB_true.2 ⟨true, hr, IfB_true.2 ⟨true, hSR, IfB_true.2 ⟨true, hr, IfB_true.2 ⟨_, hP, IfB.dc (fun hh => ?_) (fun hh => ?_)⟩⟩⟩⟩⟩
      · rw [if_pos hh]; exact IfB.eqI (fun _ => awk13 _ _ rfl) (fun h => absurd rfl h)
      · rw [if_neg hh]; exact IfB.eqI (fun _ => awk13 _ _ rfl) (fun h => absurd rfl h)
    · rw [show decide (RightQ A B C) = false from decide_eq_false hq] at hSR
      rw [if_neg fun h => hq h.1] at hC
      exact ⟨_, hC, true, hR, IfB_true.2 ⟨true, hr, IfB_true.2 ⟨false, hSR, IfB_false.2 (IfB.eqI (fun _ => awk13 _ _ rfl) (fun h => absurd rfl h))⟩⟩⟩
  · rw [show decide (mayP v x y z) = false from decide_eq_false hm] at hR hr
    rw [if_neg fun h => hm h.2] at hC
    refine ⟨_, hC, false, hR, IfB_false.2 ⟨false, hr, IfB_false.2 ⟨_, hSR, IfB.dc (fun _ => ⟨false, hr, IfB_false.2 (IfB.eqI (fun _ => awk13 _ _ rfl) (fun h => absurd rfl h))⟩) (fun _ => IfB.eqI (fun _ => awk13 _ _ rfl) (fun h => absurd rfl h))⟩⟩⟩

end Go.Abs
end

section
/- ProofOne, ProofScales: no problem has two verdicts; proofs scaled are proofs. -/
namespace Go.Abs
open Go
open Classical
set_option linter.unusedVariables false
set_option linter.unusedSimpArgs false
set_option linter.unnecessarySimpa false

theorem dotQ_nil (l : List Rat) : dotQ l [] = 0 := by cases l <;> rfl
theorem dotQ_map_add {α : Type} (f g : α → Rat) : ∀ (R : List α) (y : List Rat), dotQ y (R.map fun r => f r + g r) = dotQ y (R.map f) + dotQ y (R.map g)
  | [], y => by simp only [List.map_nil, dotQ_nil]; grind
  | r :: R, [] => by simp only [dotQ]; grind
  | r :: R, a :: y => by
    simp only [List.map_cons, dotQ]
    rw [dotQ_map_add f g R y]; grind
theorem dotQ_map_mul {α : Type} (f : α → Rat) (s : Rat) : ∀ (R : List α) (y : List Rat), dotQ y (R.map fun r => f r * s) = dotQ y (R.map f) * s
  | [], y => by simp only [List.map_nil, dotQ_nil]; grind
  | r :: R, [] => by simp only [dotQ]; grind
  | r :: R, a :: y => by
    simp only [List.map_cons, dotQ]
    rw [dotQ_map_mul f s R y]; grind
theorem dotQ_zero {α : Type} : ∀ (R : List α) (y : List Rat), dotQ y (R.map fun _ => (0 : Rat)) = 0
  | [], y => by simp only [List.map_nil, dotQ_nil]
  | r :: R, [] => rfl
  | r :: R, a :: y => by
    simp only [List.map_cons, dotQ]
    rw [dotQ_zero R y]; grind
theorem dotQ_rep (n : Nat) : ∀ (x : List Rat), dotQ (List.replicate n 0) x = 0 := by
  induction n with
  | zero => intro x; cases x <;> rfl
  | succ n ih =>
    intro x
    cases x with
    | nil => rfl
    | cons a x => simp only [List.replicate_succ, dotQ]; rw [ih]; grind

theorem weak : ∀ (x c : List Rat) (R : List (List Rat)) (y : List Rat), x.length = c.length → (∀ v, v ∈ x → 0 ≤ v) → (∀ r, r ∈ R → r.length = x.length) → (∀ k, k < x.length → dotQ y (R.map fun r => r.getD k 0) ≤ c.getD k 0) → dotQ y (R.map fun r => dotQ r x) ≤ dotQ c x
  | [], c, R, y, _, _, _, _ => by
    have : (R.map fun r => dotQ r []) = R.map fun _ => (0 : Rat) := List.map_congr_left fun r _ => dotQ_nil r
    rw [this, dotQ_zero, dotQ_nil]; grind
  | x0 :: x, [], R, y, h, _, _, _ => by simp at h
  | x0 :: x, c0 :: c, R, y, h, hp, hR, hk => by
    have e : (R.map fun r => dotQ r (x0 :: x)) = R.map fun r => r.getD 0 0 * x0 + dotQ r.tail x := List.map_congr_left fun r hr => by
      have := hR r hr
      cases r with
      | nil => simp at this
      | cons r0 r => rfl
    rw [e, dotQ_map_add, dotQ_map_mul]
    have h0 := hk 0 (by simp)
    simp only [List.getD_cons_zero] at h0
    have ih := weak x c (R.map List.tail) y (by simpa using h) (fun v hv => hp v (by simp [hv])) (fun r hr => by
      obtain ⟨r', hr', rfl⟩ := List.mem_map.1 hr
      have := hR r' hr'
      simp at this ⊢; omega) (fun k hkl => by
      have := hk (k + 1) (by simp; omega)
      simp only [List.getD_cons_succ] at this
      rw [List.map_map]
      have e2 : (R.map fun r => r.getD (k + 1) 0) = R.map ((fun r => r.getD k 0) ∘ List.tail) := List.map_congr_left fun r hr => by
        have := hR r hr
        cases r with
        | nil => simp at this
        | cons r0 r => rfl
      rw [e2] at this
      exact this)
    rw [List.map_map] at ih
    have e3 : (R.map fun r => dotQ r.tail x) = R.map ((fun r => dotQ r x) ∘ List.tail) := rfl
    rw [e3]
    have hx0 := hp x0 (by simp)
    have h1 := Rat.mul_le_mul_of_nonneg_right h0 hx0
    have e4 : dotQ (c0 :: c) (x0 :: x) = c0 * x0 + dotQ c x := rfl
    rw [e4]; grind

theorem colV_q (A : List (List Fr)) (k : Nat) : colV A k = (A.map vq).map fun r => r.getD k 0 := by
  unfold colV
  rw [List.map_map]
  refine List.map_congr_left fun r _ => ?_
  show qv (r.getD k zeroF) = (r.map qv).getD k 0
  rw [List.getD_eq_getElem?_getD, List.getD_eq_getElem?_getD, List.getElem?_map]
  cases r[k]? with
  | none => exact zeroR.2.1
  | some x => rfl
theorem cV_q (C : List Fr) (k : Nat) : cV C k = (vq C).getD k 0 := by
  unfold cV
  rw [List.getD_eq_getElem?_getD, List.getD_eq_getElem?_getD, List.getElem?_map]
  cases C[k]? with
  | none => exact zeroR.2.1
  | some x => rfl
theorem b_q {A : List (List Fr)} {B C x : List Fr} (h : DoesQ A B C x) : vq B = (A.map vq).map fun r => dotQ r (vq x) := by
  obtain ⟨hr, _, _, hd⟩ := h
  refine List.ext_getElem (by simp [hr.1]) fun i h1 h2 => ?_
  simp only [vq, List.length_map] at h1 h2
  simp only [vq, List.getElem_map]
  exact (hd i h2 h1).symm

/-- What numbers for the rows tell of the cost of all that fits. -/
theorem duality {A : List (List Fr)} {B C x y : List Fr} {c : List Rat} (hd : DoesQ A B C x) (hc : c.length = C.length) (hu : ∀ k, k < C.length → dotQ (vq y) (colV A k) ≤ c.getD k 0) : dotQ (vq y) (vq B) ≤ dotQ c (vq x) := by
  rw [b_q hd]
  refine weak (vq x) c (A.map vq) (vq y) (by simp [hd.2.1, hc]) (fun v hv => ?_) (fun r hr => ?_) (fun k hk => ?_)
  · obtain ⟨w, hw, rfl⟩ := List.mem_map.1 hv
    exact hd.2.2.1 w hw
  · obtain ⟨r', hr', rfl⟩ := List.mem_map.1 hr
    simp [hd.1.2 r' hr', hd.2.1]
  · rw [← colV_q]
    exact hu k (by simp [hd.2.1] at hk; omega)
theorem dual_c {A : List (List Fr)} {B C x y : List Fr} (hd : DoesQ A B C x) (hu : UnderQ A C y (cV C)) : dotQ (vq y) (vq B) ≤ dotQ (vq C) (vq x) :=
  duality hd (by simp) fun k hk => by rw [← cV_q]; exact hu.2 k hk
theorem dual_0 {A : List (List Fr)} {B C x y : List Fr} (hd : DoesQ A B C x) (hu : UnderQ A C y fun _ => 0) : dotQ (vq y) (vq B) ≤ 0 := by
  have := duality (c := List.replicate C.length 0) hd (by simp) fun k hk => by
    rw [List.getD_eq_getElem?_getD, List.getElem?_replicate, if_pos hk]; exact hu.2 k hk
  rwa [dotQ_rep] at this
theorem vq_zero (n : Nat) : vq (List.replicate n zeroF) = List.replicate n 0 := by unfold vq; rw [List.map_replicate, zeroR.2.1]
theorem dotQ_rep' (n : Nat) (y : List Rat) : dotQ y (List.replicate n 0) = 0 := by
  have := dotQ_zero (List.replicate n ()) y
  rwa [List.map_replicate] at this

theorem notOI {A : List (List Fr)} {B C x x' y y' z z' : List Fr} (h1 : DoesQ A B C x) (h2 : HoldsQ A B C 2 x' y' z') : False := by
  unfold HoldsQ at h2
  rw [if_neg (by omega), if_pos rfl] at h2
  exact absurd h2.2 (Rat.not_lt.2 (dual_0 h1 h2.1))
theorem notOU {A : List (List Fr)} {B C x x' y y' z z' : List Fr} (h1 : HoldsQ A B C 1 x y z) (h2 : HoldsQ A B C 3 x' y' z') : False := by
  unfold HoldsQ at h1 h2
  rw [if_pos rfl] at h1
  rw [if_neg (by omega), if_neg (by omega)] at h2
  have := dual_c h2.2.1 h1.1
  rw [vq_zero, dotQ_rep'] at this
  exact absurd h2.2.2 (Rat.not_lt.2 this)
theorem does1 {A : List (List Fr)} {B C x y z : List Fr} (h1 : HoldsQ A B C 1 x y z) : DoesQ A B C x := by
  unfold HoldsQ at h1; rw [if_pos rfl] at h1; exact h1.2.1
theorem does3 {A : List (List Fr)} {B C x y z : List Fr} (h1 : HoldsQ A B C 3 x y z) : DoesQ A B C x := by
  unfold HoldsQ at h1; rw [if_neg (by omega), if_neg (by omega)] at h1; exact h1.1
theorem oneCost {A : List (List Fr)} {B C x x' y y' z z' : List Fr} (h1 : HoldsQ A B C 1 x y z) (h2 : HoldsQ A B C 1 x' y' z') : dotQ (vq C) (vq x) ≤ dotQ (vq C) (vq x') := by
  have hd := does1 h2
  unfold HoldsQ at h1
  rw [if_pos rfl] at h1
  rw [← h1.2.2]
  exact dual_c hd h1.1
theorem sameV {A : List (List Fr)} {B C x x' y y' z z' : List Fr} {v v' : Int} (m1 : mayP v x y z) (m2 : mayP v' x' y' z') (h1 : HoldsQ A B C v x y z) (h2 : HoldsQ A B C v' x' y' z') : v = v' := by
  have c1 : v = 1 ∨ v = 2 ∨ v = 3 := by rcases m1 with h | h | h <;> simp [h.1]
  have c2 : v' = 1 ∨ v' = 2 ∨ v' = 3 := by rcases m2 with h | h | h <;> simp [h.1]
  rcases c1 with rfl | rfl | rfl <;> rcases c2 with rfl | rfl | rfl <;> first | rfl | skip
  · exact (notOI (z := z) (y := y) (does1 h1) h2).elim
  · exact (notOU h1 h2).elim
  · exact (notOI (z := z) (y := y) (does1 h2) h1).elim
  · exact (notOI (z := z) (y := y) (does3 h2) h1).elim
  · exact (notOU h2 h1).elim
  · exact (notOI (z := z) (y := y) (does3 h1) h2).elim

theorem law_one (A : List (List Fr)) (B C : List Fr) (v : Int) (x y z : List Fr) (v' : Int) (x' y' z' : List Fr) (wA : ∀ r, r ∈ A → wsQ r) (wB : wsQ B) (wC : wsQ C) (wx : wsQ x) (wy : wsQ y) (wz : wsQ z) (wx' : wsQ x') (wy' : wsQ y') (wz' : wsQ z') :
    offcutlaw13_ProofOne A B C v x y z v' x' y' z' true := by
  unfold offcutlaw13_ProofOne
  refine ⟨_, Few11_says A B C, IfB.dc (fun f1 => ⟨_, Few13_says v x y z, IfB.dc (fun f2 => ⟨_, Few13_says v' x' y' z', IfB.dc (fun f3 => ?_) (fun _ => awk13 _ _ rfl)⟩) (fun _ => awk13 _ _ rfl)⟩) (fun _ => awk13 _ _ rfl)⟩
  obtain ⟨fx, fy, fz⟩ := f2
  obtain ⟨fx', fy', fz'⟩ := f3
  have hS := Sml_of wA wB wC f1
  have ox := okV_of wx fx; have oy := okV_of wy fy; have oz := okV_of wz fz
  have ox' := okV_of wx' fx'; have oy' := okV_of wy' fy'; have oz' := okV_of wz' fz'
  have h1 := Check_says (v := v) hS ox oy oz (by omega) (by omega)
  have h2 := Check_says (v := v') hS ox' oy' oz' (by omega) (by omega)
  by_cases hm : RightQ A B C ∧ mayP v x y z
  case neg => rw [if_neg hm] at h1; exact ⟨_, h1, IfB.neI (fun _ => awk13 _ _ rfl) (fun h => absurd h (by omega))⟩
  by_cases hh : HoldsQ A B C v x y z
  case neg => rw [if_pos hm, if_neg hh] at h1; exact ⟨_, h1, IfB.neI (fun _ => awk13 _ _ rfl) (fun h => absurd h (by omega))⟩
  rw [if_pos hm, if_pos hh] at h1
  refine ⟨_, h1, IfB.neI (fun h => absurd rfl h) (fun _ => ?_)⟩
  by_cases hm' : RightQ A B C ∧ mayP v' x' y' z'
  case neg => rw [if_neg hm'] at h2; exact ⟨_, h2, IfB.neI (fun _ => awk13 _ _ rfl) (fun h => absurd h (by omega))⟩
  by_cases hh' : HoldsQ A B C v' x' y' z'
  case neg => rw [if_pos hm', if_neg hh'] at h2; exact ⟨_, h2, IfB.neI (fun _ => awk13 _ _ rfl) (fun h => absurd h (by omega))⟩
  rw [if_pos hm', if_pos hh'] at h2
  refine ⟨_, h2, IfB.neI (fun h => absurd rfl h) (fun _ => ?_)⟩
  have hv := sameV hm.2 hm'.2 hh hh'
  refine IfB.eqI (fun _ => IfB.neI (fun _ => awk13 _ _ rfl) (fun h1v => ?_)) (fun h => absurd hv h)
  subst hv
  subst h1v
  obtain ⟨d1, d2⟩ := Dot_ok (k := 3) (by omega) hS.c ox
  obtain ⟨e1, e2⟩ := Dot_ok (k := 3) (by omega) hS.c ox'
  obtain ⟨c, c1, c2, _⟩ := cmpR d2 e2 (by omega) (by omega)
  refine ⟨_, _, _, Dot_says (k := 3) (by omega) hS.c ox, _, _, _, Dot_says (k := 3) (by omega) hS.c ox', c, c1, IfB.eqI (fun _ => awk13 _ _ rfl) (fun hc => absurd (c2.2 ?_) hc)⟩
  rw [d1, e1]
  exact Rat.le_antisymm (oneCost hh hh') (oneCost hh' hh)

/-! ### scaled -/
theorem Scale_says {l : List Fr} {by_ : Fr} {k : Nat} (hl : okV l k) (hb : okX by_ k) (hk : k ≤ 20) : vec_Scale l by_.1 by_.2.1 by_.2.2 (l.map fun x => mulF x by_) := by
  unfold vec_Scale
  have h8 := hl.1
  refine LoopP.intro (fun z : Int × List Fr => ∃ i : Nat, z.1 = i ∧ i ≤ l.length ∧ z.2 = (l.take i).map fun x => mulF x by_) (fun z => l.length - z.1.toNat) ⟨0, rfl, by omega, by simp⟩ ?_
  rintro X ⟨z1, z2⟩ ⟨i, e1, hi, e2⟩ hX
  dsimp only at e1 e2
  subst e1 e2
  unfold vec_Scale_L1
  refine IfB.dc (fun hlt => ?_) (fun hge => ?_)
  · have hil : i < l.length := by omega
    obtain ⟨m1, _, _⟩ := mulR (hl.2 _ (List.getElem_mem hil)) hb (by omega) (by omega)
    refine ⟨_, _, _, Idx.nat hil, _, _, _, m1, by unfold Fits; simp; omega, ?_⟩
    rw [wrap64' (by omega) (by omega)]
    refine hX _ ⟨i + 1, by simp, by omega, ?_⟩ (by dsimp only; omega)
    dsimp only
    rw [List.take_add_one, List.getElem?_eq_getElem hil, List.map_append]; rfl
  · have : i = l.length := by omega
    subst this
    rw [List.take_length]
theorem scale_ok {l : List Fr} {by_ : Fr} (hl : okV l 3) (hb : okX by_ 3) : okV (l.map fun x => mulF x by_) 8 ∧ vq (l.map fun x => mulF x by_) = (vq l).map fun q => q * qv by_ := by
  refine ⟨⟨by simp [hl.1], fun x hx => ?_⟩, ?_⟩
  · obtain ⟨w, hw, rfl⟩ := List.mem_map.1 hx
    exact (mulR (hl.2 w hw) hb (by omega) (by omega)).2.2.mono (by omega)
  · unfold vq
    rw [List.map_map, List.map_map]
    exact List.map_congr_left fun x hx => (mulR (hl.2 x hx) hb (by omega) (by omega)).2.1
theorem dotQ_sc1 (s : Rat) : ∀ (l m : List Rat), dotQ (l.map fun q => q * s) m = dotQ l m * s
  | [], m => by simp only [List.map_nil, dotQ]; grind
  | a :: l, [] => by simp only [List.map_cons, dotQ]; grind
  | a :: l, b :: m => by
    simp only [List.map_cons, dotQ]
    rw [dotQ_sc1 s l m]; grind
theorem dotQ_sc2 (s : Rat) : ∀ (l m : List Rat), dotQ l (m.map fun q => q * s) = dotQ l m * s := fun l m => by
  have := dotQ_map_mul (fun q : Rat => q) s m l
  simpa using this

theorem law_scales (A : List (List Fr)) (B C : List Fr) (v : Int) (x y z : List Fr) (b : Bool) (bn bd : List Int) (wA : ∀ r, r ∈ A → wsQ r) (wB : wsQ B) (wC : wsQ C) (wx : wsQ x) (wy : wsQ y) (wz : wsQ z) (wb : wsQ [(b, bn, bd)]) :
    offcutlaw13_ProofScales A B C v x y z b bn bd true := by
  unfold offcutlaw13_ProofScales
  refine ⟨_, Few11_says A B C, IfB.dc (fun f1 => ⟨_, Few13_says v x y z, IfB.dc (fun f2 => ⟨_, Few5_says [(b, bn, bd)], IfB.dc (fun f3 => ?_) (fun _ => awk13 _ _ rfl)⟩) (fun _ => awk13 _ _ rfl)⟩) (fun _ => awk13 _ _ rfl)⟩
  obtain ⟨fx, fy, fz⟩ := f2
  have hS := Sml_of wA wB wC f1
  have ox := okV_of wx fx; have oy := okV_of wy fy; have oz := okV_of wz fz
  have ob : okX (b, bn, bd) 3 := (okV_of wb f3).2 _ (by simp)
  obtain ⟨c, c1, _, c3, _⟩ := signR ob (by omega)
  refine ⟨c, c1, IfB.dc (fun _ => awk13 _ _ rfl) (fun hc => IfB.eqI (fun _ => awk13 _ _ rfl) (fun hv1 => ?_))⟩
  have hpos := c3.1 (by omega)
  have h1 := Check_says (v := v) hS ox oy oz (by omega) (by omega)
  by_cases hm : RightQ A B C ∧ mayP v x y z
  case neg => rw [if_neg hm] at h1; exact ⟨_, h1, IfB.neI (fun _ => awk13 _ _ rfl) (fun h => absurd h (by omega))⟩
  by_cases hh : HoldsQ A B C v x y z
  case neg => rw [if_pos hm, if_neg hh] at h1; exact ⟨_, h1, IfB.neI (fun _ => awk13 _ _ rfl) (fun h => absurd h (by omega))⟩
  rw [if_pos hm, if_pos hh] at h1
  refine ⟨_, h1, IfB.neI (fun h => absurd rfl h) (fun _ => ?_)⟩
  obtain ⟨sy, qy⟩ := scale_ok oy ob
  obtain ⟨sz, qz⟩ := scale_ok oz ob
  have h2 := Check_says (v := v) (hS.mono (show 3 ≤ 8 by omega)) (ox.mono (show 3 ≤ 8 by omega)) sy sz (by omega) (by omega)
  have hm2 : mayP v x (y.map fun x => mulF x (b, bn, bd)) (z.map fun x => mulF x (b, bn, bd)) := by
    have := hm.2; unfold mayP at this ⊢; simpa using this
  have hh2 : HoldsQ A B C v x (y.map fun x => mulF x (b, bn, bd)) (z.map fun x => mulF x (b, bn, bd)) := by
    unfold HoldsQ at hh ⊢
    rw [if_neg hv1] at hh ⊢
    rw [qy, qz]
    by_cases hv2 : v = 2
    · rw [if_pos hv2] at hh ⊢
      refine ⟨⟨by simp [hh.1.1], fun k hk => ?_⟩, ?_⟩
      · rw [qy, dotQ_sc1]
        have := Rat.mul_le_mul_of_nonneg_right (hh.1.2 k hk) (Rat.le_of_lt hpos)
        grind
      · rw [dotQ_sc1]; exact Rat.mul_pos hh.2 hpos
    · rw [if_neg hv2] at hh ⊢
      refine ⟨hh.1, ⟨hh.2.1.1, by simp [hh.2.1.2.1], fun w hw => ?_, fun i hi hi' => ?_⟩, ?_⟩
      · have : qv w ∈ vq (z.map fun x => mulF x (b, bn, bd)) := List.mem_map_of_mem hw
        rw [qz] at this
        obtain ⟨q, hq, e⟩ := List.mem_map.1 this
        obtain ⟨u, hu, rfl⟩ := List.mem_map.1 hq
        rw [← e]
        exact Rat.mul_nonneg (hh.2.1.2.2.1 u hu) (Rat.le_of_lt hpos)
      · rw [qz, dotQ_sc2, hh.2.1.2.2.2 i hi hi']
        simp only [List.getElem_replicate]
        rw [zeroR.2.1]; grind
      · rw [dotQ_sc2]
        have := Rat.mul_pos (show 0 < - dotQ (vq C) (vq z) by have := hh.2.2; grind) hpos
        grind
  rw [if_pos ⟨hm.1, hm2⟩, if_pos hh2] at h2
  exact ⟨_, Scale_says (by_ := (b, bn, bd)) oy ob (by omega), _, Scale_says (by_ := (b, bn, bd)) oz ob (by omega), _, h2, IfB.eqI (fun _ => awk13 _ _ rfl) (fun h => absurd rfl h)⟩

end Go.Abs
end
