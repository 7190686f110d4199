/- Part of a proof, in few files: LTxt2 LLin2 L13f LQ L8a L8b L8c L8d L8e L8f. -/
import Derived.Test.YtdbfgnpobfbfmaaGreatDoorMAgK24
import Derived.Test.YtdbfgnpobfbfmaaGreatDoorMAgK21
import Derived.Test.YtdbfgnpobfbfmaaGreatDoorMAgK16

section
namespace Go.Abs
open Go
set_option linter.unusedVariables false
set_option linter.unusedSimpArgs false
set_option linter.unnecessarySimpa false
theorem decT_lenW {a : List Int} (h : WS a) : (decT (val a)).length ≤ 10 * a.length + 1 := by
  refine decT_len _ _ (Nat.lt_of_lt_of_le (val_lt h) ?_)
  refine Nat.le_trans ?_ (Nat.pow_le_pow_right (show 0 < 10 by omega) (Nat.le_succ _))
  rw [Nat.pow_mul]
  exact Nat.pow_le_pow_left (by omega) _
def wtxt (z : Int) : By := if z < 0 then 45 :: decT z.natAbs else decT z.natAbs
theorem wtxt_len (p : Bool) {a : List Int} (h : WS a) : (wtxt (iV p (val a))).length ≤ 10 * a.length + 2 := by
  have := decT_lenW h
  unfold wtxt
  rw [iV_abs]
  split
  · simp; omega
  · omega
theorem whole_Text_says (p : Bool) (a : List Int) (ha : WS a) (hl : a.length ≤ 70000) : whole_Text p a (wtxt (iV p (val a))) := by
  unfold whole_Text
  have h1 := (sgn_iV p (val a)).1
  have hd := decT_lenW ha
  refine ⟨_, whole_Sign_says p a ha (by omega), IfB.dc (fun h => ⟨_, nat_Text_says a ha hl, fits_of (by simp; omega) (by omega), ?_⟩) (fun h => ⟨_, nat_Text_says a ha hl, ?_⟩)⟩
  · unfold wtxt; rw [if_pos (h1.1 h), iV_abs]; rfl
  · unfold wtxt; rw [if_neg (fun h' => h (h1.2 h')), iV_abs]
def rtxt (z : Int) (d : Nat) : By := if d = 1 then wtxt z else (wtxt z ++ [47]) ++ decT d
def lowN (x : Bool × List Int × List Int) : Nat := val x.2.1 / Nat.gcd (val x.2.1) (den1 (val x.2.2))
def lowD (x : Bool × List Int × List Int) : Nat := den1 (val x.2.2) / Nat.gcd (val x.2.1) (den1 (val x.2.2))
theorem lowD_pos (x : Bool × List Int × List Int) : 0 < lowD x := by
  unfold lowD
  exact Nat.div_pos (Nat.gcd_le_right _ (den1_pos _)) (Nat.gcd_pos_of_pos_right _ (den1_pos _))
theorem low_cop (x : Bool × List Int × List Int) : Nat.gcd (lowN x) (lowD x) = 1 := Nat.coprime_div_gcd_div_gcd (Nat.gcd_pos_of_pos_right _ (den1_pos _))
theorem den1_self {d : Nat} (h : 0 < d) : den1 d = d := by unfold den1; rw [if_neg (by omega)]
def okX (x : Bool × List Int × List Int) (k : Nat) : Prop := WS x.2.1 ∧ WS x.2.2 ∧ x.2.1.length ≤ k ∧ x.2.2.length ≤ k
theorem lowN_len {x : Bool × List Int × List Int} {k : Nat} (h : okX x k) : (words (lowN x)).length ≤ k := by
  have := words_len_le (Nat.div_le_self (val x.2.1) (Nat.gcd (val x.2.1) (den1 (val x.2.2))))
  have := wl h.1
  have := h.2.2.1
  unfold lowN; omega
theorem lowD_len {x : Bool × List Int × List Int} {k : Nat} (h : okX x k) : (words (lowD x)).length ≤ k + 1 := by
  have h1 := words_len_le (Nat.div_le_self (den1 (val x.2.2)) (Nat.gcd (val x.2.1) (den1 (val x.2.2))))
  have h2 := wl h.2.1
  have h3 := h.2.2.2
  have h4 : (words (den1 (val x.2.2))).length ≤ k + 1 := by
    unfold den1
    split
    · rw [words_one (by omega) (by omega)]; simp
    · omega
  unfold lowD; omega
def lowP (x : Bool × List Int × List Int) : Bool := x.1 && decide (lowN x ≠ 0)
def txtQ (x : Bool × List Int × List Int) : By := rtxt (iV (lowP x) (lowN x)) (lowD x)
theorem rat_Make_low {x : Bool × List Int × List Int} {k : Nat} (h : okX x k) (hk : k ≤ 60000) : rat_Make x.1 x.2.1 x.2.2 (lowP x, words (lowN x), words (lowD x)) :=
  rat_Make_says x.1 x.2.1 x.2.2 h.1 h.2.1 (by have := h.2.2.1; omega) (by have := h.2.2.2; omega)
theorem rat_Make_again {x : Bool × List Int × List Int} {k : Nat} (h : okX x k) (hk : k ≤ 60000) : rat_Make (lowP x) (words (lowN x)) (words (lowD x)) (lowP x, words (lowN x), words (lowD x)) := by
  have l1 := lowN_len h
  have l2 := lowD_len h
  have := rat_Make_says (lowP x) (words (lowN x)) (words (lowD x)) (WS_words _) (WS_words _) (by omega) (by omega)
  rw [val_words, val_words, den1_self (lowD_pos x)] at this
  unfold ratC at this
  rw [low_cop, Nat.div_one, Nat.div_one] at this
  have e : (lowP x && decide (lowN x ≠ 0)) = lowP x := by unfold lowP; cases x.1 <;> simp
  rw [e] at this
  exact this
theorem rat_Text_says {x : Bool × List Int × List Int} {k : Nat} (h : okX x k) (hk : k ≤ 60000) : rat_Text x.1 x.2.1 x.2.2 (txtQ x) := by
  unfold rat_Text
  have l1 := lowN_len h
  have l2 := lowD_len h
  have hw : ∃ b : Bool, rat_Whole (lowP x) (words (lowN x)) (words (lowD x)) b ∧ (b = true ↔ lowD x = 1) := by
    have hc := nat_Compare_says (words (lowD x)) (words 1) (WS_words _) (WS_words _) (by omega) (by rw [words_one (by omega) (by omega)]; simp)
    rw [val_words, val_words] at hc
    have hp := lowD_pos x
    by_cases h1 : lowD x = 1
    · refine ⟨true, ⟨_, _, _, rat_Make_again h hk, _, nat_Of_says 1 (by omega), _, hc, IfB.eqI (fun _ => rfl) (fun hne => ?_)⟩, by simp [h1]⟩
      rw [h1] at hne; exact absurd rfl hne
    · refine ⟨false, ⟨_, _, _, rat_Make_again h hk, _, nat_Of_says 1 (by omega), _, hc, IfB.eqI (fun he => ?_) (fun _ => rfl)⟩, by simp [h1]⟩
      unfold cmpN at he
      split at he
      · omega
      · split at he <;> omega
  obtain ⟨b, hb, hbb⟩ := hw
  have ht := whole_Text_says (lowP x) (words (lowN x)) (WS_words _) (by omega)
  have hd := nat_Text_says (words (lowD x)) (WS_words _) (by omega)
  have tl := wtxt_len (lowP x) (WS_words (lowN x))
  have dl := decT_lenW (WS_words (lowD x))
  rw [val_words] at ht hd tl dl
  refine ⟨_, _, _, rat_Make_low h hk, b, hb, IfB.intro (fun e => ⟨_, ht, ?_⟩) (fun e => ⟨_, ht, fits_of (by simp; omega) (by omega), _, hd, fits_of (by simp; omega) (by omega), ?_⟩)⟩
  · unfold txtQ rtxt; rw [if_pos (hbb.1 e)]
  · unfold txtQ rtxt; rw [if_neg (fun h' => by rw [hbb.2 h'] at e; cases e)]
theorem iV_lowP (x : Bool × List Int × List Int) : iV (lowP x) (lowN x) = iV x.1 (lowN x) := by
  unfold lowP iV
  cases x.1 with
  | false => simp
  | true => by_cases h : lowN x = 0 <;> simp [h]
theorem low_eqX (x : Bool × List Int × List Int) : iV x.1 (val x.2.1) * (lowD x : Int) = iV (lowP x) (lowN x) * (den1 (val x.2.2) : Int) := by
  rw [iV_lowP]
  have hg : 0 < Nat.gcd (val x.2.1) (den1 (val x.2.2)) := Nat.gcd_pos_of_pos_right _ (den1_pos _)
  have h1 : lowN x * Nat.gcd (val x.2.1) (den1 (val x.2.2)) = val x.2.1 := Nat.div_mul_cancel (Nat.gcd_dvd_left _ _)
  have h2 : lowD x * Nat.gcd (val x.2.1) (den1 (val x.2.2)) = den1 (val x.2.2) := Nat.div_mul_cancel (Nat.gcd_dvd_right _ _)
  have key : val x.2.1 * lowD x = lowN x * den1 (val x.2.2) := by
    rw [← h2]
    generalize Nat.gcd (val x.2.1) (den1 (val x.2.2)) = g at *
    rw [← h1, Nat.mul_assoc, Nat.mul_comm g]
  have key : (val x.2.1 : Int) * (lowD x : Int) = (lowN x : Int) * (den1 (val x.2.2) : Int) := by exact_mod_cast key
  unfold iV
  cases x.1 with
  | false => simpa using key
  | true => simp only [if_true, Int.neg_mul, key]
theorem hasP_digit {s : By} (h : allDg s) : Lib.hasPrefix s [45] = false := by
  unfold Lib.hasPrefix
  cases s with
  | nil => rfl
  | cons b l =>
    have hb := (allDg_cons.1 h).1
    unfold dg at hb
    simp only [List.isPrefixOf, Bool.and_true, beq_eq_false_iff_ne, ne_eq]
    intro e
    have : b.toNat = 45 := by rw [← e]; rfl
    omega
theorem parseR_decT {n : Nat} (h : (decT n).length ≤ 400) : parseR (decT n) = (words n, 0) := by
  unfold parseR
  rw [if_neg (by simp [decT_ne, decT_dg]), if_neg (by omega), dV_decT]
theorem wholeR_wtxt {p : Bool} {n : Nat} (h : (decT n).length ≤ 400) (hp : p = true → n ≠ 0) : wholeR (wtxt (iV p n)) = (p, words n, 0) := by
  unfold wtxt
  rw [iV_abs]
  cases p with
  | false =>
    rw [if_neg (by unfold iV; simp)]
    have e := hasP_digit (decT_dg n)
    have e2 : Lib.trimPrefix (decT n) [45] = decT n := by unfold Lib.trimPrefix; rw [e]; rfl
    unfold wholeR
    rw [e2, parseR_decT h, e]
    simp
  | true =>
    have h0 := hp rfl
    rw [if_pos (by unfold iV; simp; omega)]
    have e : Lib.hasPrefix (45 :: decT n) [45] = true := by simp [Lib.hasPrefix, List.isPrefixOf]
    have e2 : Lib.trimPrefix (45 :: decT n) [45] = decT n := by unfold Lib.trimPrefix; rw [e]; rfl
    unfold wholeR
    rw [e2, parseR_decT h, e]
    simp [val_words, h0]
theorem dg_ne {b : UInt8} (h : dg b) (c : UInt8) (hc : c.toNat < 48) : b ≠ c := by
  rintro rfl; unfold dg at h; omega
theorem wtxt_no47 (z : Int) : ∀ b, b ∈ wtxt z → b ≠ 47 := by
  intro b hb
  unfold wtxt at hb
  split at hb
  · rcases List.mem_cons.1 hb with rfl | hb
    · decide
    · exact dg_ne (decT_dg _ b hb) 47 (by decide)
  · exact dg_ne (decT_dg _ b hb) 47 (by decide)
theorem indexNo {s : By} {c : UInt8} (h : ∀ b, b ∈ s → b ≠ c) : Lib.index s [c] = -1 := by
  induction s with
  | nil => simp [Lib.index]
  | cons b l ih =>
    have hi := index1_cons b c l
    rw [if_neg (h b (by simp)), ih fun x hx => h x (by simp [hx])] at hi
    simpa using hi
theorem indexAt {a b : By} {c : UInt8} (h : ∀ x, x ∈ a → x ≠ c) : Lib.index (a ++ c :: b) [c] = a.length := by
  induction a with
  | nil =>
    have hi := index1_cons c c b
    rw [if_pos rfl] at hi
    simpa using hi
  | cons x l ih =>
    have hi := index1_cons x c (l ++ c :: b)
    rw [if_neg (h x (by simp)), ih fun y hy => h y (by simp [hy])] at hi
    have e : ((l.length : Int) == -1) = false := by rw [beq_eq_false_iff_ne]; omega
    rw [e] at hi
    simp only [Bool.false_eq_true, if_false] at hi
    rw [List.cons_append, hi]; simp
theorem cutNo {s : By} {c : UInt8} (h : ∀ b, b ∈ s → b ≠ c) : Lib.cut s [c] = (s, [], false) := by
  unfold Lib.cut
  rw [indexNo h, if_neg (by omega)]
theorem cutAt {a b : By} {c : UInt8} (h : ∀ x, x ∈ a → x ≠ c) : Lib.cut (a ++ c :: b) [c] = (a, b, true) := by
  unfold Lib.cut
  rw [indexAt h, if_pos (by omega)]
  simp
theorem ratR_txt {p : Bool} {n d : Nat} (hn : (decT n).length ≤ 400) (hd : (decT d).length ≤ 400) (hp : p = true → n ≠ 0) (hc : Nat.gcd n d = 1) (hd0 : 0 < d) : ratR (rtxt (iV p n) d) = (p, words n, words d, 0) := by
  have fin : ∀ e, val (words e) = e := val_words
  have hC : ratC p n d = (p, words n, words d) := by
    unfold ratC
    rw [hc, Nat.div_one, Nat.div_one]
    cases p with
    | false => rfl
    | true => have := hp rfl; simp [this]
  unfold rtxt ratR
  by_cases h1 : d = 1
  · subst h1
    rw [if_pos rfl, cutNo (wtxt_no47 _)]
    simp only [Bool.false_eq_true, if_false]
    rw [wholeR_wtxt hn hp, show ([49] : By) = decT 1 from by rw [decT_lt (by omega)]; rfl, parseR_decT hd]
    dsimp only
    rw [if_neg (by simp), if_neg (by simp), if_neg (by rw [val_words]; omega), val_words, val_words, hC]
  · rw [if_neg h1, List.append_assoc, List.singleton_append, cutAt (wtxt_no47 _)]
    simp only [if_true]
    rw [wholeR_wtxt hn hp, parseR_decT hd]
    dsimp only
    rw [if_neg (by simp), if_neg (by simp), if_neg (by rw [val_words]; omega), val_words, val_words, hC]
end Go.Abs
end

section
namespace Go.Abs
open Go
set_option linter.unusedVariables false
set_option linter.unusedSimpArgs false
set_option linter.unnecessarySimpa false
abbrev Bs := List UInt8
def wdOK (w : Bs) : Prop := w ≠ [] ∧ ∀ b, b ∈ w → 33 ≤ b.toNat ∧ b.toNat ≤ 126 ∧ b.toNat ≠ 35
theorem wd_sp {w : Bs} (h : wdOK w) : w ≠ [] ∧ ∀ b, b ∈ w → Lib.isSp b = false := by
  refine ⟨h.1, fun b hb => ?_⟩
  have hr := h.2 b hb
  have k : ∀ c : Nat, c < 256 → b.toNat ≠ c → (b == c.toUInt8) = false := fun c hc h => by
    rw [beq_eq_false_iff_ne]; exact fun e => h ((u8 hc).2 e)
  have h9 := k 9 (by decide) (by omega); have h10 := k 10 (by decide) (by omega); have h11 := k 11 (by decide) (by omega); have h12 := k 12 (by decide) (by omega); have h13 := k 13 (by decide) (by omega); have h32 := k 32 (by decide) (by omega)
  unfold Lib.isSp
  simp at h9 h10 h11 h12 h13 h32 ⊢
  exact ⟨⟨⟨⟨⟨h9, h10⟩, h11⟩, h12⟩, h13⟩, h32⟩
def lineT (ws : Ws) : Bs := Lib.join ws [32]
theorem line_mem {ws : Ws} (h : ∀ w, w ∈ ws → wdOK w) {b : UInt8} (hb : b ∈ lineT ws) : 32 ≤ b.toNat ∧ b.toNat ≤ 126 ∧ b.toNat ≠ 35 := by
  rcases join_mem hb with rfl | ⟨w, hw, hb⟩
  · decide
  · have := (h w hw).2 b hb; omega
theorem line_words {ws : Ws} (h : ∀ w, w ∈ ws → wdOK w) : wordsOf (lineT ws) = ws := by
  unfold wordsOf
  rw [head_none fun b hb e => by have := line_mem h hb; subst e; simp at this]
  exact fields_join fun w hw => wd_sp (h w hw)
theorem split_line : ∀ (a rest : Bs), (∀ b, b ∈ a → b ≠ 10) → splitC 10 (a ++ 10 :: rest) = a :: splitC 10 rest
  | [], rest, _ => by simp [splitC]
  | b :: a, rest, h => by
    have := split_line a rest fun c hc => h c (by simp [hc])
    rw [List.cons_append, splitC, if_neg (h b (by simp)), this]
def linesT : List Ws → Bs
  | [] => []
  | ws :: r => lineT ws ++ 10 :: linesT r
def linesN (k : Int) : List Ws → Ls
  | [] => []
  | ws :: r => (k + 1, ws) :: linesN (k + 1) r
theorem linesFrom_T : ∀ (l : List Ws) (k : Int) (rest : Bs), (∀ ws, ws ∈ l → ws ≠ [] ∧ ∀ w, w ∈ ws → wdOK w) → linesFrom k (splitC 10 (linesT l ++ rest)) = linesN k l ++ linesFrom (k + l.length) (splitC 10 rest)
  | [], k, rest, _ => by simp [linesT, linesN]
  | ws :: l, k, rest, h => by
    obtain ⟨h1, h2⟩ := h ws (by simp)
    have ih := linesFrom_T l (k + 1) rest fun w hw => h w (by simp [hw])
    have e : linesT (ws :: l) ++ rest = lineT ws ++ 10 :: (linesT l ++ rest) := by simp [linesT]
    rw [e, split_line _ _ fun b hb e => by have := line_mem h2 hb; subst e; simp at this]
    have hp : 0 < (wordsOf (lineT ws)).length := by rw [line_words h2]; exact List.length_pos_iff.2 h1
    rw [linesFrom, if_pos hp, line_words h2, ih]
    simp only [linesN, List.cons_append, List.length_cons]
    congr 3
    omega
theorem linesT_right : ∀ (l : List Ws), (∀ ws, ws ∈ l → ∀ w, w ∈ ws → wdOK w) → ∀ b, b ∈ linesT l → mayB b
  | [], _, b, hb => by simp [linesT] at hb
  | ws :: l, h, b, hb => by
    rw [linesT] at hb
    rcases List.mem_append.1 hb with hb | hb
    · have := line_mem (h ws (by simp)) hb; unfold mayB; omega
    · rcases List.mem_cons.1 hb with rfl | hb
      · unfold mayB; decide
      · exact linesT_right l (fun w hw => h w (by simp [hw])) b hb
theorem rightP_of {s : Bs} (h : ∀ b, b ∈ s → mayB b) : RightP s := fun i b hi hb => h b (List.mem_of_getElem? hb)
theorem lines_Join_says {l : Ws} (h : wlen l ≤ 1000000) : lines_Join l (lineT l) := ⟨_, strings_Join_says h, rfl⟩
theorem linesFrom_end (k : Int) : linesFrom k (splitC 10 []) = [] := by
  simp [splitC, linesFrom, wordsOf, head35, Lib.cut, Lib.index, Lib.fields, Lib.fieldsGo]
theorem allL_T {l : List Ws} (h : ∀ ws, ws ∈ l → ws ≠ [] ∧ ∀ w, w ∈ ws → wdOK w) : allL (linesT l) = linesN 0 l := by
  have := linesFrom_T l 0 [] h
  rw [List.append_nil, linesFrom_end, List.append_nil] at this
  exact this
theorem linesT_rightP {l : List Ws} (h : ∀ ws, ws ∈ l → ws ≠ [] ∧ ∀ w, w ∈ ws → wdOK w) : RightP (linesT l) := rightP_of (linesT_right l fun ws hw => (h ws hw).2)
end Go.Abs
end

section
namespace Go.Abs
open Go
set_option linter.unusedVariables false
set_option linter.unusedSimpArgs false
set_option linter.unnecessarySimpa false
def FewP (l : List Q3) : Prop := l.length ≤ 8 ∧ ∀ x, x ∈ l → x.2.1.length ≤ 3 ∧ x.2.2.length ≤ 3
instance (l : List Q3) : Decidable (FewP l) := inferInstanceAs (Decidable (_ ∧ _))
def mayP (v : Int) (x y z : List Q3) : Prop := (v = 1 ∧ z = []) ∨ (v = 2 ∧ x = [] ∧ z = []) ∨ (v = 3 ∧ y = [])
instance (v : Int) (x y z : List Q3) : Decidable (mayP v x y z) := inferInstanceAs (Decidable (_ ∨ _))
end Go.Abs
end

section
namespace Go.Abs
open Go
set_option linter.unusedVariables false
set_option linter.unusedSimpArgs false
set_option linter.unnecessarySimpa false
abbrev Fr := Bool × List Int × List Int
def qv (x : Fr) : Rat := Rat.divInt (iV x.1 (val x.2.1)) (den1 (val x.2.2))
theorem divInt_le {a c b d : Int} (hb : 0 < b) (hd : 0 < d) : Rat.divInt a b ≤ Rat.divInt c d ↔ a * d ≤ c * b := by
  rw [Rat.le_iff_sub_nonneg, Rat.sub_eq_add_neg, Rat.neg_divInt, Rat.divInt_add_divInt _ _ (by omega) (by omega), Rat.divInt_nonneg_iff_of_pos_right (Int.mul_pos hd hb), Int.neg_mul]
  omega
theorem divInt_eq {a c b d : Int} (hb : 0 < b) (hd : 0 < d) : Rat.divInt a b = Rat.divInt c d ↔ a * d = c * b := Rat.divInt_eq_divInt_iff (by omega) (by omega)
theorem divInt_lt {a c b d : Int} (hb : 0 < b) (hd : 0 < d) : Rat.divInt a b < Rat.divInt c d ↔ a * d < c * b := by
  rw [← Rat.not_le, divInt_le hd hb]; omega
theorem d1p (n : Nat) : (0 : Int) < (den1 n : Int) := by have := den1_pos n; omega
theorem qv_ratQ {z : Int} {d : Nat} (hd : 0 < d) : qv (ratQ z d) = Rat.divInt z d := by
  unfold qv ratQ
  dsimp only
  have hg : 0 < Nat.gcd z.natAbs d := Nat.gcd_pos_of_pos_right _ hd
  have h1 : z.natAbs / Nat.gcd z.natAbs d * Nat.gcd z.natAbs d = z.natAbs := Nat.div_mul_cancel (Nat.gcd_dvd_left _ _)
  have h2 : d / Nat.gcd z.natAbs d * Nat.gcd z.natAbs d = d := Nat.div_mul_cancel (Nat.gcd_dvd_right _ _)
  have h3 : 0 < d / Nat.gcd z.natAbs d := Nat.div_pos (Nat.gcd_le_right _ hd) hg
  rw [val_words, val_words, den1_self h3, divInt_eq (by omega) (by omega)]
  generalize Nat.gcd z.natAbs d = g at *
  generalize z.natAbs / g = n' at *
  generalize d / g = d' at *
  subst h2
  unfold iV
  by_cases hz : z < 0
  · simp only [hz, decide_true, if_true]
    have e : z = -((n' * g : Nat) : Int) := by omega
    rw [e]; push_cast
    rw [Int.neg_mul, Int.neg_mul]
    congr 1
    rw [Int.mul_assoc, Int.mul_comm (g : Int)]
  · simp only [hz, decide_false, Bool.false_eq_true, if_false]
    have e : z = ((n' * g : Nat) : Int) := by omega
    rw [e]; push_cast
    rw [Int.mul_assoc, Int.mul_comm (g : Int)]
theorem ratQ_ok {z : Int} {d k : Nat} (hz : (words z.natAbs).length ≤ k) (hd : (words d).length ≤ k) : okX (ratQ z d) k :=
  ⟨WS_words _, WS_words _, Nat.le_trans (words_len_le (Nat.div_le_self _ _)) hz, Nat.le_trans (words_len_le (Nat.div_le_self _ _)) hd⟩
theorem okX.mono {x : Fr} {a b : Nat} (h : okX x a) (hab : a ≤ b) : okX x b := ⟨h.1, h.2.1, Nat.le_trans h.2.2.1 hab, Nat.le_trans h.2.2.2 hab⟩
theorem den_len {l : List Int} {k : Nat} (hw : WS l) (hl : l.length ≤ k) : (words (den1 (val l))).length ≤ k + 1 := by
  have := wl hw
  unfold den1
  split
  · rw [words_one (by omega) (by omega)]; simp
  · omega
theorem mulw (a b : Nat) : (words (a * b)).length ≤ (words a).length + (words b).length := by
  have := words_mul_len (WS_words a) (WS_words b)
  rwa [val_words, val_words] at this
def mulF (x y : Fr) : Fr := ratQ (iV x.1 (val x.2.1) * iV y.1 (val y.2.1)) (den1 (val x.2.2) * den1 (val y.2.2))
theorem mulR {x y : Fr} {a b : Nat} (hx : okX x a) (hy : okX y b) (ha : a ≤ 10000) (hb : b ≤ 10000) : rat_Mul x.1 x.2.1 x.2.2 y.1 y.2.1 y.2.2 (mulF x y) ∧ qv (mulF x y) = qv x * qv y ∧ okX (mulF x y) (a + b + 2) := by
  unfold mulF
  refine ⟨rat_Mul_says x.1 x.2.1 x.2.2 y.1 y.2.1 y.2.2 hx.1 hx.2.1 hy.1 hy.2.1 (by have := hx.2.2.1; omega) (by have := hx.2.2.2; omega) (by have := hy.2.2.1; omega) (by have := hy.2.2.2; omega), ?_, ratQ_ok ?_ ?_⟩
  · rw [qv_ratQ (Nat.mul_pos (den1_pos _) (den1_pos _))]
    unfold qv
    rw [Rat.divInt_mul_divInt]; push_cast; rfl
  · rw [Int.natAbs_mul, iV_abs, iV_abs]
    have h1 := mulw (val x.2.1) (val y.2.1)
    have h2 := wl hx.1; have h3 := wl hy.1
    have h4 := hx.2.2.1; have h5 := hy.2.2.1
    omega
  · have h1 := mulw (den1 (val x.2.2)) (den1 (val y.2.2))
    have h2 := den_len hx.2.1 hx.2.2.2
    have h3 := den_len hy.2.1 hy.2.2.2
    omega
theorem cmpR {x y : Fr} {a b : Nat} (hx : okX x a) (hy : okX y b) (ha : a ≤ 20000) (hb : b ≤ 20000) : ∃ c, rat_Compare x.1 x.2.1 x.2.2 y.1 y.2.1 y.2.2 c ∧ (c = 0 ↔ qv x = qv y) ∧ (c > 0 ↔ qv y < qv x) ∧ (c < 0 ↔ qv x < qv y) := by
  refine ⟨_, rat_Compare_says x.1 x.2.1 x.2.2 y.1 y.2.1 y.2.2 hx.1 hx.2.1 hy.1 hy.2.1 (by have := hx.2.2.1; omega) (by have := hx.2.2.2; omega) (by have := hy.2.2.1; omega) (by have := hy.2.2.2; omega), ?_⟩
  unfold qv
  rw [divInt_eq (d1p _) (d1p _), divInt_lt (d1p _) (d1p _), divInt_lt (d1p _) (d1p _)]
  generalize iV x.1 (val x.2.1) * (den1 (val y.2.2) : Int) = A
  generalize iV y.1 (val y.2.1) * (den1 (val x.2.2) : Int) = B
  unfold cmpZ
  split
  · omega
  · split <;> omega
theorem signR {x : Fr} {a : Nat} (hx : okX x a) (ha : a ≤ 20000) : ∃ c, rat_Sign x.1 x.2.1 x.2.2 c ∧ (c = 0 ↔ qv x = 0) ∧ (c > 0 ↔ 0 < qv x) ∧ (c < 0 ↔ qv x < 0) := by
  refine ⟨_, ⟨_, whole_Sign_says x.1 x.2.1 hx.1 (by have := hx.2.2.1; omega), rfl⟩, ?_⟩
  have h := sgn_iV x.1 (val x.2.1)
  have e : (0 : Rat) = Rat.divInt 0 1 := by rw [Rat.zero_divInt]
  unfold qv
  rw [e, divInt_eq (d1p _) (by omega), divInt_lt (d1p _) (by omega), divInt_lt (by omega) (d1p _)]
  obtain ⟨h1, h2, h3, h4⟩ := h
  generalize iV x.1 (val x.2.1) = A at *
  generalize sgn x.1 (val x.2.1) = C at *
  refine ⟨?_, ?_, ?_⟩ <;> omega
def lowX (x : Fr) : Fr := (lowP x, words (lowN x), words (lowD x))
theorem makeR {x : Fr} {a : Nat} (hx : okX x a) (ha : a ≤ 20000) : rat_Make x.1 x.2.1 x.2.2 (lowX x) ∧ qv (lowX x) = qv x ∧ okX (lowX x) (a + 1) := by
  refine ⟨rat_Make_low hx (by omega), ?_, WS_words _, WS_words _, Nat.le_trans (lowN_len hx) (by omega), lowD_len hx⟩
  unfold qv lowX
  dsimp only
  rw [val_words, val_words, den1_self (lowD_pos x), divInt_eq (by have := lowD_pos x; omega) (d1p _)]
  exact (low_eqX x).symm
def zeroF : Fr := (false, [], words 1)
theorem zeroR : rat_Int 0 zeroF ∧ qv zeroF = 0 ∧ okX zeroF 1 := by
  refine ⟨rat_Int0, ?_, WS_nil, WS_words _, by simp [zeroF], by unfold zeroF; rw [words_one (by omega) (by omega)]; simp⟩
  unfold qv iV zeroF
  simp only [val_nil, Bool.false_eq_true, if_false]
  exact Rat.zero_divInt _
end Go.Abs
end

section
namespace Go.Abs
open Go
set_option linter.unusedVariables false
set_option linter.unusedSimpArgs false
set_option linter.unnecessarySimpa false
abbrev Tm := Bool × Option By × By
abbrev TM := By × Bool × List Int × List Int
noncomputable def nameB (w : By) : Bool := @decide (NameP w) (Classical.propDecidable _)
theorem nameB_iff (w : By) : nameB w = true ↔ NameP w := by unfold nameB; exact @decide_eq_true_iff _ (Classical.propDecidable _)
def signS (first : Bool) (l : Ws) : Option (Bool × Ws) :=
  match l with
  | [] => if first then some (false, []) else none
  | w :: r => if w = [45] then some (true, r) else if first then some (false, w :: r) else if w = [43] then some (false, r) else none
def numS (l : Ws) : Option By × Ws := match l with | [] => (none, []) | w :: r => if numU w then (some w, r) else (none, w :: r)
noncomputable def nameS (neg : Bool) (l : Ws) : Option (Tm × Ws) :=
  match (numS l).2 with | [] => none | w :: r => if nameB w then some ((neg, (numS l).1, w), r) else none
noncomputable def stepS (first : Bool) (l : Ws) : Option (Tm × Ws) := match signS first l with | none => none | some (neg, l1) => nameS neg l1
theorem numS_len (l : Ws) : (numS l).2.length ≤ l.length := by
  unfold numS; cases l with
  | nil => simp
  | cons w r => simp only; split <;> simp
theorem nameS_lt {neg : Bool} {l : Ws} {t : Tm} {r : Ws} (h : nameS neg l = some (t, r)) : r.length < l.length := by
  unfold nameS at h
  have := numS_len l
  split at h
  · cases h
  · rename_i w r' e
    rw [e] at this
    split at h
    · cases h; simp at this; omega
    · cases h
theorem signS_len {first : Bool} {l l1 : Ws} {neg : Bool} (h : signS first l = some (neg, l1)) : l1.length ≤ l.length := by
  unfold signS at h
  split at h
  · split at h <;> cases h; simp
  · split at h
    · cases h; simp
    · split at h
      · cases h; simp
      · split at h <;> cases h; simp
theorem stepS_lt {first : Bool} {l : Ws} {t : Tm} {r : Ws} (h : stepS first l = some (t, r)) : r.length < l.length := by
  unfold stepS at h
  split at h
  · cases h
  · rename_i neg l1 e
    have := signS_len e; have := nameS_lt h; omega
noncomputable def sumS (first : Bool) (l : Ws) : Option (List Tm) :=
  if first = false ∧ l = [] then some [] else
  match h : stepS first l with
  | none => none
  | some (t, r) => (sumS false r).map (t :: ·)
termination_by l.length
decreasing_by exact stepS_lt h
theorem sumS_nil : sumS false [] = some [] := by rw [sumS]; simp
theorem sumS_step {first : Bool} {l : Ws} (hl : first = true ∨ l ≠ []) : sumS first l = match stepS first l with | none => none | some (t, r) => (sumS false r).map (t :: ·) := by
  rw [sumS, if_neg (by rintro ⟨h1, h2⟩; rcases hl with h | h; · rw [h1] at h; cases h
                       · exact h h2)]
  split <;> rename_i h <;> rw [h]
noncomputable def sumW (l : Ws) : Option (List Tm) := if l = [[48]] then some [] else sumS true l
def sgF (neg : Bool) : Fr := (neg, words 1, words 1)
theorem sg1 (neg : Bool) : rat_Int (if neg then -1 else 1) (sgF neg) := by
  have w1 : (words 1).length ≤ 70000 := by rw [words_one (by omega) (by omega)]; simp
  have hm : whole_Make neg (words 1) (neg, words 1) := by
    have := whole_Make_says neg (words 1) (WS_words 1) (by omega)
    rw [val_words] at this
    simpa using this
  have hr : rat_Make neg (words 1) (words 1) (sgF neg) := by
    have := rat_Make_says neg (words 1) (words 1) (WS_words 1) (WS_words 1) w1 w1
    rw [val_words] at this
    have e : ratC neg 1 (den1 1) = sgF neg := by unfold ratC den1 sgF; simp
    rwa [e] at this
  have h1 := nat_Of_says 1 (by omega)
  unfold rat_Int whole_Of
  cases neg with
  | true => exact ⟨true, words 1, IfB_true.2 ⟨words 1, h1, true, words 1, hm, rfl⟩, words 1, h1, _, _, _, hr, rfl⟩
  | false => exact ⟨false, words 1, IfB_false.2 ⟨words 1, h1, false, words 1, hm, rfl⟩, words 1, h1, _, _, _, hr, rfl⟩
theorem sgF_ok (neg : Bool) : okX (sgF neg) 1 := ⟨WS_words 1, WS_words 1, by unfold sgF; rw [words_one (by omega) (by omega)]; simp, by unfold sgF; rw [words_one (by omega) (by omega)]; simp⟩
def numV : Option By → Fr | none => sgF false | some w => numOf w
theorem numOf_okX (w : By) : okX (numOf w) 10000 := ⟨(numOf_ok w).1, (numOf_ok w).2.1, (numOf_ok w).2.2.1, (numOf_ok w).2.2.2⟩
theorem numV_ok (o : Option By) : okX (numV o) 10000 := by
  cases o with
  | none => exact (sgF_ok false).mono (by omega)
  | some w => exact numOf_okX w
def tmV (t : Tm) : Fr := mulF (sgF t.1) (numV t.2.1)
theorem tmV_mul (neg : Bool) (o : Option By) (n : By) : rat_Mul (sgF neg).1 (sgF neg).2.1 (sgF neg).2.2 (numV o).1 (numV o).2.1 (numV o).2.2 (tmV (neg, o, n)) := (mulR (sgF_ok neg) (numV_ok o) (by omega) (by omega)).1
theorem tmV_ok (t : Tm) : okX (tmV t) 10003 := (mulR (sgF_ok t.1) (numV_ok t.2.1) (by omega) (by omega)).2.2
theorem tmV_qv (t : Tm) : qv (tmV t) = qv (sgF t.1) * qv (numV t.2.1) := (mulR (sgF_ok t.1) (numV_ok t.2.1) (by omega) (by omega)).2.1
def tmM (t : Tm) : TM := (t.2.2, tmV t)
theorem first_at : ∀ {w : By} {c : UInt8}, c ∈ w → ∃ a b, w = a ++ c :: b ∧ ∀ x, x ∈ a → x ≠ c
  | [], c, h => by cases h
  | y :: l, c, h => by
    by_cases hy : y = c
    · exact ⟨[], l, by rw [hy]; rfl, by simp⟩
    · have hc : c ∈ l := by
        rcases List.mem_cons.1 h with e | e
        · exact absurd e.symm hy
        · exact e
      obtain ⟨a, b, e, ha⟩ := first_at hc
      refine ⟨y :: a, b, by rw [e]; rfl, fun x hx => ?_⟩
      rcases List.mem_cons.1 hx with rfl | hx
      · exact hy
      · exact ha x hx
theorem contains_one (w : By) (c : UInt8) : Lib.contains w [c] = decide (c ∈ w) := by
  unfold Lib.contains
  by_cases h : c ∈ w
  · rw [decide_eq_true h]
    obtain ⟨a, b, rfl, ha⟩ := first_at h
    rw [indexAt ha]; simp
  · rw [indexNo (fun b hb e => h (by rw [← e]; exact hb))]; simp [h]
theorem numU_no45 {w : By} (h : (45 : UInt8) ∈ w) : numU w = false := by
  have hd : ∀ s : By, (45 : UInt8) ∈ s → ¬ dgOK s := fun s hs hk => by have := hk.2.1 _ hs; unfold dg at this; revert this; decide
  unfold numU
  split
  · rename_i hc
    have hw : w = (Lib.cut w [47]).1 ++ 47 :: (Lib.cut w [47]).2.1 := by
      by_cases hs : (47 : UInt8) ∈ w
      · obtain ⟨a, b, rfl, ha⟩ := first_at hs; rw [cut_app ha]
      · rw [cut_no (fun x hx e => hs (by rw [← e]; exact hx))] at hc; cases hc
    rw [hw] at h
    rcases List.mem_append.1 h with h | h
    · rw [decide_eq_false (hd _ h)]; simp
    · rcases List.mem_cons.1 h with h | h
      · exact absurd h (by decide)
      · rw [decide_eq_false (hd _ h)]; simp
  · rw [decide_eq_false (hd _ h)]
theorem numU_isN' {w : By} (h : (45 : UInt8) ∉ w) : numU w = decide (isN w) := by
  have := numU_isN w
  cases w with
  | nil => exact this
  | cons b l =>
    rw [trimP_cons, if_neg (fun e => h (by rw [e]; simp))] at this
    exact this
end Go.Abs
end

section
namespace Go.Abs
open Go
set_option linter.unusedVariables false
set_option linter.unusedSimpArgs false
set_option linter.unnecessarySimpa false
theorem IfB.be {α : Type} [BEq α] [LawfulBEq α] {a b : α} {A B : Prop} (h1 : a = b → A) (h2 : a ≠ b → B) : IfB (a == b) A B := ⟨fun h => h1 (by simpa using h), fun h => h2 (by simpa using h)⟩
theorem IfB.nbe {α : Type} [BEq α] [LawfulBEq α] {a b : α} {A B : Prop} (h1 : a ≠ b → A) (h2 : a = b → B) : IfB (!(a == b)) A B := ⟨fun h => h1 (by simpa using h), fun h => h2 (by simpa using h)⟩
noncomputable def nameN (neg : Bool) (o : Option By) (l : Ws) : Option (Tm × Ws) := match l with | [] => none | w :: r => if nameB w then some ((neg, o, w), r) else none
theorem nameS_eq (neg : Bool) (l : Ws) : nameS neg l = nameN neg (numS l).1 (numS l).2 := rfl
abbrev SX := Ws × Bool × List TM
def KS (X : SX → Prop) (r : List TM × Bool) (out : List TM) : Option (Tm × Ws) → Prop
  | none => r = ([], false)
  | some (t, rest) => X (rest, false, out ++ [tmM t])
def NmC (sg v : Fr) (l : Ws) (out : List TM) (X : SX → Prop) (r : List TM × Bool) : Prop :=
  ∃ x25 : By, Idx l (0 : Int) x25 ∧ ∃ x27 : Bool, lines_Name x25 x27 ∧ IfB x27
    (∃ x29 : By, Idx l (0 : Int) x29 ∧ ∃ (x31 : Bool) (x32 : List Int) (x33 : List Int), rat_Mul sg.1 sg.2.1 sg.2.2 v.1 v.2.1 v.2.2 (x31, x32, x33) ∧
     Fits (out.length + [(x29, x31, x32, x33)].length) 72 ∧ SubOk l (1 : Int) (l.length : Int) ∧ X (sub l (1 : Int) (l.length : Int), false, out ++ [(x29, x31, x32, x33)]))
    (r = (([] : List TM), false))
def DC (sg one : Fr) (l : Ws) (out : List TM) (X : SX → Prop) (r : List TM × Bool) : Prop :=
  ∃ x89 : By, Idx l (0 : Int) x89 ∧ ∃ x91 : Bool, strings_Contains x89 ([45] : List UInt8) x91 ∧ IfB x91 (NmC sg one l out X r)
    (∃ x105 : By, Idx l (0 : Int) x105 ∧ ∃ (x107 : Bool) (x108 : List Int) (x109 : List Int) (x110 : Bool), lines_Number x105 (x107, x108, x109, x110) ∧
     IfB x110 (SubOk l (1 : Int) (l.length : Int) ∧ IfB (((sub l (1 : Int) (l.length : Int)).length : Int) == (0 : Int)) (r = (([] : List TM), false)) (NmC sg (x107, x108, x109) (sub l (1 : Int) (l.length : Int)) out X r))
       (NmC sg one l out X r))
def EC (sg one : Fr) (l : Ws) (out : List TM) (X : SX → Prop) (r : List TM × Bool) : Prop :=
  IfB (decide ((l.length : Int) > (0 : Int))) (DC sg one l out X r) (IfB ((l.length : Int) == (0 : Int)) (r = (([] : List TM), false)) (NmC sg one l out X r))
theorem nmP {neg : Bool} {o : Option By} {l : Ws} {out : List TM} {X : SX → Prop} {r : List TM × Bool} (hl : l ≠ []) (ho : out.length ≤ 1000000) (h : KS X r out (nameN neg o l)) : NmC (sgF neg) (numV o) l out X r := by
  cases l with
  | nil => exact absurd rfl hl
  | cons w t =>
    refine ⟨w, idx0 w t, nameB w, lines_Name_says (nameB_iff w), IfB.bool (fun hn => ?_) (fun hn => ?_)⟩
    · simp only [nameN, hn, if_true, KS] at h
      refine ⟨w, idx0 w t, _, _, _, tmV_mul neg o w, by unfold Fits; simp; omega, subok_tail w t, ?_⟩
      rw [sub_tail]; exact h
    · simp only [nameN, hn, KS] at h
      exact h
theorem dcP {neg : Bool} {l : Ws} {out : List TM} {X : SX → Prop} {r : List TM × Bool} (hl : l ≠ []) (hw : ∀ w, w ∈ l → w.length ≤ 1000000) (ho : out.length ≤ 1000000) (h : KS X r out (nameS neg l)) : DC (sgF neg) (sgF false) l out X r := by
  have hnone : numU (l.head hl) = false → NmC (sgF neg) (sgF false) l out X r := fun hn => by
    refine nmP (o := none) hl ho ?_
    rw [nameS_eq] at h
    cases l with
    | nil => exact absurd rfl hl
    | cons w t => simp only [List.head_cons] at hn; simpa [numS, hn] using h
  cases l with
  | nil => exact absurd rfl hl
  | cons w t =>
    refine ⟨w, idx0 w t, _, ⟨by unfold Short; have := hw w (by simp); omega, rfl⟩, ?_⟩
    rw [contains_one]
    refine IfB.dec (fun hc => hnone (numU_no45 hc)) (fun hc => ?_)
    refine ⟨w, idx0 w t, ?_⟩
    have hs := lines_Number_says w (hw w (by simp))
    have hu := numU_isN' hc
    by_cases hn : isN w
    · rw [if_pos hn] at hs
      rw [decide_eq_true hn] at hu
      refine ⟨_, _, _, true, hs, IfB_true.2 ⟨subok_tail w t, ?_⟩⟩
      rw [sub_tail]
      have h' : KS X r out (nameN neg (some w) t) := by rw [nameS_eq] at h; simpa [numS, hu] using h
      refine IfB.eqi (fun h0 => ?_) (fun h0 => ?_)
      · have : t = [] := List.length_eq_zero_iff.1 (by omega)
        subst this; exact h'
      · exact nmP (o := some w) (fun e => h0 (by rw [e]; rfl)) ho h'
    · rw [if_neg hn] at hs
      rw [decide_eq_false hn] at hu
      exact ⟨_, _, _, false, hs, IfB_false.2 (hnone hu)⟩
theorem ecP {neg : Bool} {l : Ws} {out : List TM} {X : SX → Prop} {r : List TM × Bool} (hw : ∀ w, w ∈ l → w.length ≤ 1000000) (ho : out.length ≤ 1000000) (h : KS X r out (nameS neg l)) : EC (sgF neg) (sgF false) l out X r := by
  refine IfB.dec (fun hp => dcP (fun e => by rw [e] at hp; simp at hp) hw ho h) (fun hp => IfB.eqi (fun h0 => ?_) (fun h0 => absurd (by omega) h0))
  have : l = [] := List.length_eq_zero_iff.1 (by omega)
  subst this; exact h
theorem sum_step {l : Ws} {first : Bool} {out : List TM} {X : SX → Prop} {r : List TM × Bool} (hw : ∀ w, w ∈ l → w.length ≤ 1000000) (ho : out.length ≤ 1000000) (h : if first = true ∨ l ≠ [] then KS X r out (stepS first l) else r = (out, true)) : model_sum_L1 r X (l, first, out) := by
  unfold model_sum_L1
  have one : rat_Int 1 (sgF false) := sg1 false
  have mone : rat_Int (-1) (sgF true) := sg1 true
  cases first with
  | true =>
    simp only [true_or, if_true] at h
    refine IfB_true.2 ⟨_, _, _, one, IfB.dec (fun hp => ?_) (fun hp => ?_)⟩
    · cases l with
      | nil => simp at hp
      | cons w t =>
        have ht : ∀ w, w ∈ t → w.length ≤ 1000000 := fun x hx => hw x (by simp [hx])
        refine ⟨w, idx0 w t, IfB.be (fun hc => ?_) (fun hc => ?_)⟩
        · refine ⟨_, _, _, mone, subok_tail w t, _, _, _, one, ?_⟩
          rw [sub_tail]
          subst hc
          exact ecP (neg := true) ht ho h
        · have h' : KS X r out (nameS false (w :: t)) := by simpa [stepS, signS, hc] using h
          have main := dcP (neg := false) (by simp) hw ho h'
          refine ⟨w, idx0 w t, IfB.bool (fun _ => ?_) (fun _ => ?_)⟩ <;> exact ⟨_, _, _, one, main⟩
    · have : l = [] := List.length_eq_zero_iff.1 (by omega)
      subst this
      exact ⟨_, _, _, one, IfB.eqi (fun _ => h) (fun h0 => absurd rfl h0)⟩
  | false =>
    refine IfB_false.2 (IfB.dec (fun hp => ?_) (fun hp => ?_))
    · cases l with
      | nil => simp at hp
      | cons w t =>
        simp only [ne_eq, reduceCtorEq, not_false_eq_true, or_true, if_true] at h
        have ht : ∀ w, w ∈ t → w.length ≤ 1000000 := fun x hx => hw x (by simp [hx])
        refine ⟨_, _, _, one, w, idx0 w t, IfB.be (fun hc => ?_) (fun hc => ?_)⟩
        · refine ⟨_, _, _, mone, subok_tail w t, _, _, _, one, ?_⟩
          rw [sub_tail]
          subst hc
          exact ecP (neg := true) ht ho h
        · refine ⟨w, idx0 w t, IfB.be (fun hc2 => ?_) (fun hc2 => ?_)⟩
          · refine ⟨subok_tail w t, _, _, _, one, ?_⟩
            rw [sub_tail]
            subst hc2
            exact ecP (neg := false) ht ho h
          · simpa [stepS, signS, hc, hc2, KS] using h
    · have : l = [] := List.length_eq_zero_iff.1 (by omega)
      subst this
      simpa using h
theorem numS_suf (l : Ws) : (numS l).2 <:+ l := by
  unfold numS
  cases l with
  | nil => exact List.suffix_refl _
  | cons w l => simp only; split <;> first | exact List.suffix_cons _ _ | exact List.suffix_refl _
theorem nameS_suf {neg : Bool} {l : Ws} {t : Tm} {r : Ws} (h : nameS neg l = some (t, r)) : r <:+ l := by
  have hs := numS_suf l
  unfold nameS at h
  split at h
  · cases h
  · rename_i w r' e
    rw [e] at hs
    split at h
    · cases h; exact (List.suffix_cons _ _).trans hs
    · cases h
theorem signS_suf {first : Bool} {l l1 : Ws} {neg : Bool} (h : signS first l = some (neg, l1)) : l1 <:+ l := by
  unfold signS at h
  split at h
  · split at h <;> cases h; exact List.suffix_refl _
  · split at h
    · cases h; exact List.suffix_cons _ _
    · split at h
      · cases h; exact List.suffix_refl _
      · split at h <;> cases h; exact List.suffix_cons _ _
theorem stepS_suf {first : Bool} {l : Ws} {t : Tm} {r : Ws} (h : stepS first l = some (t, r)) : r <:+ l := by
  unfold stepS at h
  split at h
  · cases h
  · rename_i neg l1 e; exact (nameS_suf h).trans (signS_suf e)
def mRes (out : List TM) : Option (List Tm) → List TM × Bool | some ts => (out ++ ts.map tmM, true) | none => ([], false)
theorem sum_loop (l : Ws) (hl : l.length ≤ 100000) (hw : ∀ w, w ∈ l → w.length ≤ 1000000) : LoopP (model_sum_L1 (mRes [] (sumS true l))) (l, true, []) := by
  refine LoopP.intro (fun z : SX => mRes [] (sumS true l) = mRes z.2.2 (sumS z.2.1 z.1) ∧ (∀ w, w ∈ z.1 → w.length ≤ 1000000) ∧ z.2.2.length + z.1.length ≤ l.length) (fun z => z.1.length) ⟨rfl, hw, by simp⟩ ?_
  rintro X ⟨z1, z2, z3⟩ ⟨h1, h2, h3⟩ hX
  simp only at h1 h2 h3
  refine sum_step h2 (by omega) ?_
  split
  · rename_i hc
    rw [sumS_step hc] at h1
    cases hs : stepS z2 z1 with
    | none => rw [hs] at h1; exact h1
    | some p =>
      obtain ⟨t, rest⟩ := p
      rw [hs] at h1
      have hlt := stepS_lt hs
      refine hX _ ⟨?_, fun w hw => h2 w ((stepS_suf hs).subset hw), ?_⟩ hlt
      · rw [h1]
        show mRes z3 ((sumS false rest).map (t :: ·)) = mRes (z3 ++ [tmM t]) (sumS false rest)
        cases sumS false rest <;> simp [mRes]
      · simp only [List.length_append, List.length_singleton]; omega
  · rename_i hc
    have e1 : z2 = false := by cases z2 <;> simp_all
    have e2 : z1 = [] := Classical.byContradiction fun h => hc (.inr h)
    subst e1 e2
    rw [h1, sumS_nil]; simp [mRes]
theorem model_sum_says (l : Ws) (hl : l.length ≤ 100000) (hw : ∀ w, w ∈ l → w.length ≤ 1000000) : model_sum l (mRes [] (sumW l)) := by
  have e : @model_sum_L2 = @model_sum_L1 := rfl
  unfold model_sum sumW
  refine IfB.eqi (fun h1 => ?_) (fun h1 => ?_)
  · cases l with
    | nil => simp at h1
    | cons w t =>
      have : t = [] := List.length_eq_zero_iff.1 (by rw [List.length_cons] at h1; omega)
      subst this
      refine ⟨w, idx0 w [], IfB.be (fun hc => ?_) (fun hc => ?_)⟩
      · subst hc; simp [mRes]
      · rw [if_neg (by simpa using hc)]
        exact sum_loop [w] hl hw
  · rw [if_neg (fun e => h1 (by rw [e]; rfl)), e]
    exact sum_loop l hl hw
end Go.Abs
end

section
namespace Go.Abs
open Go
set_option linter.unusedVariables false
set_option linter.unusedSimpArgs false
set_option linter.unnecessarySimpa false
end Go.Abs
end

section
namespace Go.Abs
open Go
open Classical
set_option linter.unusedVariables false
set_option linter.unusedSimpArgs false
set_option linter.unnecessarySimpa false
def colonB (w : By) : Bool := w.getLast? == some 58
theorem suf_colon (w : By) : Lib.hasSuffix w [58] = colonB w := by
  unfold Lib.hasSuffix colonB
  rw [Bool.eq_iff_iff, List.isSuffixOf_iff_suffix, beq_iff_eq, List.getLast?_eq_some_iff]
  exact ⟨fun ⟨t, e⟩ => ⟨t, e.symm⟩, fun ⟨t, e⟩ => ⟨t, e.symm⟩⟩
theorem getD_at {α : Type} {l : List α} {k : Nat} {d : α} (h : k < l.length) : l.getD k d = l[k] := by simp [List.getD, h]
theorem trim_colon {w : By} (h : colonB w = true) : Lib.trimSuffix w [58] = w.dropLast := by
  unfold Lib.trimSuffix
  rw [suf_colon, h, if_pos rfl, List.dropLast_eq_take]; rfl
def relOf (w : By) : Option Int := if w = [60, 61] then some (-1) else if w = [61] then some 0 else if w = [62, 61] then some 1 else none
theorem rel_get (w : By) : mpGet relsL w = ((relOf w).getD 0, (relOf w).isSome) := by
  unfold mpGet relsL relOf
  by_cases h1 : w = [60, 61]
  · subst h1; rfl
  by_cases h2 : w = [61]
  · subst h2; rfl
  by_cases h3 : w = [62, 61]
  · subst h3; rfl
  have e1 : (([60, 61] : By) == w) = false := by simpa using fun e : [60, 61] = w => h1 e.symm
  have e2 : (([61] : By) == w) = false := by simpa using fun e : [61] = w => h2 e.symm
  have e3 : (([62, 61] : By) == w) = false := by simpa using fun e : [62, 61] = w => h3 e.symm
  simp [List.find?, e1, e2, e3, h1, h2, h3]
abbrev Ln8 := By × List Tm × Int × By
def midW (ws : Ws) : Ws := sub ws (1 : Int) (IntKind.i64.wrap ((ws.length : Int) - 2))
def w0W (ws : Ws) : By := ws.headD []
def wrW (ws : Ws) : By := ws.getD (ws.length - 2) []
def wlW (ws : Ws) : By := ws.getD (ws.length - 1) []
def rowOK (ws : Ws) : Prop := 4 ≤ ws.length ∧ colonB (w0W ws) = true ∧ nameB (w0W ws).dropLast = true ∧ (relOf (wrW ws)).isSome = true ∧ isN (wlW ws)
noncomputable def rowS (ws : Ws) : Option Ln8 := if rowOK ws then (sumW (midW ws)).map fun ts => ((w0W ws).dropLast, ts, (relOf (wrW ws)).getD 0, wlW ws) else none
def nbOf (w : By) : Fr := if isN w then numOf w else (false, [], words 1)
theorem number_nb (w : By) (hl : w.length ≤ 1000000) : lines_Number w ((nbOf w).1, (nbOf w).2.1, (nbOf w).2.2, decide (isN w)) := by
  have := lines_Number_says w hl
  unfold nbOf
  by_cases h : isN w
  · rw [if_pos h] at this ⊢; rw [decide_eq_true h]; exact this
  · rw [if_neg h] at this ⊢; rw [decide_eq_false h]; exact this
noncomputable def rowM (ws : Ws) : By × List TM × Int × Bool × List Int × List Int × Bool :=
  if ws.length < 4 then ([], [], 0, false, [], [], false)
  else (Lib.trimSuffix (w0W ws) [58], (mRes [] (sumW (midW ws))).1, (relOf (wrW ws)).getD 0, (nbOf (wlW ws)).1, (nbOf (wlW ws)).2.1, (nbOf (wlW ws)).2.2, colonB (w0W ws) && nameB (Lib.trimSuffix (w0W ws) [58]) && (relOf (wrW ws)).isSome && decide (isN (wlW ws)) && (mRes [] (sumW (midW ws))).2)
def wrdOK (ws : Ws) : Prop := ws.length ≤ 100000 ∧ ∀ w, w ∈ ws → w.length ≤ 1000000
theorem mid_ok {ws : Ws} (h : wrdOK ws) : wrdOK (midW ws) := by
  unfold midW sub
  exact ⟨by simp; have := h.1; omega, fun w hw => h.2 w (List.mem_of_mem_drop (List.mem_of_mem_take hw))⟩
theorem ends_idx {ws : Ws} (h : wrdOK ws) (h4 : 4 ≤ ws.length) : Idx ws (0 : Int) (w0W ws) ∧ Idx ws (IntKind.i64.wrap ((ws.length : Int) - 2)) (wrW ws) ∧ Idx ws (IntKind.i64.wrap ((ws.length : Int) - 1)) (wlW ws) ∧ SubOk ws (1 : Int) (IntKind.i64.wrap ((ws.length : Int) - 2)) := by
  have := h.1
  have e2 : IntKind.i64.wrap ((ws.length : Int) - 2) = ((ws.length - 2 : Nat) : Int) := by rw [wrap64' (by omega) (by omega)]; omega
  have e1 : IntKind.i64.wrap ((ws.length : Int) - 1) = ((ws.length - 1 : Nat) : Int) := by rw [wrap64' (by omega) (by omega)]; omega
  rw [e1, e2]
  refine ⟨?_, ?_, ?_, by omega, by omega, by omega⟩
  · cases ws with
    | nil => simp at h4
    | cons w t => exact idx0 w t
  · unfold wrW; rw [getD_at (by omega)]; exact Idx.nat (by omega)
  · unfold wlW; rw [getD_at (by omega)]; exact Idx.nat (by omega)
theorem mem_w0 {ws : Ws} (h4 : 4 ≤ ws.length) : w0W ws ∈ ws := by
  cases ws with
  | nil => simp at h4
  | cons w t => simp [w0W]
theorem mem_wl {ws : Ws} (h4 : 4 ≤ ws.length) : wlW ws ∈ ws := by unfold wlW; rw [getD_at (by omega)]; exact List.getElem_mem _
theorem model_row_says (ws : Ws) (h : wrdOK ws) : model_row ws (rowM ws) := by
  unfold model_row
  refine IfB.dec (fun h4 => ?_) (fun h4 => ?_)
  · unfold rowM; rw [if_pos (by omega)]
  have h4 : 4 ≤ ws.length := by omega
  obtain ⟨i0, i2, i1, so⟩ := ends_idx h h4
  have hS : model_sum (sub ws (1 : Int) (IntKind.i64.wrap ((ws.length : Int) - 2))) (mRes [] (sumW (midW ws))) := model_sum_says _ (mid_ok h).1 (mid_ok h).2
  have hN := number_nb (wlW ws) (h.2 _ (mem_wl h4))
  have E : rowM ws = (Lib.trimSuffix (w0W ws) [58], (mRes [] (sumW (midW ws))).1, (relOf (wrW ws)).getD 0, (nbOf (wlW ws)).1, (nbOf (wlW ws)).2.1, (nbOf (wlW ws)).2.2, colonB (w0W ws) && nameB (Lib.trimSuffix (w0W ws) [58]) && (relOf (wrW ws)).isSome && decide (isN (wlW ws)) && (mRes [] (sumW (midW ws))).2) := if_neg (by omega)
  have hc : strings_CutSuffix (w0W ws) ([58] : List UInt8) (Lib.trimSuffix (w0W ws) [58], colonB (w0W ws)) := ⟨by have := h.2 _ (mem_w0 h4); omega, by rw [suf_colon]⟩
  have hg := rel_get (wrW ws)
  obtain ⟨S1, S2, hSe⟩ : ∃ a b, mRes [] (sumW (midW ws)) = (a, b) := ⟨_, _, rfl⟩
  rw [hSe] at hS E
  have hnm : lines_Name (Lib.trimSuffix (w0W ws) [58]) (nameB (Lib.trimSuffix (w0W ws) [58])) := lines_Name_says (nameB_iff _)
  refine ⟨_, i0, _, _, hc, IfB.bool (fun b1 => ?_) (fun b1 => ?_)⟩
  · refine ⟨_, rfl, _, i2, _, _, hg, IfB.bool (fun b2 => ?_) (fun b2 => ?_)⟩
    · refine ⟨_, i1, _, _, _, _, hN, IfB.bool (fun b3 => ?_) (fun b3 => ?_)⟩
      · refine ⟨so, _, _, hS, IfB.bool (fun b4 => ?_) (fun b4 => ?_)⟩ <;> refine ⟨_, hnm, IfB.bool (fun b5 => ?_) (fun b5 => ?_)⟩ <;> rw [E, b1, b2, b3, b5] <;> dsimp only <;> rw [b4] <;> rfl
      · refine ⟨so, _, _, hS, IfB.bool (fun b4 => ?_) (fun b4 => ?_)⟩ <;> refine ⟨_, hnm, IfB.bool (fun b5 => ?_) (fun b5 => ?_)⟩ <;> rw [E, b1, b2, b3, b5] <;> dsimp only <;> rw [b4] <;> rfl
    · refine ⟨_, i1, _, _, _, _, hN, IfB.bool (fun b3 => ?_) (fun b3 => ?_)⟩
      · refine ⟨so, _, _, hS, IfB.bool (fun b4 => ?_) (fun b4 => ?_)⟩ <;> refine ⟨_, hnm, IfB.bool (fun b5 => ?_) (fun b5 => ?_)⟩ <;> rw [E, b1, b2, b3, b5] <;> dsimp only <;> rw [b4] <;> rfl
      · refine ⟨so, _, _, hS, IfB.bool (fun b4 => ?_) (fun b4 => ?_)⟩ <;> refine ⟨_, hnm, IfB.bool (fun b5 => ?_) (fun b5 => ?_)⟩ <;> rw [E, b1, b2, b3, b5] <;> dsimp only <;> rw [b4] <;> rfl
  · refine ⟨_, rfl, _, i2, _, _, hg, IfB.bool (fun b2 => ?_) (fun b2 => ?_)⟩
    · refine ⟨_, i1, _, _, _, _, hN, IfB.bool (fun b3 => ?_) (fun b3 => ?_)⟩
      · refine ⟨so, _, _, hS, IfB.bool (fun b4 => ?_) (fun b4 => ?_)⟩ <;> rw [E, b1, b2, b3] <;> dsimp only <;> rw [b4] <;> simp
      · refine ⟨so, _, _, hS, IfB.bool (fun b4 => ?_) (fun b4 => ?_)⟩ <;> rw [E, b1, b2, b3] <;> dsimp only <;> rw [b4] <;> simp
    · refine ⟨_, i1, _, _, _, _, hN, IfB.bool (fun b3 => ?_) (fun b3 => ?_)⟩
      · refine ⟨so, _, _, hS, IfB.bool (fun b4 => ?_) (fun b4 => ?_)⟩ <;> rw [E, b1, b2, b3] <;> dsimp only <;> rw [b4] <;> simp
      · refine ⟨so, _, _, hS, IfB.bool (fun b4 => ?_) (fun b4 => ?_)⟩ <;> rw [E, b1, b2, b3] <;> dsimp only <;> rw [b4] <;> simp
end Go.Abs
end

section
namespace Go.Abs
open Go
open Classical
set_option linter.unusedVariables false
set_option linter.unusedSimpArgs false
set_option linter.unnecessarySimpa false
def minB : By := [109, 105, 110]
noncomputable def firstS (ws : Ws) : Option Ln8 := if w0W ws = minB then (sumW ws.tail).map fun ts => ([], ts, 0, []) else none
noncomputable def firstM (ws : Ws) : By × List TM × Int × Bool × List Int × List Int × Bool :=
  if w0W ws = minB then ([], (mRes [] (sumW ws.tail)).1, 0, false, [], [], (mRes [] (sumW ws.tail)).2) else ([], [], 0, false, [], [], false)
theorem model_first_says (ws : Ws) (h : wrdOK ws) (hne : ws ≠ []) : model_first ws (firstM ws) := by
  cases ws with
  | nil => exact absurd rfl hne
  | cons w t =>
    unfold model_first
    refine ⟨w, idx0 w t, IfB.nbe (fun hw => ?_) (fun hw => ?_)⟩
    · unfold firstM; rw [if_neg (show ¬ w0W (w :: t) = minB from hw)]
    · have E : firstM (w :: t) = ([], (mRes [] (sumW t)).1, 0, false, [], [], (mRes [] (sumW t)).2) := if_pos (show w0W (w :: t) = minB from hw)
      have hS := model_sum_says t (by have := h.1; simp at this; omega) (fun x hx => h.2 x (by simp [hx]))
      obtain ⟨S1, S2, hSe⟩ : ∃ a b, mRes [] (sumW t) = (a, b) := ⟨_, _, rfl⟩
      rw [hSe] at hS E
      refine ⟨subok_tail w t, S1, S2, by rw [sub_tail]; exact hS, IfB.bool (fun b => ?_) (fun b => ?_)⟩ <;> rw [E, b]
theorem rowM_flag (ws : Ws) : (rowM ws).2.2.2.2.2.2 = (rowS ws).isSome := by
  unfold rowM rowS rowOK
  by_cases h4 : ws.length < 4
  · rw [if_pos h4, if_neg (fun h => by omega)]; rfl
  rw [if_neg h4]
  by_cases hc : colonB (w0W ws) = true
  · rw [trim_colon hc]
    by_cases hr : nameB (w0W ws).dropLast = true ∧ (relOf (wrW ws)).isSome = true ∧ isN (wlW ws)
    · rw [if_pos ⟨by omega, hc, hr⟩, hc, hr.1, hr.2.1, decide_eq_true hr.2.2]
      cases sumW (midW ws) <;> rfl
    · rw [if_neg (fun h => hr h.2.2)]
      by_cases h1 : nameB (w0W ws).dropLast = true
      · by_cases h2 : (relOf (wrW ws)).isSome = true
        · have h3 : ¬ isN (wlW ws) := fun h3 => hr ⟨h1, h2, h3⟩
          simp [h3]
        · simp [h2]
      · simp [h1]
  · rw [if_neg (fun h => hc h.2.1)]
    simp [hc]
theorem rowM_some {ws : Ws} {x : Ln8} (h : rowS ws = some x) : rowM ws = (x.1, x.2.1.map tmM, x.2.2.1, (numOf x.2.2.2).1, (numOf x.2.2.2).2.1, (numOf x.2.2.2).2.2, true) ∧ isN x.2.2.2 := by
  have hf := rowM_flag ws
  unfold rowS at h
  split at h
  · rename_i hk
    cases hs : sumW (midW ws) with
    | none => rw [hs] at h; cases h
    | some ts =>
      rw [hs] at h
      cases h
      obtain ⟨h4, hc, hn, hr, hN⟩ := hk
      unfold rowM
      rw [if_neg (by omega), trim_colon hc, hs, hc, hn, hr, decide_eq_true hN]
      refine ⟨?_, hN⟩
      unfold nbOf
      rw [if_pos hN]
      simp [mRes]
  · cases h
theorem firstM_flag (ws : Ws) : (firstM ws).2.2.2.2.2.2 = (firstS ws).isSome := by
  unfold firstM firstS; split
  · cases sumW ws.tail <;> rfl
  · rfl
theorem firstM_some {ws : Ws} {x : Ln8} (h : firstS ws = some x) : firstM ws = ([], x.2.1.map tmM, 0, false, [], [], true) ∧ x.1 = [] := by
  unfold firstS at h; split at h
  · rename_i hk
    cases hs : sumW ws.tail with
    | none => rw [hs] at h; cases h
    | some ts => rw [hs] at h; cases h; unfold firstM; rw [if_pos hk, hs]; simp [mRes]
  · cases h
end Go.Abs
end

section
namespace Go.Abs
open Go
open Classical
set_option linter.unusedVariables false
set_option linter.unusedSimpArgs false
set_option linter.unnecessarySimpa false
theorem take_succ {α : Type} {l : List α} {k : Nat} (h : k < l.length) : l.take (k + 1) = l.take k ++ [l[k]] := by rw [List.take_add_one, List.getElem?_eq_getElem h]; rfl
theorem nodup_succ {l : List By} {k : Nat} (h : k < l.length) : (l.take (k + 1)).Nodup ↔ (l.take k).Nodup ∧ l[k] ∉ l.take k := by
  rw [take_succ h, List.nodup_append]
  constructor
  · rintro ⟨a, _, c⟩
    exact ⟨a, fun hm => c _ hm _ (by simp) rfl⟩
  · rintro ⟨a, b⟩
    exact ⟨a, by simp, fun x hx y hy e => by simp at hy; subst hy; subst e; exact b hx⟩
def idxN (l : Ws) (x : By) : Int := if x ∈ l then ((l.idxOf x : Nat) : Int) else -1
theorem idxFrom_says (x : By) : ∀ (l : Ws) (i : Nat), Lib.idxFromS (l.map mkB) (mkB x) i = if x ∈ l then ((i + l.idxOf x : Nat) : Int) else -1
  | [], i => by simp [Lib.idxFromS]
  | y :: l, i => by
    rw [List.map_cons, Lib.idxFromS]
    by_cases h : y = x
    · subst h; simp
    · rw [if_neg (fun e => h (mkB_inj e)), idxFrom_says x l (i + 1)]
      have h' : ¬ x = y := fun e => h e.symm
      by_cases hm : x ∈ l
      · rw [if_pos hm, if_pos (by simp [hm])]
        have hb : (y == x) = false := by simpa using h
        have e : (y :: l).idxOf x = l.idxOf x + 1 := by rw [List.idxOf_cons, hb]; rfl
        rw [e]; omega
      · rw [if_neg hm, if_neg (by simp [h', hm])]
theorem lines_Index_says (l : Ws) (x : By) (hl : l.length ≤ 100000000) : lines_Index l x (idxN l x) := by
  refine ⟨_, ⟨by omega, ?_⟩, rfl⟩
  have := idxFrom_says x l 0
  rw [Nat.zero_add] at this
  exact this.symm
theorem idxN_neg {l : Ws} {x : By} : idxN l x < 0 ↔ x ∉ l := by unfold idxN; split <;> rename_i h <;> simp [h] <;> omega
theorem idxN_at {l : Ws} {x : By} (h : x ∈ l) : idxN l x = ((l.idxOf x : Nat) : Int) ∧ l.idxOf x < l.length := ⟨if_pos h, List.idxOf_lt_length_of_mem h⟩
theorem model_twice_says (l : List TM) (hl : l.length ≤ 100000) : model_twice l (decide (¬ (l.map (·.1)).Nodup)) := by
  unfold model_twice
  have hd : ∀ k, (h : k < l.length) → (l.map (·.1))[k]'(by simpa using h) = l[k].1 := fun k h => by simp
  refine LoopP.intro (fun z : Int => ∃ k : Nat, z = k ∧ k ≤ l.length ∧ ((l.map (·.1)).take k).Nodup) (fun z => l.length - z.toNat) ⟨0, rfl, by omega, by simp⟩ ?_
  rintro X z ⟨k, rfl, hk, hn⟩ hX
  unfold model_twice_L1
  dsimp only
  refine IfB.dec (fun h => ?_) (fun h => ?_)
  · have hkl : k < l.length := by omega
    have hkm : k < (l.map (·.1)).length := by simpa using hkl
    refine ⟨l[k].1, l[k].2.1, l[k].2.2.1, l[k].2.2.2, Idx.nat hkl, ⟨by omega, by omega, by omega⟩, ?_⟩
    have es : sub l 0 (k : Int) = l.take k := by unfold sub; simp
    have hlen : (l.take k).length = k := by rw [List.length_take]; omega
    rw [show model_twice_L2 l (k : Int) X l[k].1 (decide (¬ (l.map (·.1)).Nodup)) = model_twice_L2 l (k : Int) X l[k].1 (decide (¬ (l.map (·.1)).Nodup)) from rfl]
    refine LoopP.intro (fun y : Int => ∃ j : Nat, y = j ∧ j ≤ k ∧ ∀ i, (hi : i < j) → ∀ hil : i < l.length, l[i].1 ≠ l[k].1) (fun y => k - y.toNat) ⟨0, rfl, by omega, fun i hi => absurd hi (by omega)⟩ ?_
    rintro Y y ⟨j, rfl, hj, hne⟩ hY
    unfold model_twice_L2
    dsimp only
    rw [es, hlen]
    refine IfB.dec (fun h1 => ?_) (fun h1 => ?_)
    · have hjk : j < k := by omega
      have hjl : j < l.length := by omega
      refine ⟨l[j].1, l[j].2.1, l[j].2.2.1, l[j].2.2.2, ⟨by omega, by simp [hjk, hjl]⟩, IfB.be (fun he => ?_) (fun he => ?_)⟩
      · refine IfB.dec (fun _ => ?_) (fun h0 => absurd (by omega) h0)
        refine decide_eq_true fun hnd => ?_
        have := (nodup_succ hkm).1 (hnd.sublist (List.take_sublist _ _))
        apply this.2
        rw [hd k hkl, ← he, ← hd j hjl]
        exact List.mem_take_iff_getElem.2 ⟨j, by simp; omega, rfl⟩
      · rw [wrap64' (by omega) (by omega)]
        refine hY _ ⟨j + 1, by omega, by omega, fun i hi hil => ?_⟩ (by omega)
        by_cases hij : i = j
        · subst hij; exact he
        · exact hne i (by omega) hil
    · rw [wrap64' (by omega) (by omega)]
      refine hX _ ⟨k + 1, by omega, by omega, (nodup_succ hkm).2 ⟨hn, fun hm => ?_⟩⟩ (by omega)
      obtain ⟨i, hi, e⟩ := List.mem_take_iff_getElem.1 hm
      rw [hd k hkl] at e
      have hik : i < k := by simp at hi; omega
      have hil : i < l.length := by omega
      rw [hd i hil] at e
      exact hne i (by omega) hil e
  · have e : k = l.length := by omega
    subst e
    rw [List.take_of_length_le (by simp)] at hn
    exact decide_eq_false fun hh => hh hn
def addN (vs : Ws) (ns : List By) : Ws := ns.foldl (fun vs n => if n ∈ vs then vs else vs ++ [n]) vs
theorem addN_len : ∀ (ns : List By) (vs : Ws), (addN vs ns).length ≤ vs.length + ns.length
  | [], vs => by simp [addN]
  | n :: ns, vs => by
    have e : addN vs (n :: ns) = addN (if n ∈ vs then vs else vs ++ [n]) ns := rfl
    rw [e]
    refine Nat.le_trans (addN_len ns _) ?_
    split <;> simp <;> omega
theorem addN_snoc (vs : Ws) (ns : List By) (n : By) : addN vs (ns ++ [n]) = if n ∈ addN vs ns then addN vs ns else addN vs ns ++ [n] := by unfold addN; rw [List.foldl_append]; rfl
theorem addLoop {ts : List TM} {vars : Ws} {E : Ws → Prop} (hv : vars.length ≤ 1000000) (ht : ts.length ≤ 100000) (hE : E (addN vars (ts.map (·.1)))) :
    LoopP (fun (X : Int × Ws → Prop) (s : Int × Ws) => match s with
      | (s200, s251) => IfB (decide (s200 < (ts.length : Int)))
         (∃ (x22 : List UInt8) (x23 : Bool) (x24 : List Int) (x25 : List Int), Idx ts s200 (x22, x23, x24, x25) ∧ ∃ (x27 : Int), lines_Index s251 x22 x27 ∧
          IfB (decide (x27 < (0 : Int))) (Fits (s251.length + [x22].length) 16 ∧ X ((IntKind.i64.wrap (s200 + 1)), (s251 ++ [x22]))) (X ((IntKind.i64.wrap (s200 + 1)), s251)))
         (E s251)) ((0 : Int), vars) := by
  refine LoopP.intro (fun z : Int × Ws => ∃ k : Nat, z.1 = k ∧ k ≤ ts.length ∧ z.2 = addN vars ((ts.map (·.1)).take k)) (fun z => ts.length - z.1.toNat) ⟨0, rfl, by omega, by simp [addN]⟩ ?_
  rintro X ⟨z1, z2⟩ ⟨k, h1, hk, h2⟩ hX
  simp only at h1 h2
  subst h1
  have hl2 : z2.length ≤ 1100000 := by have := addN_len ((ts.map (·.1)).take k) vars; rw [← h2, List.length_take, List.length_map] at this; omega
  refine IfB.dec (fun h => ?_) (fun h => ?_)
  · have hkl : k < ts.length := by omega
    have hs : (ts.map (·.1)).take (k + 1) = (ts.map (·.1)).take k ++ [ts[k].1] := by rw [take_succ (by simpa using hkl)]; simp
    refine ⟨ts[k].1, ts[k].2.1, ts[k].2.2.1, ts[k].2.2.2, Idx.nat hkl, _, lines_Index_says z2 _ (by omega), IfB.dec (fun hn => ?_) (fun hn => ?_)⟩
    · rw [wrap64' (by omega) (by omega)]
      refine ⟨by unfold Fits; simp; omega, hX _ ⟨k + 1, by dsimp only; omega, by omega, ?_⟩ (by dsimp only; omega)⟩
      dsimp only
      rw [hs, addN_snoc, ← h2, if_neg (idxN_neg.1 hn)]
    · rw [wrap64' (by omega) (by omega)]
      refine hX _ ⟨k + 1, by dsimp only; omega, by omega, ?_⟩ (by dsimp only; omega)
      dsimp only
      rw [hs, addN_snoc, ← h2, if_pos (Classical.byContradiction fun e => hn (idxN_neg.2 e))]
  · have e : k = ts.length := by omega
    subst e
    rw [List.take_of_length_le (by simp)] at h2
    rw [h2]; exact hE
end Go.Abs
end
