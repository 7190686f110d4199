/- Part of a proof, in few files: LRat LRat2 LLin L13a L13b L13c L13d L13e LDec LTxt LTxt2 LLin2 L13f. -/
import Derived.Test.YtojdnnogpffhpaaGreatDoorNPqK20
import Derived.Test.YtojdnnogpffhpaaGreatDoorNPqK11
import Derived.Lib.IndexMore
import Derived.Test.YtojdnnogpffhpaaGreatDoorNPqK14
import Derived.Laws.RangeAny

section
namespace Go.Abs
open Go
set_option linter.unusedVariables false
set_option linter.unusedSimpArgs false
set_option linter.unnecessarySimpa false
abbrev By := List UInt8
def dg (b : UInt8) : Prop := 48 ≤ b.toNat ∧ b.toNat ≤ 57
instance (b : UInt8) : Decidable (dg b) := inferInstanceAs (Decidable (_ ∧ _))
def allDg (s : By) : Prop := ∀ b, b ∈ s → dg b
instance (s : By) : Decidable (allDg s) := inferInstanceAs (Decidable (∀ b, b ∈ s → dg b))
def dV (acc : Nat) : By → Nat
  | [] => acc
  | b :: l => dV (acc * 10 + (b.toNat - 48)) l
theorem dV_nil (acc : Nat) : dV acc [] = acc := by rfl
theorem dV_cons (acc : Nat) (b : UInt8) (l : By) : dV acc (b :: l) = dV (acc * 10 + (b.toNat - 48)) l := by rfl
theorem dV_acc : ∀ (l : By) (acc : Nat), dV acc l = acc * 10 ^ l.length + dV 0 l
  | [], acc => by rw [dV_nil, dV_nil]; simp
  | b :: l, acc => by
    rw [dV_cons, dV_cons, dV_acc l (acc * 10 + (b.toNat - 48)), dV_acc l (0 * 10 + (b.toNat - 48)), List.length_cons, Nat.pow_succ]
    grind
theorem dV_lt : ∀ (l : By), allDg l → dV 0 l < 10 ^ l.length
  | [], _ => by rw [dV_nil]; simp
  | b :: l, h => by
    have hb := h b (by simp)
    unfold dg at hb
    have := dV_lt l fun c hc => h c (by simp [hc])
    rw [dV_cons, dV_acc, List.length_cons, Nat.pow_succ]
    have h9 : (0 * 10 + (b.toNat - 48)) * 10 ^ l.length ≤ 9 * 10 ^ l.length := Nat.mul_le_mul_right _ (by omega)
    omega
def parseR (s : By) : List Int × Int := if s = [] ∨ ¬ allDg s then ([], 2) else if 400 < s.length then ([], 4) else (words (dV 0 s), 0)
theorem pow10_words (n : Nat) {v : Nat} (h : v < 10 ^ n) : (words v).length ≤ n := by
  refine words_len _ _ (Nat.lt_of_lt_of_le h ?_)
  exact Nat.pow_le_pow_left (by omega) n
def ltab : List UInt8 := [0, 1, 2, 2, 3, 3, 3, 3, 4, 4, 4, 4, 4, 4, 4, 4, 5, 5, 5, 5, 5, 5, 5, 5, 5, 5, 5, 5, 5, 5, 5, 5, 6, 6, 6, 6, 6, 6, 6, 6, 6, 6, 6, 6, 6, 6, 6, 6, 6, 6, 6, 6, 6, 6, 6, 6, 6, 6, 6, 6, 6, 6, 6, 6, 7, 7, 7, 7, 7, 7, 7, 7, 7, 7, 7, 7, 7, 7, 7, 7, 7, 7, 7, 7, 7, 7, 7, 7, 7, 7, 7, 7, 7, 7, 7, 7, 7, 7, 7, 7, 7, 7, 7, 7, 7, 7, 7, 7, 7, 7, 7, 7, 7, 7, 7, 7, 7, 7, 7, 7, 7, 7, 7, 7, 7, 7, 7, 7, 8, 8, 8, 8, 8, 8, 8, 8, 8, 8, 8, 8, 8, 8, 8, 8, 8, 8, 8, 8, 8, 8, 8, 8, 8, 8, 8, 8, 8, 8, 8, 8, 8, 8, 8, 8, 8, 8, 8, 8, 8, 8, 8, 8, 8, 8, 8, 8, 8, 8, 8, 8, 8, 8, 8, 8, 8, 8, 8, 8, 8, 8, 8, 8, 8, 8, 8, 8, 8, 8, 8, 8, 8, 8, 8, 8, 8, 8, 8, 8, 8, 8, 8, 8, 8, 8, 8, 8, 8, 8, 8, 8, 8, 8, 8, 8, 8, 8, 8, 8, 8, 8, 8, 8, 8, 8, 8, 8, 8, 8, 8, 8, 8, 8, 8, 8, 8, 8, 8, 8, 8, 8, 8, 8, 8, 8, 8, 8]
set_option maxRecDepth 20000 in
theorem ltab_all : ∀ i : Fin 256, i.val ≠ 0 → ∃ c, ltab[i.val]? = some c ∧ 0 < c.toNat ∧ c.toNat ≤ 8 := by
  have h : (List.range 256).all (fun i => i == 0 || (match ltab[i]? with | some c => Nat.blt 0 c.toNat && Nat.ble c.toNat 8 | none => false)) = true := by decide
  intro i hi
  have := List.all_eq_true.1 h i.val (List.mem_range.2 i.isLt)
  simp only [Bool.or_eq_true, beq_iff_eq] at this
  rcases this with h | h
  · exact absurd h hi
  · split at h
    · rename_i c hc
      simp only [Bool.and_eq_true, Nat.blt_eq, Nat.ble_eq] at h
      exact ⟨c, hc, h.1, h.2⟩
    · cases h
theorem ltab_idx {n : Nat} (h : n < 256) (h0 : n ≠ 0) : ∃ c, Idx ltab (IntKind.u8.wrap (n : Int)) c ∧ 0 < c.toNat ∧ c.toNat ≤ 8 := by
  obtain ⟨c, hc, h1, h2⟩ := ltab_all ⟨n, h⟩ h0
  exact ⟨c, ⟨by rw [wrapu8 (by omega) (by omega)]; omega, by rw [wrapu8 (by omega) (by omega)]; exact hc⟩, h1, h2⟩
theorem fdivN (a b : Nat) (h : 0 < b) : Int.fdiv (a : Int) (b : Int) = ((a / b : Nat) : Int) := by rw [Int.fdiv_eq_ediv_of_nonneg _ (by omega)]; rfl
theorem p16 : (2 : Int) ^ (min (Int.toNat (16 : Int)) (IntKind.bits .u32)) = ((65536 : Nat) : Int) := by decide
theorem p8 : (2 : Int) ^ (min (Int.toNat (8 : Int)) (IntKind.bits .u32)) = ((256 : Nat) : Int) := by decide
theorem Len32_says (n : Nat) (h : n < 4294967296) (h0 : n ≠ 0) : ∃ r : Nat, 0 < r ∧ r ≤ 32 ∧ math_bits_Len32 (n : Int) (r : Int) := by
  unfold math_bits_Len32
  rw [p16, p8]
  have w64 : ∀ (k : Nat) (c : UInt8), k ≤ 24 → c.toNat ≤ 8 → IntKind.i64.wrap ((k : Int) + (IntKind.i64.wrap ((c.toNat : Nat) : Int))) = ((k + c.toNat : Nat) : Int) := fun k c hk hc => by
    rw [wrap64' (n := ((c.toNat : Nat) : Int)) (by omega) (by omega), wrap64' (by omega) (by omega)]; omega
  rw [fdivN _ _ (by omega), fdivN _ _ (by omega), fdivN _ _ (by omega)]
  by_cases h1 : 65536 ≤ n
  · by_cases h2 : 256 ≤ n / 65536
    · obtain ⟨c, hc, hp, h8⟩ := ltab_idx (n := n / 65536 / 256) (by omega) (by omega)
      exact ⟨24 + c.toNat, by omega, by omega, IfB.dc (fun _ => IfB.dc (fun _ => ⟨c, hc, (w64 24 c (by omega) h8).symm⟩) (fun h => absurd (by omega) h)) (fun h => absurd (by omega) h)⟩
    · obtain ⟨c, hc, hp, h8⟩ := ltab_idx (n := n / 65536) (by omega) (by omega)
      exact ⟨16 + c.toNat, by omega, by omega, IfB.dc (fun _ => IfB.dc (fun h => absurd h (by omega)) (fun _ => ⟨c, hc, (w64 16 c (by omega) h8).symm⟩)) (fun h => absurd (by omega) h)⟩
  · by_cases h2 : 256 ≤ n
    · obtain ⟨c, hc, hp, h8⟩ := ltab_idx (n := n / 256) (by omega) (by omega)
      exact ⟨8 + c.toNat, by omega, by omega, IfB.dc (fun h => absurd h (by omega)) (fun _ => IfB.dc (fun _ => ⟨c, hc, (w64 8 c (by omega) h8).symm⟩) (fun h => absurd (by omega) h))⟩
    · obtain ⟨c, hc, hp, h8⟩ := ltab_idx (n := n) (by omega) (by omega)
      exact ⟨0 + c.toNat, by omega, by omega, IfB.dc (fun h => absurd h (by omega)) (fun _ => IfB.dc (fun h => absurd h (by omega)) (fun _ => ⟨c, hc, (w64 0 c (by omega) h8).symm⟩))⟩
theorem nat_Bits_pos (a : List Int) (ha : WS a) (hl : a.length ≤ 100000) (h0 : val a ≠ 0) : ∃ r : Int, r ≠ 0 ∧ nat_Bits a r := by
  unfold nat_Bits
  obtain ⟨W, hWe⟩ : ∃ W, W = words (val a) := ⟨_, rfl⟩
  have hw : W.length ≤ a.length := hWe ▸ wl ha
  have hp : 0 < W.length := hWe ▸ words_len_pos.2 h0
  have hws : WS W := hWe ▸ WS_words (val a)
  have hb := WS_get hws (i := W.length - 1) (by omega)
  have hlast : W[W.length - 1] ≠ 0 := by
    have h := words_Cn (val a)
    rw [← hWe] at h
    have := h (List.length_pos_iff.1 hp)
    rw [List.getLast_eq_getElem] at this
    exact this
  have hc : nat_trim a W := hWe ▸ nat_trim_says a ha (by omega)
  obtain ⟨r, hr0, hr, hs⟩ := Len32_says (W[W.length - 1].toNat) (by omega) (by omega)
  rw [Int.toNat_of_nonneg hb.1] at hs
  have e1 : IntKind.i64.wrap ((W.length : Int) - 1) = ((W.length - 1 : Nat) : Int) := by rw [wrap64' (by omega) (by omega)]; omega
  refine ⟨_, ?_, W, hc, IfB.eqI (fun h => by omega) (fun _ => ⟨_, by rw [e1]; exact Idx.nat (by omega), _, hs, rfl⟩)⟩
  rw [e1, wrap64' (n := 32 * _) (by omega) (by omega), wrap64' (by omega) (by omega)]
  omega
theorem shift0 (a : List Int) (ha : WS a) (hl : a.length ≤ 100000) : nat_Shift a (0 : Int) (words (val a)) := by
  have := nat_Shift_says a 0 ha hl (by omega)
  simpa using this
theorem whole_Make_says (p : Bool) (a : List Int) (ha : WS a) (hl : a.length ≤ 100000) : whole_Make p a (p && decide (val a ≠ 0), words (val a)) := by
  unfold whole_Make
  cases p with
  | false => exact IfB_false.2 ⟨_, shift0 a ha hl, rfl⟩
  | true =>
    refine IfB_true.2 ⟨_, shift0 a ha hl, IfB.dc (fun h => ?_) (fun h => ?_)⟩
    · have : val a ≠ 0 := words_len_pos.1 (by omega)
      simp [this]
    · have : val a = 0 := by
        rcases Nat.eq_zero_or_pos (val a) with h' | h'
        · exact h'
        · have := words_len_pos.2 (show val a ≠ 0 from by omega); omega
      simp [this]
def sgn (p : Bool) (n : Nat) : Int := if n = 0 then 0 else if p then -1 else 1
theorem whole_Sign_says (p : Bool) (a : List Int) (ha : WS a) (hl : a.length ≤ 100000) : whole_Sign p a (sgn p (val a)) := by
  unfold whole_Sign
  refine ⟨_, _, whole_Make_says p a ha hl, ?_⟩
  unfold sgn
  by_cases h0 : val a = 0
  · rw [h0, words_zero]
    simp
  · have hp := words_len_pos.2 h0
    have hn : ¬ (((words (val a)).length : Int) = 0) := by omega
    have hne := List.length_pos_iff.1 hp
    cases p <;> simp [h0, hn, hne, IfB]
def wholeR (s : By) : Bool × List Int × Int :=
  if (parseR (Lib.trimPrefix s [45])).2 ≠ 0 then (false, [], (parseR (Lib.trimPrefix s [45])).2)
  else (Lib.hasPrefix s [45] && decide (val (parseR (Lib.trimPrefix s [45])).1 ≠ 0), (parseR (Lib.trimPrefix s [45])).1, 0)
theorem parseR_WS (s : By) : WS (parseR s).1 := by
  unfold parseR; split
  · exact WS_nil
  · split
    · exact WS_nil
    · exact WS_words _
theorem parseR_len (s : By) : (parseR s).1.length ≤ 400 := by
  unfold parseR; split
  · simp
  · rename_i h
    split
    · simp
    · have := pow10_words s.length (dV_lt s (Decidable.byContradiction fun h' => h (.inr h')))
      dsimp only; omega
def ratC (p : Bool) (n d : Nat) : Bool × List Int × List Int := (p && decide (n / Nat.gcd n d ≠ 0), words (n / Nat.gcd n d), words (d / Nat.gcd n d))
def den1 (d : Nat) : Nat := if d = 0 then 1 else d
theorem rat_den_says (p : Bool) (a b : List Int) (hb : WS b) (hl : b.length ≤ 100000) : ∃ x, rat_den p a b x ∧ val x = den1 (val b) ∧ WS x ∧ x.length ≤ b.length + 1 := by
  unfold rat_den den1
  by_cases h0 : val b = 0
  · refine ⟨words 1, ⟨0, ?_, IfB_true.2 ⟨_, nat_Of_says 1 (by omega), rfl⟩⟩, by rw [val_words, if_pos h0], WS_words 1, ?_⟩
    · unfold nat_Bits
      have := nat_trim_says b hb (by omega)
      rw [h0, words_zero] at this
      exact ⟨_, this, IfB_true.2 rfl⟩
    · rw [words_one (by omega) (by omega)]; simp
  · obtain ⟨r, hr, hs⟩ := nat_Bits_pos b hb hl h0
    exact ⟨b, ⟨r, hs, IfB.eqI (fun h => absurd h hr) (fun _ => rfl)⟩, by rw [if_neg h0], hb, by omega⟩
theorem rat_Make_says (p : Bool) (a b : List Int) (ha : WS a) (hb : WS b) (hla : a.length ≤ 70000) (hlb : b.length ≤ 70000) : rat_Make p a b (ratC p (val a) (den1 (val b))) := by
  unfold rat_Make
  obtain ⟨x, hx, vx, wx, lx⟩ := rat_den_says false [] b hb (by omega)
  have hd0 : 0 < den1 (val b) := by unfold den1; split <;> omega
  rw [← vx] at hd0 ⊢
  have hg := nat_Gcd_says a x ha wx (by omega) (by omega)
  have hg0 : 0 < Nat.gcd (val a) (val x) := Nat.gcd_pos_of_pos_right _ hd0
  have hgl : (words (Nat.gcd (val a) (val x))).length ≤ x.length := by
    have := words_len_le (Nat.gcd_le_right (val a) hd0)
    have := wl wx
    omega
  have h1 := nat_DivMod_says a (words (Nat.gcd (val a) (val x))) ha (WS_words _) (by omega) (by omega)
  have h2 := nat_DivMod_says x (words (Nat.gcd (val a) (val x))) wx (WS_words _) (by omega) (by omega)
  rw [val_words, if_neg (by omega)] at h1 h2
  have hl1 : (words (val a / Nat.gcd (val a) (val x))).length ≤ a.length := Nat.le_trans (words_len_le (Nat.div_le_self _ _)) (wl ha)
  have hm := whole_Make_says p (words (val a / Nat.gcd (val a) (val x))) (WS_words _) (by omega)
  rw [val_words] at hm
  exact ⟨x, hx, _, hg, _, _, _, h1, _, _, _, h2, _, _, hm, rfl⟩
def ratR (s : By) : Bool × List Int × List Int × Int :=
  let a := (Lib.cut s [47]).1
  let b := if (Lib.cut s [47]).2.2 then (Lib.cut s [47]).2.1 else [49]
  if (wholeR a).2.2 ≠ 0 then (false, [], [], (wholeR a).2.2)
  else if (parseR b).2 ≠ 0 then (false, [], [], (parseR b).2)
  else if val (parseR b).1 = 0 then (false, [], [], 5)
  else let r := ratC (wholeR a).1 (val (wholeR a).2.1) (val (parseR b).1); (r.1, r.2.1, r.2.2, 0)
theorem wholeR_WS (s : By) : WS (wholeR s).2.1 := by
  unfold wholeR; split
  · exact WS_nil
  · exact parseR_WS _
theorem wholeR_len (s : By) : (wholeR s).2.1.length ≤ 400 := by
  unfold wholeR; split
  · simp
  · exact parseR_len _
theorem rat_Int0 : rat_Int 0 (false, [], words 1) := by
  unfold rat_Int whole_Of
  refine ⟨false, [], IfB_false.2 ⟨[], ?_, false, [], ?_, rfl⟩, words 1, nat_Of_says 1 (by omega), false, [], words 1, ?_, rfl⟩
  · have := nat_Of_says 0 (by omega)
    rw [words_zero] at this
    exact this
  · have := whole_Make_says false [] WS_nil (by simp)
    rw [val_nil, words_zero] at this
    exact this
  · have := rat_Make_says false [] (words 1) WS_nil (WS_words 1) (by simp) (by rw [words_one (by omega) (by omega)]; simp)
    rw [val_nil, val_words] at this
    have e : ratC false 0 (den1 1) = (false, [], words 1) := by unfold ratC den1; simp [words_zero]
    rwa [e] at this
end Go.Abs
end

section
namespace Go.Abs
open Go
set_option linter.unusedVariables false
set_option linter.unusedSimpArgs false
set_option linter.unnecessarySimpa false
def iV (p : Bool) (n : Nat) : Int := if p then -(n : Int) else n
def wholeC (z : Int) : Bool × List Int := (decide (z < 0), words z.natAbs)
theorem iV_abs (p : Bool) (n : Nat) : (iV p n).natAbs = n := by unfold iV; cases p <;> simp
theorem wholeC_iV (p : Bool) (n : Nat) : (p && decide (n ≠ 0), words n) = wholeC (iV p n) := by
  unfold wholeC
  rw [iV_abs]
  unfold iV
  cases p
  · simp <;> omega
  · by_cases h : n = 0
    · subst h; simp
    · simp [h] <;> omega
theorem whole_Make_z (p : Bool) (a : List Int) (ha : WS a) (hl : a.length ≤ 100000) : whole_Make p a (wholeC (iV p (val a))) := by
  rw [← wholeC_iV]; exact whole_Make_says p a ha hl
theorem words_mul_len {a b : List Int} (ha : WS a) (hb : WS b) : (words (val a * val b)).length ≤ a.length + b.length := by
  refine words_len _ _ ?_
  have h1 := val_lt ha
  have h2 := val_lt hb
  rw [Nat.pow_add]
  exact Nat.lt_of_le_of_lt (Nat.mul_le_mul_left _ (Nat.le_of_lt h2)) (Nat.mul_lt_mul_of_pos_right h1 (Nat.pow_pos (by omega)))
theorem whole_Mul_says (p : Bool) (a : List Int) (q : Bool) (b : List Int) (ha : WS a) (hb : WS b) (hla : a.length ≤ 40000) (hlb : b.length ≤ 40000) : whole_Mul p a q b (wholeC (iV p (val a) * iV q (val b))) := by
  unfold whole_Mul
  have s1 := whole_Sign_says p a ha (by omega)
  have s2 := whole_Sign_says q b hb (by omega)
  have hmul := nat_Mul_says a b ha hb (by omega) (by omega)
  have lm := words_mul_len ha hb
  have mk : ∀ (r : Bool) (n : Nat) (z : Int), (words n).length ≤ 100000 → iV r n = z → ∃ x y, whole_Make r (words n) (x, y) ∧ wholeC z = (x, y) := fun r n z hl hz => by
    have := whole_Make_z r (words n) (WS_words n) hl
    rw [val_words, hz] at this
    exact ⟨_, _, this, rfl⟩
  have hz : ∀ x y : Nat, ((x * y : Nat) : Int) = (x : Int) * (y : Int) := fun x y => Int.natCast_mul x y
  refine ⟨_, s1, _, s2, IfB.dc (fun n => ⟨_, hmul, mk true _ _ (by omega) ?_⟩) (fun n => ⟨_, hmul, mk false _ _ (by omega) ?_⟩)⟩
  · unfold sgn at n
    unfold iV
    rw [hz]
    by_cases h1 : val a = 0
    · simp [h1] at n
      exact absurd n (by decide)
    · by_cases h2 : val b = 0
      · simp [h1, h2] at n
        exact absurd n (by decide)
      · cases p <;> cases q <;> simp [h1, h2] at n ⊢ <;> first | exact absurd n (by decide) | grind
  · unfold sgn at n
    unfold iV
    rw [hz]
    by_cases h1 : val a = 0
    · simp [h1]
    · by_cases h2 : val b = 0
      · simp [h1, h2]
      · cases p <;> cases q <;> simp [h1, h2] at n ⊢ <;> first | exact absurd n (by decide) | grind
def ratQ (z : Int) (d : Nat) : Bool × List Int × List Int := (decide (z < 0), words (z.natAbs / Nat.gcd z.natAbs d), words (d / Nat.gcd z.natAbs d))
theorem ratC_Q (z : Int) (d : Nat) (hd : 0 < d) : ratC (decide (z < 0)) z.natAbs d = ratQ z d := by
  unfold ratC ratQ
  by_cases h : z < 0
  · have : z.natAbs / Nat.gcd z.natAbs d ≠ 0 := by
      have h1 := Nat.div_pos (Nat.gcd_le_left d (show 0 < z.natAbs from by omega)) (Nat.gcd_pos_of_pos_right z.natAbs hd)
      omega
    simp [h, this]
  · simp [h]
theorem den1_pos (d : Nat) : 0 < den1 d := by unfold den1; split <;> omega
theorem wholeC_WS (z : Int) : WS (wholeC z).2 := WS_words _
theorem rat_Make_z (z : Int) (x : List Int) (d : Nat) (hx : WS x) (hv : val x = d) (hd : 0 < d) (l1 : (wholeC z).2.length ≤ 70000) (l2 : x.length ≤ 70000) : rat_Make (wholeC z).1 (wholeC z).2 x (ratQ z d) := by
  have := rat_Make_says (wholeC z).1 (wholeC z).2 x (wholeC_WS z) hx l1 l2
  rw [show val (wholeC z).2 = z.natAbs from val_words _, hv, show den1 d = d from by unfold den1; rw [if_neg (by omega)], show (wholeC z).1 = decide (z < 0) from rfl, ratC_Q z d hd] at this
  exact this
theorem rat_Mul_says (p : Bool) (n d : List Int) (p' : Bool) (n' d' : List Int) (hn : WS n) (hd : WS d) (hn' : WS n') (hd' : WS d') (ln : n.length ≤ 10000) (ld : d.length ≤ 10000) (ln' : n'.length ≤ 10000) (ld' : d'.length ≤ 10000) :
    rat_Mul p n d p' n' d' (ratQ (iV p (val n) * iV p' (val n')) (den1 (val d) * den1 (val d'))) := by
  unfold rat_Mul
  have ha := whole_Mul_says p n p' n' hn hn' (by omega) (by omega)
  obtain ⟨x, hx, vx, wx, lx⟩ := rat_den_says p n d hd (by omega)
  obtain ⟨y, hy, vy, wy, ly⟩ := rat_den_says p' n' d' hd' (by omega)
  have hm := nat_Mul_says x y wx wy (by omega) (by omega)
  have lm := words_mul_len wx wy
  rw [vx, vy] at hm lm
  have hz : (wholeC (iV p (val n) * iV p' (val n'))).2.length ≤ 70000 := by
    unfold wholeC
    dsimp only
    rw [Int.natAbs_mul, iV_abs, iV_abs]
    have := words_mul_len hn hn'
    omega
  have hmk := rat_Make_z _ (words (den1 (val d) * den1 (val d'))) (den1 (val d) * den1 (val d')) (WS_words _) (val_words _) (Nat.mul_pos (den1_pos _) (den1_pos _)) hz (by omega)
  exact ⟨_, _, ha, x, hx, y, hy, _, hm, _, _, _, hmk, rfl⟩
end Go.Abs
end

section
namespace Go.Abs
open Go
set_option linter.unusedVariables false
set_option linter.unusedSimpArgs false
set_option linter.unnecessarySimpa false
theorem IfB.dec {p : Prop} [Decidable p] {A B : Prop} (h1 : p → A) (h2 : ¬ p → B) : IfB (decide p) A B := ⟨fun h => h1 (of_decide_eq_true h), fun h => h2 (of_decide_eq_false h)⟩
theorem IfB.eqi {a b : Int} {A B : Prop} (h1 : a = b → A) (h2 : a ≠ b → B) : IfB (a == b) A B := ⟨fun h => h1 (by simpa using h), fun h => h2 (by simpa using h)⟩
theorem IfB.nei {a b : Int} {A B : Prop} (h1 : a ≠ b → A) (h2 : a = b → B) : IfB (a != b) A B := ⟨fun h => h1 (by simpa using h), fun h => h2 (by simpa using h)⟩
theorem IfB.bool {b : Bool} {A B : Prop} (h1 : b = true → A) (h2 : b = false → B) : IfB b A B := ⟨h1, h2⟩
theorem rune_at {s : List UInt8} {k : Nat} {b : UInt8} (h : s[k]? = some b) : (b.toNat < 128 ∧ runeAt s k = (b.toNat : Int) ∧ runeLen s k = 1) ∨ (128 ≤ b.toNat ∧ 128 ≤ runeAt s k ∧ 1 ≤ runeLen s k) := by
  obtain ⟨hk, hb⟩ := List.getElem?_eq_some_iff.1 h
  have hk' : k < (ByteArray.mk s.toArray).size := by simpa [ByteArray.size] using hk
  have e : (ByteArray.mk s.toArray)[k]'hk' = b := by
    rw [← hb]; rfl
  by_cases ha : b.toNat < 128
  · have := Go.decode_ascii (ByteArray.mk s.toArray) k hk' (by rw [e]; exact ha)
    rw [e] at this
    exact .inl ⟨ha, by simp [runeAt, this], by simp [runeLen, this]⟩
  · have := Go.decode_high (ByteArray.mk s.toArray) k hk' (by rw [e]; omega)
    exact .inr ⟨by omega, by simp only [runeAt]; omega, this.2⟩
def nmOk (i : Nat) (b : UInt8) : Prop := (97 ≤ b.toNat ∧ b.toNat ≤ 122) ∨ (i ≠ 0 ∧ (b.toNat = 95 ∨ (48 ≤ b.toNat ∧ b.toNat ≤ 57)))
def NameTo (s : List UInt8) (k : Nat) : Prop := ∀ i b, i < k → s[i]? = some b → nmOk i b
def NameP (s : List UInt8) : Prop := 1 ≤ s.length ∧ s.length ≤ 16 ∧ NameTo s s.length
theorem NameTo.next {s : List UInt8} {k : Nat} {b : UInt8} (h : NameTo s k) (hb : s[k]? = some b) (hn : nmOk k b) : NameTo s (k + 1) := fun i c hi hc => by
  by_cases e : i = k
  · subst e; rw [hb] at hc; cases hc; exact hn
  · exact h i c (by omega) hc
theorem not_name {s : List UInt8} {k : Nat} {b : UInt8} (hb : s[k]? = some b) (hn : ¬ nmOk k b) : ¬ NameP s := fun h => hn (h.2.2 k b (List.getElem?_eq_some_iff.1 hb).1 hb)
theorem lines_Name_says {s : List UInt8} {r : Bool} (hr : r = true ↔ NameP s) : lines_Name s r := by
  have no : ¬ NameP s → r = false := fun h => by cases r with | false => rfl | true => exact absurd (hr.1 rfl) h
  unfold lines_Name
  refine LoopP.intro (fun k => k ≤ s.length ∧ NameTo s k) (fun k => s.length - k) ⟨Nat.zero_le _, fun i b h => by omega⟩ ?_
  rintro X k ⟨hk, hn⟩ hX
  unfold lines_Name_L1
  refine IfB.dec (fun hlt => ?_) (fun hge => ?_)
  · obtain ⟨b, hb⟩ : ∃ b, s[k]? = some b := ⟨_, List.getElem?_eq_getElem hlt⟩
    have hc := rune_at hb
    generalize hcc : runeAt s k = c at hc ⊢
    have go : (97 ≤ c ∧ c ≤ 122) ∨ (k ≠ 0 ∧ (c = 95 ∨ (48 ≤ c ∧ c ≤ 57))) → X (k + runeLen s k) := fun h => by
      rcases hc with ⟨h1, h2, h3⟩ | ⟨h1, h2, h3⟩
      · rw [h3]
        exact hX _ ⟨hlt, hn.next hb (by unfold nmOk; omega)⟩ (by omega)
      · omega
    have bad : ¬ ((97 ≤ c ∧ c ≤ 122) ∨ (k ≠ 0 ∧ (c = 95 ∨ (48 ≤ c ∧ c ≤ 57)))) → r = false := fun h => no (not_name hb (by
      unfold nmOk
      rcases hc with ⟨h1, h2, h3⟩ | ⟨h1, h2, h3⟩ <;> omega))
    repeat' (first | (refine IfB.dec (fun _ => ?_) (fun _ => ?_)) | (refine IfB.eqi (fun _ => ?_) (fun _ => ?_)) | (refine IfB.nei (fun _ => ?_) (fun _ => ?_)))
    all_goals first | (refine go ?_; omega) | (refine bad ?_; omega)
  · have e : k = s.length := by omega
    subst e
    refine IfB.dec (fun h1 => IfB.dec (fun h2 => hr.2 ⟨by omega, by omega, hn⟩) (fun h2 => no fun h => by have := h.2.1; omega)) (fun h1 => no fun h => by have := h.1; omega)
def mayB (b : UInt8) : Prop := b.toNat = 10 ∨ (32 ≤ b.toNat ∧ b.toNat ≤ 126)
def RightTo (s : List UInt8) (k : Nat) : Prop := ∀ i b, i < k → s[i]? = some b → mayB b
def RightP (s : List UInt8) : Prop := RightTo s s.length
theorem RightP.mem {s : List UInt8} (h : RightP s) {b : UInt8} (hb : b ∈ s) : mayB b := by
  obtain ⟨i, hi, e⟩ := List.getElem_of_mem hb
  exact h i b hi (by rw [List.getElem?_eq_getElem hi, e])
theorem RightTo.next {s : List UInt8} {k : Nat} {b : UInt8} (h : RightTo s k) (hb : s[k]? = some b) (hn : mayB b) : RightTo s (k + 1) := fun i c hi hc => by
  by_cases e : i = k
  · subst e; rw [hb] at hc; cases hc; exact hn
  · exact h i c (by omega) hc
theorem lines_may_says {c : Int} {r : Bool} (hr : r = true ↔ (c = 10 ∨ (32 ≤ c ∧ c ≤ 126))) : lines_may c r := by
  have no : ¬ (c = 10 ∨ (32 ≤ c ∧ c ≤ 126)) → r = false := fun h => by cases r with | false => rfl | true => exact absurd (hr.1 rfl) h
  unfold lines_may
  refine IfB.eqi (fun h => hr.2 (.inl h)) (fun h => IfB.dec (fun h1 => IfB.dec (fun h2 => hr.2 (.inr ⟨h1, h2⟩)) (fun h2 => no (by omega))) (fun h1 => no (by omega)))
theorem split_mem {c : UInt8} : ∀ {s : List UInt8} {x : List UInt8}, x ∈ splitC c s → (∀ b, b ∈ x → b ∈ s) ∧ x.length ≤ s.length
  | [], x, h => by simp [splitC] at h; subst h; simp
  | b :: l, x, h => by
    unfold splitC at h
    split at h
    · rcases List.mem_cons.1 h with rfl | h
      · simp
      · obtain ⟨h1, h2⟩ := split_mem h
        exact ⟨fun b hb => List.mem_cons_of_mem _ (h1 b hb), by simp; omega⟩
    · obtain ⟨y, r, e⟩ := splitC_ne c l
      rw [e] at h
      simp only at h
      rcases List.mem_cons.1 h with rfl | h
      · obtain ⟨h1, h2⟩ := split_mem (c := c) (s := l) (x := y) (by rw [e]; simp)
        refine ⟨fun d hd => ?_, by simp; omega⟩
        rcases List.mem_cons.1 hd with rfl | hd
        · simp
        · exact List.mem_cons_of_mem _ (h1 d hd)
      · obtain ⟨h1, h2⟩ := split_mem (c := c) (s := l) (x := x) (by rw [e]; simp [h])
        exact ⟨fun b hb => List.mem_cons_of_mem _ (h1 b hb), by simp; omega⟩
theorem split_len {c : UInt8} : ∀ {s : List UInt8}, (splitC c s).length = s.count c + 1
  | [] => rfl
  | b :: l => by
    unfold splitC
    split
    · rename_i e; subst e; rw [List.length_cons, split_len]; simp
    · rename_i e
      obtain ⟨y, r, e2⟩ := splitC_ne c l
      have := split_len (c := c) (s := l)
      rw [e2] at this ⊢
      rw [List.count_cons_of_ne (by simpa using e)]
      simpa using this
def head35 (s : List UInt8) : List UInt8 := (Lib.cut s [35]).1
theorem cut_fst {s : List UInt8} {c : UInt8} : ∃ n, (Lib.cut s [c]).1 = s.take n := by
  unfold Lib.cut
  split
  · exact ⟨_, rfl⟩
  · exact ⟨s.length, by simp⟩
theorem head_mem {s : List UInt8} : (∀ b, b ∈ head35 s → b ∈ s) ∧ (head35 s).length ≤ s.length := by
  unfold head35
  obtain ⟨n, e⟩ := cut_fst (s := s) (c := 35)
  rw [e]
  exact ⟨fun b hb => List.mem_of_mem_take hb, by simp; omega⟩
def wordsOf (s : List UInt8) : List (List UInt8) := Lib.fields (head35 s)
def linesFrom (k : Int) : List (List UInt8) → List (Int × List (List UInt8))
  | [] => []
  | s :: l => if 0 < (wordsOf s).length then (k + 1, wordsOf s) :: linesFrom (k + 1) l else linesFrom (k + 1) l
def allL (s : List UInt8) : List (Int × List (List UInt8)) := linesFrom 0 (splitC 10 s)
theorem linesFrom_length : ∀ (l : List (List UInt8)) (k : Int), (linesFrom k l).length ≤ l.length
  | [], k => by simp [linesFrom]
  | s :: l, k => by
    have := linesFrom_length l (k + 1)
    unfold linesFrom
    split <;> simp <;> omega
theorem lines_All_says {s : List UInt8} (hl : s.length ≤ 65536) (hr : RightP s) : lines_All s (allL s, 0) := by
  unfold lines_All
  refine IfB.dec (fun h => by omega) (fun _ => ?_)
  refine LoopP.intro (fun k => k ≤ s.length) (fun k => s.length - k) (Nat.zero_le _) ?_
  intro X k hk hX
  unfold lines_All_L1
  refine IfB.dec (fun hlt => ?_) (fun hge => ?_)
  · obtain ⟨b, hb⟩ : ∃ b, s[k]? = some b := ⟨_, List.getElem?_eq_getElem hlt⟩
    have hm : mayB b := hr k b hlt hb
    unfold mayB at hm
    rcases rune_at hb with ⟨h1, h2, h3⟩ | ⟨h1, h2, h3⟩
    · refine ⟨true, lines_may_says (by rw [h2]; simp; omega), IfB_true.2 ?_⟩
      rw [h3]
      exact hX _ hlt (by omega)
    · omega
  · refine ⟨splitC 10 s, ⟨by unfold Short; omega, 10, rfl, rfl⟩, ?_⟩
    generalize hp : splitC 10 s = ps
    have hmem : ∀ x, x ∈ ps → (∀ b, b ∈ x → mayB b) ∧ x.length ≤ 65536 := fun x hx => by
      obtain ⟨h1, h2⟩ := split_mem (hp ▸ hx)
      exact ⟨fun b hb => hr.mem (h1 b hb), by omega⟩
    have hlen : ps.length ≤ 65537 := by
      rw [← hp, split_len]
      have := List.count_le_length (a := (10 : UInt8)) (l := s)
      omega
    have goal : linesFrom 0 ps = allL s := by unfold allL; rw [hp]
    rw [← goal]
    refine LoopP.intro (fun z : Int × List (Int × List (List UInt8)) => ∃ done rest : List (List UInt8), ps = done ++ rest ∧ z.1 = done.length ∧ z.2.length ≤ done.length ∧ z.2 ++ linesFrom done.length rest = linesFrom 0 ps) (fun z => ps.length - z.1.toNat) ⟨[], ps, rfl, rfl, by simp, by simp⟩ ?_
    rintro X ⟨z, out⟩ ⟨done, rest, e, hz, ho, hj⟩ hX
    simp only at hz ho hj
    subst hz
    unfold lines_All_L2
    refine IfB.dec (fun hlt => ?_) (fun hge => ?_)
    · cases rest with
      | nil => rw [e] at hlt; simp at hlt
      | cons x rest =>
        have hx := hmem x (by rw [e]; simp)
        have hdl : done.length < ps.length := by rw [e]; simp
        refine ⟨x, ⟨Int.natCast_nonneg _, by rw [e]; simp⟩, (Lib.cut x [35]).1, (Lib.cut x [35]).2.1, (Lib.cut x [35]).2.2, ⟨by unfold Short; omega, 35, rfl, rfl⟩, ?_⟩
        have ew : ∀ A : Prop, A → IfB (Lib.cut x [35]).2.2 A A := fun A h => IfB.intro (fun _ => h) (fun _ => h)
        refine ew _ ?_
        obtain ⟨m1, m2⟩ := head_mem (s := x)
        refine ⟨wordsOf x, ⟨by unfold Short; unfold head35 at m2; omega, fun b hb => ?_, rfl⟩, ?_⟩
        · have := hx.1 b (m1 b hb); unfold mayB at this; omega
        have hw : IntKind.i64.wrap ((done.length : Int) + 1) = ((done ++ [x]).length : Int) := by rw [wrap64 (by constructor <;> omega)]; simp
        have hps : ps = (done ++ [x]) ++ rest := by rw [e]; simp
        have hj2 := hj
        have hcons : linesFrom (done.length : Int) (x :: rest) = if 0 < (wordsOf x).length then ((done.length : Int) + 1, wordsOf x) :: linesFrom ((done.length : Int) + 1) rest else linesFrom ((done.length : Int) + 1) rest := rfl
        rw [hcons] at hj2
        have ec : ((done ++ [x]).length : Int) = (done.length : Int) + 1 := by simp
        have em : ps.length - ((done ++ [x]).length : Int).toNat < ps.length - (done.length : Int).toNat := by simp; omega
        rw [hw]
        refine IfB.dec (fun hpos => ?_) (fun hpos => ?_)
        · rw [if_pos (by omega)] at hj2
          refine ⟨by unfold Fits; simp; omega, hX _ ⟨done ++ [x], rest, hps, rfl, by simp; omega, ?_⟩ em⟩
          simp only [ec, List.append_assoc, List.singleton_append]
          exact hj2
        · rw [if_neg (by omega)] at hj2
          refine hX _ ⟨done ++ [x], rest, hps, rfl, by simp; omega, ?_⟩ em
          simp only [ec]
          exact hj2
    · have : rest = [] := by
        cases rest with
        | nil => rfl
        | cons x r => rw [e] at hge; simp at hge; omega
      subst this
      simp only [linesFrom, List.append_nil] at hj
      rw [hj]
def Rising (lo hi : Int) : List (Int × List (List UInt8)) → Prop
  | [] => True
  | x :: l => lo < x.1 ∧ x.1 ≤ hi ∧ 0 < x.2.length ∧ Rising x.1 hi l
theorem Rising.lower {lo lo' hi : Int} (h : lo' ≤ lo) : ∀ {l : List (Int × List (List UInt8))}, Rising lo hi l → Rising lo' hi l
  | [], _ => trivial
  | x :: l, ⟨a, b⟩ => ⟨by omega, b⟩
theorem linesFrom_rising : ∀ (l : List (List UInt8)) (k : Int), Rising k (k + l.length) (linesFrom k l)
  | [], k => trivial
  | s :: l, k => by
    have ih := linesFrom_rising l (k + 1)
    have e : k + 1 + (l.length : Int) = k + ((s :: l).length : Int) := by simp; omega
    rw [e] at ih
    unfold linesFrom
    split
    · rename_i hw
      exact ⟨by simp; omega, by simp; omega, hw, ih⟩
    · exact ih.lower (by omega)
theorem Rising.at {hi : Int} : ∀ {l : List (Int × List (List UInt8))} {lo : Int} {i : Nat} {x : Int × List (List UInt8)}, Rising lo hi l → l[i]? = some x → 0 < x.2.length ∧ x.1 ≤ hi ∧ (∀ y, i ≠ 0 → l[i - 1]? = some y → y.1 < x.1) ∧ lo < x.1
  | [], _, i, x, _, h => by simp at h
  | z :: l, lo, 0, x, hr, h => by
    simp at h; subst h
    exact ⟨hr.2.2.1, hr.2.1, fun y h => absurd rfl h, hr.1⟩
  | z :: l, lo, i + 1, x, hr, h => by
    simp at h
    obtain ⟨h1, h2, h3, h4⟩ := Rising.at hr.2.2.2 h
    refine ⟨h1, h2, fun y _ hy => ?_, by have := hr.1; omega⟩
    cases i with
    | zero => simp at hy; subst hy; exact h4
    | succ i => simp at hy; exact h3 y (by omega) (by simpa using hy)
theorem head_none {s : List UInt8} (h : ∀ b, b ∈ s → b ≠ 35) : head35 s = s := by
  unfold head35
  rw [cut_one]
  induction s with
  | nil => rfl
  | cons b l ih =>
    rw [List.takeWhile_cons_of_pos (by simpa using h b (by simp)), ih fun c hc => h c (by simp [hc])]
def wlen (l : List (List UInt8)) : Nat := (l.map fun x => x.length + 1).sum
theorem fields_wlen : ∀ (l cur : List UInt8), wlen (Lib.fieldsGo cur l) ≤ cur.length + l.length + 1
  | [], cur => by cases cur <;> simp [Lib.fieldsGo, wlen]
  | b :: l, cur => by
    have i1 := fields_wlen l []
    have i2 := fields_wlen l (cur ++ [b])
    unfold Lib.fieldsGo
    split
    · cases cur with
      | nil => simp at i1 ⊢; omega
      | cons c t => simp [wlen] at i1 ⊢; omega
    · simp at i2 ⊢; omega
theorem wlen_len (l : List (List UInt8)) : l.length ≤ wlen l := by
  induction l with
  | nil => simp [wlen]
  | cons x l ih => simp [wlen] at ih ⊢; omega
theorem tail_len (c : UInt8) (l : List (List UInt8)) : (Lib.joinTail [c] l).length = wlen l := by
  induction l with
  | nil => rfl
  | cons x l ih =>
    simp only [Lib.joinTail, wlen, List.map_cons, List.flatten_cons, List.length_append, List.length_cons, List.length_nil, List.sum_cons] at ih ⊢
    omega
theorem join_len (c : UInt8) (l : List (List UInt8)) : (Lib.join l [c]).length ≤ wlen l := by
  cases l with
  | nil => rw [Lib.join_nil]; exact Nat.zero_le _
  | cons x l =>
    rw [Lib.join_cons, List.length_append, tail_len]
    simp [wlen]
theorem strings_Join_says {l : List (List UInt8)} {c : UInt8} (h : wlen l ≤ 1000000) : strings_Join l [c] (Lib.join l [c]) :=
  ⟨by have := wlen_len l; omega, by have := join_len c l; omega, rfl⟩
abbrev Ws := List (List UInt8)
abbrev Ls := List (Int × Ws)
theorem u8 {b : UInt8} {c : Nat} (hc : c < 256) : b.toNat = c ↔ b = c.toUInt8 := by
  constructor
  · intro h; subst h; simp
  · rintro rfl; simp; omega
theorem all_wlen (s : List UInt8) : ∀ x, x ∈ allL s → wlen x.2 ≤ s.length + 1 := by
  have key : ∀ (l : List (List UInt8)) (k : Int), (∀ y, y ∈ l → y.length ≤ s.length) → ∀ x, x ∈ linesFrom k l → wlen x.2 ≤ s.length + 1 := by
    intro l
    induction l with
    | nil => intro k _ x hx; simp [linesFrom] at hx
    | cons y l ih =>
      intro k hy x hx
      have hx' : x ∈ (if 0 < (wordsOf y).length then (k + 1, wordsOf y) :: linesFrom (k + 1) l else linesFrom (k + 1) l) := hx
      have one : wlen (wordsOf y) ≤ s.length + 1 := by
        have h1 := fields_wlen (head35 y) []
        have h2 := (head_mem (s := y)).2
        have h3 := hy y (by simp)
        unfold wordsOf Lib.fields
        simp at h1
        omega
      split at hx'
      · rcases List.mem_cons.1 hx' with rfl | hx'
        · exact one
        · exact ih _ (fun z hz => hy z (by simp [hz])) x hx'
      · exact ih _ (fun z hz => hy z (by simp [hz])) x hx'
  exact key _ 0 fun y hy => (split_mem hy).2
theorem LoopP.once {σ : Type} {F : (σ → Prop) → σ → Prop} {s : σ} (h : ∀ X : σ → Prop, (∀ s, F X s → X s) → F X s) : LoopP F s := fun X hX => hX s (h X hX)
theorem fields_word : ∀ (w t cur : List UInt8), (∀ b, b ∈ w → Lib.isSp b = false) → Lib.fieldsGo cur (w ++ t) = Lib.fieldsGo (cur ++ w) t
  | [], t, cur, _ => by simp
  | b :: w, t, cur, h => by
    rw [List.cons_append, Lib.fieldsGo, if_neg (by rw [h b (by simp)]; simp), fields_word w t (cur ++ [b]) fun c hc => h c (by simp [hc])]
    simp
theorem fields_tail : ∀ (r : List (List UInt8)) (cur : List UInt8), cur ≠ [] → (∀ w, w ∈ r → w ≠ [] ∧ ∀ b, b ∈ w → Lib.isSp b = false) → Lib.fieldsGo cur (Lib.joinTail [32] r) = cur :: r
  | [], cur, h, _ => by cases cur <;> simp [Lib.joinTail, Lib.fieldsGo] at h ⊢
  | y :: r, cur, h, hr => by
    obtain ⟨h1, h2⟩ := hr y (by simp)
    have e : Lib.joinTail [32] (y :: r) = 32 :: (y ++ Lib.joinTail [32] r) := by simp [Lib.joinTail]
    have e2 : Lib.fieldsGo cur (32 :: (y ++ Lib.joinTail [32] r)) = if cur.isEmpty then Lib.fieldsGo [] (y ++ Lib.joinTail [32] r) else cur :: Lib.fieldsGo [] (y ++ Lib.joinTail [32] r) := rfl
    rw [e, e2, fields_word _ _ _ h2, List.nil_append, fields_tail r y h1 fun w hw => hr w (by simp [hw])]
    cases cur with
    | nil => exact absurd rfl h
    | cons c t => rfl
theorem fields_join {l : List (List UInt8)} (h : ∀ w, w ∈ l → w ≠ [] ∧ ∀ b, b ∈ w → Lib.isSp b = false) : Lib.fields (Lib.join l [32]) = l := by
  cases l with
  | nil => rfl
  | cons x r =>
    obtain ⟨h1, h2⟩ := h x (by simp)
    unfold Lib.fields
    rw [Lib.join_cons, fields_word _ _ _ h2, List.nil_append, fields_tail r x h1 fun w hw => h w (by simp [hw])]
def mkB (s : List UInt8) : ByteArray := ⟨s.toArray⟩
theorem mkB_inj {a b : List UInt8} (h : mkB a = mkB b) : a = b := by
  have : (mkB a).data.toList = (mkB b).data.toList := by rw [h]
  simpa [mkB] using this
theorem join_mem : ∀ {l : List (List UInt8)} {b : UInt8}, b ∈ Lib.join l [32] → b = 32 ∨ ∃ w, w ∈ l ∧ b ∈ w
  | [], b, h => by rw [Lib.join_nil] at h; simp at h
  | x :: r, b, h => by
    rw [Lib.join_cons, List.mem_append] at h
    rcases h with h | h
    · exact .inr ⟨x, by simp, h⟩
    · unfold Lib.joinTail at h
      rw [List.mem_flatten] at h
      obtain ⟨t, ht, hb⟩ := h
      rw [List.mem_map] at ht
      obtain ⟨w, hw, rfl⟩ := ht
      simp only [List.mem_append, List.mem_singleton] at hb
      rcases hb with h | h
      · exact .inl h
      · exact .inr ⟨w, by simp [hw], h⟩
end Go.Abs
end

section
namespace Go.Abs
open Go
set_option linter.unusedVariables false
set_option linter.unusedSimpArgs false
set_option linter.unnecessarySimpa false
abbrev Q3 := Bool × List Int × List Int
def isN (w : By) : Prop := (ratR w).2.2.2 = 0
instance (w : By) : Decidable (isN w) := inferInstanceAs (Decidable (_ = _))
def numOf (w : By) : Q3 := ((ratR w).1, (ratR w).2.1, (ratR w).2.2.1)
def dgOK (s : By) : Prop := s ≠ [] ∧ allDg s ∧ s.length ≤ 400
instance (s : By) : Decidable (dgOK s) := inferInstanceAs (Decidable (_ ∧ _))
theorem dgOK_parse (s : By) : dgOK s ↔ (parseR s).2 = 0 := by
  unfold dgOK parseR
  by_cases h : s = [] ∨ ¬ allDg s
  · rw [if_pos h]
    constructor
    · rintro ⟨h1, h2, _⟩; exact (h.elim h1 (fun h => h h2)).elim
    · intro h'; simp at h'
  · rw [if_neg h]
    have h1 : s ≠ [] := fun e => h (.inl e)
    have h2 : allDg s := Decidable.byContradiction fun e => h (.inr e)
    by_cases h3 : 400 < s.length
    · rw [if_pos h3]
      constructor
      · rintro ⟨_, _, h4⟩; omega
      · intro h'; simp at h'
    · rw [if_neg h3]; exact ⟨fun _ => rfl, fun _ => ⟨h1, h2, by omega⟩⟩
def okQ (x : Q3) : Prop := WS x.2.1 ∧ WS x.2.2 ∧ x.2.1.length ≤ 10000 ∧ x.2.2.length ≤ 10000
theorem numOf_ok (w : By) : okQ (numOf w) := by
  have hp : ∀ (v : Nat), True := fun _ => trivial
  unfold okQ numOf ratR
  dsimp only
  have h1 := parseR_len (if (Lib.cut w [47]).2.2 then (Lib.cut w [47]).2.1 else [49])
  have h2 := wholeR_len (Lib.cut w [47]).1
  have h3 := parseR_WS (if (Lib.cut w [47]).2.2 then (Lib.cut w [47]).2.1 else [49])
  have h4 := wholeR_WS (Lib.cut w [47]).1
  generalize parseR (if (Lib.cut w [47]).2.2 then (Lib.cut w [47]).2.1 else [49]) = P at *
  generalize wholeR (Lib.cut w [47]).1 = A at *
  split
  · exact ⟨WS_nil, WS_nil, by simp, by simp⟩
  · split
    · exact ⟨WS_nil, WS_nil, by simp, by simp⟩
    · split
      · exact ⟨WS_nil, WS_nil, by simp, by simp⟩
      · refine ⟨WS_words _, WS_words _, ?_, ?_⟩
        · exact Nat.le_trans (words_len_le (Nat.div_le_self _ _)) (Nat.le_trans (wl h4) (by omega))
        · exact Nat.le_trans (words_len_le (Nat.div_le_self _ _)) (Nat.le_trans (wl h3) (by omega))
end Go.Abs
end

section
namespace Go.Abs
open Go
set_option linter.unusedVariables false
set_option linter.unusedSimpArgs false
set_option linter.unnecessarySimpa false
theorem dV_zero : ∀ {s : By}, allDg s → (dV 0 s = 0 ↔ ∀ b, b ∈ s → b = 48)
  | [], _ => by simp [dV_nil]
  | b :: l, h => by
    have hb := h b (by simp)
    have ih := dV_zero (s := l) fun c hc => h c (by simp [hc])
    unfold dg at hb
    rw [dV_cons, dV_acc]
    have hp : 0 < 10 ^ l.length := Nat.pow_pos (by omega)
    have hb48 : b = 48 ↔ b.toNat = 48 := ⟨fun e => by subst e; rfl, fun e => UInt8.toNat_inj.1 e⟩
    constructor
    · intro h0
      have h1 : (0 * 10 + (b.toNat - 48)) * 10 ^ l.length = 0 := by omega
      have h2 : dV 0 l = 0 := by omega
      rcases Nat.mul_eq_zero.1 h1 with h3 | h3
      · intro c hc
        rcases List.mem_cons.1 hc with rfl | hc
        · exact hb48.2 (by omega)
        · exact ih.1 h2 c hc
      · omega
    · intro h0
      have h1 : b.toNat = 48 := hb48.1 (h0 b (by simp))
      have h2 := ih.2 fun c hc => h0 c (by simp [hc])
      rw [h1, h2]; simp
def allZ (s : By) : Prop := ∀ c, c ∈ s → c = 48
instance (s : By) : Decidable (allZ s) := inferInstanceAs (Decidable (∀ c, c ∈ s → c = 48))
def numU (t : By) : Bool :=
  if (Lib.cut t [47]).2.2 then decide (dgOK (Lib.cut t [47]).1) && decide (dgOK (Lib.cut t [47]).2.1) && !decide (allZ (Lib.cut t [47]).2.1) else decide (dgOK t)
theorem cut_app {a b : By} {c : UInt8} (h : ∀ x, x ∈ a → x ≠ c) : Lib.cut (a ++ c :: b) [c] = (a, b, true) := by
  have hi : Lib.index (a ++ c :: b) [c] = (a.length : Int) := by
    rw [Lib.index_one]
    induction a with
    | nil => simp [Lib.indexByte]
    | cons x l ih =>
      have hx := h x (by simp)
      have := ih fun y hy => h y (by simp [hy])
      simp [Lib.indexByte, hx, this]
  unfold Lib.cut
  rw [hi]
  simp
theorem cut_no {a : By} {c : UInt8} (h : ∀ x, x ∈ a → x ≠ c) : Lib.cut a [c] = (a, [], false) := by
  have hi : Lib.index a [c] = -1 := by
    rw [Lib.index_one]
    induction a with
    | nil => rfl
    | cons x l ih =>
      have hx := h x (by simp)
      have := ih fun y hy => h y (by simp [hy])
      simp [Lib.indexByte, hx, this]
  unfold Lib.cut
  rw [hi]
  simp
theorem trimP_cons (b : UInt8) (l : By) : Lib.trimPrefix (b :: l) [45] = if b = 45 then l else b :: l := by
  unfold Lib.trimPrefix Lib.hasPrefix
  by_cases h : b = 45
  · subst h; simp [List.isPrefixOf]
  · have : ¬ (45 = b) := fun e => h e.symm
    simp [List.isPrefixOf, h, this]
theorem dw_nil2 : ∀ (w : By), w.dropWhile (fun y : UInt8 => !(y == 47)) = [] ↔ ∀ x, x ∈ w → (!(x == 47)) = true
  | [] => by simp
  | b :: l => by
    rw [List.dropWhile_cons]
    by_cases h : (!(b == 47)) = true
    · rw [if_pos h, dw_nil2 l]
      constructor
      · intro h' x hx
        rcases List.mem_cons.1 hx with rfl | hx
        · exact h
        · exact h' x hx
      · exact fun h' x hx => h' x (by simp [hx])
    · rw [if_neg h]
      exact ⟨fun e => by simp at e, fun h' => absurd (h' b (by simp)) h⟩
theorem dw_head : ∀ (w : By), w.dropWhile (fun y : UInt8 => !(y == 47)) ≠ [] → ∀ y l, w.dropWhile (fun y : UInt8 => !(y == 47)) = y :: l → y = 47
  | [], h => by simp at h
  | b :: l, h => by
    rw [List.dropWhile_cons] at h ⊢
    by_cases hb : (!(b == 47)) = true
    · rw [if_pos hb] at h ⊢; exact dw_head l h
    · rw [if_neg hb]
      intro y l' e
      cases e
      simpa using hb
theorem tw_mem : ∀ (w : By) (x : UInt8), x ∈ w.takeWhile (fun y : UInt8 => !(y == 47)) → (!(x == 47)) = true
  | [], x, h => by simp at h
  | b :: l, x, h => by
    rw [List.takeWhile_cons] at h
    split at h
    · rename_i hb
      rcases List.mem_cons.1 h with rfl | h
      · exact hb
      · exact tw_mem l x h
    · simp at h
theorem numU_isN (w : By) : numU (Lib.trimPrefix w [45]) = decide (isN w) := by
  have fin : (numU (Lib.trimPrefix w [45]) = true ↔ isN w) → numU (Lib.trimPrefix w [45]) = decide (isN w) := fun h => by
    by_cases hh : isN w
    · rw [decide_eq_true hh]; exact h.2 hh
    · rw [decide_eq_false hh]; exact Bool.eq_false_iff.2 fun e => hh (h.1 e)
  apply fin
  clear fin
  have hone : parseR [49] = (words 1, 0) := by
    unfold parseR
    rw [if_neg (by decide), if_neg (by decide)]
    rfl
  have wz : ∀ a : By, (wholeR a).2.2 = 0 ↔ dgOK (Lib.trimPrefix a [45]) := fun a => by
    rw [dgOK_parse]
    unfold wholeR
    split
    · rename_i h; exact ⟨fun h' => absurd h' h, fun h' => absurd h' h⟩
    · rename_i h; exact ⟨fun _ => by omega, fun _ => rfl⟩
  have pz : ∀ b : By, dgOK b → (val (parseR b).1 = 0 ↔ allZ b) := fun b hb => by
    unfold parseR
    rw [if_neg (fun h => h.elim hb.1 fun h => h hb.2.1), if_neg (by have := hb.2.2; omega), val_words]
    exact dV_zero hb.2.1
  by_cases hs : ∃ a b, w = a ++ 47 :: b ∧ ∀ x, x ∈ a → x ≠ 47
  · obtain ⟨a, b, rfl, ha⟩ := hs
    have hc := cut_app (b := b) ha
    have ht : Lib.trimPrefix (a ++ 47 :: b) [45] = Lib.trimPrefix a [45] ++ 47 :: b ∧ ∀ x, x ∈ Lib.trimPrefix a [45] → x ≠ 47 := by
      cases a with
      | nil => refine ⟨?_, by simp [Lib.trimPrefix, Lib.hasPrefix]⟩
               rw [List.nil_append, trimP_cons, if_neg (by decide)]; rfl
      | cons y l =>
        rw [List.cons_append, trimP_cons, trimP_cons]
        split
        · exact ⟨rfl, fun x hx => ha x (by simp [hx])⟩
        · exact ⟨rfl, ha⟩
    have hc2 := cut_app (b := b) ht.2
    rw [ht.1]
    unfold numU isN ratR
    rw [hc2, hc]
    dsimp only
    simp only [if_true]
    have w1 := wz a
    by_cases h1 : dgOK (Lib.trimPrefix a [45])
    · rw [if_neg (by rw [w1.2 h1]; simp)]
      by_cases h2 : dgOK b
      · have e2 := (dgOK_parse b).1 h2
        rw [if_neg (by rw [e2]; simp)]
        by_cases h3 : allZ b
        · rw [if_pos ((pz b h2).2 h3)]; simp [h1, h2, h3]
        · rw [if_neg (fun h => h3 ((pz b h2).1 h))]; simp [h1, h2, h3]
      · have e2 : (parseR b).2 ≠ 0 := fun h => h2 ((dgOK_parse b).2 h)
        rw [if_pos e2]; simp [h2, e2]
    · have e1 : (wholeR a).2.2 ≠ 0 := fun h => h1 (w1.1 h)
      rw [if_pos e1]; simp [h1, e1]
  · have hno : ∀ x, x ∈ w → x ≠ 47 := by
      intro x hx e
      subst e
      refine hs ⟨w.takeWhile (fun y => !(y == 47)), (w.dropWhile (fun y => !(y == 47))).tail, ?_, fun x hx => ?_⟩
      · have h1 := (List.takeWhile_append_dropWhile (p := fun y : UInt8 => !(y == 47)) (l := w)).symm
        have h2 : w.dropWhile (fun y : UInt8 => !(y == 47)) ≠ [] := fun e => by
          have := (dw_nil2 w).1 e 47 hx
          simp at this
        have h3 := dw_head w h2
        cases hd : w.dropWhile (fun y : UInt8 => !(y == 47)) with
        | nil => exact absurd hd h2
        | cons y l =>
          rw [hd] at h1
          have : y = 47 := h3 y l hd
          subst this
          exact h1
      · have := tw_mem w x hx
        intro e; subst e; simp at this
    have hno2 : ∀ x, x ∈ Lib.trimPrefix w [45] → x ≠ 47 := fun x hx => hno x (by
      unfold Lib.trimPrefix at hx
      split at hx
      · exact List.mem_of_mem_drop hx
      · exact hx)
    unfold numU isN ratR
    rw [cut_no hno2, cut_no hno]
    dsimp only
    simp only [Bool.false_eq_true, if_false]
    rw [hone]
    have w1 := wz w
    have v1 : ¬ val (words 1, (0 : Int)).1 = 0 := by rw [val_words]; omega
    by_cases h1 : dgOK (Lib.trimPrefix w [45])
    · rw [if_neg (by rw [w1.2 h1]; simp)]
      rw [if_neg (show ¬ (words 1, (0 : Int)).2 ≠ 0 by simp), if_neg v1]; simp [h1]
    · have e1 : (wholeR w).2.2 ≠ 0 := fun h => h1 (w1.1 h)
      rw [if_pos e1]; simp [h1, e1]
end Go.Abs
end

section
namespace Go.Abs
open Go
set_option linter.unusedVariables false
set_option linter.unusedSimpArgs false
set_option linter.unnecessarySimpa false
def okP (kw : By) (ws : List By) : Prop := ws.head? = some kw ∧ ws.length ≤ 181 ∧ ∀ w, w ∈ ws.tail → isN w
instance (kw : By) (ws : List By) : Decidable (okP kw ws) := inferInstanceAs (Decidable (_ ∧ _ ∧ _))
theorem sub_tail {α : Type} (a : α) (l : List α) : sub (a :: l) (1 : Int) ((a :: l).length : Int) = l := by unfold sub; simp
theorem subok_tail {α : Type} (a : α) (l : List α) : SubOk (a :: l) (1 : Int) ((a :: l).length : Int) := ⟨by omega, by simp; omega, by omega⟩
theorem idx0 {α : Type} (a : α) (l : List α) : Idx (a :: l) (0 : Int) a := ⟨by omega, rfl⟩
end Go.Abs
end

section
namespace Go.Abs
open Go
set_option linter.unusedVariables false
set_option linter.unusedSimpArgs false
set_option linter.unnecessarySimpa false
end Go.Abs
end

section
namespace Go.Abs
open Go
set_option linter.unusedVariables false
set_option linter.unusedSimpArgs false
set_option linter.unnecessarySimpa false
end Go.Abs
end

section
namespace Go.Abs
open Go
set_option linter.unusedVariables false
set_option linter.unusedSimpArgs false
set_option linter.unnecessarySimpa false
def dch (n : Nat) : UInt8 := UInt8.ofNat (48 + n)
def decT (n : Nat) : By := if h : n < 10 then [dch n] else decT (n / 10) ++ [dch (n % 10)]
termination_by n
decreasing_by omega
end Go.Abs
end

section
namespace Go.Abs
open Go
set_option linter.unusedVariables false
set_option linter.unusedSimpArgs false
set_option linter.unnecessarySimpa false
end Go.Abs
end

section
namespace Go.Abs
open Go
set_option linter.unusedVariables false
set_option linter.unusedSimpArgs false
set_option linter.unnecessarySimpa false
theorem den1_self {d : Nat} (h : 0 < d) : den1 d = d := by unfold den1; rw [if_neg (by omega)]
def okX (x : Bool × List Int × List Int) (k : Nat) : Prop := WS x.2.1 ∧ WS x.2.2 ∧ x.2.1.length ≤ k ∧ x.2.2.length ≤ k
end Go.Abs
end

section
namespace Go.Abs
open Go
set_option linter.unusedVariables false
set_option linter.unusedSimpArgs false
set_option linter.unnecessarySimpa false
abbrev Bs := List UInt8
def wdOK (w : Bs) : Prop := w ≠ [] ∧ ∀ b, b ∈ w → 33 ≤ b.toNat ∧ b.toNat ≤ 126 ∧ b.toNat ≠ 35
theorem wd_sp {w : Bs} (h : wdOK w) : w ≠ [] ∧ ∀ b, b ∈ w → Lib.isSp b = false := by
  refine ⟨h.1, fun b hb => ?_⟩
  have hr := h.2 b hb
  have k : ∀ c : Nat, c < 256 → b.toNat ≠ c → (b == c.toUInt8) = false := fun c hc h => by
    rw [beq_eq_false_iff_ne]; exact fun e => h ((u8 hc).2 e)
  have h9 := k 9 (by decide) (by omega); have h10 := k 10 (by decide) (by omega); have h11 := k 11 (by decide) (by omega); have h12 := k 12 (by decide) (by omega); have h13 := k 13 (by decide) (by omega); have h32 := k 32 (by decide) (by omega)
  unfold Lib.isSp
  simp at h9 h10 h11 h12 h13 h32 ⊢
  exact ⟨⟨⟨⟨⟨h9, h10⟩, h11⟩, h12⟩, h13⟩, h32⟩
def lineT (ws : Ws) : Bs := Lib.join ws [32]
theorem line_mem {ws : Ws} (h : ∀ w, w ∈ ws → wdOK w) {b : UInt8} (hb : b ∈ lineT ws) : 32 ≤ b.toNat ∧ b.toNat ≤ 126 ∧ b.toNat ≠ 35 := by
  rcases join_mem hb with rfl | ⟨w, hw, hb⟩
  · decide
  · have := (h w hw).2 b hb; omega
theorem line_words {ws : Ws} (h : ∀ w, w ∈ ws → wdOK w) : wordsOf (lineT ws) = ws := by
  unfold wordsOf
  rw [head_none fun b hb e => by have := line_mem h hb; subst e; simp at this]
  exact fields_join fun w hw => wd_sp (h w hw)
theorem split_line : ∀ (a rest : Bs), (∀ b, b ∈ a → b ≠ 10) → splitC 10 (a ++ 10 :: rest) = a :: splitC 10 rest
  | [], rest, _ => by simp [splitC]
  | b :: a, rest, h => by
    have := split_line a rest fun c hc => h c (by simp [hc])
    rw [List.cons_append, splitC, if_neg (h b (by simp)), this]
def linesT : List Ws → Bs
  | [] => []
  | ws :: r => lineT ws ++ 10 :: linesT r
def linesN (k : Int) : List Ws → Ls
  | [] => []
  | ws :: r => (k + 1, ws) :: linesN (k + 1) r
theorem linesFrom_T : ∀ (l : List Ws) (k : Int) (rest : Bs), (∀ ws, ws ∈ l → ws ≠ [] ∧ ∀ w, w ∈ ws → wdOK w) → linesFrom k (splitC 10 (linesT l ++ rest)) = linesN k l ++ linesFrom (k + l.length) (splitC 10 rest)
  | [], k, rest, _ => by simp [linesT, linesN]
  | ws :: l, k, rest, h => by
    obtain ⟨h1, h2⟩ := h ws (by simp)
    have ih := linesFrom_T l (k + 1) rest fun w hw => h w (by simp [hw])
    have e : linesT (ws :: l) ++ rest = lineT ws ++ 10 :: (linesT l ++ rest) := by simp [linesT]
    rw [e, split_line _ _ fun b hb e => by have := line_mem h2 hb; subst e; simp at this]
    have hp : 0 < (wordsOf (lineT ws)).length := by rw [line_words h2]; exact List.length_pos_iff.2 h1
    rw [linesFrom, if_pos hp, line_words h2, ih]
    simp only [linesN, List.cons_append, List.length_cons]
    congr 3
    omega
theorem linesT_right : ∀ (l : List Ws), (∀ ws, ws ∈ l → ∀ w, w ∈ ws → wdOK w) → ∀ b, b ∈ linesT l → mayB b
  | [], _, b, hb => by simp [linesT] at hb
  | ws :: l, h, b, hb => by
    rw [linesT] at hb
    rcases List.mem_append.1 hb with hb | hb
    · have := line_mem (h ws (by simp)) hb; unfold mayB; omega
    · rcases List.mem_cons.1 hb with rfl | hb
      · unfold mayB; decide
      · exact linesT_right l (fun w hw => h w (by simp [hw])) b hb
theorem rightP_of {s : Bs} (h : ∀ b, b ∈ s → mayB b) : RightP s := fun i b hi hb => h b (List.mem_of_getElem? hb)
theorem lineT_len (ws : Ws) : (lineT ws).length ≤ wlen ws := join_len 32 ws
theorem linesT_len : ∀ (l : List Ws) (m : Nat), (∀ ws, ws ∈ l → wlen ws + 1 ≤ m) → (linesT l).length ≤ m * l.length
  | [], m, _ => by simp [linesT]
  | ws :: l, m, h => by
    have h1 := h ws (by simp)
    have h2 := lineT_len ws
    have h3 := linesT_len l m fun w hw => h w (by simp [hw])
    simp only [linesT, List.length_append, List.length_cons, Nat.mul_add, Nat.mul_one]
    omega
theorem lines_Join_says {l : Ws} (h : wlen l ≤ 1000000) : lines_Join l (lineT l) := ⟨_, strings_Join_says h, rfl⟩
theorem linesFrom_end (k : Int) : linesFrom k (splitC 10 []) = [] := by
  simp [splitC, linesFrom, wordsOf, head35, Lib.cut, Lib.index, Lib.fields, Lib.fieldsGo]
theorem allL_T {l : List Ws} (h : ∀ ws, ws ∈ l → ws ≠ [] ∧ ∀ w, w ∈ ws → wdOK w) : allL (linesT l) = linesN 0 l := by
  have := linesFrom_T l 0 [] h
  rw [List.append_nil, linesFrom_end, List.append_nil] at this
  exact this
theorem linesT_rightP {l : List Ws} (h : ∀ ws, ws ∈ l → ws ≠ [] ∧ ∀ w, w ∈ ws → wdOK w) : RightP (linesT l) := rightP_of (linesT_right l fun ws hw => (h ws hw).2)
end Go.Abs
end

section
namespace Go.Abs
open Go
set_option linter.unusedVariables false
set_option linter.unusedSimpArgs false
set_option linter.unnecessarySimpa false
def FewP (l : List Q3) : Prop := l.length ≤ 8 ∧ ∀ x, x ∈ l → x.2.1.length ≤ 3 ∧ x.2.2.length ≤ 3
instance (l : List Q3) : Decidable (FewP l) := inferInstanceAs (Decidable (_ ∧ _))
theorem Few5_says (l : List Q3) : offcutlaw05_Few l (decide (FewP l)) := by
  unfold offcutlaw05_Few
  refine LoopP.intro (fun z : Int => ∃ k : Nat, z = k ∧ k ≤ l.length ∧ k ≤ 9 ∧ ∀ i (h : i < l.length), i < k → l[i].2.1.length ≤ 3 ∧ l[i].2.2.length ≤ 3) (fun z => l.length - z.toNat) ⟨0, rfl, by omega, by omega, fun i _ h => by omega⟩ ?_
  rintro X z ⟨k, rfl, hk, hk9, hn⟩ hX
  unfold offcutlaw05_Few_L1
  have no : ∀ (h : k < l.length), ¬ (l[k].2.1.length ≤ 3 ∧ l[k].2.2.length ≤ 3) → decide (FewP l) = false := fun h hb => decide_eq_false fun hf => hb (hf.2 _ (List.getElem_mem h))
  have many : ∀ (h : ¬ (l.length : Int) ≤ 8), decide (FewP l) = false := fun h => decide_eq_false fun hf => h (by have := hf.1; omega)
  refine IfB.dec (fun h => IfB.dec (fun h8 => ?_) (fun h8 => ?_)) (fun h => ?_)
  · have hkl : k < l.length := by omega
    have hi := Idx.nat hkl
    have no := no hkl
    have hn2 : l[k].2.1.length ≤ 3 ∧ l[k].2.2.length ≤ 3 → ∀ i (h : i < l.length), i < k + 1 → l[i].2.1.length ≤ 3 ∧ l[i].2.2.length ≤ 3 := fun h0 i hi hik => by
      by_cases e : i = k
      · subst e; exact h0
      · exact hn i hi (by omega)
    generalize l[k] = q at *
    obtain ⟨b, n, d⟩ := q
    dsimp only at no hn2
    refine ⟨b, n, d, hi, IfB.dec (fun h1 => no (by omega)) (fun h1 => ⟨b, n, d, hi, IfB.dec (fun h2 => no (by omega)) (fun h2 => ?_)⟩)⟩
    rw [wrap64' (by omega) (by omega)]
    exact hX _ ⟨k + 1, by omega, by omega, by omega, hn2 (by omega)⟩ (by omega)
  · exact IfB.dec (fun h => by omega) (fun h => many h)
  · refine IfB.dec (fun h2 => decide_eq_true ⟨by omega, fun x hx => ?_⟩) (fun h2 => many h2)
    obtain ⟨i, hi, rfl⟩ := List.getElem_of_mem hx
    exact hn i hi (by omega)
def mayP (v : Int) (x y z : List Q3) : Prop := (v = 1 ∧ z = []) ∨ (v = 2 ∧ x = [] ∧ z = []) ∨ (v = 3 ∧ y = [])
instance (v : Int) (x y z : List Q3) : Decidable (mayP v x y z) := inferInstanceAs (Decidable (_ ∨ _))
end Go.Abs
end
