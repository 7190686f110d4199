/- Part of a proof, in few files: LRat LRat2 LLin L13a. -/
import Derived.Test.YtojdnnogpffhpaaGreatDoorNPaK21
import Derived.Test.YtojdnnogpffhpaaGreatDoorNPaK11
import Derived.Lib.IndexMore
import Derived.Test.YtojdnnogpffhpaaGreatDoorNPaK14
import Derived.Laws.RangeAny

section
namespace Go.Abs
open Go
set_option linter.unusedVariables false
set_option linter.unusedSimpArgs false
set_option linter.unnecessarySimpa false
abbrev By := List UInt8
def dg (b : UInt8) : Prop := 48 ≤ b.toNat ∧ b.toNat ≤ 57
instance (b : UInt8) : Decidable (dg b) := inferInstanceAs (Decidable (_ ∧ _))
def allDg (s : By) : Prop := ∀ b, b ∈ s → dg b
instance (s : By) : Decidable (allDg s) := inferInstanceAs (Decidable (∀ b, b ∈ s → dg b))
def dV (acc : Nat) : By → Nat
  | [] => acc
  | b :: l => dV (acc * 10 + (b.toNat - 48)) l
theorem dV_nil (acc : Nat) : dV acc [] = acc := by rfl
theorem dV_cons (acc : Nat) (b : UInt8) (l : By) : dV acc (b :: l) = dV (acc * 10 + (b.toNat - 48)) l := by rfl
theorem dV_acc : ∀ (l : By) (acc : Nat), dV acc l = acc * 10 ^ l.length + dV 0 l
  | [], acc => by rw [dV_nil, dV_nil]; simp
  | b :: l, acc => by
    rw [dV_cons, dV_cons, dV_acc l (acc * 10 + (b.toNat - 48)), dV_acc l (0 * 10 + (b.toNat - 48)), List.length_cons, Nat.pow_succ]
    grind
theorem dV_lt : ∀ (l : By), allDg l → dV 0 l < 10 ^ l.length
  | [], _ => by rw [dV_nil]; simp
  | b :: l, h => by
    have hb := h b (by simp)
    unfold dg at hb
    have := dV_lt l fun c hc => h c (by simp [hc])
    rw [dV_cons, dV_acc, List.length_cons, Nat.pow_succ]
    have h9 : (0 * 10 + (b.toNat - 48)) * 10 ^ l.length ≤ 9 * 10 ^ l.length := Nat.mul_le_mul_right _ (by omega)
    omega
def parseR (s : By) : List Int × Int := if s = [] ∨ ¬ allDg s then ([], 2) else if 400 < s.length then ([], 4) else (words (dV 0 s), 0)
theorem pow10_words (n : Nat) {v : Nat} (h : v < 10 ^ n) : (words v).length ≤ n := by
  refine words_len _ _ (Nat.lt_of_lt_of_le h ?_)
  exact Nat.pow_le_pow_left (by omega) n
def ltab : List UInt8 := [0, 1, 2, 2, 3, 3, 3, 3, 4, 4, 4, 4, 4, 4, 4, 4, 5, 5, 5, 5, 5, 5, 5, 5, 5, 5, 5, 5, 5, 5, 5, 5, 6, 6, 6, 6, 6, 6, 6, 6, 6, 6, 6, 6, 6, 6, 6, 6, 6, 6, 6, 6, 6, 6, 6, 6, 6, 6, 6, 6, 6, 6, 6, 6, 7, 7, 7, 7, 7, 7, 7, 7, 7, 7, 7, 7, 7, 7, 7, 7, 7, 7, 7, 7, 7, 7, 7, 7, 7, 7, 7, 7, 7, 7, 7, 7, 7, 7, 7, 7, 7, 7, 7, 7, 7, 7, 7, 7, 7, 7, 7, 7, 7, 7, 7, 7, 7, 7, 7, 7, 7, 7, 7, 7, 7, 7, 7, 7, 8, 8, 8, 8, 8, 8, 8, 8, 8, 8, 8, 8, 8, 8, 8, 8, 8, 8, 8, 8, 8, 8, 8, 8, 8, 8, 8, 8, 8, 8, 8, 8, 8, 8, 8, 8, 8, 8, 8, 8, 8, 8, 8, 8, 8, 8, 8, 8, 8, 8, 8, 8, 8, 8, 8, 8, 8, 8, 8, 8, 8, 8, 8, 8, 8, 8, 8, 8, 8, 8, 8, 8, 8, 8, 8, 8, 8, 8, 8, 8, 8, 8, 8, 8, 8, 8, 8, 8, 8, 8, 8, 8, 8, 8, 8, 8, 8, 8, 8, 8, 8, 8, 8, 8, 8, 8, 8, 8, 8, 8, 8, 8, 8, 8, 8, 8, 8, 8, 8, 8, 8, 8, 8, 8, 8, 8, 8, 8]
set_option maxRecDepth 20000 in
theorem ltab_all : ∀ i : Fin 256, i.val ≠ 0 → ∃ c, ltab[i.val]? = some c ∧ 0 < c.toNat ∧ c.toNat ≤ 8 := by
  have h : (List.range 256).all (fun i => i == 0 || (match ltab[i]? with | some c => Nat.blt 0 c.toNat && Nat.ble c.toNat 8 | none => false)) = true := by decide
  intro i hi
  have := List.all_eq_true.1 h i.val (List.mem_range.2 i.isLt)
  simp only [Bool.or_eq_true, beq_iff_eq] at this
  rcases this with h | h
  · exact absurd h hi
  · split at h
    · rename_i c hc
      simp only [Bool.and_eq_true, Nat.blt_eq, Nat.ble_eq] at h
      exact ⟨c, hc, h.1, h.2⟩
    · cases h
theorem ltab_idx {n : Nat} (h : n < 256) (h0 : n ≠ 0) : ∃ c, Idx ltab (IntKind.u8.wrap (n : Int)) c ∧ 0 < c.toNat ∧ c.toNat ≤ 8 := by
  obtain ⟨c, hc, h1, h2⟩ := ltab_all ⟨n, h⟩ h0
  exact ⟨c, ⟨by rw [wrapu8 (by omega) (by omega)]; omega, by rw [wrapu8 (by omega) (by omega)]; exact hc⟩, h1, h2⟩
theorem fdivN (a b : Nat) (h : 0 < b) : Int.fdiv (a : Int) (b : Int) = ((a / b : Nat) : Int) := by rw [Int.fdiv_eq_ediv_of_nonneg _ (by omega)]; rfl
theorem p16 : (2 : Int) ^ (min (Int.toNat (16 : Int)) (IntKind.bits .u32)) = ((65536 : Nat) : Int) := by decide
theorem p8 : (2 : Int) ^ (min (Int.toNat (8 : Int)) (IntKind.bits .u32)) = ((256 : Nat) : Int) := by decide
theorem Len32_says (n : Nat) (h : n < 4294967296) (h0 : n ≠ 0) : ∃ r : Nat, 0 < r ∧ r ≤ 32 ∧ math_bits_Len32 (n : Int) (r : Int) := by
  unfold math_bits_Len32
  rw [p16, p8]
  have w64 : ∀ (k : Nat) (c : UInt8), k ≤ 24 → c.toNat ≤ 8 → IntKind.i64.wrap ((k : Int) + (IntKind.i64.wrap ((c.toNat : Nat) : Int))) = ((k + c.toNat : Nat) : Int) := fun k c hk hc => by
    rw [wrap64' (n := ((c.toNat : Nat) : Int)) (by omega) (by omega), wrap64' (by omega) (by omega)]; omega
  rw [fdivN _ _ (by omega), fdivN _ _ (by omega), fdivN _ _ (by omega)]
  by_cases h1 : 65536 ≤ n
  · by_cases h2 : 256 ≤ n / 65536
    · obtain ⟨c, hc, hp, h8⟩ := ltab_idx (n := n / 65536 / 256) (by omega) (by omega)
      exact ⟨24 + c.toNat, by omega, by omega, IfB.dc (fun _ => IfB.dc (fun _ => ⟨c, hc, (w64 24 c (by omega) h8).symm⟩) (fun h => absurd (by omega) h)) (fun h => absurd (by omega) h)⟩
    · obtain ⟨c, hc, hp, h8⟩ := ltab_idx (n := n / 65536) (by omega) (by omega)
      exact ⟨16 + c.toNat, by omega, by omega, IfB.dc (fun _ => IfB.dc (fun h => absurd h (by omega)) (fun _ => ⟨c, hc, (w64 16 c (by omega) h8).symm⟩)) (fun h => absurd (by omega) h)⟩
  · by_cases h2 : 256 ≤ n
    · obtain ⟨c, hc, hp, h8⟩ := ltab_idx (n := n / 256) (by omega) (by omega)
      exact ⟨8 + c.toNat, by omega, by omega, IfB.dc (fun h => absurd h (by omega)) (fun _ => IfB.dc (fun _ => ⟨c, hc, (w64 8 c (by omega) h8).symm⟩) (fun h => absurd (by omega) h))⟩
    · obtain ⟨c, hc, hp, h8⟩ := ltab_idx (n := n) (by omega) (by omega)
      exact ⟨0 + c.toNat, by omega, by omega, IfB.dc (fun h => absurd h (by omega)) (fun _ => IfB.dc (fun h => absurd h (by omega)) (fun _ => ⟨c, hc, (w64 0 c (by omega) h8).symm⟩))⟩
theorem nat_Bits_pos (a : List Int) (ha : WS a) (hl : a.length ≤ 100000) (h0 : val a ≠ 0) : ∃ r : Int, r ≠ 0 ∧ nat_Bits a r := by
  unfold nat_Bits
  obtain ⟨W, hWe⟩ : ∃ W, W = words (val a) := ⟨_, rfl⟩
  have hw : W.length ≤ a.length := hWe ▸ wl ha
  have hp : 0 < W.length := hWe ▸ words_len_pos.2 h0
  have hws : WS W := hWe ▸ WS_words (val a)
  have hb := WS_get hws (i := W.length - 1) (by omega)
  have hlast : W[W.length - 1] ≠ 0 := by
    have h := words_Cn (val a)
    rw [← hWe] at h
    have := h (List.length_pos_iff.1 hp)
    rw [List.getLast_eq_getElem] at this
    exact this
  have hc : nat_trim a W := hWe ▸ nat_trim_says a ha (by omega)
  obtain ⟨r, hr0, hr, hs⟩ := Len32_says (W[W.length - 1].toNat) (by omega) (by omega)
  rw [Int.toNat_of_nonneg hb.1] at hs
  have e1 : IntKind.i64.wrap ((W.length : Int) - 1) = ((W.length - 1 : Nat) : Int) := by rw [wrap64' (by omega) (by omega)]; omega
  refine ⟨_, ?_, W, hc, IfB.eqI (fun h => by omega) (fun _ => ⟨_, by rw [e1]; exact Idx.nat (by omega), _, hs, rfl⟩)⟩
  rw [e1, wrap64' (n := 32 * _) (by omega) (by omega), wrap64' (by omega) (by omega)]
  omega
theorem shift0 (a : List Int) (ha : WS a) (hl : a.length ≤ 100000) : nat_Shift a (0 : Int) (words (val a)) := by
  have := nat_Shift_says a 0 ha hl (by omega)
  simpa using this
theorem whole_Make_says (p : Bool) (a : List Int) (ha : WS a) (hl : a.length ≤ 100000) : whole_Make p a (p && decide (val a ≠ 0), words (val a)) := by
  unfold whole_Make
  cases p with
  | false => exact IfB_false.2 ⟨_, shift0 a ha hl, rfl⟩
  | true =>
    refine IfB_true.2 ⟨_, shift0 a ha hl, IfB.dc (fun h => ?_) (fun h => ?_)⟩
    · have : val a ≠ 0 := words_len_pos.1 (by omega)
      simp [this]
    · have : val a = 0 := by
        rcases Nat.eq_zero_or_pos (val a) with h' | h'
        · exact h'
        · have := words_len_pos.2 (show val a ≠ 0 from by omega); omega
      simp [this]
def sgn (p : Bool) (n : Nat) : Int := if n = 0 then 0 else if p then -1 else 1
theorem whole_Sign_says (p : Bool) (a : List Int) (ha : WS a) (hl : a.length ≤ 100000) : whole_Sign p a (sgn p (val a)) := by
  unfold whole_Sign
  refine ⟨_, _, whole_Make_says p a ha hl, ?_⟩
  unfold sgn
  by_cases h0 : val a = 0
  · rw [h0, words_zero]
    simp
  · have hp := words_len_pos.2 h0
    have hn : ¬ (((words (val a)).length : Int) = 0) := by omega
    have hne := List.length_pos_iff.1 hp
    cases p <;> simp [h0, hn, hne, IfB]
def wholeR (s : By) : Bool × List Int × Int :=
  if (parseR (Lib.trimPrefix s [45])).2 ≠ 0 then (false, [], (parseR (Lib.trimPrefix s [45])).2)
  else (Lib.hasPrefix s [45] && decide (val (parseR (Lib.trimPrefix s [45])).1 ≠ 0), (parseR (Lib.trimPrefix s [45])).1, 0)
theorem parseR_WS (s : By) : WS (parseR s).1 := by
  unfold parseR; split
  · exact WS_nil
  · split
    · exact WS_nil
    · exact WS_words _
theorem parseR_len (s : By) : (parseR s).1.length ≤ 400 := by
  unfold parseR; split
  · simp
  · rename_i h
    split
    · simp
    · have := pow10_words s.length (dV_lt s (Decidable.byContradiction fun h' => h (.inr h')))
      dsimp only; omega
def ratC (p : Bool) (n d : Nat) : Bool × List Int × List Int := (p && decide (n / Nat.gcd n d ≠ 0), words (n / Nat.gcd n d), words (d / Nat.gcd n d))
def den1 (d : Nat) : Nat := if d = 0 then 1 else d
theorem rat_den_says (p : Bool) (a b : List Int) (hb : WS b) (hl : b.length ≤ 100000) : ∃ x, rat_den p a b x ∧ val x = den1 (val b) ∧ WS x ∧ x.length ≤ b.length + 1 := by
  unfold rat_den den1
  by_cases h0 : val b = 0
  · refine ⟨words 1, ⟨0, ?_, IfB_true.2 ⟨_, nat_Of_says 1 (by omega), rfl⟩⟩, by rw [val_words, if_pos h0], WS_words 1, ?_⟩
    · unfold nat_Bits
      have := nat_trim_says b hb (by omega)
      rw [h0, words_zero] at this
      exact ⟨_, this, IfB_true.2 rfl⟩
    · rw [words_one (by omega) (by omega)]; simp
  · obtain ⟨r, hr, hs⟩ := nat_Bits_pos b hb hl h0
    exact ⟨b, ⟨r, hs, IfB.eqI (fun h => absurd h hr) (fun _ => rfl)⟩, by rw [if_neg h0], hb, by omega⟩
theorem rat_Make_says (p : Bool) (a b : List Int) (ha : WS a) (hb : WS b) (hla : a.length ≤ 70000) (hlb : b.length ≤ 70000) : rat_Make p a b (ratC p (val a) (den1 (val b))) := by
  unfold rat_Make
  obtain ⟨x, hx, vx, wx, lx⟩ := rat_den_says false [] b hb (by omega)
  have hd0 : 0 < den1 (val b) := by unfold den1; split <;> omega
  rw [← vx] at hd0 ⊢
  have hg := nat_Gcd_says a x ha wx (by omega) (by omega)
  have hg0 : 0 < Nat.gcd (val a) (val x) := Nat.gcd_pos_of_pos_right _ hd0
  have hgl : (words (Nat.gcd (val a) (val x))).length ≤ x.length := by
    have := words_len_le (Nat.gcd_le_right (val a) hd0)
    have := wl wx
    omega
  have h1 := nat_DivMod_says a (words (Nat.gcd (val a) (val x))) ha (WS_words _) (by omega) (by omega)
  have h2 := nat_DivMod_says x (words (Nat.gcd (val a) (val x))) wx (WS_words _) (by omega) (by omega)
  rw [val_words, if_neg (by omega)] at h1 h2
  have hl1 : (words (val a / Nat.gcd (val a) (val x))).length ≤ a.length := Nat.le_trans (words_len_le (Nat.div_le_self _ _)) (wl ha)
  have hm := whole_Make_says p (words (val a / Nat.gcd (val a) (val x))) (WS_words _) (by omega)
  rw [val_words] at hm
  exact ⟨x, hx, _, hg, _, _, _, h1, _, _, _, h2, _, _, hm, rfl⟩
def ratR (s : By) : Bool × List Int × List Int × Int :=
  let a := (Lib.cut s [47]).1
  let b := if (Lib.cut s [47]).2.2 then (Lib.cut s [47]).2.1 else [49]
  if (wholeR a).2.2 ≠ 0 then (false, [], [], (wholeR a).2.2)
  else if (parseR b).2 ≠ 0 then (false, [], [], (parseR b).2)
  else if val (parseR b).1 = 0 then (false, [], [], 5)
  else let r := ratC (wholeR a).1 (val (wholeR a).2.1) (val (parseR b).1); (r.1, r.2.1, r.2.2, 0)
theorem wholeR_WS (s : By) : WS (wholeR s).2.1 := by
  unfold wholeR; split
  · exact WS_nil
  · exact parseR_WS _
theorem wholeR_len (s : By) : (wholeR s).2.1.length ≤ 400 := by
  unfold wholeR; split
  · simp
  · exact parseR_len _
theorem rat_Int0 : rat_Int 0 (false, [], words 1) := by
  unfold rat_Int whole_Of
  refine ⟨false, [], IfB_false.2 ⟨[], ?_, false, [], ?_, rfl⟩, words 1, nat_Of_says 1 (by omega), false, [], words 1, ?_, rfl⟩
  · have := nat_Of_says 0 (by omega)
    rw [words_zero] at this
    exact this
  · have := whole_Make_says false [] WS_nil (by simp)
    rw [val_nil, words_zero] at this
    exact this
  · have := rat_Make_says false [] (words 1) WS_nil (WS_words 1) (by simp) (by rw [words_one (by omega) (by omega)]; simp)
    rw [val_nil, val_words] at this
    have e : ratC false 0 (den1 1) = (false, [], words 1) := by unfold ratC den1; simp [words_zero]
    rwa [e] at this
end Go.Abs
end

section
namespace Go.Abs
open Go
set_option linter.unusedVariables false
set_option linter.unusedSimpArgs false
set_option linter.unnecessarySimpa false
def iV (p : Bool) (n : Nat) : Int := if p then -(n : Int) else n
def wholeC (z : Int) : Bool × List Int := (decide (z < 0), words z.natAbs)
theorem iV_abs (p : Bool) (n : Nat) : (iV p n).natAbs = n := by unfold iV; cases p <;> simp
theorem wholeC_iV (p : Bool) (n : Nat) : (p && decide (n ≠ 0), words n) = wholeC (iV p n) := by
  unfold wholeC
  rw [iV_abs]
  unfold iV
  cases p
  · simp <;> omega
  · by_cases h : n = 0
    · subst h; simp
    · simp [h] <;> omega
theorem whole_Make_z (p : Bool) (a : List Int) (ha : WS a) (hl : a.length ≤ 100000) : whole_Make p a (wholeC (iV p (val a))) := by
  rw [← wholeC_iV]; exact whole_Make_says p a ha hl
theorem words_mul_len {a b : List Int} (ha : WS a) (hb : WS b) : (words (val a * val b)).length ≤ a.length + b.length := by
  refine words_len _ _ ?_
  have h1 := val_lt ha
  have h2 := val_lt hb
  rw [Nat.pow_add]
  exact Nat.lt_of_le_of_lt (Nat.mul_le_mul_left _ (Nat.le_of_lt h2)) (Nat.mul_lt_mul_of_pos_right h1 (Nat.pow_pos (by omega)))
theorem whole_Mul_says (p : Bool) (a : List Int) (q : Bool) (b : List Int) (ha : WS a) (hb : WS b) (hla : a.length ≤ 40000) (hlb : b.length ≤ 40000) : whole_Mul p a q b (wholeC (iV p (val a) * iV q (val b))) := by
  unfold whole_Mul
  have s1 := whole_Sign_says p a ha (by omega)
  have s2 := whole_Sign_says q b hb (by omega)
  have hmul := nat_Mul_says a b ha hb (by omega) (by omega)
  have lm := words_mul_len ha hb
  have mk : ∀ (r : Bool) (n : Nat) (z : Int), (words n).length ≤ 100000 → iV r n = z → ∃ x y, whole_Make r (words n) (x, y) ∧ wholeC z = (x, y) := fun r n z hl hz => by
    have := whole_Make_z r (words n) (WS_words n) hl
    rw [val_words, hz] at this
    exact ⟨_, _, this, rfl⟩
  have hz : ∀ x y : Nat, ((x * y : Nat) : Int) = (x : Int) * (y : Int) := fun x y => Int.natCast_mul x y
  refine ⟨_, s1, _, s2, IfB.dc (fun n => ⟨_, hmul, mk true _ _ (by omega) ?_⟩) (fun n => ⟨_, hmul, mk false _ _ (by omega) ?_⟩)⟩
  · unfold sgn at n
    unfold iV
    rw [hz]
    by_cases h1 : val a = 0
    · simp [h1] at n
      exact absurd n (by decide)
    · by_cases h2 : val b = 0
      · simp [h1, h2] at n
        exact absurd n (by decide)
      · cases p <;> cases q <;> simp [h1, h2] at n ⊢ <;> first | exact absurd n (by decide) | grind
  · unfold sgn at n
    unfold iV
    rw [hz]
    by_cases h1 : val a = 0
    · simp [h1]
    · by_cases h2 : val b = 0
      · simp [h1, h2]
      · cases p <;> cases q <;> simp [h1, h2] at n ⊢ <;> first | exact absurd n (by decide) | grind
def ratQ (z : Int) (d : Nat) : Bool × List Int × List Int := (decide (z < 0), words (z.natAbs / Nat.gcd z.natAbs d), words (d / Nat.gcd z.natAbs d))
theorem ratC_Q (z : Int) (d : Nat) (hd : 0 < d) : ratC (decide (z < 0)) z.natAbs d = ratQ z d := by
  unfold ratC ratQ
  by_cases h : z < 0
  · have : z.natAbs / Nat.gcd z.natAbs d ≠ 0 := by
      have h1 := Nat.div_pos (Nat.gcd_le_left d (show 0 < z.natAbs from by omega)) (Nat.gcd_pos_of_pos_right z.natAbs hd)
      omega
    simp [h, this]
  · simp [h]
theorem den1_pos (d : Nat) : 0 < den1 d := by unfold den1; split <;> omega
theorem wholeC_WS (z : Int) : WS (wholeC z).2 := WS_words _
theorem rat_Make_z (z : Int) (x : List Int) (d : Nat) (hx : WS x) (hv : val x = d) (hd : 0 < d) (l1 : (wholeC z).2.length ≤ 70000) (l2 : x.length ≤ 70000) : rat_Make (wholeC z).1 (wholeC z).2 x (ratQ z d) := by
  have := rat_Make_says (wholeC z).1 (wholeC z).2 x (wholeC_WS z) hx l1 l2
  rw [show val (wholeC z).2 = z.natAbs from val_words _, hv, show den1 d = d from by unfold den1; rw [if_neg (by omega)], show (wholeC z).1 = decide (z < 0) from rfl, ratC_Q z d hd] at this
  exact this
theorem rat_Mul_says (p : Bool) (n d : List Int) (p' : Bool) (n' d' : List Int) (hn : WS n) (hd : WS d) (hn' : WS n') (hd' : WS d') (ln : n.length ≤ 10000) (ld : d.length ≤ 10000) (ln' : n'.length ≤ 10000) (ld' : d'.length ≤ 10000) :
    rat_Mul p n d p' n' d' (ratQ (iV p (val n) * iV p' (val n')) (den1 (val d) * den1 (val d'))) := by
  unfold rat_Mul
  have ha := whole_Mul_says p n p' n' hn hn' (by omega) (by omega)
  obtain ⟨x, hx, vx, wx, lx⟩ := rat_den_says p n d hd (by omega)
  obtain ⟨y, hy, vy, wy, ly⟩ := rat_den_says p' n' d' hd' (by omega)
  have hm := nat_Mul_says x y wx wy (by omega) (by omega)
  have lm := words_mul_len wx wy
  rw [vx, vy] at hm lm
  have hz : (wholeC (iV p (val n) * iV p' (val n'))).2.length ≤ 70000 := by
    unfold wholeC
    dsimp only
    rw [Int.natAbs_mul, iV_abs, iV_abs]
    have := words_mul_len hn hn'
    omega
  have hmk := rat_Make_z _ (words (den1 (val d) * den1 (val d'))) (den1 (val d) * den1 (val d')) (WS_words _) (val_words _) (Nat.mul_pos (den1_pos _) (den1_pos _)) hz (by omega)
  exact ⟨_, _, ha, x, hx, y, hy, _, hm, _, _, _, hmk, rfl⟩
end Go.Abs
end

section
namespace Go.Abs
open Go
set_option linter.unusedVariables false
set_option linter.unusedSimpArgs false
set_option linter.unnecessarySimpa false
theorem IfB.dec {p : Prop} [Decidable p] {A B : Prop} (h1 : p → A) (h2 : ¬ p → B) : IfB (decide p) A B := ⟨fun h => h1 (of_decide_eq_true h), fun h => h2 (of_decide_eq_false h)⟩
theorem IfB.eqi {a b : Int} {A B : Prop} (h1 : a = b → A) (h2 : a ≠ b → B) : IfB (a == b) A B := ⟨fun h => h1 (by simpa using h), fun h => h2 (by simpa using h)⟩
theorem IfB.nei {a b : Int} {A B : Prop} (h1 : a ≠ b → A) (h2 : a = b → B) : IfB (a != b) A B := ⟨fun h => h1 (by simpa using h), fun h => h2 (by simpa using h)⟩
theorem IfB.bool {b : Bool} {A B : Prop} (h1 : b = true → A) (h2 : b = false → B) : IfB b A B := ⟨h1, h2⟩
theorem rune_at {s : List UInt8} {k : Nat} {b : UInt8} (h : s[k]? = some b) : (b.toNat < 128 ∧ runeAt s k = (b.toNat : Int) ∧ runeLen s k = 1) ∨ (128 ≤ b.toNat ∧ 128 ≤ runeAt s k ∧ 1 ≤ runeLen s k) := by
  obtain ⟨hk, hb⟩ := List.getElem?_eq_some_iff.1 h
  have hk' : k < (ByteArray.mk s.toArray).size := by simpa [ByteArray.size] using hk
  have e : (ByteArray.mk s.toArray)[k]'hk' = b := by
    rw [← hb]; rfl
  by_cases ha : b.toNat < 128
  · have := Go.decode_ascii (ByteArray.mk s.toArray) k hk' (by rw [e]; exact ha)
    rw [e] at this
    exact .inl ⟨ha, by simp [runeAt, this], by simp [runeLen, this]⟩
  · have := Go.decode_high (ByteArray.mk s.toArray) k hk' (by rw [e]; omega)
    exact .inr ⟨by omega, by simp only [runeAt]; omega, this.2⟩
def nmOk (i : Nat) (b : UInt8) : Prop := (97 ≤ b.toNat ∧ b.toNat ≤ 122) ∨ (i ≠ 0 ∧ (b.toNat = 95 ∨ (48 ≤ b.toNat ∧ b.toNat ≤ 57)))
def NameTo (s : List UInt8) (k : Nat) : Prop := ∀ i b, i < k → s[i]? = some b → nmOk i b
def NameP (s : List UInt8) : Prop := 1 ≤ s.length ∧ s.length ≤ 16 ∧ NameTo s s.length
theorem NameTo.next {s : List UInt8} {k : Nat} {b : UInt8} (h : NameTo s k) (hb : s[k]? = some b) (hn : nmOk k b) : NameTo s (k + 1) := fun i c hi hc => by
  by_cases e : i = k
  · subst e; rw [hb] at hc; cases hc; exact hn
  · exact h i c (by omega) hc
theorem not_name {s : List UInt8} {k : Nat} {b : UInt8} (hb : s[k]? = some b) (hn : ¬ nmOk k b) : ¬ NameP s := fun h => hn (h.2.2 k b (List.getElem?_eq_some_iff.1 hb).1 hb)
theorem lines_Name_says {s : List UInt8} {r : Bool} (hr : r = true ↔ NameP s) : lines_Name s r := by
  have no : ¬ NameP s → r = false := fun h => by cases r with | false => rfl | true => exact absurd (hr.1 rfl) h
  unfold lines_Name
  refine LoopP.intro (fun k => k ≤ s.length ∧ NameTo s k) (fun k => s.length - k) ⟨Nat.zero_le _, fun i b h => by omega⟩ ?_
  rintro X k ⟨hk, hn⟩ hX
  unfold lines_Name_L1
  refine IfB.dec (fun hlt => ?_) (fun hge => ?_)
  · obtain ⟨b, hb⟩ : ∃ b, s[k]? = some b := ⟨_, List.getElem?_eq_getElem hlt⟩
    have hc := rune_at hb
    generalize hcc : runeAt s k = c at hc ⊢
    have go : (97 ≤ c ∧ c ≤ 122) ∨ (k ≠ 0 ∧ (c = 95 ∨ (48 ≤ c ∧ c ≤ 57))) → X (k + runeLen s k) := fun h => by
      rcases hc with ⟨h1, h2, h3⟩ | ⟨h1, h2, h3⟩
      · rw [h3]
        exact hX _ ⟨hlt, hn.next hb (by unfold nmOk; omega)⟩ (by omega)
      · omega
    have bad : ¬ ((97 ≤ c ∧ c ≤ 122) ∨ (k ≠ 0 ∧ (c = 95 ∨ (48 ≤ c ∧ c ≤ 57)))) → r = false := fun h => no (not_name hb (by
      unfold nmOk
      rcases hc with ⟨h1, h2, h3⟩ | ⟨h1, h2, h3⟩ <;> omega))
    repeat' (first | (refine IfB.dec (fun _ => ?_) (fun _ => ?_)) | (refine IfB.eqi (fun _ => ?_) (fun _ => ?_)) | (refine IfB.nei (fun _ => ?_) (fun _ => ?_)))
    all_goals first | (refine go ?_; omega) | (refine bad ?_; omega)
  · have e : k = s.length := by omega
    subst e
    refine IfB.dec (fun h1 => IfB.dec (fun h2 => hr.2 ⟨by omega, by omega, hn⟩) (fun h2 => no fun h => by have := h.2.1; omega)) (fun h1 => no fun h => by have := h.1; omega)
def mayB (b : UInt8) : Prop := b.toNat = 10 ∨ (32 ≤ b.toNat ∧ b.toNat ≤ 126)
def RightTo (s : List UInt8) (k : Nat) : Prop := ∀ i b, i < k → s[i]? = some b → mayB b
def RightP (s : List UInt8) : Prop := RightTo s s.length
theorem RightP.mem {s : List UInt8} (h : RightP s) {b : UInt8} (hb : b ∈ s) : mayB b := by
  obtain ⟨i, hi, e⟩ := List.getElem_of_mem hb
  exact h i b hi (by rw [List.getElem?_eq_getElem hi, e])
theorem RightTo.next {s : List UInt8} {k : Nat} {b : UInt8} (h : RightTo s k) (hb : s[k]? = some b) (hn : mayB b) : RightTo s (k + 1) := fun i c hi hc => by
  by_cases e : i = k
  · subst e; rw [hb] at hc; cases hc; exact hn
  · exact h i c (by omega) hc
theorem not_right {s : List UInt8} {k : Nat} {b : UInt8} (hb : s[k]? = some b) (hn : ¬ mayB b) : ¬ RightP s := fun h => hn (h k b (List.getElem?_eq_some_iff.1 hb).1 hb)
theorem lines_may_says {c : Int} {r : Bool} (hr : r = true ↔ (c = 10 ∨ (32 ≤ c ∧ c ≤ 126))) : lines_may c r := by
  have no : ¬ (c = 10 ∨ (32 ≤ c ∧ c ≤ 126)) → r = false := fun h => by cases r with | false => rfl | true => exact absurd (hr.1 rfl) h
  unfold lines_may
  refine IfB.eqi (fun h => hr.2 (.inl h)) (fun h => IfB.dec (fun h1 => IfB.dec (fun h2 => hr.2 (.inr ⟨h1, h2⟩)) (fun h2 => no (by omega))) (fun h1 => no (by omega)))
theorem offcutref07_Right_says {s : List UInt8} {r : Bool} (hs : s.length ≤ 100000) (hr : r = true ↔ RightP s) : offcutref07_Right s r := by
  have no : ¬ RightP s → r = false := fun h => by cases r with | false => rfl | true => exact absurd (hr.1 rfl) h
  unfold offcutref07_Right
  refine LoopP.intro (fun z : Int => ∃ k : Nat, z = k ∧ k ≤ s.length ∧ RightTo s k) (fun z => s.length - z.toNat) ⟨0, rfl, Nat.zero_le _, fun i b h => by omega⟩ ?_
  rintro X _ ⟨k, rfl, hk, hn⟩ hX
  unfold offcutref07_Right_L1
  refine IfB.dec (fun hlt => ?_) (fun hge => ?_)
  · have hlt' : k < s.length := by omega
    obtain ⟨b, hb⟩ : ∃ b, s[k]? = some b := ⟨_, List.getElem?_eq_getElem hlt'⟩
    have hi : Idx s (k : Int) b := ⟨Int.natCast_nonneg _, by simpa using hb⟩
    have go : mayB b → X (IntKind.i64.wrap ((k : Int) + 1)) := fun h => by
      rw [wrap64 (by constructor <;> omega)]
      exact hX _ ⟨k + 1, by simp, hlt', hn.next hb h⟩ (by omega)
    have bad : ¬ mayB b → r = false := fun h => no (not_right hb h)
    unfold mayB at go bad
    repeat' (first | (refine ⟨b, hi, ?_⟩) | (refine IfB.dec (fun _ => ?_) (fun _ => ?_)) | (refine IfB.eqi (fun _ => ?_) (fun _ => ?_)) | (refine IfB.nei (fun _ => ?_) (fun _ => ?_)))
    all_goals first | (refine go ?_; omega) | (refine bad ?_; omega)
  · have e : k = s.length := by omega
    subst e
    exact hr.2 hn
theorem split_mem {c : UInt8} : ∀ {s : List UInt8} {x : List UInt8}, x ∈ splitC c s → (∀ b, b ∈ x → b ∈ s) ∧ x.length ≤ s.length
  | [], x, h => by simp [splitC] at h; subst h; simp
  | b :: l, x, h => by
    unfold splitC at h
    split at h
    · rcases List.mem_cons.1 h with rfl | h
      · simp
      · obtain ⟨h1, h2⟩ := split_mem h
        exact ⟨fun b hb => List.mem_cons_of_mem _ (h1 b hb), by simp; omega⟩
    · obtain ⟨y, r, e⟩ := splitC_ne c l
      rw [e] at h
      simp only at h
      rcases List.mem_cons.1 h with rfl | h
      · obtain ⟨h1, h2⟩ := split_mem (c := c) (s := l) (x := y) (by rw [e]; simp)
        refine ⟨fun d hd => ?_, by simp; omega⟩
        rcases List.mem_cons.1 hd with rfl | hd
        · simp
        · exact List.mem_cons_of_mem _ (h1 d hd)
      · obtain ⟨h1, h2⟩ := split_mem (c := c) (s := l) (x := x) (by rw [e]; simp [h])
        exact ⟨fun b hb => List.mem_cons_of_mem _ (h1 b hb), by simp; omega⟩
theorem split_len {c : UInt8} : ∀ {s : List UInt8}, (splitC c s).length = s.count c + 1
  | [] => rfl
  | b :: l => by
    unfold splitC
    split
    · rename_i e; subst e; rw [List.length_cons, split_len]; simp
    · rename_i e
      obtain ⟨y, r, e2⟩ := splitC_ne c l
      have := split_len (c := c) (s := l)
      rw [e2] at this ⊢
      rw [List.count_cons_of_ne (by simpa using e)]
      simpa using this
def head35 (s : List UInt8) : List UInt8 := (Lib.cut s [35]).1
theorem cut_fst {s : List UInt8} {c : UInt8} : ∃ n, (Lib.cut s [c]).1 = s.take n := by
  unfold Lib.cut
  split
  · exact ⟨_, rfl⟩
  · exact ⟨s.length, by simp⟩
theorem head_mem {s : List UInt8} : (∀ b, b ∈ head35 s → b ∈ s) ∧ (head35 s).length ≤ s.length := by
  unfold head35
  obtain ⟨n, e⟩ := cut_fst (s := s) (c := 35)
  rw [e]
  exact ⟨fun b hb => List.mem_of_mem_take hb, by simp; omega⟩
def wordsOf (s : List UInt8) : List (List UInt8) := Lib.fields (head35 s)
def linesFrom (k : Int) : List (List UInt8) → List (Int × List (List UInt8))
  | [] => []
  | s :: l => if 0 < (wordsOf s).length then (k + 1, wordsOf s) :: linesFrom (k + 1) l else linesFrom (k + 1) l
def allL (s : List UInt8) : List (Int × List (List UInt8)) := linesFrom 0 (splitC 10 s)
theorem linesFrom_length : ∀ (l : List (List UInt8)) (k : Int), (linesFrom k l).length ≤ l.length
  | [], k => by simp [linesFrom]
  | s :: l, k => by
    have := linesFrom_length l (k + 1)
    unfold linesFrom
    split <;> simp <;> omega
theorem lines_All_says {s : List UInt8} (hl : s.length ≤ 65536) (hr : RightP s) : lines_All s (allL s, 0) := by
  unfold lines_All
  refine IfB.dec (fun h => by omega) (fun _ => ?_)
  refine LoopP.intro (fun k => k ≤ s.length) (fun k => s.length - k) (Nat.zero_le _) ?_
  intro X k hk hX
  unfold lines_All_L1
  refine IfB.dec (fun hlt => ?_) (fun hge => ?_)
  · obtain ⟨b, hb⟩ : ∃ b, s[k]? = some b := ⟨_, List.getElem?_eq_getElem hlt⟩
    have hm : mayB b := hr k b hlt hb
    unfold mayB at hm
    rcases rune_at hb with ⟨h1, h2, h3⟩ | ⟨h1, h2, h3⟩
    · refine ⟨true, lines_may_says (by rw [h2]; simp; omega), IfB_true.2 ?_⟩
      rw [h3]
      exact hX _ hlt (by omega)
    · omega
  · refine ⟨splitC 10 s, ⟨by unfold Short; omega, 10, rfl, rfl⟩, ?_⟩
    generalize hp : splitC 10 s = ps
    have hmem : ∀ x, x ∈ ps → (∀ b, b ∈ x → mayB b) ∧ x.length ≤ 65536 := fun x hx => by
      obtain ⟨h1, h2⟩ := split_mem (hp ▸ hx)
      exact ⟨fun b hb => hr.mem (h1 b hb), by omega⟩
    have hlen : ps.length ≤ 65537 := by
      rw [← hp, split_len]
      have := List.count_le_length (a := (10 : UInt8)) (l := s)
      omega
    have goal : linesFrom 0 ps = allL s := by unfold allL; rw [hp]
    rw [← goal]
    refine LoopP.intro (fun z : Int × List (Int × List (List UInt8)) => ∃ done rest : List (List UInt8), ps = done ++ rest ∧ z.1 = done.length ∧ z.2.length ≤ done.length ∧ z.2 ++ linesFrom done.length rest = linesFrom 0 ps) (fun z => ps.length - z.1.toNat) ⟨[], ps, rfl, rfl, by simp, by simp⟩ ?_
    rintro X ⟨z, out⟩ ⟨done, rest, e, hz, ho, hj⟩ hX
    simp only at hz ho hj
    subst hz
    unfold lines_All_L2
    refine IfB.dec (fun hlt => ?_) (fun hge => ?_)
    · cases rest with
      | nil => rw [e] at hlt; simp at hlt
      | cons x rest =>
        have hx := hmem x (by rw [e]; simp)
        have hdl : done.length < ps.length := by rw [e]; simp
        refine ⟨x, ⟨Int.natCast_nonneg _, by rw [e]; simp⟩, (Lib.cut x [35]).1, (Lib.cut x [35]).2.1, (Lib.cut x [35]).2.2, ⟨by unfold Short; omega, 35, rfl, rfl⟩, ?_⟩
        have ew : ∀ A : Prop, A → IfB (Lib.cut x [35]).2.2 A A := fun A h => IfB.intro (fun _ => h) (fun _ => h)
        refine ew _ ?_
        obtain ⟨m1, m2⟩ := head_mem (s := x)
        refine ⟨wordsOf x, ⟨by unfold Short; unfold head35 at m2; omega, fun b hb => ?_, rfl⟩, ?_⟩
        · have := hx.1 b (m1 b hb); unfold mayB at this; omega
        have hw : IntKind.i64.wrap ((done.length : Int) + 1) = ((done ++ [x]).length : Int) := by rw [wrap64 (by constructor <;> omega)]; simp
        have hps : ps = (done ++ [x]) ++ rest := by rw [e]; simp
        have hj2 := hj
        have hcons : linesFrom (done.length : Int) (x :: rest) = if 0 < (wordsOf x).length then ((done.length : Int) + 1, wordsOf x) :: linesFrom ((done.length : Int) + 1) rest else linesFrom ((done.length : Int) + 1) rest := rfl
        rw [hcons] at hj2
        have ec : ((done ++ [x]).length : Int) = (done.length : Int) + 1 := by simp
        have em : ps.length - ((done ++ [x]).length : Int).toNat < ps.length - (done.length : Int).toNat := by simp; omega
        rw [hw]
        refine IfB.dec (fun hpos => ?_) (fun hpos => ?_)
        · rw [if_pos (by omega)] at hj2
          refine ⟨by unfold Fits; simp; omega, hX _ ⟨done ++ [x], rest, hps, rfl, by simp; omega, ?_⟩ em⟩
          simp only [ec, List.append_assoc, List.singleton_append]
          exact hj2
        · rw [if_neg (by omega)] at hj2
          refine hX _ ⟨done ++ [x], rest, hps, rfl, by simp; omega, ?_⟩ em
          simp only [ec]
          exact hj2
    · have : rest = [] := by
        cases rest with
        | nil => rfl
        | cons x r => rw [e] at hge; simp at hge; omega
      subst this
      simp only [linesFrom, List.append_nil] at hj
      rw [hj]
def Rising (lo hi : Int) : List (Int × List (List UInt8)) → Prop
  | [] => True
  | x :: l => lo < x.1 ∧ x.1 ≤ hi ∧ 0 < x.2.length ∧ Rising x.1 hi l
theorem Rising.lower {lo lo' hi : Int} (h : lo' ≤ lo) : ∀ {l : List (Int × List (List UInt8))}, Rising lo hi l → Rising lo' hi l
  | [], _ => trivial
  | x :: l, ⟨a, b⟩ => ⟨by omega, b⟩
theorem linesFrom_rising : ∀ (l : List (List UInt8)) (k : Int), Rising k (k + l.length) (linesFrom k l)
  | [], k => trivial
  | s :: l, k => by
    have ih := linesFrom_rising l (k + 1)
    have e : k + 1 + (l.length : Int) = k + ((s :: l).length : Int) := by simp; omega
    rw [e] at ih
    unfold linesFrom
    split
    · rename_i hw
      exact ⟨by simp; omega, by simp; omega, hw, ih⟩
    · exact ih.lower (by omega)
theorem Rising.at {hi : Int} : ∀ {l : List (Int × List (List UInt8))} {lo : Int} {i : Nat} {x : Int × List (List UInt8)}, Rising lo hi l → l[i]? = some x → 0 < x.2.length ∧ x.1 ≤ hi ∧ (∀ y, i ≠ 0 → l[i - 1]? = some y → y.1 < x.1) ∧ lo < x.1
  | [], _, i, x, _, h => by simp at h
  | z :: l, lo, 0, x, hr, h => by
    simp at h; subst h
    exact ⟨hr.2.2.1, hr.2.1, fun y h => absurd rfl h, hr.1⟩
  | z :: l, lo, i + 1, x, hr, h => by
    simp at h
    obtain ⟨h1, h2, h3, h4⟩ := Rising.at hr.2.2.2 h
    refine ⟨h1, h2, fun y _ hy => ?_, by have := hr.1; omega⟩
    cases i with
    | zero => simp at hy; subst hy; exact h4
    | succ i => simp at hy; exact h3 y (by omega) (by simpa using hy)
theorem head_none {s : List UInt8} (h : ∀ b, b ∈ s → b ≠ 35) : head35 s = s := by
  unfold head35
  rw [cut_one]
  induction s with
  | nil => rfl
  | cons b l ih =>
    rw [List.takeWhile_cons_of_pos (by simpa using h b (by simp)), ih fun c hc => h c (by simp [hc])]
def wlen (l : List (List UInt8)) : Nat := (l.map fun x => x.length + 1).sum
theorem fields_wlen : ∀ (l cur : List UInt8), wlen (Lib.fieldsGo cur l) ≤ cur.length + l.length + 1
  | [], cur => by cases cur <;> simp [Lib.fieldsGo, wlen]
  | b :: l, cur => by
    have i1 := fields_wlen l []
    have i2 := fields_wlen l (cur ++ [b])
    unfold Lib.fieldsGo
    split
    · cases cur with
      | nil => simp at i1 ⊢; omega
      | cons c t => simp [wlen] at i1 ⊢; omega
    · simp at i2 ⊢; omega
theorem wlen_len (l : List (List UInt8)) : l.length ≤ wlen l := by
  induction l with
  | nil => simp [wlen]
  | cons x l ih => simp [wlen] at ih ⊢; omega
theorem tail_len (c : UInt8) (l : List (List UInt8)) : (Lib.joinTail [c] l).length = wlen l := by
  induction l with
  | nil => rfl
  | cons x l ih =>
    simp only [Lib.joinTail, wlen, List.map_cons, List.flatten_cons, List.length_append, List.length_cons, List.length_nil, List.sum_cons] at ih ⊢
    omega
theorem join_len (c : UInt8) (l : List (List UInt8)) : (Lib.join l [c]).length ≤ wlen l := by
  cases l with
  | nil => rw [Lib.join_nil]; exact Nat.zero_le _
  | cons x l =>
    rw [Lib.join_cons, List.length_append, tail_len]
    simp [wlen]
theorem strings_Join_says {l : List (List UInt8)} {c : UInt8} (h : wlen l ≤ 1000000) : strings_Join l [c] (Lib.join l [c]) :=
  ⟨by have := wlen_len l; omega, by have := join_len c l; omega, rfl⟩
abbrev Ws := List (List UInt8)
abbrev Ls := List (Int × Ws)
def flushW (ws : Ws) (w : List UInt8) : Ws := if w = [] then ws else ws ++ [w]
def emitL (n : Int) (ws : Ws) : Ls := if 0 < ws.length then [(n, ws)] else []
def goL (word : List UInt8) (off : Bool) (n : Int) (ws : Ws) : List UInt8 → Ls
  | [] => emitL n (flushW ws word)
  | b :: l => if b.toNat = 10 then emitL n (flushW ws word) ++ goL [] false (n + 1) [] l else if off = true ∨ b.toNat = 35 then goL [] true n (flushW ws word) l
    else if b.toNat = 32 then goL [] false n (flushW ws word) l else goL (word ++ [b]) off n ws l
theorem flush_fields (ws : Ws) (w : List UInt8) : flushW ws w = ws ++ Lib.fieldsGo w [] := by
  unfold flushW
  cases w <;> simp [Lib.fieldsGo]
theorem u8 {b : UInt8} {c : Nat} (hc : c < 256) : b.toNat = c ↔ b = c.toUInt8 := by
  constructor
  · intro h; subst h; simp
  · rintro rfl; simp; omega
theorem goL_eq : ∀ (l word : List UInt8) (off : Bool) (n : Int) (ws : Ws), (∀ b, b ∈ l → mayB b) → (off = true → word = []) → ∃ x r, splitC 10 l = x :: r ∧ goL word off n ws l = emitL n (if off = true then ws else ws ++ Lib.fieldsGo word (head35 x)) ++ linesFrom n r
  | [], word, off, n, ws, _, ho => by
    refine ⟨[], [], rfl, ?_⟩
    have h0 : head35 [] = [] := by unfold head35; rw [cut_one]; rfl
    rw [h0]
    simp only [goL, linesFrom, List.append_nil]
    cases off with
    | true => rw [ho rfl]; simp [flushW]
    | false => rw [flush_fields]; simp
  | b :: l, word, off, n, ws, hm, ho => by
    have hm' : ∀ c, c ∈ l → mayB c := fun c hc => hm c (by simp [hc])
    have hb := hm b (by simp)
    by_cases h10 : b.toNat = 10
    · have e10 : b = 10 := (u8 (by decide)).1 h10
      obtain ⟨x, r, e1, e2⟩ := goL_eq l [] false (n + 1) [] hm' (by simp)
      refine ⟨[], splitC 10 l, by rw [splitC, if_pos e10], ?_⟩
      rw [goL, if_pos h10, e2, e1]
      have h0 : head35 [] = [] := by unfold head35; rw [cut_one]; rfl
      have e3 : linesFrom n (x :: r) = emitL (n + 1) (wordsOf x) ++ linesFrom (n + 1) r := by
        rw [linesFrom]; unfold emitL
        split <;> simp
      rw [e3, h0]
      have e4 : emitL n (flushW ws word) = emitL n (if off = true then ws else ws ++ Lib.fieldsGo word []) := by
        cases off with
        | true => rw [ho rfl]; simp [flushW]
        | false => rw [flush_fields]; simp
      rw [e4]
      simp [wordsOf, Lib.fields]
    · have e10 : ¬ b = 10 := fun e => h10 ((u8 (by decide)).2 e)
      have sp : ∀ x r, splitC 10 l = x :: r → splitC 10 (b :: l) = (b :: x) :: r := fun x r e => by rw [splitC, if_neg e10, e]
      rw [goL, if_neg h10]
      by_cases h35 : off = true ∨ b.toNat = 35
      · rw [if_pos h35]
        obtain ⟨x, r, e1, e2⟩ := goL_eq l [] true n (flushW ws word) hm' (by simp)
        refine ⟨b :: x, r, sp x r e1, ?_⟩
        rw [e2]
        cases off with
        | true => rw [ho rfl]; simp [flushW]
        | false =>
          have hb35 : b = 35 := (u8 (by decide)).1 (h35.resolve_left (by simp))
          have h0 : head35 (b :: x) = [] := by unfold head35; rw [cut_one, hb35]; simp
          rw [h0, flush_fields]; simp
      · rw [if_neg h35]
        have hoff : off = false := by cases off <;> simp at h35 ⊢
        subst hoff
        have n35 : b ≠ 35 := fun e => h35 (.inr ((u8 (by decide)).2 e))
        have hh : ∀ x, head35 (b :: x) = b :: head35 x := fun x => by
          unfold head35; rw [cut_one, cut_one, List.takeWhile_cons_of_pos (by simpa using n35)]
        by_cases h32 : b.toNat = 32
        · rw [if_pos h32]
          obtain ⟨x, r, e1, e2⟩ := goL_eq l [] false n (flushW ws word) hm' (by simp)
          refine ⟨b :: x, r, sp x r e1, ?_⟩
          have hb32 : b = 32 := (u8 (by decide)).1 h32
          have e3 : Lib.fieldsGo word (b :: head35 x) = if word.isEmpty then Lib.fieldsGo [] (head35 x) else word :: Lib.fieldsGo [] (head35 x) := by
            subst hb32; rfl
          rw [e2, hh, e3]
          cases word <;> simp [flushW]
        · rw [if_neg h32]
          obtain ⟨x, r, e1, e2⟩ := goL_eq l (word ++ [b]) false n ws hm' (by simp)
          refine ⟨b :: x, r, sp x r e1, ?_⟩
          have hns : Lib.isSp b = false := by
            unfold mayB at hb
            have k : ∀ c : Nat, c < 256 → b.toNat ≠ c → (b == c.toUInt8) = false := fun c hc h => by
              rw [beq_eq_false_iff_ne]; exact fun e => h ((u8 hc).2 e)
            have h9 := k 9 (by decide) (by omega); have h10' := k 10 (by decide) h10; have h11 := k 11 (by decide) (by omega); have h12 := k 12 (by decide) (by omega); have h13 := k 13 (by decide) (by omega); have h32' := k 32 (by decide) h32
            unfold Lib.isSp
            simp at h9 h10' h11 h12 h13 h32' ⊢
            exact ⟨⟨⟨⟨⟨h9, h10'⟩, h11⟩, h12⟩, h13⟩, h32'⟩
          have e3 : Lib.fieldsGo word (b :: head35 x) = Lib.fieldsGo (word ++ [b]) (head35 x) := by
            rw [Lib.fieldsGo, if_neg (by rw [hns]; simp)]
          rw [e2, hh, e3]
theorem goL_all {s : List UInt8} (hr : RightP s) : goL [] false 1 [] s = allL s := by
  obtain ⟨x, r, e1, e2⟩ := goL_eq s [] false 1 [] (fun b hb => hr.mem hb) (by simp)
  rw [e2]
  unfold allL
  rw [e1, linesFrom]
  unfold emitL
  simp only [Bool.false_eq_true, if_false, List.nil_append]
  show (if 0 < (wordsOf x).length then _ else _) ++ _ = _
  split <;> simp [wordsOf, Lib.fields]
def J12 (s : List UInt8) (G : Ls) : (List UInt8) × Bool × Int × Int × Ls × Ws → Prop
  | (word, off, z, n, out, ws) => ∃ i : Nat, z = i ∧ i ≤ s.length + 1 ∧ 0 ≤ n ∧ n ≤ i + 1 ∧ word.length ≤ i ∧ out.length ≤ i ∧ ws.length ≤ i ∧ (off = true → word = []) ∧ (i ≤ s.length → out ++ goL word off n ws (s.drop i) = G) ∧ (i = s.length + 1 → out = G)
theorem offcutref07_All_says {s : List UInt8} (hs : s.length ≤ 100000) : offcutref07_All s (goL [] false 1 [] s) := by
  unfold offcutref07_All
  generalize hG : goL [] false 1 [] s = G
  refine LoopP.intro (J12 s G) (fun z => s.length + 1 - z.2.2.1.toNat) ⟨0, rfl, Nat.zero_le _, by omega, by omega, Nat.le_refl _, Nat.le_refl _, Nat.le_refl _, fun _ => rfl, fun _ => hG, fun h => by omega⟩ ?_
  rintro X ⟨word, off, z, n, out, ws⟩ ⟨i, rfl, hi, hn0, hn1, hw, ho, hws, hoff, hgo, hend⟩ hX
  have eI : i ≤ s.length → IntKind.i64.wrap ((i : Int) + 1) = ((i + 1 : Nat) : Int) := fun _ => by rw [wrap64 (by constructor <;> omega)]; simp
  have eN : IntKind.i64.wrap (n + 1) = n + 1 := wrap64 (by constructor <;> omega)
  have hflen : (flushW ws word).length ≤ i + 1 := by
    unfold flushW
    split
    · omega
    · rw [List.length_append, List.length_singleton]; omega
  have fl0 : (!(word == ([] : List UInt8))) = false → flushW ws word = ws := fun h => by
    have : word = [] := by simpa using h
    simp [flushW, this]
  have fl1 : (!(word == ([] : List UInt8))) = true → flushW ws word = ws ++ [word] := fun h => by
    have : ¬ word = [] := by simpa using h
    simp [flushW, this]
  -- a line's end, or the text's
  have fin : ∀ ws', flushW ws word = ws' → i ≤ s.length → (∀ b, s[i]? = some b → b.toNat = 10) →
      IfB (decide ((ws'.length : Int) > (0 : Int))) (Fits (out.length + [(n, ws')].length) 32 ∧ X (([] : List UInt8), false, (IntKind.i64.wrap ((i : Int) + 1)), (IntKind.i64.wrap (n + 1)), (out ++ [(n, ws')]), ([] : Ws)))
        (X (([] : List UInt8), false, (IntKind.i64.wrap ((i : Int) + 1)), (IntKind.i64.wrap (n + 1)), out, ([] : Ws))) := by
    intro ws' hf hle hb
    rw [eI hle, eN]
    have key : ∀ out', out ++ emitL n ws' = out' → (i + 1 ≤ s.length → out' ++ goL [] false (n + 1) [] (s.drop (i + 1)) = G) ∧ (i + 1 = s.length + 1 → out' = G) := by
      rintro out' rfl
      have hg := hgo hle
      refine ⟨fun h => ?_, fun h => ?_⟩
      · have hlt : i < s.length := h
        have h10 := hb _ (List.getElem?_eq_getElem hlt)
        rw [List.drop_eq_getElem_cons hlt, goL, if_pos h10, hf] at hg
        rw [List.append_assoc]; exact hg
      · rw [List.drop_of_length_le (by omega), goL, hf] at hg
        exact hg
    refine IfB.dec (fun hp => ⟨by unfold Fits; simp; omega, ?_⟩) (fun hp => ?_)
    · obtain ⟨k1, k2⟩ := key (out ++ [(n, ws')]) (by unfold emitL; rw [if_pos (by omega)])
      exact hX _ ⟨i + 1, rfl, by omega, by omega, by omega, by simp, by simp; omega, by simp, by simp, k1, k2⟩ (by simp; omega)
    · obtain ⟨k1, k2⟩ := key out (by unfold emitL; rw [if_neg (by omega)]; simp)
      exact hX _ ⟨i + 1, rfl, by omega, by omega, by omega, by simp, by omega, by simp, by simp, k1, k2⟩ (by simp; omega)
  have fin2 : i ≤ s.length → (∀ b, s[i]? = some b → b.toNat = 10) → IfB (!(word == ([] : List UInt8))) (Fits (ws.length + [word].length) 16 ∧ IfB (decide (((ws ++ [word]).length : Int) > (0 : Int))) (Fits (out.length + [(n, (ws ++ [word]))].length) 32 ∧ X (([] : List UInt8), false, (IntKind.i64.wrap ((i : Int) + 1)), (IntKind.i64.wrap (n + 1)), (out ++ [(n, (ws ++ [word]))]), ([] : Ws)))
        (X (([] : List UInt8), false, (IntKind.i64.wrap ((i : Int) + 1)), (IntKind.i64.wrap (n + 1)), out, ([] : Ws))))
      (IfB (decide ((ws.length : Int) > (0 : Int))) (Fits (out.length + [(n, ws)].length) 32 ∧ X (([] : List UInt8), false, (IntKind.i64.wrap ((i : Int) + 1)), (IntKind.i64.wrap (n + 1)), (out ++ [(n, ws)]), ([] : Ws)))
        (X (([] : List UInt8), false, (IntKind.i64.wrap ((i : Int) + 1)), (IntKind.i64.wrap (n + 1)), out, ([] : Ws)))) := fun h1 h2 =>
    IfB.bool (fun h => ⟨by unfold Fits; simp; omega, fin _ (fl1 h) h1 h2⟩) (fun h => fin _ (fl0 h) h1 h2)
  -- a word's end
  have blank : ∀ (b : UInt8) (off' : Bool), s[i]? = some b → b.toNat ≠ 10 → ((off' = true ∧ (off = true ∨ b.toNat = 35)) ∨ (off' = false ∧ off = false ∧ b.toNat = 32)) →
      IfB (!(word == ([] : List UInt8))) (Fits (ws.length + [word].length) 16 ∧ X (([] : List UInt8), off', (IntKind.i64.wrap ((i : Int) + 1)), n, out, (ws ++ [word]))) (X (([] : List UInt8), off', (IntKind.i64.wrap ((i : Int) + 1)), n, out, ws)) := by
    intro b off' hb h10 hk
    obtain ⟨hlt, hbe⟩ := List.getElem?_eq_some_iff.1 hb
    have hle : i ≤ s.length := by omega
    have hg := hgo hle
    rw [List.drop_eq_getElem_cons hlt, hbe, goL, if_neg h10] at hg
    have hg2 : out ++ goL [] off' n (flushW ws word) (s.drop (i + 1)) = G := by
      rcases hk with ⟨rfl, hk⟩ | ⟨rfl, hf, h32⟩
      · rw [if_pos hk] at hg; exact hg
      · rw [if_neg (by rw [hf]; simp; omega), if_pos h32] at hg; exact hg
    rw [eI hle]
    have go : ∀ ws', flushW ws word = ws' → X (([] : List UInt8), off', ((i + 1 : Nat) : Int), n, out, ws') := by
      rintro ws' rfl
      exact hX _ ⟨i + 1, rfl, by omega, hn0, by omega, by simp, by omega, hflen, by simp, fun _ => hg2, fun h => by omega⟩ (by simp; omega)
    exact IfB.bool (fun h => ⟨by unfold Fits; simp; omega, go _ (fl1 h)⟩) (fun h => go _ (fl0 h))
  unfold offcutref07_All_L1
  have hbyte : ∀ A : UInt8 → Prop, i < s.length → (∀ b, s[i]? = some b → A b) → ∃ c, Idx s (i : Int) c ∧ A c := fun A hlt h => by
    have hb := List.getElem?_eq_getElem hlt
    exact ⟨_, ⟨Int.natCast_nonneg _, by simpa using hb⟩, h _ hb⟩
  cases off with
  | true =>
    refine IfB_true.2 (IfB.dec (fun hle => IfB.eqi (fun he => ?_) (fun hne => ?_)) (fun hgt => (hend (by omega)).symm ▸ rfl))
    · exact fin2 (by omega) (fun b hb => by have := (List.getElem?_eq_some_iff.1 hb).1; omega)
    · refine hbyte _ (by omega) fun b hb => IfB.eqi (fun h => fin2 (by omega) (fun b' hb' => by rw [hb] at hb'; cases hb'; omega)) (fun h10 => ?_)
      refine hbyte _ (by omega) fun b' hb' => ?_
      rw [hb] at hb'; cases hb'
      exact IfB.eqi (fun _ => blank b true hb (by omega) (.inl ⟨rfl, .inl rfl⟩)) (fun _ => blank b true hb (by omega) (.inl ⟨rfl, .inl rfl⟩))
  | false =>
    refine IfB_false.2 (IfB.dec (fun hle => IfB.eqi (fun he => ?_) (fun hne => ?_)) (fun hgt => (hend (by omega)).symm ▸ rfl))
    · exact fin2 (by omega) (fun b hb => by have := (List.getElem?_eq_some_iff.1 hb).1; omega)
    · refine hbyte _ (by omega) fun b hb => IfB.eqi (fun h => fin2 (by omega) (fun b' hb' => by rw [hb] at hb'; cases hb'; omega)) (fun h10 => ?_)
      refine hbyte _ (by omega) fun b' hb' => ?_
      rw [hb] at hb'; cases hb'
      refine IfB.eqi (fun h35 => blank b true hb (by omega) (.inl ⟨rfl, .inr (by omega)⟩)) (fun h35 => ?_)
      refine hbyte _ (by omega) fun b' hb' => ?_
      rw [hb] at hb'; cases hb'
      refine IfB.eqi (fun h32 => blank b false hb (by omega) (.inr ⟨rfl, rfl, by omega⟩)) (fun h32 => ?_)
      obtain ⟨hlt, hbe⟩ := List.getElem?_eq_some_iff.1 hb
      have hsub : sub s (i : Int) (IntKind.i64.wrap ((i : Int) + 1)) = [b] := by
        rw [eI (by omega)]
        unfold sub
        simp only [Int.toNat_natCast]
        rw [List.drop_eq_getElem_cons hlt, hbe, show i + 1 - i = 1 by omega]
        rfl
      rw [hsub, eI (by omega)]
      refine ⟨⟨by omega, by omega, by omega⟩, by unfold Fits; simp; omega, hX _ ⟨i + 1, rfl, by omega, hn0, by omega, by simp; omega, by omega, by omega, by simp, fun _ => ?_, fun h => by omega⟩ (by simp; omega)⟩
      have hg := hgo (by omega)
      rw [List.drop_eq_getElem_cons hlt, hbe, goL, if_neg (by omega), if_neg (by simp; omega), if_neg (by omega)] at hg
      exact hg
theorem lines_All_form {s : List UInt8} (hl : s.length ≤ 65536) (hr : ¬ RightP s) : lines_All s ([], 2) := by
  unfold lines_All
  refine IfB.dec (fun h => by omega) (fun _ => ?_)
  refine LoopP.intro (fun k => k ≤ s.length ∧ RightTo s k) (fun k => s.length - k) ⟨Nat.zero_le _, fun i b h => by omega⟩ ?_
  rintro X k ⟨hk, hn⟩ hX
  unfold lines_All_L1
  refine IfB.dec (fun hlt => ?_) (fun hge => ?_)
  · obtain ⟨b, hb⟩ : ∃ b, s[k]? = some b := ⟨_, List.getElem?_eq_getElem hlt⟩
    by_cases hm : mayB b
    · have hm' := hm
      unfold mayB at hm'
      rcases rune_at hb with ⟨h1, h2, h3⟩ | ⟨h1, h2, h3⟩
      · refine ⟨true, lines_may_says (by rw [h2]; simp; omega), IfB_true.2 ?_⟩
        rw [h3]
        exact hX _ ⟨hlt, hn.next hb hm⟩ (by omega)
      · omega
    · have hm' := hm
      unfold mayB at hm'
      refine ⟨false, lines_may_says ?_, IfB_false.2 rfl⟩
      rcases rune_at hb with ⟨h1, h2, h3⟩ | ⟨h1, h2, h3⟩
      · rw [h2]; simp; omega
      · simp; omega
  · exfalso
    have e : k = s.length := by omega
    subst e
    exact hr hn
theorem all_wlen (s : List UInt8) : ∀ x, x ∈ allL s → wlen x.2 ≤ s.length + 1 := by
  have key : ∀ (l : List (List UInt8)) (k : Int), (∀ y, y ∈ l → y.length ≤ s.length) → ∀ x, x ∈ linesFrom k l → wlen x.2 ≤ s.length + 1 := by
    intro l
    induction l with
    | nil => intro k _ x hx; simp [linesFrom] at hx
    | cons y l ih =>
      intro k hy x hx
      have hx' : x ∈ (if 0 < (wordsOf y).length then (k + 1, wordsOf y) :: linesFrom (k + 1) l else linesFrom (k + 1) l) := hx
      have one : wlen (wordsOf y) ≤ s.length + 1 := by
        have h1 := fields_wlen (head35 y) []
        have h2 := (head_mem (s := y)).2
        have h3 := hy y (by simp)
        unfold wordsOf Lib.fields
        simp at h1
        omega
      split at hx'
      · rcases List.mem_cons.1 hx' with rfl | hx'
        · exact one
        · exact ih _ (fun z hz => hy z (by simp [hz])) x hx'
      · exact ih _ (fun z hz => hy z (by simp [hz])) x hx'
  exact key _ 0 fun y hy => (split_mem hy).2
theorem LoopP.once {σ : Type} {F : (σ → Prop) → σ → Prop} {s : σ} (h : ∀ X : σ → Prop, (∀ s, F X s → X s) → F X s) : LoopP F s := fun X hX => hX s (h X hX)
theorem fields_word : ∀ (w t cur : List UInt8), (∀ b, b ∈ w → Lib.isSp b = false) → Lib.fieldsGo cur (w ++ t) = Lib.fieldsGo (cur ++ w) t
  | [], t, cur, _ => by simp
  | b :: w, t, cur, h => by
    rw [List.cons_append, Lib.fieldsGo, if_neg (by rw [h b (by simp)]; simp), fields_word w t (cur ++ [b]) fun c hc => h c (by simp [hc])]
    simp
theorem fields_tail : ∀ (r : List (List UInt8)) (cur : List UInt8), cur ≠ [] → (∀ w, w ∈ r → w ≠ [] ∧ ∀ b, b ∈ w → Lib.isSp b = false) → Lib.fieldsGo cur (Lib.joinTail [32] r) = cur :: r
  | [], cur, h, _ => by cases cur <;> simp [Lib.joinTail, Lib.fieldsGo] at h ⊢
  | y :: r, cur, h, hr => by
    obtain ⟨h1, h2⟩ := hr y (by simp)
    have e : Lib.joinTail [32] (y :: r) = 32 :: (y ++ Lib.joinTail [32] r) := by simp [Lib.joinTail]
    have e2 : Lib.fieldsGo cur (32 :: (y ++ Lib.joinTail [32] r)) = if cur.isEmpty then Lib.fieldsGo [] (y ++ Lib.joinTail [32] r) else cur :: Lib.fieldsGo [] (y ++ Lib.joinTail [32] r) := rfl
    rw [e, e2, fields_word _ _ _ h2, List.nil_append, fields_tail r y h1 fun w hw => hr w (by simp [hw])]
    cases cur with
    | nil => exact absurd rfl h
    | cons c t => rfl
theorem fields_join {l : List (List UInt8)} (h : ∀ w, w ∈ l → w ≠ [] ∧ ∀ b, b ∈ w → Lib.isSp b = false) : Lib.fields (Lib.join l [32]) = l := by
  cases l with
  | nil => rfl
  | cons x r =>
    obtain ⟨h1, h2⟩ := h x (by simp)
    unfold Lib.fields
    rw [Lib.join_cons, fields_word _ _ _ h2, List.nil_append, fields_tail r x h1 fun w hw => h w (by simp [hw])]
def mkB (s : List UInt8) : ByteArray := ⟨s.toArray⟩
theorem mkB_inj {a b : List UInt8} (h : mkB a = mkB b) : a = b := by
  have : (mkB a).data.toList = (mkB b).data.toList := by rw [h]
  simpa [mkB] using this
def okW (w : List UInt8) : Prop := w ≠ [] ∧ w.length ≤ 40 ∧ RightP w ∧ ∀ b, b ∈ w → b ≠ 32 ∧ b ≠ 35 ∧ b ≠ 10
theorem okW.sp {w : List UInt8} (h : okW w) : ∀ b, b ∈ w → Lib.isSp b = false := fun b hb => by
  have hm := h.2.2.1.mem hb
  obtain ⟨n32, _, n10⟩ := h.2.2.2 b hb
  unfold mayB at hm
  have k : ∀ c : Nat, c < 256 → b.toNat ≠ c → (b == c.toUInt8) = false := fun c hc h => by
    rw [beq_eq_false_iff_ne]; intro e; apply h; rw [e]; simp; omega
  have t10 : b.toNat ≠ 10 := fun e => n10 (by rw [← UInt8.toNat_inj]; exact e)
  have t32 : b.toNat ≠ 32 := fun e => n32 (by rw [← UInt8.toNat_inj]; exact e)
  have h9 := k 9 (by decide) (by omega); have h10' := k 10 (by decide) t10; have h11 := k 11 (by decide) (by omega); have h12 := k 12 (by decide) (by omega); have h13 := k 13 (by decide) (by omega); have h32' := k 32 (by decide) t32
  unfold Lib.isSp
  simp at h9 h10' h11 h12 h13 h32' ⊢
  exact ⟨⟨⟨⟨⟨h9, h10'⟩, h11⟩, h12⟩, h13⟩, h32'⟩
theorem join_mem : ∀ {l : List (List UInt8)} {b : UInt8}, b ∈ Lib.join l [32] → b = 32 ∨ ∃ w, w ∈ l ∧ b ∈ w
  | [], b, h => by rw [Lib.join_nil] at h; simp at h
  | x :: r, b, h => by
    rw [Lib.join_cons, List.mem_append] at h
    rcases h with h | h
    · exact .inr ⟨x, by simp, h⟩
    · unfold Lib.joinTail at h
      rw [List.mem_flatten] at h
      obtain ⟨t, ht, hb⟩ := h
      rw [List.mem_map] at ht
      obtain ⟨w, hw, rfl⟩ := ht
      simp only [List.mem_append, List.mem_singleton] at hb
      rcases hb with h | h
      · exact .inl h
      · exact .inr ⟨w, by simp [hw], h⟩
end Go.Abs
end

section
namespace Go.Abs
open Go
set_option linter.unusedVariables false
set_option linter.unusedSimpArgs false
set_option linter.unnecessarySimpa false
abbrev Q3 := Bool × List Int × List Int
def isN (w : By) : Prop := (ratR w).2.2.2 = 0
instance (w : By) : Decidable (isN w) := inferInstanceAs (Decidable (_ = _))
def numOf (w : By) : Q3 := ((ratR w).1, (ratR w).2.1, (ratR w).2.2.1)
def dgOK (s : By) : Prop := s ≠ [] ∧ allDg s ∧ s.length ≤ 400
instance (s : By) : Decidable (dgOK s) := inferInstanceAs (Decidable (_ ∧ _))
theorem dgOK_parse (s : By) : dgOK s ↔ (parseR s).2 = 0 := by
  unfold dgOK parseR
  by_cases h : s = [] ∨ ¬ allDg s
  · rw [if_pos h]
    constructor
    · rintro ⟨h1, h2, _⟩; exact (h.elim h1 (fun h => h h2)).elim
    · intro h'; simp at h'
  · rw [if_neg h]
    have h1 : s ≠ [] := fun e => h (.inl e)
    have h2 : allDg s := Decidable.byContradiction fun e => h (.inr e)
    by_cases h3 : 400 < s.length
    · rw [if_pos h3]
      constructor
      · rintro ⟨_, _, h4⟩; omega
      · intro h'; simp at h'
    · rw [if_neg h3]; exact ⟨fun _ => rfl, fun _ => ⟨h1, h2, by omega⟩⟩
def okQ (x : Q3) : Prop := WS x.2.1 ∧ WS x.2.2 ∧ x.2.1.length ≤ 10000 ∧ x.2.2.length ≤ 10000
theorem numOf_ok (w : By) : okQ (numOf w) := by
  have hp : ∀ (v : Nat), True := fun _ => trivial
  unfold okQ numOf ratR
  dsimp only
  have h1 := parseR_len (if (Lib.cut w [47]).2.2 then (Lib.cut w [47]).2.1 else [49])
  have h2 := wholeR_len (Lib.cut w [47]).1
  have h3 := parseR_WS (if (Lib.cut w [47]).2.2 then (Lib.cut w [47]).2.1 else [49])
  have h4 := wholeR_WS (Lib.cut w [47]).1
  generalize parseR (if (Lib.cut w [47]).2.2 then (Lib.cut w [47]).2.1 else [49]) = P at *
  generalize wholeR (Lib.cut w [47]).1 = A at *
  split
  · exact ⟨WS_nil, WS_nil, by simp, by simp⟩
  · split
    · exact ⟨WS_nil, WS_nil, by simp, by simp⟩
    · split
      · exact ⟨WS_nil, WS_nil, by simp, by simp⟩
      · refine ⟨WS_words _, WS_words _, ?_, ?_⟩
        · exact Nat.le_trans (words_len_le (Nat.div_le_self _ _)) (Nat.le_trans (wl h4) (by omega))
        · exact Nat.le_trans (words_len_le (Nat.div_le_self _ _)) (Nat.le_trans (wl h3) (by omega))
end Go.Abs
end
