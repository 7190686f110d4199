/- Part of a proof, in few files: LRat LRat2 MRw SAY M08m. -/
import Derived.Test.YthkcibhfbcfhlaaGreatDoorDChK23
import Derived.Test.YthkcibhfbcfhlaaGreatDoorDChK13
import Derived.Lib.IndexMore
import Derived.Test.YthkcibhfbcfhlaaGreatDoorDChK22
import Derived.Test.YthkcibhfbcfhlaaGreatDoorDChK20
import Derived.Test.YthkcibhfbcfhlaaGreatDoorDChK16
import Derived.Test.YthkcibhfbcfhlaaGreatDoorDChK17

set_option linter.unusedVariables false
set_option linter.unusedSimpArgs false
set_option linter.unnecessarySimpa false
section
namespace Go.Abs
open Go
abbrev By := List UInt8
def dg (b : UInt8) : Prop := 48 ≤ b.toNat ∧ b.toNat ≤ 57
instance (b : UInt8) : Decidable (dg b) := inferInstanceAs (Decidable (_ ∧ _))
def allDg (s : By) : Prop := ∀ b, b ∈ s → dg b
instance (s : By) : Decidable (allDg s) := inferInstanceAs (Decidable (∀ b, b ∈ s → dg b))
def dV (acc : Nat) : By → Nat
 | [] => acc
 | b :: l => dV (acc * 10 + (b.toNat - 48)) l
theorem dV_nil (acc : Nat) : dV acc [] = acc := by rfl
theorem dV_cons (acc : Nat) (b : UInt8) (l : By) : dV acc (b :: l) = dV (acc * 10 + (b.toNat - 48)) l := by rfl
theorem dV_app : ∀ (l m : By) (acc : Nat), dV acc (l ++ m) = dV (dV acc l) m
 | [], m, acc => by rw [List.nil_append, dV_nil]
 | b :: l, m, acc => by rw [List.cons_append, dV_cons, dV_cons]; exact dV_app l m _
theorem dV_acc : ∀ (l : By) (acc : Nat), dV acc l = acc * 10 ^ l.length + dV 0 l
 | [], acc => by rw [dV_nil, dV_nil]; simp
 | b :: l, acc => by
  rw [dV_cons, dV_cons, dV_acc l (acc * 10 + (b.toNat - 48)), dV_acc l (0 * 10 + (b.toNat - 48)), List.length_cons, Nat.pow_succ]
  grind
theorem dV_one (b : UInt8) : dV 0 [b] = b.toNat - 48 := by rw [dV_cons, dV_nil]; omega
theorem dV_app0 (l m : By) : dV 0 (l ++ m) = dV 0 l * 10 ^ m.length + dV 0 m := by rw [dV_app, dV_acc]
theorem dV_lt : ∀ (l : By), allDg l → dV 0 l < 10 ^ l.length
 | [], _ => by rw [dV_nil]; simp
 | b :: l, h => by
  have hb := h b (by simp)
  unfold dg at hb
  have := dV_lt l fun c hc => h c (by simp [hc])
  rw [dV_cons, dV_acc, List.length_cons, Nat.pow_succ]
  have h9 : (0 * 10 + (b.toNat - 48)) * 10 ^ l.length ≤ 9 * 10 ^ l.length := Nat.mul_le_mul_right _ (by omega)
  omega
theorem allDg_app {a b : By} : allDg (a ++ b) ↔ allDg a ∧ allDg b := by
 simp only [allDg, List.mem_append]
 exact ⟨fun h => ⟨fun x hx => h x (.inl hx), fun x hx => h x (.inr hx)⟩, fun h x hx => hx.elim (h.1 x) (h.2 x)⟩
def parseR (s : By) : List Int × Int := if s = [] ∨ ¬ allDg s then ([], 2) else if 400 < s.length then ([], 4) else (words (dV 0 s), 0)
theorem pow10_words (n : Nat) {v : Nat} (h : v < 10 ^ n) : (words v).length ≤ n := by
 refine words_len _ _ (Nat.lt_of_lt_of_le h ?_)
 exact Nat.pow_le_pow_left (by omega) n
theorem nat_Parse_1_says (c : Int) : nat_Parse_1 c (decide (48 ≤ c ∧ c ≤ 57)) := by
 unfold nat_Parse_1
 refine IfB.dc (fun h1 => IfB.dc (fun h2 => ?_) (fun h2 => ?_)) (fun h1 => ?_)
 ·simp; omega
 ·simp; omega
 ·simp; omega
theorem nat_Parse_says (s : By) (hl : s.length ≤ 1000000) : nat_Parse s (parseR s) := by
 unfold nat_Parse
 refine LoopP.intro (fun z : List Int × Int => ∃ k : Nat, z.2 = k ∧ k ≤ s.length ∧ allDg (s.take k) ∧ (k ≤ 400 → z.1 = words (dV 0 (s.take k)))) (fun z => s.length - z.2.toNat) ⟨0, rfl, by omega, by intro b hb; simp at hb, fun _ => by simp [dV_nil, words_zero]⟩ ?_
 rintro X ⟨out, z2⟩ ⟨k, h2, hk, hd, ho⟩ hX
 simp only at h2 ho
 subst h2
 unfold nat_Parse_L1
 dsimp only
 refine IfB.dc (fun hlt => ?_) (fun hge => ?_)
 ·have hks : k < s.length := by omega
  have htk : s.take (k + 1) = s.take k ++ [s[k]] := by rw [List.take_add_one, List.getElem?_eq_getElem hks]; rfl
  refine ⟨_, Idx.nat hks, _, nat_Parse_1_says _, IfB.dc (fun hdig => ?_) (fun hno => ?_)⟩
  ·have hdk : dg s[k] := by unfold dg; omega
   have hd1 : allDg (s.take (k + 1)) := by
    rw [htk, allDg_app]; exact ⟨hd, by intro b hb; simp at hb; subst hb; exact hdk⟩
   rw [wrap64' (by omega) (by omega)]
   refine IfB.dc (fun h4 => ?_) (fun h4 => ?_)
   ·have h400 : k < 400 := by omega
    rw [ho (by omega)]
    have hv := dV_lt _ hd
    rw [List.length_take, Nat.min_eq_left (by omega)] at hv
    have hlen := pow10_words k hv
    have h10 := nat_Of_says 10 (by omega)
    have hm := nat_Mul_says (words (dV 0 (s.take k))) (words 10) (WS_words _) (WS_words _) (by omega) (by have := pow10_words 2 (v := 10) (by omega); omega)
    rw [val_words, val_words] at hm
    unfold dg at hdk
    have e8 : IntKind.u64.wrap (IntKind.u8.wrap (((s[k].toNat : Nat) : Int) - 48)) = ((s[k].toNat - 48 : Nat) : Int) := by
     rw [wrapu8 (by omega) (by omega), wrapu64 (by omega) (by omega)]; omega
    have hlv : dV 0 (s.take k) * 10 < 10 ^ (k + 1) := by rw [Nat.pow_succ]; omega
    have ha := nat_Add_says (words (dV 0 (s.take k) * 10)) (words (s[k].toNat - 48)) (WS_words _) (WS_words _) (by have := pow10_words (k + 1) hlv; omega) (by have := pow10_words 2 (v := s[k].toNat - 48) (by omega); omega)
    rw [val_words, val_words] at ha
    refine ⟨_, h10, _, hm, _, Idx.nat hks, _, by rw [e8]; exact nat_Of_says _ (by omega), _, ha, hX _ ⟨k + 1, by (try dsimp only) <;> omega, by omega, hd1, fun _ => ?_⟩ (by (try dsimp only) <;> omega)⟩
    dsimp only
    rw [htk, dV_app0, dV_one]; simp
   ·exact hX _ ⟨k + 1, by (try dsimp only) <;> omega, by omega, hd1, fun h => by omega⟩ (by (try dsimp only) <;> omega)
  ·unfold parseR
   rw [if_pos]
   refine .inr fun hall => hno ?_
   have := hall s[k] (List.getElem_mem hks)
   unfold dg at this; omega
 ·have hkl : k = s.length := by omega
  subst hkl
  rw [List.take_length] at hd ho
  unfold parseR
  refine IfB.intro (fun he => ?_) (fun he => ?_)
  ·rw [if_pos (.inl (by simpa using he))]
  ·have hne : s ≠ [] := by simpa using he
   rw [if_neg (fun h => h.elim hne fun h => h hd)]
   refine IfB.dc (fun h4 => ?_) (fun h4 => ?_)
   ·rw [if_pos (by omega)]
   ·rw [if_neg (by omega), ho (by omega)]
def ltab : List UInt8 := len8L
set_option maxRecDepth 20000 in
theorem ltab_all : ∀ i : Fin 256, i.val ≠ 0 → ∃ c, ltab[i.val]? = some c ∧ 0 < c.toNat ∧ c.toNat ≤ 8 := by
 have h : (List.range 256).all (fun i => i == 0 || (match ltab[i]? with | some c => Nat.blt 0 c.toNat && Nat.ble c.toNat 8 | none => false)) = true := by decide
 intro i hi
 have := List.all_eq_true.1 h i.val (List.mem_range.2 i.isLt)
 simp only [Bool.or_eq_true, beq_iff_eq] at this
 rcases this with h | h
 ·exact absurd h hi
 ·split at h
  ·rename_i c hc
   simp only [Bool.and_eq_true, Nat.blt_eq, Nat.ble_eq] at h
   exact ⟨c, hc, h.1, h.2⟩
  ·cases h
theorem ltab_idx {n : Nat} (h : n < 256) (h0 : n ≠ 0) : ∃ c, Idx ltab (IntKind.u8.wrap (n : Int)) c ∧ 0 < c.toNat ∧ c.toNat ≤ 8 := by
 obtain ⟨c, hc, h1, h2⟩ := ltab_all ⟨n, h⟩ h0
 exact ⟨c, ⟨by rw [wrapu8 (by omega) (by omega)]; omega, by rw [wrapu8 (by omega) (by omega)]; exact hc⟩, h1, h2⟩
theorem fdivN (a b : Nat) (h : 0 < b) : Int.fdiv (a : Int) (b : Int) = ((a / b : Nat) : Int) := by rw [Int.fdiv_eq_ediv_of_nonneg _ (by omega)]; rfl
theorem p16 : (2 : Int) ^ (min (Int.toNat (16 : Int)) (IntKind.bits .u32)) = ((65536 : Nat) : Int) := by decide
theorem p8 : (2 : Int) ^ (min (Int.toNat (8 : Int)) (IntKind.bits .u32)) = ((256 : Nat) : Int) := by decide
theorem Len32_says (n : Nat) (h : n < 4294967296) (h0 : n ≠ 0) : ∃ r : Nat, 0 < r ∧ r ≤ 32 ∧ math_bits_Len32 (n : Int) (r : Int) := by
 unfold math_bits_Len32
 rw [p16, p8]
 have w64 : ∀ (k : Nat) (c : UInt8), k ≤ 24 → c.toNat ≤ 8 → IntKind.i64.wrap ((k : Int) + (IntKind.i64.wrap ((c.toNat : Nat) : Int))) = ((k + c.toNat : Nat) : Int) := fun k c hk hc => by
  rw [wrap64' (n := ((c.toNat : Nat) : Int)) (by omega) (by omega), wrap64' (by omega) (by omega)]; omega
 rw [fdivN _ _ (by omega), fdivN _ _ (by omega), fdivN _ _ (by omega)]
 by_cases h1 : 65536 ≤ n
 ·by_cases h2 : 256 ≤ n / 65536
  ·obtain ⟨c, hc, hp, h8⟩ := ltab_idx (n := n / 65536 / 256) (by omega) (by omega)
   exact ⟨24 + c.toNat, by omega, by omega, IfB.dc (fun _ => IfB.dc (fun _ => ⟨c, hc, (w64 24 c (by omega) h8).symm⟩) (fun h => absurd (by omega) h)) (fun h => absurd (by omega) h)⟩
  ·obtain ⟨c, hc, hp, h8⟩ := ltab_idx (n := n / 65536) (by omega) (by omega)
   exact ⟨16 + c.toNat, by omega, by omega, IfB.dc (fun _ => IfB.dc (fun h => absurd h (by omega)) (fun _ => ⟨c, hc, (w64 16 c (by omega) h8).symm⟩)) (fun h => absurd (by omega) h)⟩
 ·by_cases h2 : 256 ≤ n
  ·obtain ⟨c, hc, hp, h8⟩ := ltab_idx (n := n / 256) (by omega) (by omega)
   exact ⟨8 + c.toNat, by omega, by omega, IfB.dc (fun h => absurd h (by omega)) (fun _ => IfB.dc (fun _ => ⟨c, hc, (w64 8 c (by omega) h8).symm⟩) (fun h => absurd (by omega) h))⟩
  ·obtain ⟨c, hc, hp, h8⟩ := ltab_idx (n := n) (by omega) (by omega)
   exact ⟨0 + c.toNat, by omega, by omega, IfB.dc (fun h => absurd h (by omega)) (fun _ => IfB.dc (fun h => absurd h (by omega)) (fun _ => ⟨c, hc, (w64 0 c (by omega) h8).symm⟩))⟩
theorem nat_Bits_pos (a : List Int) (ha : WS a) (hl : a.length ≤ 10000000) (h0 : val a ≠ 0) : ∃ r : Int, r ≠ 0 ∧ nat_Bits a r := by
 unfold nat_Bits
 obtain ⟨W, hWe⟩ : ∃ W, W = words (val a) := ⟨_, rfl⟩
 have hw : W.length ≤ a.length := hWe ▸ wl ha
 have hp : 0 < W.length := hWe ▸ words_len_pos.2 h0
 have hws : WS W := hWe ▸ WS_words (val a)
 have hb := WS_get hws (i := W.length - 1) (by omega)
 have hlast : W[W.length - 1] ≠ 0 := by
  have h := words_Cn (val a)
  rw [← hWe] at h
  have := h (List.length_pos_iff.1 hp)
  rw [List.getLast_eq_getElem] at this
  exact this
 have hc : nat_trim a W := hWe ▸ nat_trim_says a ha (by omega)
 obtain ⟨r, hr0, hr, hs⟩ := Len32_says (W[W.length - 1].toNat) (by omega) (by omega)
 rw [Int.toNat_of_nonneg hb.1] at hs
 have e1 : IntKind.i64.wrap ((W.length : Int) - 1) = ((W.length - 1 : Nat) : Int) := by rw [wrap64' (by omega) (by omega)]; omega
 refine ⟨_, ?_, W, hc, IfB.eqI (fun h => by omega) (fun _ => ⟨_, by rw [e1]; exact Idx.nat (by omega), _, hs, rfl⟩)⟩
 rw [e1, wrap64' (n := 32 * _) (by omega) (by omega), wrap64' (by omega) (by omega)]
 omega
theorem shift0 (a : List Int) (ha : WS a) (hl : a.length ≤ 10000000) : nat_Shift a (0 : Int) (words (val a)) := by
 have := nat_Shift_says a 0 ha hl (by omega)
 simpa using this
theorem whole_Make_says (p : Bool) (a : List Int) (ha : WS a) (hl : a.length ≤ 10000000) : whole_Make p a (p && decide (val a ≠ 0), words (val a)) := by
 unfold whole_Make
 cases p with
 | false => exact IfB_false.2 ⟨_, shift0 a ha hl, rfl⟩
 | true =>
  refine IfB_true.2 ⟨_, shift0 a ha hl, IfB.dc (fun h => ?_) (fun h => ?_)⟩
  ·have : val a ≠ 0 := words_len_pos.1 (by omega)
   simp [this]
  ·have : val a = 0 := by
    rcases Nat.eq_zero_or_pos (val a) with h' | h'
    ·exact h'
    ·have := words_len_pos.2 (show val a ≠ 0 from by omega); omega
   simp [this]
def sgn (p : Bool) (n : Nat) : Int := if n = 0 then 0 else if p then -1 else 1
theorem whole_Sign_says (p : Bool) (a : List Int) (ha : WS a) (hl : a.length ≤ 10000000) : whole_Sign p a (sgn p (val a)) := by
 unfold whole_Sign
 refine ⟨_, _, whole_Make_says p a ha hl, ?_⟩
 unfold sgn
 by_cases h0 : val a = 0
 ·rw [h0, words_zero]
  simp
 ·have hp := words_len_pos.2 h0
  have hn : ¬ (((words (val a)).length : Int) = 0) := by omega
  have hne := List.length_pos_iff.1 hp
  cases p <;> simp [h0, hn, hne, IfB]
def wholeR (s : By) : Bool × List Int × Int :=
 if (parseR (Lib.trimPrefix s [45])).2 ≠ 0 then (false, [], (parseR (Lib.trimPrefix s [45])).2)
 else (Lib.hasPrefix s [45] && decide (val (parseR (Lib.trimPrefix s [45])).1 ≠ 0), (parseR (Lib.trimPrefix s [45])).1, 0)
theorem parseR_WS (s : By) : WS (parseR s).1 := by
 unfold parseR; split
 ·exact WS_nil
 ·split
  ·exact WS_nil
  ·exact WS_words _
theorem parseR_len (s : By) : (parseR s).1.length ≤ 400 := by
 unfold parseR; split
 ·simp
 ·rename_i h
  split
  ·simp
  ·have := pow10_words s.length (dV_lt s (Decidable.byContradiction fun h' => h (.inr h')))
   dsimp only; omega
theorem parseR_words (s : By) : words (val (parseR s).1) = (parseR s).1 := by
 unfold parseR; split
 ·rw [val_nil, words_zero]
 ·split
  ·rw [val_nil, words_zero]
  ·rw [val_words]
theorem trimP_len (s : By) : (Lib.trimPrefix s [45]).length ≤ s.length := by unfold Lib.trimPrefix; split <;> simp
theorem whole_Parse_says (s : By) (hl : s.length ≤ 1000000) : whole_Parse s (wholeR s) := by
 unfold whole_Parse wholeR
 refine ⟨_, _, rfl, ?_⟩
 have hp := nat_Parse_says (Lib.trimPrefix s [45]) (by have := trimP_len s; omega)
 have hw := parseR_WS (Lib.trimPrefix s [45])
 have hn := parseR_len (Lib.trimPrefix s [45])
 have hc := parseR_words (Lib.trimPrefix s [45])
 have hm := fun p => whole_Make_says p _ hw (by omega)
 rw [hc] at hm
 generalize parseR (Lib.trimPrefix s [45]) = R at *
 obtain ⟨w, e⟩ := R
 dsimp only at *
 refine IfB.intro (fun h => ⟨_, _, hp, IfB.neI (fun he => by rw [if_pos he]) (fun he => ⟨_, _, hm true, ?_⟩)⟩) (fun h => ⟨_, _, hp, IfB.neI (fun he => by rw [if_pos he]) (fun he => ⟨_, _, hm false, ?_⟩)⟩)
 ·rw [if_neg (by omega), h]
 ·rw [if_neg (by omega), h]
def ratC (p : Bool) (n d : Nat) : Bool × List Int × List Int := (p && decide (n / Nat.gcd n d ≠ 0), words (n / Nat.gcd n d), words (d / Nat.gcd n d))
def den1 (d : Nat) : Nat := if d = 0 then 1 else d
theorem rat_den_says (p : Bool) (a b : List Int) (hb : WS b) (hl : b.length ≤ 10000000) : ∃ x, rat_den p a b x ∧ val x = den1 (val b) ∧ WS x ∧ x.length ≤ b.length + 1 := by
 unfold rat_den den1
 by_cases h0 : val b = 0
 ·refine ⟨words 1, ⟨0, ?_, IfB_true.2 ⟨_, nat_Of_says 1 (by omega), rfl⟩⟩, by rw [val_words, if_pos h0], WS_words 1, ?_⟩
  ·unfold nat_Bits
   have := nat_trim_says b hb (by omega)
   rw [h0, words_zero] at this
   exact ⟨_, this, IfB_true.2 rfl⟩
  ·rw [words_one (by omega) (by omega)]; simp
 ·obtain ⟨r, hr, hs⟩ := nat_Bits_pos b hb hl h0
  exact ⟨b, ⟨r, hs, IfB.eqI (fun h => absurd h hr) (fun _ => rfl)⟩, by rw [if_neg h0], hb, by omega⟩
theorem rat_Make_says (p : Bool) (a b : List Int) (ha : WS a) (hb : WS b) (hla : a.length ≤ 7000000) (hlb : b.length ≤ 7000000) : rat_Make p a b (ratC p (val a) (den1 (val b))) := by
 unfold rat_Make
 obtain ⟨x, hx, vx, wx, lx⟩ := rat_den_says false [] b hb (by omega)
 have hd0 : 0 < den1 (val b) := by unfold den1; split <;> omega
 rw [← vx] at hd0 ⊢
 have hg := nat_Gcd_says a x ha wx (by omega) (by omega)
 have hg0 : 0 < Nat.gcd (val a) (val x) := Nat.gcd_pos_of_pos_right _ hd0
 have hgl : (words (Nat.gcd (val a) (val x))).length ≤ x.length := by
  have := words_len_le (Nat.gcd_le_right (val a) hd0)
  have := wl wx
  omega
 have h1 := nat_DivMod_says a (words (Nat.gcd (val a) (val x))) ha (WS_words _) (by omega) (by omega)
 have h2 := nat_DivMod_says x (words (Nat.gcd (val a) (val x))) wx (WS_words _) (by omega) (by omega)
 rw [val_words, if_neg (by omega)] at h1 h2
 have hl1 : (words (val a / Nat.gcd (val a) (val x))).length ≤ a.length := Nat.le_trans (words_len_le (Nat.div_le_self _ _)) (wl ha)
 have hm := whole_Make_says p (words (val a / Nat.gcd (val a) (val x))) (WS_words _) (by omega)
 rw [val_words] at hm
 exact ⟨x, hx, _, hg, _, _, _, h1, _, _, _, h2, _, _, hm, rfl⟩
def ratR (s : By) : Bool × List Int × List Int × Int :=
 let a := (Lib.cut s [47]).1
 let b := if (Lib.cut s [47]).2.2 then (Lib.cut s [47]).2.1 else [49]
 if (wholeR a).2.2 ≠ 0 then (false, [], [], (wholeR a).2.2)
 else if (parseR b).2 ≠ 0 then (false, [], [], (parseR b).2)
 else if val (parseR b).1 = 0 then (false, [], [], 5)
 else let r := ratC (wholeR a).1 (val (wholeR a).2.1) (val (parseR b).1); (r.1, r.2.1, r.2.2, 0)
theorem cut_len1 (s : By) (c : UInt8) : (Lib.cut s [c]).1.length ≤ s.length := by
 unfold Lib.cut; split
 ·simp only [List.length_take]; omega
 ·simp
theorem cut_len2 (s : By) (c : UInt8) : (Lib.cut s [c]).2.1.length ≤ s.length := by unfold Lib.cut; split <;> simp
theorem wholeR_WS (s : By) : WS (wholeR s).2.1 := by
 unfold wholeR; split
 ·exact WS_nil
 ·exact parseR_WS _
theorem wholeR_len (s : By) : (wholeR s).2.1.length ≤ 400 := by
 unfold wholeR; split
 ·simp
 ·exact parseR_len _
theorem rat_Parse_says (s : By) (hl : s.length ≤ 1000000) : rat_Parse s (ratR s) := by
 unfold rat_Parse
 have hcut : strings_Cut s [47] (Lib.cut s [47]) := ⟨by unfold Short; omega, 47, rfl, rfl⟩
 have l1 := cut_len1 s 47
 have l2 := cut_len2 s 47
 have hrat : ratR s = (let a := (Lib.cut s [47]).1
  let b := if (Lib.cut s [47]).2.2 then (Lib.cut s [47]).2.1 else [49]
  if (wholeR a).2.2 ≠ 0 then (false, [], [], (wholeR a).2.2)
  else if (parseR b).2 ≠ 0 then (false, [], [], (parseR b).2)
  else if val (parseR b).1 = 0 then (false, [], [], 5)
  else let r := ratC (wholeR a).1 (val (wholeR a).2.1) (val (parseR b).1); (r.1, r.2.1, r.2.2, 0)) := rfl
 generalize ratR s = R at *
 generalize Lib.cut s [47] = C at *
 obtain ⟨a, b0, f⟩ := C
 dsimp only at *
 have hW := whole_Parse_says a (by omega)
 have ww := wholeR_WS a
 have wl := wholeR_len a
 generalize wholeR a = WR at *
 obtain ⟨p, n, e⟩ := WR
 dsimp only at *
 have body : ∀ b : By, b.length ≤ 1000000 → b = (if f then b0 else [49]) → ∃ (x5 : Bool) (x6 : List Int) (x7 : Int), whole_Parse a (x5, x6, x7) ∧
  IfB (x7 != (0 : Int))
   (R = (false, ([] : List Int), ([] : List Int), x7))
   (∃ (x9 : List Int) (x10 : Int), nat_Parse b (x9, x10) ∧
   IfB (x10 != (0 : Int))
    (R = (false, ([] : List Int), ([] : List Int), x10))
    (∃ (x12 : Int), nat_Bits x9 x12 ∧
    IfB (x12 == (0 : Int))
     (R = (false, ([] : List Int), ([] : List Int), 5))
     (∃ (x14 : Bool) (x15 : List Int) (x16 : List Int), rat_Make x5 x6 x9 (x14, x15, x16) ∧
     R = (x14, x15, x16, 0)))) := fun b hb eb => by
  rw [← eb] at hrat
  have hP := nat_Parse_says b hb
  have pw := parseR_WS b
  have pl := parseR_len b
  generalize parseR b = PR at *
  obtain ⟨d, e2⟩ := PR
  dsimp only at *
  refine ⟨_, _, _, hW, IfB.neI (fun h => ?_) (fun h => ⟨_, _, hP, IfB.neI (fun h2 => ?_) (fun h2 => ?_)⟩)⟩
  ·rw [hrat, if_pos h]
  ·rw [hrat, if_neg (by omega), if_pos h2]
  ·rw [if_neg (by omega), if_neg (by omega)] at hrat
   by_cases h0 : val d = 0
   ·rw [if_pos h0] at hrat
    refine ⟨0, ?_, IfB_true.2 hrat⟩
    unfold nat_Bits
    have := nat_trim_says d pw (by omega)
    rw [h0, words_zero] at this
    refine ⟨_, this, ?_⟩
    exact IfB_true.2 rfl
   ·rw [if_neg h0] at hrat
    obtain ⟨r, hr0, hrs⟩ := nat_Bits_pos d pw (by omega) h0
    have hm := rat_Make_says p n d ww pw (by omega) (by omega)
    rw [show den1 (val d) = val d from by unfold den1; rw [if_neg h0]] at hm
    exact ⟨r, hrs, IfB.eqI (fun h => absurd h hr0) (fun _ => ⟨_, _, _, hm, hrat⟩)⟩
 refine ⟨_, _, _, hcut, IfB.intro (fun h => body _ (by omega) (by rw [h]; rfl)) (fun h => body [49] (by simp) (by rw [h]; rfl))⟩
theorem rat_Int0 : rat_Int 0 (false, [], words 1) := by
 unfold rat_Int whole_Of
 refine ⟨false, [], IfB_false.2 ⟨[], ?_, false, [], ?_, rfl⟩, words 1, nat_Of_says 1 (by omega), false, [], words 1, ?_, rfl⟩
 ·have := nat_Of_says 0 (by omega)
  rw [words_zero] at this
  exact this
 ·have := whole_Make_says false [] WS_nil (by simp)
  rw [val_nil, words_zero] at this
  exact this
 ·have := rat_Make_says false [] (words 1) WS_nil (WS_words 1) (by simp) (by rw [words_one (by omega) (by omega)]; simp)
  rw [val_nil, val_words] at this
  have e : ratC false 0 (den1 1) = (false, [], words 1) := by unfold ratC den1; simp [words_zero]
  rwa [e] at this
end Go.Abs
end

section
namespace Go.Abs
open Go
def iV (p : Bool) (n : Nat) : Int := if p then -(n : Int) else n
def wholeC (z : Int) : Bool × List Int := (decide (z < 0), words z.natAbs)
theorem iV_abs (p : Bool) (n : Nat) : (iV p n).natAbs = n := by unfold iV; cases p <;> simp
theorem wholeC_iV (p : Bool) (n : Nat) : (p && decide (n ≠ 0), words n) = wholeC (iV p n) := by
 unfold wholeC
 rw [iV_abs]
 unfold iV
 cases p
 ·simp <;> omega
 ·by_cases h : n = 0
  ·subst h; simp
  ·simp [h] <;> omega
theorem whole_Make_z (p : Bool) (a : List Int) (ha : WS a) (hl : a.length ≤ 10000000) : whole_Make p a (wholeC (iV p (val a))) := by
 rw [← wholeC_iV]; exact whole_Make_says p a ha hl
theorem sgn_iV (p : Bool) (n : Nat) : (sgn p n < 0 ↔ iV p n < 0) ∧ (sgn p n = 0 ↔ iV p n = 0) ∧ (sgn p n = -1 ∨ sgn p n = 0 ∨ sgn p n = 1) ∧ (0 < sgn p n ↔ 0 < iV p n) := by
 unfold sgn iV
 by_cases h : n = 0
 ·subst h; cases p <;> simp
 ·cases p <;> simp [h] <;> omega
theorem words_add_len {a b : List Int} (ha : WS a) (hb : WS b) : (words (val a + val b)).length ≤ a.length + b.length + 1 := by
 refine words_len _ _ ?_
 have h1 := val_lt ha
 have h2 := val_lt hb
 have h3 : 4294967296 ^ a.length ≤ 4294967296 ^ (a.length + b.length) := Nat.pow_le_pow_right (by omega) (by omega)
 have h4 : 4294967296 ^ b.length ≤ 4294967296 ^ (a.length + b.length) := Nat.pow_le_pow_right (by omega) (by omega)
 rw [Nat.pow_succ]
 omega
theorem words_mul_len {a b : List Int} (ha : WS a) (hb : WS b) : (words (val a * val b)).length ≤ a.length + b.length := by
 refine words_len _ _ ?_
 have h1 := val_lt ha
 have h2 := val_lt hb
 rw [Nat.pow_add]
 exact Nat.lt_of_le_of_lt (Nat.mul_le_mul_left _ (Nat.le_of_lt h2)) (Nat.mul_lt_mul_of_pos_right h1 (Nat.pow_pos (by omega)))
theorem whole_Add_says (p : Bool) (a : List Int) (q : Bool) (b : List Int) (ha : WS a) (hb : WS b) (hla : a.length ≤ 4000000) (hlb : b.length ≤ 4000000) : whole_Add p a q b (wholeC (iV p (val a) + iV q (val b))) := by
 unfold whole_Add
 have s1 := whole_Sign_says p a ha (by omega)
 have s2 := whole_Sign_says q b hb (by omega)
 have f1 := sgn_iV p (val a)
 have f2 := sgn_iV q (val b)
 have hadd := nat_Add_says a b ha hb (by omega) (by omega)
 have hsab := nat_Sub_says a b ha hb (by omega) (by omega)
 have hsba := nat_Sub_says b a hb ha (by omega) (by omega)
 have la := words_add_len ha hb
 have wla := wl ha
 have wlb := wl hb
 have mk : ∀ (r : Bool) (n : Nat) (z : Int), (words n).length ≤ 10000000 → iV r n = z → ∃ x y, whole_Make r (words n) (x, y) ∧ wholeC z = (x, y) := fun r n z hl hz => by
  have := whole_Make_z r (words n) (WS_words n) hl
  rw [val_words, hz] at this
  exact ⟨_, _, this, rfl⟩
 have ea : iV p (val a) = if p then -(val a : Int) else val a := rfl
 have eb : iV q (val b) = if q then -(val b : Int) else val b := rfl
 have subs : ∀ z : Int, (sgn p (val a) < 0 ↔ ¬ sgn q (val b) < 0) → z = iV p (val a) + iV q (val b) → ∃ (x17 : List Int) (x18 : Bool), nat_Sub a b (x17, x18) ∧
   IfB x18
    (∃ (x20 : Int), whole_Sign p a x20 ∧
    IfB (decide (x20 < (0 : Int)))
     (∃ (x22 : Bool) (x23 : List Int), whole_Make true x17 (x22, x23) ∧
     wholeC z = (x22, x23))
     (∃ (x25 : Bool) (x26 : List Int), whole_Make false x17 (x25, x26) ∧
     wholeC z = (x25, x26)))
    (∃ (x28 : List Int) (x29 : Bool), nat_Sub b a (x28, x29) ∧
    IfB x29
     (∃ (x31 : Int), whole_Sign q b x31 ∧
     IfB (decide (x31 < (0 : Int)))
      (∃ (x33 : Bool) (x34 : List Int), whole_Make true x28 (x33, x34) ∧
      wholeC z = (x33, x34))
      (∃ (x36 : Bool) (x37 : List Int), whole_Make false x28 (x36, x37) ∧
      wholeC z = (x36, x37)))
     (∃ (x39 : Int), whole_Sign q b x39 ∧
     IfB (decide (x39 < (0 : Int)))
      (∃ (x41 : Bool) (x42 : List Int), whole_Make true x28 (x41, x42) ∧
      wholeC z = (x41, x42))
      (∃ (x44 : Bool) (x45 : List Int), whole_Make false x28 (x44, x45) ∧
      wholeC z = (x44, x45)))) := fun z hs hz => by
  by_cases hlt : val a < val b
  ·rw [if_pos hlt] at hsab
   rw [if_neg (by omega)] at hsba
   have l1 : (words (val b - val a)).length ≤ 10000000 := by have := words_len_le (show val b - val a ≤ val b from by omega); omega
   refine ⟨_, _, hsab, IfB_false.2 ⟨_, _, hsba, IfB_true.2 ⟨_, s2, IfB.dc (fun n => mk true _ z l1 ?_) (fun n => mk false _ z l1 ?_)⟩⟩⟩
   ·rw [hz]
    have h1 : ¬ sgn p (val a) < 0 := fun h => hs.1 h n
    rw [f1.1] at h1; rw [f2.1] at n
    unfold iV at *
    cases p <;> cases q <;> simp at * <;> omega
   ·rw [hz]
    have h1 : sgn p (val a) < 0 := hs.2 n
    rw [f1.1] at h1; rw [f2.1] at n
    unfold iV at *
    cases p <;> cases q <;> simp at * <;> omega
  ·rw [if_neg hlt] at hsab
   have l1 : (words (val a - val b)).length ≤ 10000000 := by have := words_len_le (show val a - val b ≤ val a from by omega); omega
   refine ⟨_, _, hsab, IfB_true.2 ⟨_, s1, IfB.dc (fun n => mk true _ z l1 ?_) (fun n => mk false _ z l1 ?_)⟩⟩
   ·rw [hz]
    have h1 := hs.1 n
    rw [f1.1] at n; rw [f2.1] at h1
    unfold iV at *
    cases p <;> cases q <;> simp at * <;> omega
   ·rw [hz]
    have h1 : sgn q (val b) < 0 := Decidable.byContradiction fun h => n (hs.2 h)
    rw [f1.1] at n; rw [f2.1] at h1
    unfold iV at *
    cases p <;> cases q <;> simp at * <;> omega
 refine ⟨_, s1, IfB.dc (fun n1 => ⟨_, s2, IfB.dc (fun n2 => ⟨_, s1, IfB.dc (fun _ => ⟨_, hadd, mk true _ _ (by omega) ?_⟩) (fun h => absurd n1 h)⟩) (fun n2 => subs _ ⟨fun _ => n2, fun _ => n1⟩ rfl)⟩) (fun n1 => ⟨_, s2, IfB.dc (fun n2 => subs _ ⟨fun h => absurd h n1, fun h => absurd n2 h⟩ rfl) (fun n2 => ⟨_, s1, IfB.dc (fun h => absurd h n1) (fun _ => ⟨_, hadd, mk false _ _ (by omega) ?_⟩)⟩)⟩)⟩
 ·rw [f1.1] at n1; rw [f2.1] at n2
  unfold iV at *
  cases p <;> cases q <;> simp at * <;> omega
 ·rw [f1.1] at n1; rw [f2.1] at n2
  unfold iV at *
  cases p <;> cases q <;> simp at * <;> omega
theorem whole_Mul_says (p : Bool) (a : List Int) (q : Bool) (b : List Int) (ha : WS a) (hb : WS b) (hla : a.length ≤ 4000000) (hlb : b.length ≤ 4000000) : whole_Mul p a q b (wholeC (iV p (val a) * iV q (val b))) := by
 unfold whole_Mul
 have s1 := whole_Sign_says p a ha (by omega)
 have s2 := whole_Sign_says q b hb (by omega)
 have hmul := nat_Mul_says a b ha hb (by omega) (by omega)
 have lm := words_mul_len ha hb
 have mk : ∀ (r : Bool) (n : Nat) (z : Int), (words n).length ≤ 10000000 → iV r n = z → ∃ x y, whole_Make r (words n) (x, y) ∧ wholeC z = (x, y) := fun r n z hl hz => by
  have := whole_Make_z r (words n) (WS_words n) hl
  rw [val_words, hz] at this
  exact ⟨_, _, this, rfl⟩
 have hz : ∀ x y : Nat, ((x * y : Nat) : Int) = (x : Int) * (y : Int) := fun x y => Int.natCast_mul x y
 refine ⟨_, s1, _, s2, IfB.dc (fun n => ⟨_, hmul, mk true _ _ (by omega) ?_⟩) (fun n => ⟨_, hmul, mk false _ _ (by omega) ?_⟩)⟩
 ·unfold sgn at n
  unfold iV
  rw [hz]
  by_cases h1 : val a = 0
  ·simp [h1] at n
   exact absurd n (by decide)
  ·by_cases h2 : val b = 0
   ·simp [h1, h2] at n
    exact absurd n (by decide)
   ·cases p <;> cases q <;> simp [h1, h2] at n ⊢ <;> first | exact absurd n (by decide) | grind
 ·unfold sgn at n
  unfold iV
  rw [hz]
  by_cases h1 : val a = 0
  ·simp [h1]
  ·by_cases h2 : val b = 0
   ·simp [h1, h2]
   ·cases p <;> cases q <;> simp [h1, h2] at n ⊢ <;> first | exact absurd n (by decide) | grind
def cmpZ (a b : Int) : Int := if a < b then -1 else if b < a then 1 else 0
theorem whole_Compare_says (p : Bool) (a : List Int) (q : Bool) (b : List Int) (ha : WS a) (hb : WS b) (hla : a.length ≤ 9000000) (hlb : b.length ≤ 9000000) : whole_Compare p a q b (cmpZ (iV p (val a)) (iV q (val b))) := by
 unfold whole_Compare
 have s1 := whole_Sign_says p a ha (by omega)
 have s2 := whole_Sign_says q b hb (by omega)
 obtain ⟨f1, f2, f3, f4⟩ := sgn_iV p (val a)
 obtain ⟨g1, g2, g3, g4⟩ := sgn_iV q (val b)
 have cab := nat_Compare_says a b ha hb (by omega) (by omega)
 have cba := nat_Compare_says b a hb ha (by omega) (by omega)
 refine ⟨_, s1, _, s2, IfB.neI (fun h => ?_) (fun h => IfB.dc (fun n => ⟨_, cba, ?_⟩) (fun n => ⟨_, cab, ?_⟩))⟩
 ·rw [wrap64' (by omega) (by omega)]
  unfold cmpZ
  split <;> split <;> (try split) <;> omega
 ·have n2 : sgn q (val b) < 0 := by omega
  rw [f1] at n; rw [g1] at n2
  unfold cmpZ cmpN
  unfold iV at *
  cases p <;> cases q <;> simp at n n2 ⊢ <;> (try omega)
  all_goals (repeat' split) <;> omega
 ·have n1 : ¬ iV p (val a) < 0 := fun h' => n (f1.2 h')
  have n2 : ¬ iV q (val b) < 0 := fun h' => n (by have := g1.2 h'; omega)
  unfold cmpZ cmpN
  have a1 : iV p (val a) = val a := by
   have := iV_abs p (val a); omega
  have a2 : iV q (val b) = val b := by
   have := iV_abs q (val b); omega
  rw [a1, a2]
  split <;> split <;> (try split) <;> (try split) <;> omega
def ratQ (z : Int) (d : Nat) : Bool × List Int × List Int := (decide (z < 0), words (z.natAbs / Nat.gcd z.natAbs d), words (d / Nat.gcd z.natAbs d))
theorem ratC_Q (z : Int) (d : Nat) (hd : 0 < d) : ratC (decide (z < 0)) z.natAbs d = ratQ z d := by
 unfold ratC ratQ
 by_cases h : z < 0
 ·have : z.natAbs / Nat.gcd z.natAbs d ≠ 0 := by
   have h1 := Nat.div_pos (Nat.gcd_le_left d (show 0 < z.natAbs from by omega)) (Nat.gcd_pos_of_pos_right z.natAbs hd)
   omega
  simp [h, this]
 ·simp [h]
theorem den1_pos (d : Nat) : 0 < den1 d := by unfold den1; split <;> omega
theorem rat_over_says (p : Bool) (n d : List Int) (p' : Bool) (n' d' : List Int) (hn : WS n) (hd' : WS d') (ln : n.length ≤ 2000000) (ld' : d'.length ≤ 2000000) : rat_over p n d p' n' d' (wholeC (iV p (val n) * (den1 (val d') : Int))) := by
 unfold rat_over
 obtain ⟨x, hx, vx, wx, lx⟩ := rat_den_says p' n' d' hd' (by omega)
 have hm := whole_Make_z false x wx (by omega)
 have hmul := whole_Mul_says p n (wholeC (iV false (val x))).1 (wholeC (iV false (val x))).2 hn (WS_words _) (by omega) (by
  unfold wholeC; dsimp only; rw [iV_abs]; have := wl wx; omega)
 have e : iV (wholeC (iV false (val x))).1 (val (wholeC (iV false (val x))).2) = (den1 (val d') : Int) := by
  unfold wholeC
  dsimp only
  rw [val_words, iV_abs, ← vx]
  unfold iV; simp; omega
 rw [e] at hmul
 exact ⟨x, hx, _, _, hm, _, _, hmul, rfl⟩
theorem wholeC_WS (z : Int) : WS (wholeC z).2 := WS_words _
theorem wholeC_val (z : Int) : iV (wholeC z).1 (val (wholeC z).2) = z := by
 unfold wholeC iV
 dsimp only
 rw [val_words]
 by_cases h : z < 0 <;> simp [h] <;> omega
theorem over_len (p : Bool) {n d : List Int} (hn : WS n) (hd : WS d) : (wholeC (iV p (val n) * (den1 (val d) : Int))).2.length ≤ n.length + (d.length + 1) := by
 unfold wholeC
 dsimp only
 rw [Int.natAbs_mul, iV_abs, Int.natAbs_natCast]
 refine words_len _ _ ?_
 have h1 := val_lt hn
 have h2 : den1 (val d) < 4294967296 ^ (d.length + 1) := by
  have := val_lt hd
  rw [Nat.pow_succ]
  unfold den1; split
  ·have := Nat.pow_pos (n := d.length) (show 0 < 4294967296 from by omega); omega
  ·omega
 rw [Nat.pow_add]
 exact Nat.lt_of_le_of_lt (Nat.mul_le_mul_left _ (Nat.le_of_lt h2)) (Nat.mul_lt_mul_of_pos_right h1 (Nat.pow_pos (by omega)))
theorem rat_Compare_says (p : Bool) (n d : List Int) (p' : Bool) (n' d' : List Int) (hn : WS n) (hd : WS d) (hn' : WS n') (hd' : WS d') (ln : n.length ≤ 2000000) (ld : d.length ≤ 2000000) (ln' : n'.length ≤ 2000000) (ld' : d'.length ≤ 2000000) :
  rat_Compare p n d p' n' d' (cmpZ (iV p (val n) * (den1 (val d') : Int)) (iV p' (val n') * (den1 (val d) : Int))) := by
 unfold rat_Compare
 have o1 := rat_over_says p n d p' n' d' hn hd' ln ld'
 have o2 := rat_over_says p' n' d' p n d hn' hd ln' ld
 have l1 := over_len p hn hd'
 have l2 := over_len p' hn' hd
 have hc := whole_Compare_says (wholeC (iV p (val n) * (den1 (val d') : Int))).1 (wholeC (iV p (val n) * (den1 (val d') : Int))).2 (wholeC (iV p' (val n') * (den1 (val d) : Int))).1 (wholeC (iV p' (val n') * (den1 (val d) : Int))).2 (wholeC_WS _) (wholeC_WS _) (by omega) (by omega)
 rw [wholeC_val, wholeC_val] at hc
 exact ⟨_, _, o1, _, _, o2, _, hc, rfl⟩
theorem rat_Make_z (z : Int) (x : List Int) (d : Nat) (hx : WS x) (hv : val x = d) (hd : 0 < d) (l1 : (wholeC z).2.length ≤ 7000000) (l2 : x.length ≤ 7000000) : rat_Make (wholeC z).1 (wholeC z).2 x (ratQ z d) := by
 have := rat_Make_says (wholeC z).1 (wholeC z).2 x (wholeC_WS z) hx l1 l2
 rw [show val (wholeC z).2 = z.natAbs from val_words _, hv, show den1 d = d from by unfold den1; rw [if_neg (by omega)], show (wholeC z).1 = decide (z < 0) from rfl, ratC_Q z d hd] at this
 exact this
theorem rat_Add_says (p : Bool) (n d : List Int) (p' : Bool) (n' d' : List Int) (hn : WS n) (hd : WS d) (hn' : WS n') (hd' : WS d') (ln : n.length ≤ 1000000) (ld : d.length ≤ 1000000) (ln' : n'.length ≤ 1000000) (ld' : d'.length ≤ 1000000) :
  rat_Add p n d p' n' d' (ratQ (iV p (val n) * (den1 (val d') : Int) + iV p' (val n') * (den1 (val d) : Int)) (den1 (val d) * den1 (val d'))) := by
 unfold rat_Add
 have o1 := rat_over_says p n d p' n' d' hn hd' (by omega) (by omega)
 have o2 := rat_over_says p' n' d' p n d hn' hd (by omega) (by omega)
 have l1 := over_len p hn hd'
 have l2 := over_len p' hn' hd
 have ha := whole_Add_says (wholeC (iV p (val n) * (den1 (val d') : Int))).1 (wholeC (iV p (val n) * (den1 (val d') : Int))).2 (wholeC (iV p' (val n') * (den1 (val d) : Int))).1 (wholeC (iV p' (val n') * (den1 (val d) : Int))).2 (wholeC_WS _) (wholeC_WS _) (by omega) (by omega)
 rw [wholeC_val, wholeC_val] at ha
 obtain ⟨x, hx, vx, wx, lx⟩ := rat_den_says p n d hd (by omega)
 obtain ⟨y, hy, vy, wy, ly⟩ := rat_den_says p' n' d' hd' (by omega)
 have hm := nat_Mul_says x y wx wy (by omega) (by omega)
 have lm := words_mul_len wx wy
 rw [vx, vy] at hm lm
 have hz : (wholeC (iV p (val n) * (den1 (val d') : Int) + iV p' (val n') * (den1 (val d) : Int))).2.length ≤ 7000000 := by
  have h1 := words_add_len (wholeC_WS (iV p (val n) * (den1 (val d') : Int))) (wholeC_WS (iV p' (val n') * (den1 (val d) : Int)))
  have h2 : (wholeC (iV p (val n) * (den1 (val d') : Int) + iV p' (val n') * (den1 (val d) : Int))).2.length ≤ (words (val (wholeC (iV p (val n) * (den1 (val d') : Int))).2 + val (wholeC (iV p' (val n') * (den1 (val d) : Int))).2)).length := by
   unfold wholeC
   dsimp only
   rw [val_words, val_words]
   exact words_len_le (Int.natAbs_add_le _ _)
  omega
 have hmk := rat_Make_z _ (words (den1 (val d) * den1 (val d'))) (den1 (val d) * den1 (val d')) (WS_words _) (val_words _) (Nat.mul_pos (den1_pos _) (den1_pos _)) hz (by omega)
 exact ⟨_, _, o1, _, _, o2, _, _, ha, x, hx, y, hy, _, hm, _, _, _, hmk, rfl⟩
theorem rat_Mul_says (p : Bool) (n d : List Int) (p' : Bool) (n' d' : List Int) (hn : WS n) (hd : WS d) (hn' : WS n') (hd' : WS d') (ln : n.length ≤ 1000000) (ld : d.length ≤ 1000000) (ln' : n'.length ≤ 1000000) (ld' : d'.length ≤ 1000000) :
  rat_Mul p n d p' n' d' (ratQ (iV p (val n) * iV p' (val n')) (den1 (val d) * den1 (val d'))) := by
 unfold rat_Mul
 have ha := whole_Mul_says p n p' n' hn hn' (by omega) (by omega)
 obtain ⟨x, hx, vx, wx, lx⟩ := rat_den_says p n d hd (by omega)
 obtain ⟨y, hy, vy, wy, ly⟩ := rat_den_says p' n' d' hd' (by omega)
 have hm := nat_Mul_says x y wx wy (by omega) (by omega)
 have lm := words_mul_len wx wy
 rw [vx, vy] at hm lm
 have hz : (wholeC (iV p (val n) * iV p' (val n'))).2.length ≤ 7000000 := by
  unfold wholeC
  dsimp only
  rw [Int.natAbs_mul, iV_abs, iV_abs]
  have := words_mul_len hn hn'
  omega
 have hmk := rat_Make_z _ (words (den1 (val d) * den1 (val d'))) (den1 (val d) * den1 (val d')) (WS_words _) (val_words _) (Nat.mul_pos (den1_pos _) (den1_pos _)) hz (by omega)
 exact ⟨_, _, ha, x, hx, y, hy, _, hm, _, _, _, hmk, rfl⟩
end Go.Abs
end

section
namespace Go.Abs
open Go.RowKit Go.Proofs
set_option maxRecDepth 100000
def wordsF : Nat → Nat → List Int
 | 0, _ => []
 | f + 1, n => if Nat.beq n 0 then [] else Int.ofNat (n % 4294967296) :: wordsF f (n / 4294967296)
theorem wordsF_eq : ∀ (f n : Nat), n < 4294967296 ^ f → wordsF f n = words n
 | 0, n, h => by
  have : n = 0 := by simpa using h
  subst this; rw [words_zero]; rfl
 | f + 1, n, h => by
  unfold wordsF
  by_cases h0 : n = 0
  ·subst h0; rw [words_zero]; rfl
  ·rw [if_neg (by simpa using h0), words_pos h0, wordsF_eq f (n / 4294967296) (by rw [Nat.pow_succ] at h; exact Nat.div_lt_of_lt_mul (by rw [Nat.mul_comm]; exact h))]
   rfl
def intsOf : List PD → Option (List Int)
 | [] => some []
 | .int .u32 k :: l => match intsOf l with | some r => some (k :: r) | none => none
 | _ => none
theorem intsOf_ok : ∀ {l : List PD} {r : List Int}, intsOf l = some r → l = r.map elU32
 | [], r, h => by cases h; rfl
 | x :: l, r, h => by
  unfold intsOf at h
  split at h
  ·rename_i e; cases e
  ·rename_i k l' e
   cases e
   split at h
   ·rename_i r' hr
    cases h
    rw [intsOf_ok hr]; rfl
   ·cases h
  ·cases h
def okI : Int → Bool
 | .ofNat k => Nat.blt k 4294967296
 | _ => false
def okWs (l : List Int) : Bool := Nat.blt l.length 30 && l.all okI
theorem okWs_ok {l : List Int} (h : okWs l = true) : WS l ∧ l.length < 30 := by
 unfold okWs at h
 simp only [Bool.and_eq_true, Nat.blt_eq, List.all_eq_true] at h
 refine ⟨fun x hx => ?_, h.1⟩
 have := h.2 x hx
 unfold okI at this
 split at this
 ·simp only [Nat.blt_eq] at this
  rename_i k
  have e : (Int.ofNat k) = (k : Int) := rfl
  omega
 ·cases this
def ratA (x : AV) : Option (Bool × List Int × List Int) :=
 match wk x with
 | .agg [.pd (.bool p), .pd (.sl n), .pd (.sl d)] =>
  match intsOf n, intsOf d with
  | some n, some d => if okWs n && okWs d then some (p, n, d) else none
  | _, _ => none
 | _ => none
theorem ratA_ok {x : AV} {p : Bool} {n d : List Int} (h : ratA x = some (p, n, d)) : wk x = .agg [.pd (.bool p), .pd (.sl (n.map elU32)), .pd (.sl (d.map elU32))] ∧ (WS n ∧ n.length < 30) ∧ (WS d ∧ d.length < 30) := by
 unfold ratA at h
 split at h
 ·rename_i p' n' d' hw
  split at h
  ·rename_i n2 d2 h1 h2
   split at h
   ·rename_i hk
    cases h
    simp only [Bool.and_eq_true] at hk
    exact ⟨by rw [hw, intsOf_ok h1, intsOf_ok h2], okWs_ok hk.1, okWs_ok hk.2⟩
   ·cases h
  ·cases h
 ·cases h
def ratV (r : Bool × List Int × List Int) : AV := .agg [.pd (.bool r.1), .pd (.sl (r.2.1.map elU32)), .pd (.sl (r.2.2.map elU32))]
def ratQF (z : Int) (d : Nat) : Option AV :=
 if Nat.blt z.natAbs (4294967296 ^ 60) && Nat.blt d (4294967296 ^ 60) then some (ratV (decide (z < 0), wordsF 60 (z.natAbs / Nat.gcd z.natAbs d), wordsF 60 (d / Nat.gcd z.natAbs d))) else none
theorem ratQF_ok {z : Int} {d : Nat} {x : AV} (h : ratQF z d = some x) : x = ratV (ratQ z d) := by
 unfold ratQF at h
 split at h
 ·rename_i hk
  cases h
  simp only [Bool.and_eq_true, Nat.blt_eq] at hk
  unfold ratQ
  rw [wordsF_eq _ _ (Nat.lt_of_le_of_lt (Nat.div_le_self _ _) hk.1), wordsF_eq _ _ (Nat.lt_of_le_of_lt (Nat.div_le_self _ _) hk.2)]
 ·cases h
def out1 (x : Option AV) (M : Mem) : Option (AV × Mem × Bool) := match x with | some x => some (x, M, false) | none => none
def orcR (g : FuncId) (args : List AV) (M : Mem) : Option (AV × Mem × Bool) :=
 match g, args with
 | 112, [x, y] =>
  match ratA x, ratA y with
  | some (p, n, d), some (p', n', d') => out1 (ratQF (iV p (val n) * (den1 (val d') : Int) + iV p' (val n') * (den1 (val d) : Int)) (den1 (val d) * den1 (val d'))) M
  | _, _ => orcN g args M
 | 53, [x, y] =>
  match ratA x, ratA y with
  | some (p, n, d), some (p', n', d') => out1 (ratQF (iV p (val n) * iV p' (val n')) (den1 (val d) * den1 (val d'))) M
  | _, _ => orcN g args M
 | 64, [x, y] =>
  match ratA x, ratA y with
  | some (p, n, d), some (p', n', d') => some (.pd (.int .i64 (cmpZ (iV p (val n) * (den1 (val d') : Int)) (iV p' (val n') * (den1 (val d) : Int)))), M, false)
  | _, _ => orcN g args M
 | 68, [x] =>
  match ratA x with
  | some (p, n, d) => some (.pd (.int .i64 (sgn p (val n))), M, false)
  | _ => orcN g args M
 | _, _ => orcN g args M
theorem orcR_ok (m : Tp) (f : FuncId) (args : List AV) (M : Mem) (z : AV × Mem × Bool) (h : orcR f args M = some z) : CallOK Tryz.prog (gtT m) f args M z := by
 have two : ∀ {g : FuncId} {x y : AV} {p : Bool} {n d : List Int} {p' : Bool} {n' d' : List Int} {r : AV}, Enters Tryz.prog g → ratA x = some (p, n, d) → ratA y = some (p', n', d') →
   ASpec Tryz.prog (gtT m) g [.agg [.pd (.bool p), .pd (.sl (n.map elU32)), .pd (.sl (d.map elU32))], .agg [.pd (.bool p'), .pd (.sl (n'.map elU32)), .pd (.sl (d'.map elU32))]] (· = r) → CallOK Tryz.prog (gtT m) g [x, y] M (r, M, false) := by
  intro g x y p n d p' n' d' r he hx hy hs
  refine told_ok he ?_ ?_
  ·simp only [List.map_cons, List.map_nil]; rw [(ratA_ok hx).1, (ratA_ok hy).1]; exact hs
  ·simp only [List.map_cons, List.map_nil]; rw [(ratA_ok hx).1, (ratA_ok hy).1]; rfl
 unfold orcR at h
 split at h
 ·rename_i x y
  split at h
  ·rename_i p n d p' n' d' hx hy
   obtain ⟨_, ⟨wn, ln⟩, wd, ld⟩ := ratA_ok hx
   obtain ⟨_, ⟨wn', ln'⟩, wd', ld'⟩ := ratA_ok hy
   unfold out1 at h
   split at h
   ·rename_i r hr
    cases h
    obtain rfl := ratQF_ok hr
    exact two (hasT 112 (by kernel_rfl)) hx hy (rat_Add_ok m _ _ _ _ _ _ (rat_Add_says p n d p' n' d' wn wd wn' wd' (by omega) (by omega) (by omega) (by omega)))
   ·cases h
  ·exact orcN_ok m _ _ M _ h
 ·rename_i x y
  split at h
  ·rename_i p n d p' n' d' hx hy
   obtain ⟨_, ⟨wn, ln⟩, wd, ld⟩ := ratA_ok hx
   obtain ⟨_, ⟨wn', ln'⟩, wd', ld'⟩ := ratA_ok hy
   unfold out1 at h
   split at h
   ·rename_i r hr
    cases h
    obtain rfl := ratQF_ok hr
    exact two (hasT 53 (by kernel_rfl)) hx hy (rat_Mul_ok m _ _ _ _ _ _ (rat_Mul_says p n d p' n' d' wn wd wn' wd' (by omega) (by omega) (by omega) (by omega)))
   ·cases h
  ·exact orcN_ok m _ _ M _ h
 ·rename_i x y
  split at h
  ·rename_i p n d p' n' d' hx hy
   obtain ⟨_, ⟨wn, ln⟩, wd, ld⟩ := ratA_ok hx
   obtain ⟨_, ⟨wn', ln'⟩, wd', ld'⟩ := ratA_ok hy
   cases h
   exact two (hasT 64 (by kernel_rfl)) hx hy (rat_Compare_ok m _ _ _ _ _ _ (rat_Compare_says p n d p' n' d' wn wd wn' wd' (by omega) (by omega) (by omega) (by omega)))
  ·exact orcN_ok m _ _ M _ h
 ·rename_i x
  split at h
  ·rename_i p n d hx
   obtain ⟨_, ⟨wn, ln⟩, wd, ld⟩ := ratA_ok hx
   cases h
   refine told_ok (hasT 68 (by kernel_rfl)) ?_ ?_
   ·simp only [List.map_cons, List.map_nil]; rw [(ratA_ok hx).1]
    exact rat_Sign_ok m _ _ _ ⟨_, whole_Sign_says p n wn (by omega), rfl⟩
   ·simp only [List.map_cons, List.map_nil]; rw [(ratA_ok hx).1]; rfl
  ·exact orcN_ok m _ _ M _ h
 ·exact orcN_ok m _ _ M _ h
end Go.Abs
end

section
namespace Go.Abs
open Go.RowKit Go.Proofs
def eqA1 : AV → AV → Bool
 | .pd x, .pd y => eqPD x y
 | _, _ => false
theorem eqA1_ok {x y : AV} (h : eqA1 x y = true) : x = y := by
 unfold eqA1 at h
 split at h
 ·rw [eqPD_ok h]
 ·cases h
def eqA1s : List AV → List AV → Bool
 | [], [] => true
 | x :: l, y :: m => eqA1 x y && eqA1s l m
 | _, _ => false
theorem eqA1s_ok : ∀ {l m : List AV}, eqA1s l m = true → l = m
 | [], [], _ => rfl
 | x :: l, y :: m, h => by
  simp only [eqA1s, Bool.and_eq_true] at h
  rw [eqA1_ok h.1, eqA1s_ok h.2]
 | [], _ :: _, h => by simp [eqA1s] at h
 | _ :: _, [], h => by simp [eqA1s] at h
def eqA2 : AV → AV → Bool
 | .pd x, .pd y => eqPD x y
 | .agg l, .agg m => eqA1s l m
 | _, _ => false
theorem eqA2_ok {x y : AV} (h : eqA2 x y = true) : x = y := by
 unfold eqA2 at h
 split at h
 ·rw [eqPD_ok h]
 ·rw [eqA1s_ok h]
 ·cases h
def eqA2s : List AV → List AV → Bool
 | [], [] => true
 | x :: l, y :: m => eqA2 x y && eqA2s l m
 | _, _ => false
theorem eqA2s_ok : ∀ {l m : List AV}, eqA2s l m = true → l = m
 | [], [], _ => rfl
 | x :: l, y :: m, h => by
  simp only [eqA2s, Bool.and_eq_true] at h
  rw [eqA2_ok h.1, eqA2s_ok h.2]
 | [], _ :: _, h => by simp [eqA2s] at h
 | _ :: _, [], h => by simp [eqA2s] at h
def tabF (g : FuncId) (args : List AV) : List (FuncId × List AV × AV) → Option AV
 | [] => none
 | (f, gs, x) :: r => if Nat.beq f g && eqA2s (args.map wk) gs then some x else tabF g args r
def frzArg : List AV → Mem → Option (List AV × Mem)
 | [], _ => none
 | .own b len ver :: r, M => match ownPD M b len ver with | some x => some (.pd x :: r, frz M b) | none => none
 | y :: r, M => match frzArg r M with | some (r', M') => some (y :: r', M') | none => none
theorem frzArg_ok {M M' : Mem} : ∀ {l l' : List AV}, frzArg l M = some (l', M') → ∃ pre post b len ver x, l = pre ++ .own b len ver :: post ∧ l' = pre ++ .pd x :: post ∧ ownPD M b len ver = some x ∧ M' = frz M b := by
 intro l
 induction l with
 | nil => intro l' h; cases h
 | cons y r ih =>
  intro l' h
  unfold frzArg at h
  split at h
  ·rename_i e; cases e
  ·rename_i b len ver r' e
   cases e
   split at h
   ·rename_i x hx
    cases h
    exact ⟨[], _, b, len, ver, x, rfl, rfl, hx, rfl⟩
   ·cases h
  ·rename_i y' r' _ e
   cases e
   split at h
   ·rename_i r2 M2 h2
    cases h
    obtain ⟨pre, post, b, len, ver, x, e1, e2, e3, e4⟩ := ih h2
    exact ⟨y :: pre, post, b, len, ver, x, by rw [e1]; rfl, by rw [e2]; rfl, e3, e4⟩
   ·cases h
def orcT (tab : List (FuncId × List AV × AV)) (orc : FuncId → List AV → Mem → Option (AV × Mem × Bool)) (g : FuncId) (args : List AV) (M : Mem) : Option (AV × Mem × Bool) :=
 match tabF g args tab with
 | some x => some (x, M, false)
 | none =>
  match frzArg args M with
  | some (args', M') =>
   (match tabF g args' tab with
   | some x => some (x, M', true)
   | none =>
    match frzArg args' M' with
    | some (args2, M2) => (match tabF g args2 tab with | some x => some (x, M2, true) | none => orc g args M)
    | none => orc g args M)
  | none => orc g args M
def TabOK (P : Program) (GT : Tabs) (tab : List (FuncId × List AV × AV)) : Prop := ∀ e, e ∈ tab → ASpec P GT e.1 e.2.1 (· = e.2.2) ∧ Enters P e.1 ∧ e.2.1.all pur2 = true
theorem TabOK.nil {P : Program} {GT : Tabs} : TabOK P GT [] := fun e he => by cases he
theorem TabOK.cons {P : Program} {GT : Tabs} {f : FuncId} {gs : List AV} {x : AV} {r : List (FuncId × List AV × AV)} (h : ASpec P GT f gs (· = x)) (he : Enters P f) (hp : gs.all pur2 = true) (hr : TabOK P GT r) : TabOK P GT ((f, gs, x) :: r) := fun e h' => by
 rcases List.mem_cons.1 h' with rfl | h'
 ·exact ⟨h, he, hp⟩
 ·exact hr e h'
theorem tabF_ok {g : FuncId} {args : List AV} : ∀ {tab : List (FuncId × List AV × AV)} {x : AV}, tabF g args tab = some x → ∃ e, e ∈ tab ∧ e.1 = g ∧ e.2.1 = args.map wk ∧ e.2.2 = x
 | [], x, h => by cases h
 | (f, gs, y) :: r, x, h => by
  unfold tabF at h
  split at h
  ·rename_i hk
   cases h
   simp only [Bool.and_eq_true] at hk
   exact ⟨_, List.mem_cons_self .., Nat.eq_of_beq_eq_true hk.1, (eqA2s_ok hk.2).symm, rfl⟩
  ·obtain ⟨e, h1, h2⟩ := tabF_ok h
   exact ⟨e, List.mem_cons_of_mem _ h1, h2⟩
theorem toldT {m : Tp} {tab : List (FuncId × List AV × AV)} (ht : TabOK Tryz.prog (gtT m) tab) {f : FuncId} {args : List AV} {x : AV} (hx : tabF f args tab = some x) (M : Mem) : Enters Tryz.prog f ∧ ACall Tryz.prog (gtT m) f args M fun r M1 => r = x ∧ M1 = M := by
 obtain ⟨e, h1, rfl, h3, rfl⟩ := tabF_ok hx
 obtain ⟨a, b, c⟩ := ht e h1
 rw [h3] at a c
 obtain ⟨q1, q2, _⟩ := told_ok (M := M) b a c
 exact ⟨q1, q2⟩
theorem frzTold {m : Tp} {f : FuncId} {args args' : List AV} {x : AV} {M M' M2 : Mem} (hz : frzArg args M = some (args', M')) (h : Enters Tryz.prog f ∧ ACall Tryz.prog (gtT m) f args' M' fun r M1 => r = x ∧ M1 = M2) : Enters Tryz.prog f ∧ ACall Tryz.prog (gtT m) f args M fun r M1 => r = x ∧ M1 = M2 := by
 obtain ⟨pre, post, bb, len, ver, y, e1, e2, e3, e4⟩ := frzArg_ok hz
 refine ⟨h.1, ?_⟩
 subst e1; subst e2; subst e4
 exact ACall.frz1 pre post bb len ver e3 h.2
theorem orcT_ok {m : Tp} {tab : List (FuncId × List AV × AV)} {orc : FuncId → List AV → Mem → Option (AV × Mem × Bool)} (ht : TabOK Tryz.prog (gtT m) tab) (ho : ∀ f args M z, orc f args M = some z → CallOK Tryz.prog (gtT m) f args M z) (f : FuncId) (args : List AV) (M : Mem) (z : AV × Mem × Bool) (h : orcT tab orc f args M = some z) : CallOK Tryz.prog (gtT m) f args M z := by
 unfold orcT at h
 split at h
 ·rename_i x hx
  cases h
  obtain ⟨e, h1, rfl, h3, rfl⟩ := tabF_ok hx
  obtain ⟨a, b, c⟩ := ht e h1
  rw [h3] at a c
  exact told_ok b a c
 ·split at h
  ·rename_i args' M' hz
   split at h
   ·rename_i x hx
    cases h
    obtain ⟨q1, q2⟩ := frzTold hz (toldT ht hx M')
    exact ⟨q1, q2, fun h => by cases h⟩
   ·split at h
    ·rename_i args2 M2 hz2
     split at h
     ·rename_i x hx
      cases h
      obtain ⟨q1, q2⟩ := frzTold hz2 (toldT ht hx M2)
      obtain ⟨q3, q4⟩ := frzTold (x := x) (M2 := M2) hz ⟨q1, q2⟩
      exact ⟨q3, q4, fun h => by cases h⟩
     ·exact ho _ _ _ _ h
    ·exact ho _ _ _ _ h
  ·exact ho _ _ _ _ h
theorem says_ok {P : Program} {GT : Tabs} {orc : FuncId → List AV → Mem → Option (AV × Mem × Bool)} {keep : FuncId → Bool} (hm : P.follows .mixedOrders = true) (hn : P.funcs.all (fun fn => !(fn.name == "runtime.NumGoroutine")) = true) (ho : ∀ f args M z, orc f args M = some z → CallOK P GT f args M z) {n : Nat} {f : FuncId} {args : List AV} {x : AV} (h : iplain P (fixF P GT orc keep n) f args [] = some (x, [], false)) : ASpec P GT f args (· = x) := by
 unfold iplain at h
 split at h
 ·split at h
  ·rename_i r M1 hb
   split at h
   ·rename_i r' hr
    cases h
    obtain ⟨h1, h2⟩ := ibody_ok (fixF_ok hm hn ho n) hn hb
    exact .of (h2.mono fun r2 M2 ⟨a, b⟩ => ⟨_, by rw [a, b]; exact hr, rfl⟩)
   ·cases h
  ·cases h
 ·cases h
end Go.Abs
end

section
namespace Go.Abs
open Go.RowKit Go.Proofs
set_option maxRecDepth 100000
theorem model_rels_ok (m : Tp) {r : List (List UInt8 × Int)} (h : model_rels r) : ASpec Tryz.prog (gtT m) 43 [] (· = .pd (.mp r)) := by
 obtain rfl := h
 refine ASpec_of_body (fn := Tryz.f43) (by kernel_rfl) rfl ?_
 refine AW_seq (AW_region (AL_can1 (x := .junk) (M' := []) (Can1_op (by kernel_rfl) (by kernel_rfl)) (AL_nil ?_)))
 refine AW_seq (AW_region (AL_mkmap (o := _) (is := [_, _, _]) (rest := [_, _]) (t := 117) (k := 9) (e := 3) (d := 1) (m := relsL) rfl rfl rfl (by kernel_rfl) (by kernel_rfl) (by kernel_rfl) (by decide) (by decide)
  (AL_can1 (x := .pd (.mp relsL)) (M' := []) (Can1_op (by kernel_rfl) (by kernel_rfl)) (AL_can1 (x := .pd (.mp relsL)) (M' := []) (Can1_op (by kernel_rfl) (by kernel_rfl)) (AL_nil ?_)))))
 exact AW_ret ⟨.inr rfl, _, _, rfl, rfl, rfl⟩
def orcM (g : FuncId) (args : List AV) (M : Mem) : Option (AV × Mem × Bool) :=
 match g, args with
 | 43, [] => some (.pd (.mp relsL), M, false)
 | _, _ => orcR g args M
theorem orcM_ok (m : Tp) (f : FuncId) (args : List AV) (M : Mem) (z : AV × Mem × Bool) (h : orcM f args M = some z) : CallOK Tryz.prog (gtT m) f args M z := by
 unfold orcM at h
 split at h
 ·cases h
  exact told_ok (hasT 43 (by kernel_rfl)) (model_rels_ok m rfl) rfl
 ·exact orcR_ok m _ _ M _ h
end Go.Abs
end
