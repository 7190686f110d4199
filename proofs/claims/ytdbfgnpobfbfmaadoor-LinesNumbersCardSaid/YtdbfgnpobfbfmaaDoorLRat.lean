/- Layers 1 to 3 plain: texts of digits read; whole numbers; fractions, lowest. -/
import Derived.Test.YtdbfgnpobfbfmaaDoorLNat
import Derived.Test.YtdbfgnpobfbfmaaDoorT29
import Derived.Lib.IndexMore
namespace Go.Abs
open Go
set_option linter.unusedVariables false
set_option linter.unusedSimpArgs false
set_option linter.unnecessarySimpa false

abbrev By := List UInt8
def dg (b : UInt8) : Prop := 48 ≤ b.toNat ∧ b.toNat ≤ 57
instance (b : UInt8) : Decidable (dg b) := inferInstanceAs (Decidable (_ ∧ _))
def allDg (s : By) : Prop := ∀ b, b ∈ s → dg b
instance (s : By) : Decidable (allDg s) := inferInstanceAs (Decidable (∀ b, b ∈ s → dg b))
/-- The number that digits spell, behind acc. -/
def dV (acc : Nat) : By → Nat
  | [] => acc
  | b :: l => dV (acc * 10 + (b.toNat - 48)) l
theorem dV_nil (acc : Nat) : dV acc [] = acc := by rfl
theorem dV_cons (acc : Nat) (b : UInt8) (l : By) : dV acc (b :: l) = dV (acc * 10 + (b.toNat - 48)) l := by rfl
theorem dV_app : ∀ (l m : By) (acc : Nat), dV acc (l ++ m) = dV (dV acc l) m
  | [], m, acc => by rw [List.nil_append, dV_nil]
  | b :: l, m, acc => by rw [List.cons_append, dV_cons, dV_cons]; exact dV_app l m _
theorem dV_acc : ∀ (l : By) (acc : Nat), dV acc l = acc * 10 ^ l.length + dV 0 l
  | [], acc => by rw [dV_nil, dV_nil]; simp
  | b :: l, acc => by
    rw [dV_cons, dV_cons, dV_acc l (acc * 10 + (b.toNat - 48)), dV_acc l (0 * 10 + (b.toNat - 48)), List.length_cons, Nat.pow_succ]
    grind
theorem dV_one (b : UInt8) : dV 0 [b] = b.toNat - 48 := by rw [dV_cons, dV_nil]; omega
theorem dV_app0 (l m : By) : dV 0 (l ++ m) = dV 0 l * 10 ^ m.length + dV 0 m := by rw [dV_app, dV_acc]
theorem dV_lt : ∀ (l : By), allDg l → dV 0 l < 10 ^ l.length
  | [], _ => by rw [dV_nil]; simp
  | b :: l, h => by
    have hb := h b (by simp)
    unfold dg at hb
    have := dV_lt l fun c hc => h c (by simp [hc])
    rw [dV_cons, dV_acc, List.length_cons, Nat.pow_succ]
    have h9 : (0 * 10 + (b.toNat - 48)) * 10 ^ l.length ≤ 9 * 10 ^ l.length := Nat.mul_le_mul_right _ (by omega)
    omega
theorem allDg_app {a b : By} : allDg (a ++ b) ↔ allDg a ∧ allDg b := by
  simp only [allDg, List.mem_append]
  exact ⟨fun h => ⟨fun x hx => h x (.inl hx), fun x hx => h x (.inr hx)⟩, fun h x hx => hx.elim (h.1 x) (h.2 x)⟩

/-- What nat.Parse answers. -/
def parseR (s : By) : List Int × Int := if s = [] ∨ ¬ allDg s then ([], 2) else if 400 < s.length then ([], 4) else (words (dV 0 s), 0)

theorem pow10_words (n : Nat) {v : Nat} (h : v < 10 ^ n) : (words v).length ≤ n := by
  refine words_len _ _ (Nat.lt_of_lt_of_le h ?_)
  exact Nat.pow_le_pow_left (by omega) n

theorem nat_Parse_1_says (c : Int) : nat_Parse_1 c (decide (48 ≤ c ∧ c ≤ 57)) := by
  unfold nat_Parse_1
  refine IfB.dec (fun h1 => IfB.dec (fun h2 => ?_) (fun h2 => ?_)) (fun h1 => ?_)
  · simp; omega
  · simp; omega
  · simp; omega

theorem nat_Parse_says (s : By) (hl : s.length ≤ 1000000) : nat_Parse s (parseR s) := by
  unfold nat_Parse
  refine LoopP.intro (fun z : List Int × Int => ∃ k : Nat, z.2 = k ∧ k ≤ s.length ∧ allDg (s.take k) ∧ (k ≤ 400 → z.1 = words (dV 0 (s.take k)))) (fun z => s.length - z.2.toNat) ⟨0, rfl, by omega, by intro b hb; simp at hb, fun _ => by simp [dV_nil, words_zero]⟩ ?_
  rintro X ⟨out, z2⟩ ⟨k, h2, hk, hd, ho⟩ hX
  simp only at h2 ho
  subst h2
  unfold nat_Parse_L1
  dsimp only
  refine IfB.dec (fun hlt => ?_) (fun hge => ?_)
  · have hks : k < s.length := by omega
    have htk : s.take (k + 1) = s.take k ++ [s[k]] := by rw [List.take_add_one, List.getElem?_eq_getElem hks]; rfl
    refine ⟨_, Idx.nat hks, _, nat_Parse_1_says _, IfB.dec (fun hdig => ?_) (fun hno => ?_)⟩
    · have hdk : dg s[k] := by unfold dg; omega
      have hd1 : allDg (s.take (k + 1)) := by
        rw [htk, allDg_app]; exact ⟨hd, by intro b hb; simp at hb; subst hb; exact hdk⟩
      rw [wrap64' (by omega) (by omega)]
      refine IfB.dec (fun h4 => ?_) (fun h4 => ?_)
      · have h400 : k < 400 := by omega
        rw [ho (by omega)]
        have hv := dV_lt _ hd
        rw [List.length_take, Nat.min_eq_left (by omega)] at hv
        have hlen := pow10_words k hv
        have h10 := nat_Of_says 10 (by omega)
        have hm := nat_Mul_says (words (dV 0 (s.take k))) (words 10) (WS_words _) (WS_words _) (by omega) (by have := pow10_words 2 (v := 10) (by omega); omega)
        rw [val_words, val_words] at hm
        unfold dg at hdk
        have e8 : IntKind.u64.wrap (IntKind.u8.wrap (((s[k].toNat : Nat) : Int) - 48)) = ((s[k].toNat - 48 : Nat) : Int) := by
          rw [wrapu8 (by omega) (by omega), wrapu64 (by omega) (by omega)]; omega
        have hlv : dV 0 (s.take k) * 10 < 10 ^ (k + 1) := by rw [Nat.pow_succ]; omega
        have ha := nat_Add_says (words (dV 0 (s.take k) * 10)) (words (s[k].toNat - 48)) (WS_words _) (WS_words _) (by have := pow10_words (k + 1) hlv; omega) (by have := pow10_words 2 (v := s[k].toNat - 48) (by omega); omega)
        rw [val_words, val_words] at ha
        refine ⟨_, h10, _, hm, _, Idx.nat hks, _, by rw [e8]; exact nat_Of_says _ (by omega), _, ha, hX _ ⟨k + 1, by (try dsimp only) <;> omega, by omega, hd1, fun _ => ?_⟩ (by (try dsimp only) <;> omega)⟩
        dsimp only
        rw [htk, dV_app0, dV_one]; simp
      · exact hX _ ⟨k + 1, by (try dsimp only) <;> omega, by omega, hd1, fun h => by omega⟩ (by (try dsimp only) <;> omega)
    · unfold parseR
      rw [if_pos]
      refine .inr fun hall => hno ?_
      have := hall s[k] (List.getElem_mem hks)
      unfold dg at this; omega
  · have hkl : k = s.length := by omega
    subst hkl
    rw [List.take_length] at hd ho
    unfold parseR
    refine IfB.intro (fun he => ?_) (fun he => ?_)
    · rw [if_pos (.inl (by simpa using he))]
    · have hne : s ≠ [] := by simpa using he
      rw [if_neg (fun h => h.elim hne fun h => h hd)]
      refine IfB.dec (fun h4 => ?_) (fun h4 => ?_)
      · rw [if_pos (by omega)]
      · rw [if_neg (by omega), ho (by omega)]

theorem nat_Bits_zero : nat_Bits [] 0 := by
  unfold nat_Bits
  refine ⟨[], by have := nat_trim_says [] WS_nil (by simp); rw [val_nil, words_zero] at this; exact this, ?_⟩
  exact IfB_true.2 rfl

def ltab : List UInt8 := [0, 1, 2, 2, 3, 3, 3, 3, 4, 4, 4, 4, 4, 4, 4, 4, 5, 5, 5, 5, 5, 5, 5, 5, 5, 5, 5, 5, 5, 5, 5, 5, 6, 6, 6, 6, 6, 6, 6, 6, 6, 6, 6, 6, 6, 6, 6, 6, 6, 6, 6, 6, 6, 6, 6, 6, 6, 6, 6, 6, 6, 6, 6, 6, 7, 7, 7, 7, 7, 7, 7, 7, 7, 7, 7, 7, 7, 7, 7, 7, 7, 7, 7, 7, 7, 7, 7, 7, 7, 7, 7, 7, 7, 7, 7, 7, 7, 7, 7, 7, 7, 7, 7, 7, 7, 7, 7, 7, 7, 7, 7, 7, 7, 7, 7, 7, 7, 7, 7, 7, 7, 7, 7, 7, 7, 7, 7, 7, 8, 8, 8, 8, 8, 8, 8, 8, 8, 8, 8, 8, 8, 8, 8, 8, 8, 8, 8, 8, 8, 8, 8, 8, 8, 8, 8, 8, 8, 8, 8, 8, 8, 8, 8, 8, 8, 8, 8, 8, 8, 8, 8, 8, 8, 8, 8, 8, 8, 8, 8, 8, 8, 8, 8, 8, 8, 8, 8, 8, 8, 8, 8, 8, 8, 8, 8, 8, 8, 8, 8, 8, 8, 8, 8, 8, 8, 8, 8, 8, 8, 8, 8, 8, 8, 8, 8, 8, 8, 8, 8, 8, 8, 8, 8, 8, 8, 8, 8, 8, 8, 8, 8, 8, 8, 8, 8, 8, 8, 8, 8, 8, 8, 8, 8, 8, 8, 8, 8, 8, 8, 8, 8, 8, 8, 8, 8, 8]
set_option maxRecDepth 20000 in
theorem ltab_all : ∀ i : Fin 256, i.val ≠ 0 → ∃ c, ltab[i.val]? = some c ∧ 0 < c.toNat ∧ c.toNat ≤ 8 := by
  have h : (List.range 256).all (fun i => i == 0 || (match ltab[i]? with | some c => Nat.blt 0 c.toNat && Nat.ble c.toNat 8 | none => false)) = true := by decide
  intro i hi
  have := List.all_eq_true.1 h i.val (List.mem_range.2 i.isLt)
  simp only [Bool.or_eq_true, beq_iff_eq] at this
  rcases this with h | h
  · exact absurd h hi
  · split at h
    · rename_i c hc
      simp only [Bool.and_eq_true, Nat.blt_eq, Nat.ble_eq] at h
      exact ⟨c, hc, h.1, h.2⟩
    · cases h
theorem ltab_idx {n : Nat} (h : n < 256) (h0 : n ≠ 0) : ∃ c, Idx ltab (IntKind.u8.wrap (n : Int)) c ∧ 0 < c.toNat ∧ c.toNat ≤ 8 := by
  obtain ⟨c, hc, h1, h2⟩ := ltab_all ⟨n, h⟩ h0
  exact ⟨c, ⟨by rw [wrapu8 (by omega) (by omega)]; omega, by rw [wrapu8 (by omega) (by omega)]; exact hc⟩, h1, h2⟩
theorem fdivN (a b : Nat) (h : 0 < b) : Int.fdiv (a : Int) (b : Int) = ((a / b : Nat) : Int) := by rw [Int.fdiv_eq_ediv_of_nonneg _ (by omega)]; rfl
theorem p16 : (2 : Int) ^ (min (Int.toNat (16 : Int)) (IntKind.bits .u32)) = ((65536 : Nat) : Int) := by decide
theorem p8 : (2 : Int) ^ (min (Int.toNat (8 : Int)) (IntKind.bits .u32)) = ((256 : Nat) : Int) := by decide
theorem Len32_says (n : Nat) (h : n < 4294967296) (h0 : n ≠ 0) : ∃ r : Nat, 0 < r ∧ r ≤ 32 ∧ math_bits_Len32 (n : Int) (r : Int) := by
  unfold math_bits_Len32
  rw [p16, p8]
  have w64 : ∀ (k : Nat) (c : UInt8), k ≤ 24 → c.toNat ≤ 8 → IntKind.i64.wrap ((k : Int) + (IntKind.i64.wrap ((c.toNat : Nat) : Int))) = ((k + c.toNat : Nat) : Int) := fun k c hk hc => by
    rw [wrap64' (n := ((c.toNat : Nat) : Int)) (by omega) (by omega), wrap64' (by omega) (by omega)]; omega
  rw [fdivN _ _ (by omega), fdivN _ _ (by omega), fdivN _ _ (by omega)]
  by_cases h1 : 65536 ≤ n
  · by_cases h2 : 256 ≤ n / 65536
    · obtain ⟨c, hc, hp, h8⟩ := ltab_idx (n := n / 65536 / 256) (by omega) (by omega)
      exact ⟨24 + c.toNat, by omega, by omega, IfB.dec (fun _ => IfB.dec (fun _ => ⟨c, hc, (w64 24 c (by omega) h8).symm⟩) (fun h => absurd (by omega) h)) (fun h => absurd (by omega) h)⟩
    · obtain ⟨c, hc, hp, h8⟩ := ltab_idx (n := n / 65536) (by omega) (by omega)
      exact ⟨16 + c.toNat, by omega, by omega, IfB.dec (fun _ => IfB.dec (fun h => absurd h (by omega)) (fun _ => ⟨c, hc, (w64 16 c (by omega) h8).symm⟩)) (fun h => absurd (by omega) h)⟩
  · by_cases h2 : 256 ≤ n
    · obtain ⟨c, hc, hp, h8⟩ := ltab_idx (n := n / 256) (by omega) (by omega)
      exact ⟨8 + c.toNat, by omega, by omega, IfB.dec (fun h => absurd h (by omega)) (fun _ => IfB.dec (fun _ => ⟨c, hc, (w64 8 c (by omega) h8).symm⟩) (fun h => absurd (by omega) h))⟩
    · obtain ⟨c, hc, hp, h8⟩ := ltab_idx (n := n) (by omega) (by omega)
      exact ⟨0 + c.toNat, by omega, by omega, IfB.dec (fun h => absurd h (by omega)) (fun _ => IfB.dec (fun h => absurd h (by omega)) (fun _ => ⟨c, hc, (w64 0 c (by omega) h8).symm⟩))⟩

theorem nat_Bits_pos (a : List Int) (ha : WS a) (hl : a.length ≤ 100000) (h0 : val a ≠ 0) : ∃ r : Int, r ≠ 0 ∧ nat_Bits a r := by
  unfold nat_Bits
  obtain ⟨W, hWe⟩ : ∃ W, W = words (val a) := ⟨_, rfl⟩
  have hw : W.length ≤ a.length := hWe ▸ wl ha
  have hp : 0 < W.length := hWe ▸ words_len_pos.2 h0
  have hws : WS W := hWe ▸ WS_words (val a)
  have hb := WS_get hws (i := W.length - 1) (by omega)
  have hlast : W[W.length - 1] ≠ 0 := by
    have h := words_Cn (val a)
    rw [← hWe] at h
    have := h (List.length_pos_iff.1 hp)
    rw [List.getLast_eq_getElem] at this
    exact this
  have hc : nat_trim a W := hWe ▸ nat_trim_says a ha (by omega)
  obtain ⟨r, hr0, hr, hs⟩ := Len32_says (W[W.length - 1].toNat) (by omega) (by omega)
  rw [Int.toNat_of_nonneg hb.1] at hs
  have e1 : IntKind.i64.wrap ((W.length : Int) - 1) = ((W.length - 1 : Nat) : Int) := by rw [wrap64' (by omega) (by omega)]; omega
  refine ⟨_, ?_, W, hc, IfB.eqI (fun h => by omega) (fun _ => ⟨_, by rw [e1]; exact Idx.nat (by omega), _, hs, rfl⟩)⟩
  rw [e1, wrap64' (n := 32 * _) (by omega) (by omega), wrap64' (by omega) (by omega)]
  omega

/-! ### whole numbers -/
theorem shift0 (a : List Int) (ha : WS a) (hl : a.length ≤ 100000) : nat_Shift a (0 : Int) (words (val a)) := by
  have := nat_Shift_says a 0 ha hl (by omega)
  simpa using this
theorem whole_Make_says (p : Bool) (a : List Int) (ha : WS a) (hl : a.length ≤ 100000) : whole_Make p a (p && decide (val a ≠ 0), words (val a)) := by
  unfold whole_Make
  cases p with
  | false => exact IfB_false.2 ⟨_, shift0 a ha hl, rfl⟩
  | true =>
    refine IfB_true.2 ⟨_, shift0 a ha hl, IfB.dec (fun h => ?_) (fun h => ?_)⟩
    · have : val a ≠ 0 := words_len_pos.1 (by omega)
      simp [this]
    · have : val a = 0 := by
        rcases Nat.eq_zero_or_pos (val a) with h' | h'
        · exact h'
        · have := words_len_pos.2 (show val a ≠ 0 from by omega); omega
      simp [this]
/-- A sign. -/
def sgn (p : Bool) (n : Nat) : Int := if n = 0 then 0 else if p then -1 else 1
theorem whole_Sign_says (p : Bool) (a : List Int) (ha : WS a) (hl : a.length ≤ 100000) : whole_Sign p a (sgn p (val a)) := by
  unfold whole_Sign
  refine ⟨_, _, whole_Make_says p a ha hl, ?_⟩
  unfold sgn
  by_cases h0 : val a = 0
  · rw [h0, words_zero]
    simp
  · have hp := words_len_pos.2 h0
    have hn : ¬ (((words (val a)).length : Int) = 0) := by omega
    have hne := List.length_pos_iff.1 hp
    cases p <;> simp [h0, hn, hne, IfB]
theorem whole_Right_says (p : Bool) (n : Nat) (hl : (words n).length ≤ 100000) (hp : p = true → n ≠ 0) : whole_Right p (words n) true := by
  unfold whole_Right
  cases p with
  | false => exact IfB_false.2 ⟨_, nat_Right_says n (by omega), IfB_true.2 rfl⟩
  | true =>
    refine IfB_true.2 ⟨_, nat_Right_says n (by omega), IfB_true.2 (IfB.dec (fun _ => rfl) (fun h => ?_))⟩
    have := words_len_pos.2 (hp rfl); omega

/-- What whole.Parse answers. -/
def wholeR (s : By) : Bool × List Int × Int :=
  if (parseR (Lib.trimPrefix s [45])).2 ≠ 0 then (false, [], (parseR (Lib.trimPrefix s [45])).2)
  else (Lib.hasPrefix s [45] && decide (val (parseR (Lib.trimPrefix s [45])).1 ≠ 0), (parseR (Lib.trimPrefix s [45])).1, 0)
theorem parseR_WS (s : By) : WS (parseR s).1 := by
  unfold parseR; split
  · exact WS_nil
  · split
    · exact WS_nil
    · exact WS_words _
theorem parseR_len (s : By) : (parseR s).1.length ≤ 400 := by
  unfold parseR; split
  · simp
  · rename_i h
    split
    · simp
    · have := pow10_words s.length (dV_lt s (Decidable.byContradiction fun h' => h (.inr h')))
      dsimp only; omega
theorem parseR_words (s : By) : words (val (parseR s).1) = (parseR s).1 := by
  unfold parseR; split
  · rw [val_nil, words_zero]
  · split
    · rw [val_nil, words_zero]
    · rw [val_words]
theorem trimP_len (s : By) : (Lib.trimPrefix s [45]).length ≤ s.length := by unfold Lib.trimPrefix; split <;> simp
theorem whole_Parse_says (s : By) (hl : s.length ≤ 1000000) : whole_Parse s (wholeR s) := by
  unfold whole_Parse wholeR
  refine ⟨_, _, rfl, ?_⟩
  have hp := nat_Parse_says (Lib.trimPrefix s [45]) (by have := trimP_len s; omega)
  have hw := parseR_WS (Lib.trimPrefix s [45])
  have hn := parseR_len (Lib.trimPrefix s [45])
  have hc := parseR_words (Lib.trimPrefix s [45])
  have hm := fun p => whole_Make_says p _ hw (by omega)
  rw [hc] at hm
  generalize parseR (Lib.trimPrefix s [45]) = R at *
  obtain ⟨w, e⟩ := R
  dsimp only at *
  refine IfB.intro (fun h => ⟨_, _, hp, IfB.neI (fun he => by rw [if_pos he]) (fun he => ⟨_, _, hm true, ?_⟩)⟩) (fun h => ⟨_, _, hp, IfB.neI (fun he => by rw [if_pos he]) (fun he => ⟨_, _, hm false, ?_⟩)⟩)
  · rw [if_neg (by omega), h]
  · rw [if_neg (by omega), h]

/-! ### fractions -/
/-- A fraction, lowest, as it is held. -/
def ratC (p : Bool) (n d : Nat) : Bool × List Int × List Int := (p && decide (n / Nat.gcd n d ≠ 0), words (n / Nat.gcd n d), words (d / Nat.gcd n d))
def den1 (d : Nat) : Nat := if d = 0 then 1 else d
theorem rat_den_says (p : Bool) (a b : List Int) (hb : WS b) (hl : b.length ≤ 100000) : ∃ x, rat_den p a b x ∧ val x = den1 (val b) ∧ WS x ∧ x.length ≤ b.length + 1 := by
  unfold rat_den den1
  by_cases h0 : val b = 0
  · refine ⟨words 1, ⟨0, ?_, IfB_true.2 ⟨_, nat_Of_says 1 (by omega), rfl⟩⟩, by rw [val_words, if_pos h0], WS_words 1, ?_⟩
    · unfold nat_Bits
      have := nat_trim_says b hb (by omega)
      rw [h0, words_zero] at this
      exact ⟨_, this, IfB_true.2 rfl⟩
    · rw [words_one (by omega) (by omega)]; simp
  · obtain ⟨r, hr, hs⟩ := nat_Bits_pos b hb hl h0
    exact ⟨b, ⟨r, hs, IfB.eqI (fun h => absurd h hr) (fun _ => rfl)⟩, by rw [if_neg h0], hb, by omega⟩

theorem rat_Make_says (p : Bool) (a b : List Int) (ha : WS a) (hb : WS b) (hla : a.length ≤ 70000) (hlb : b.length ≤ 70000) : rat_Make p a b (ratC p (val a) (den1 (val b))) := by
  unfold rat_Make
  obtain ⟨x, hx, vx, wx, lx⟩ := rat_den_says false [] b hb (by omega)
  have hd0 : 0 < den1 (val b) := by unfold den1; split <;> omega
  rw [← vx] at hd0 ⊢
  have hg := nat_Gcd_says a x ha wx (by omega) (by omega)
  have hg0 : 0 < Nat.gcd (val a) (val x) := Nat.gcd_pos_of_pos_right _ hd0
  have hgl : (words (Nat.gcd (val a) (val x))).length ≤ x.length := by
    have := words_len_le (Nat.gcd_le_right (val a) hd0)
    have := wl wx
    omega
  have h1 := nat_DivMod_says a (words (Nat.gcd (val a) (val x))) ha (WS_words _) (by omega) (by omega)
  have h2 := nat_DivMod_says x (words (Nat.gcd (val a) (val x))) wx (WS_words _) (by omega) (by omega)
  rw [val_words, if_neg (by omega)] at h1 h2
  have hl1 : (words (val a / Nat.gcd (val a) (val x))).length ≤ a.length := Nat.le_trans (words_len_le (Nat.div_le_self _ _)) (wl ha)
  have hm := whole_Make_says p (words (val a / Nat.gcd (val a) (val x))) (WS_words _) (by omega)
  rw [val_words] at hm
  exact ⟨x, hx, _, hg, _, _, _, h1, _, _, _, h2, _, _, hm, rfl⟩

theorem rat_Right_says (p : Bool) (n d : Nat) (hd : 0 < d) (hn : (words n).length ≤ 70000) (hdl : (words d).length ≤ 70000) : rat_Right (ratC p n d).1 (ratC p n d).2.1 (ratC p n d).2.2 true := by
  have hg0 : 0 < Nat.gcd n d := Nat.gcd_pos_of_pos_right _ hd
  have hcop : Nat.gcd (n / Nat.gcd n d) (d / Nat.gcd n d) = 1 := Nat.coprime_div_gcd_div_gcd hg0
  have hd1 : d / Nat.gcd n d ≠ 0 := by
    have := Nat.div_pos (Nat.gcd_le_right n hd) hg0; omega
  have l1 : (words (n / Nat.gcd n d)).length ≤ 70000 := Nat.le_trans (words_len_le (Nat.div_le_self _ _)) hn
  have l2 : (words (d / Nat.gcd n d)).length ≤ 70000 := Nat.le_trans (words_len_le (Nat.div_le_self _ _)) hdl
  unfold ratC rat_Right
  dsimp only
  generalize n / Nat.gcd n d = a at *
  generalize d / Nat.gcd n d = b at *
  refine ⟨true, whole_Right_says _ a (by omega) (by simp), IfB_true.2 ⟨true, nat_Right_says b (by omega), IfB_true.2 (IfB.dec (fun _ => ?_) (fun h => ?_))⟩⟩
  · have hg := nat_Gcd_says (words a) (words b) (WS_words _) (WS_words _) (by omega) (by omega)
    rw [val_words, val_words, hcop] at hg
    have hc := nat_Compare_says (words 1) (words 1) (WS_words 1) (WS_words 1) (by rw [words_one (by omega) (by omega)]; simp) (by rw [words_one (by omega) (by omega)]; simp)
    rw [val_words] at hc
    exact ⟨_, hg, _, nat_Of_says 1 (by omega), _, hc, IfB_true.2 rfl⟩
  · have := words_len_pos.2 hd1; omega

/-- What rat.Parse answers. -/
def ratR (s : By) : Bool × List Int × List Int × Int :=
  let a := (Lib.cut s [47]).1
  let b := if (Lib.cut s [47]).2.2 then (Lib.cut s [47]).2.1 else [49]
  if (wholeR a).2.2 ≠ 0 then (false, [], [], (wholeR a).2.2)
  else if (parseR b).2 ≠ 0 then (false, [], [], (parseR b).2)
  else if val (parseR b).1 = 0 then (false, [], [], 5)
  else let r := ratC (wholeR a).1 (val (wholeR a).2.1) (val (parseR b).1); (r.1, r.2.1, r.2.2, 0)
theorem cut_len1 (s : By) (c : UInt8) : (Lib.cut s [c]).1.length ≤ s.length := by
  unfold Lib.cut; split
  · simp only [List.length_take]; omega
  · simp
theorem cut_len2 (s : By) (c : UInt8) : (Lib.cut s [c]).2.1.length ≤ s.length := by unfold Lib.cut; split <;> simp
theorem wholeR_WS (s : By) : WS (wholeR s).2.1 := by
  unfold wholeR; split
  · exact WS_nil
  · exact parseR_WS _
theorem wholeR_len (s : By) : (wholeR s).2.1.length ≤ 400 := by
  unfold wholeR; split
  · simp
  · exact parseR_len _

theorem rat_Parse_says (s : By) (hl : s.length ≤ 1000000) : rat_Parse s (ratR s) := by
  unfold rat_Parse
  have hcut : strings_Cut s [47] (Lib.cut s [47]) := ⟨by unfold Short; omega, 47, rfl, rfl⟩
  have l1 := cut_len1 s 47
  have l2 := cut_len2 s 47
  have hrat : ratR s = (let a := (Lib.cut s [47]).1
    let b := if (Lib.cut s [47]).2.2 then (Lib.cut s [47]).2.1 else [49]
    if (wholeR a).2.2 ≠ 0 then (false, [], [], (wholeR a).2.2)
    else if (parseR b).2 ≠ 0 then (false, [], [], (parseR b).2)
    else if val (parseR b).1 = 0 then (false, [], [], 5)
    else let r := ratC (wholeR a).1 (val (wholeR a).2.1) (val (parseR b).1); (r.1, r.2.1, r.2.2, 0)) := rfl
  generalize ratR s = R at *
  generalize Lib.cut s [47] = C at *
  obtain ⟨a, b0, f⟩ := C
  dsimp only at *
  have hW := whole_Parse_says a (by omega)
  have ww := wholeR_WS a
  have wl := wholeR_len a
  generalize wholeR a = WR at *
  obtain ⟨p, n, e⟩ := WR
  dsimp only at *
  have body : ∀ b : By, b.length ≤ 1000000 → b = (if f then b0 else [49]) → ∃ (x5 : Bool) (x6 : List Int) (x7 : Int), whole_Parse a (x5, x6, x7) ∧
    IfB (x7 != (0 : Int))
      (R = (false, ([] : List Int), ([] : List Int), x7))
      (∃ (x9 : List Int) (x10 : Int), nat_Parse b (x9, x10) ∧
      IfB (x10 != (0 : Int))
        (R = (false, ([] : List Int), ([] : List Int), x10))
        (∃ (x12 : Int), nat_Bits x9 x12 ∧
        IfB (x12 == (0 : Int))
          (R = (false, ([] : List Int), ([] : List Int), 5))
          (∃ (x14 : Bool) (x15 : List Int) (x16 : List Int), rat_Make x5 x6 x9 (x14, x15, x16) ∧
          R = (x14, x15, x16, 0)))) := fun b hb eb => by
    rw [← eb] at hrat
    have hP := nat_Parse_says b hb
    have pw := parseR_WS b
    have pl := parseR_len b
    generalize parseR b = PR at *
    obtain ⟨d, e2⟩ := PR
    dsimp only at *
    refine ⟨_, _, _, hW, IfB.neI (fun h => ?_) (fun h => ⟨_, _, hP, IfB.neI (fun h2 => ?_) (fun h2 => ?_)⟩)⟩
    · rw [hrat, if_pos h]
    · rw [hrat, if_neg (by omega), if_pos h2]
    · rw [if_neg (by omega), if_neg (by omega)] at hrat
      by_cases h0 : val d = 0
      · rw [if_pos h0] at hrat
        refine ⟨0, ?_, IfB_true.2 hrat⟩
        unfold nat_Bits
        have := nat_trim_says d pw (by omega)
        rw [h0, words_zero] at this
        refine ⟨_, this, ?_⟩
        exact IfB_true.2 rfl
      · rw [if_neg h0] at hrat
        obtain ⟨r, hr0, hrs⟩ := nat_Bits_pos d pw (by omega) h0
        have hm := rat_Make_says p n d ww pw (by omega) (by omega)
        rw [show den1 (val d) = val d from by unfold den1; rw [if_neg h0]] at hm
        exact ⟨r, hrs, IfB.eqI (fun h => absurd h hr0) (fun _ => ⟨_, _, _, hm, hrat⟩)⟩
  refine ⟨_, _, _, hcut, IfB.intro (fun h => body _ (by omega) (by rw [h]; rfl)) (fun h => body [49] (by simp) (by rw [h]; rfl))⟩

theorem rat_Int0 : rat_Int 0 (false, [], words 1) := by
  unfold rat_Int whole_Of
  refine ⟨false, [], IfB_false.2 ⟨[], ?_, false, [], ?_, rfl⟩, words 1, nat_Of_says 1 (by omega), false, [], words 1, ?_, rfl⟩
  · have := nat_Of_says 0 (by omega)
    rw [words_zero] at this
    exact this
  · have := whole_Make_says false [] WS_nil (by simp)
    rw [val_nil, words_zero] at this
    exact this
  · have := rat_Make_says false [] (words 1) WS_nil (WS_words 1) (by simp) (by rw [words_one (by omega) (by omega)]; simp)
    rw [val_nil, val_words] at this
    have e : ratC false 0 (den1 1) = (false, [], words 1) := by unfold ratC den1; simp [words_zero]
    rwa [e] at this

end Go.Abs
