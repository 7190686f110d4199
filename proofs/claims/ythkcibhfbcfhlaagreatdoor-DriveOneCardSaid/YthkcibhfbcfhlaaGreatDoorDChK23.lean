/- Part of a proof, in few files: LNat. -/
import Derived.Test.YthkcibhfbcfhlaaGreatDoorDChK16

set_option linter.unusedVariables false
set_option linter.unusedSimpArgs false
set_option linter.unnecessarySimpa false
section
namespace Go.Abs
open Go
theorem wrap64' {n : Int} (h0 : -9223372036854775808 ≤ n) (h1 : n ≤ 9223372036854775807) : IntKind.i64.wrap n = n := by
 simp [IntKind.wrap, IntKind.bits, IntKind.signed]; omega
theorem wrapu32 {n : Int} (h0 : 0 ≤ n) (h1 : n < 4294967296) : IntKind.u32.wrap n = n := by
 simp [IntKind.wrap, IntKind.bits, IntKind.signed]; omega
theorem wrapu32m (n : Int) : IntKind.u32.wrap n = n % 4294967296 := by
 simp [IntKind.wrap, IntKind.bits, IntKind.signed]
theorem wrapu64 {n : Int} (h0 : 0 ≤ n) (h1 : n < 18446744073709551616) : IntKind.u64.wrap n = n := by
 simp [IntKind.wrap, IntKind.bits, IntKind.signed]; omega
theorem wrapu64m (n : Int) : IntKind.u64.wrap n = n % 18446744073709551616 := by
 simp [IntKind.wrap, IntKind.bits, IntKind.signed]
theorem wrapu8 {z : Int} (h0 : 0 ≤ z) (h1 : z < 256) : IntKind.u8.wrap z = z := by
 simp only [IntKind.wrap, IntKind.signed, IntKind.bits]; simp; omega
theorem sh32 : (2 : Int) ^ (min (Int.toNat (32 : Int)) (IntKind.bits .u64)) = 4294967296 := by decide
theorem sh63 : (2 : Int) ^ (min (Int.toNat (63 : Int)) (IntKind.bits .u64)) = 9223372036854775808 := by decide
theorem fits_of {n k : Nat} (h : n ≤ 1000000000) (hk : k ≤ 8) : Fits n k := by
 unfold Fits
 have := Nat.mul_le_mul h hk
 omega
def val : List Int → Nat
 | [] => 0
 | x :: l => x.toNat + 4294967296 * val l
theorem val_nil : val [] = 0 := by rfl
theorem val_cons (x : Int) (l : List Int) : val (x :: l) = x.toNat + 4294967296 * val l := by rfl
def WS (l : List Int) : Prop := ∀ x, x ∈ l → 0 ≤ x ∧ x < 4294967296
theorem WS_nil : WS [] := by intro x hx; simp at hx
theorem WS_cons {x : Int} {l : List Int} : WS (x :: l) ↔ (0 ≤ x ∧ x < 4294967296) ∧ WS l := by simp [WS]
theorem WS_take {l : List Int} (h : WS l) (n : Nat) : WS (l.take n) := fun x hx => h x (List.mem_of_mem_take hx)
theorem WS_set {l : List Int} (h : WS l) (n : Nat) {y : Int} (h0 : 0 ≤ y) (h1 : y < 4294967296) : WS (l.set n y) := fun x hx => by
 rcases List.mem_or_eq_of_mem_set hx with hx | rfl
 ·exact h x hx
 ·exact ⟨h0, h1⟩
theorem WS_rep (n : Nat) : WS (List.replicate n 0) := fun x hx => by
 have := List.eq_of_mem_replicate hx; omega
theorem WS_get {l : List Int} (h : WS l) {i : Nat} (hi : i < l.length) : 0 ≤ l[i] ∧ l[i] < 4294967296 := h _ (List.getElem_mem hi)
theorem val_app : ∀ (a b : List Int), val (a ++ b) = val a + 4294967296 ^ a.length * val b
 | [], b => by simp [val_nil]
 | x :: a, b => by
  rw [List.cons_append, val_cons, val_cons, val_app a b, List.length_cons, Nat.pow_succ]; grind
theorem val_rep : ∀ n : Nat, val (List.replicate n 0) = 0
 | 0 => rfl
 | n + 1 => by rw [List.replicate_succ, val_cons, val_rep n]; rfl
theorem val_lt : ∀ {l : List Int}, WS l → val l < 4294967296 ^ l.length
 | [], _ => by decide
 | x :: l, h => by
  have h' := WS_cons.1 h
  have := val_lt h'.2
  rw [val_cons, List.length_cons, Nat.pow_succ]
  omega
theorem val_split (l : List Int) (n : Nat) (h : n ≤ l.length) : val l = val (l.take n) + 4294967296 ^ n * val (l.drop n) := by
 have := val_app (l.take n) (l.drop n)
 rw [List.take_append_drop, List.length_take, Nat.min_eq_left h] at this
 exact this
theorem val_take1 {l : List Int} {k : Nat} (h : k < l.length) : val (l.take (k + 1)) = val (l.take k) + 4294967296 ^ k * l[k].toNat := by
 rw [List.take_add_one, List.getElem?_eq_getElem h, val_app, List.length_take, Nat.min_eq_left (by omega)]
 simp [val_cons, val_nil]
theorem val_take_all {l : List Int} {k : Nat} (h : l.length ≤ k) : val (l.take k) = val l := by rw [List.take_of_length_le h]
def atN (a : List Int) (k : Nat) : Nat := if h : k < a.length then a[k].toNat else 0
theorem atN_lt {a : List Int} (h : WS a) (k : Nat) : atN a k < 4294967296 := by
 unfold atN; split
 ·have := WS_get h (by assumption); omega
 ·omega
theorem val_takeA (a : List Int) (k : Nat) : val (a.take (k + 1)) = val (a.take k) + 4294967296 ^ k * atN a k := by
 unfold atN
 split
 ·exact val_take1 (by assumption)
 ·rw [List.take_of_length_le (by omega), List.take_of_length_le (by omega)]; simp
theorem val_set_take {l : List Int} {k : Nat} (h : k < l.length) (y : Int) : val ((l.set k y).take (k + 1)) = val (l.take k) + 4294967296 ^ k * y.toNat := by
 rw [val_take1 (by simpa using h), List.take_set_of_le (Nat.le_refl k)]; simp
theorem val_set : ∀ {l : List Int} {k : Nat} (h : k < l.length) (y : Int), val (l.set k y) + 4294967296 ^ k * l[k].toNat = val l + 4294967296 ^ k * y.toNat
 | x :: l, 0, h, y => by simp [val_cons]; omega
 | x :: l, k + 1, h, y => by
  have := val_set (l := l) (k := k) (by simpa using h) y
  simp only [List.set_cons_succ, val_cons, List.getElem_cons_succ, Nat.pow_succ]
  grind
def words (n : Nat) : List Int := if h : n = 0 then [] else ((n % 4294967296 : Nat) : Int) :: words (n / 4294967296)
termination_by n
decreasing_by omega
theorem words_zero : words 0 = [] := by rw [words]; simp
theorem words_pos {n : Nat} (h : n ≠ 0) : words n = ((n % 4294967296 : Nat) : Int) :: words (n / 4294967296) := by rw [words]; simp [h]
theorem val_words (n : Nat) : val (words n) = n := by
 induction n using Nat.strongRecOn with
 | _ n ih =>
  by_cases h : n = 0
  ·subst h; rw [words_zero]; rfl
  ·rw [words_pos h, val_cons, ih _ (by omega)]; omega
theorem WS_words (n : Nat) : WS (words n) := by
 induction n using Nat.strongRecOn with
 | _ n ih =>
  by_cases h : n = 0
  ·subst h; rw [words_zero]; exact WS_nil
  ·rw [words_pos h]; exact WS_cons.2 ⟨by omega, ih _ (by omega)⟩
theorem words_nil {n : Nat} : words n = [] ↔ n = 0 := by
 constructor
 ·intro h; have := val_words n; rw [h] at this; exact this.symm
 ·rintro rfl; exact words_zero
theorem words_len : ∀ (k n : Nat), n < 4294967296 ^ k → (words n).length ≤ k
 | 0, n, h => by have : n = 0 := by simpa using h
                 subst this; rw [words_zero]; simp
 | k + 1, n, h => by
  by_cases hn : n = 0
  ·subst hn; rw [words_zero]; simp
  ·rw [words_pos hn, List.length_cons]
   have := words_len k (n / 4294967296) (by rw [Nat.pow_succ] at h; exact Nat.div_lt_of_lt_mul (by rw [Nat.mul_comm]; exact h))
   omega
theorem words_len_pos {n : Nat} : 0 < (words n).length ↔ n ≠ 0 := by
 rw [List.length_pos_iff]; exact not_congr words_nil
def Cn (l : List Int) : Prop := ∀ h : l ≠ [], l.getLast h ≠ 0
theorem Cn_words : ∀ {l : List Int}, WS l → Cn l → words (val l) = l
 | [], _, _ => words_zero
 | x :: l, h, hc => by
  have h' := WS_cons.1 h
  have hcl : Cn l := fun hn => by have := hc (by simp); rwa [List.getLast_cons hn] at this
  have ih := Cn_words h'.2 hcl
  have hv : val (x :: l) ≠ 0 := by
   rw [val_cons]
   intro e
   have hl : val l = 0 := by omega
   rw [hl, words_zero] at ih
   subst ih
   have := hc (by simp)
   simp at this
   omega
  rw [words_pos hv]
  have e1 : val (x :: l) % 4294967296 = x.toNat := by rw [val_cons]; omega
  have e2 : val (x :: l) / 4294967296 = val l := by rw [val_cons]; omega
  rw [e1, e2, ih, Int.toNat_of_nonneg h'.1.1]
theorem words_Cn (n : Nat) : Cn (words n) := by
 induction n using Nat.strongRecOn with
 | _ n ih =>
  by_cases h : n = 0
  ·subst h; rw [words_zero]; intro h; exact absurd rfl h
  ·intro hne
   simp only [words_pos h]
   by_cases h2 : n / 4294967296 = 0
   ·simp only [h2, words_zero]; simp; omega
   ·rw [List.getLast_cons (fun e => h2 (words_nil.1 e))]
    exact ih _ (by omega) _
theorem words_one {n : Nat} (h : n ≠ 0) (h1 : n < 4294967296) : words n = [(n : Int)] := by
 rw [words_pos h, Nat.div_eq_of_lt h1, words_zero, Nat.mod_eq_of_lt h1]
theorem IfB.dc {p : Prop} [Decidable p] {A B : Prop} (h1 : p → A) (h2 : ¬ p → B) : IfB (decide p) A B := ⟨fun e => h1 (of_decide_eq_true e), fun e => h2 (of_decide_eq_false e)⟩
theorem IfB.eqI {x y : Int} {A B : Prop} (h1 : x = y → A) (h2 : x ≠ y → B) : IfB (x == y) A B := ⟨fun e => h1 (by simpa using e), fun e => h2 (by simpa using e)⟩
theorem IfB.neI {x y : Int} {A B : Prop} (h1 : x ≠ y → A) (h2 : x = y → B) : IfB (x != y) A B := ⟨fun e => h1 (by simpa using e), fun e => h2 (by simpa using e)⟩
theorem nat_trim_says (a : List Int) (h : WS a) (hl : a.length ≤ 100000000) : nat_trim a (words (val a)) := by
 unfold nat_trim
 refine LoopP.intro (fun z : Int => ∃ k : Nat, z = k ∧ k ≤ a.length ∧ val (a.drop k) = 0) (fun z => z.toNat) ⟨a.length, rfl, Nat.le_refl _, by simp [val_nil]⟩ ?_
 rintro X z ⟨k, rfl, hk, hv⟩ hX
 have hsub : SubOk a 0 (k : Int) := ⟨by omega, by omega, by omega⟩
 have esub : sub a 0 (k : Int) = a.take k := by simp [sub]
 have hvk : val a = val (a.take k) := by rw [val_split a k hk, hv]; simp
 have fin : Cn (a.take k) → SubOk a 0 (k : Int) ∧ ∃ x4, slices_Clone_nat_Nat_uint32 (sub a 0 (k : Int)) x4 ∧ words (val a) = x4 := fun hc => by
  refine ⟨hsub, _, ⟨fits_of (by rw [esub, List.length_take]; omega) (by omega), rfl⟩, ?_⟩
  rw [esub, hvk, Cn_words (WS_take h k) hc]
 unfold nat_trim_L1
 refine IfB.dc (fun h1 => ?_) (fun h1 => ?_)
 ·rw [wrap64' (by omega) (by omega)]
  have hk1 : k - 1 < a.length := by omega
  have ez : ((k : Int) - 1) = ((k - 1 : Nat) : Int) := by omega
  rw [ez]
  refine ⟨_, Idx.nat hk1, IfB.eqI (fun h0 => ?_) (fun h0 => ?_)⟩
  ·refine hX _ ⟨k - 1, rfl, by omega, ?_⟩ (by simp; omega)
   have hd : a.drop (k - 1) = a[k - 1] :: a.drop k := by
    rw [List.drop_eq_getElem_cons hk1]; congr 2; omega
   rw [hd, val_cons, hv, h0]; rfl
  ·refine fin fun hne => ?_
   rw [List.getLast_eq_getElem]
   simp only [List.length_take, Nat.min_eq_left hk, List.getElem_take]
   exact h0
 ·have : k = 0 := by omega
  subst this
  exact fin fun hne => absurd (by simp) hne
theorem val2 (x y : Int) : val [x, y] = x.toNat + 4294967296 * y.toNat := by simp [val_cons, val_nil]
theorem nat_Of_says (n : Nat) (h : n < 18446744073709551616) : nat_Of (n : Int) (words n) := by
 unfold nat_Of
 refine ⟨_, ?_, rfl⟩
 rw [sh32, wrapu32m, show Int.fdiv (n : Int) 4294967296 = ((n / 4294967296 : Nat) : Int) from by rw [Int.fdiv_eq_ediv_of_nonneg _ (by omega)]; rfl, wrapu32 (by omega) (by omega)]
 have := nat_trim_says [(n : Int) % 4294967296, ((n / 4294967296 : Nat) : Int)] (WS_cons.2 ⟨by omega, WS_cons.2 ⟨by omega, WS_nil⟩⟩) (by simp)
 rw [val2] at this
 have e : ((n : Int) % 4294967296).toNat + 4294967296 * (((n / 4294967296 : Nat) : Int)).toNat = n := by omega
 rwa [e] at this
theorem or_add {i a b : Nat} (h : b < 2 ^ i) : 2 ^ i * a ||| b = 2 ^ i * a + b := (Nat.two_pow_add_eq_or_of_lt h a).symm
theorem ofInt_nat (w n : Nat) (h : n < 2 ^ w) : (BitVec.ofInt w (n : Int)).toNat = n := by
 rw [BitVec.toNat_ofInt]; simp
 have : ((n : Int) % (2 ^ w : Nat)) = ((n % 2 ^ w : Nat) : Int) := by simp
 rw [Nat.mod_eq_of_lt h] at this
 simp at this
 omega
theorem bitO64 {a b : Nat} (h : a ||| b < 18446744073709551616) (ha : a < 18446744073709551616) (hb : b < 18446744073709551616) : bitO .u64 (a : Int) (b : Int) = ((a ||| b : Nat) : Int) := by
 unfold bitO
 rw [BitVec.toNat_or, ofInt_nat _ _ (by simpa [IntKind.bits] using ha), ofInt_nat _ _ (by simpa [IntKind.bits] using hb), wrapu64 (by omega) (by omega)]
theorem bitO32 {a b : Nat} (h : a ||| b < 4294967296) (ha : a < 4294967296) (hb : b < 4294967296) : bitO .u32 (a : Int) (b : Int) = ((a ||| b : Nat) : Int) := by
 unfold bitO
 rw [BitVec.toNat_or, ofInt_nat _ _ (by simpa [IntKind.bits] using ha), ofInt_nat _ _ (by simpa [IntKind.bits] using hb), wrapu32 (by omega) (by omega)]
theorem drop_cons {l : List Int} {k : Nat} (h : k < l.length) : l.drop k = l[k] :: l.drop (k + 1) := List.drop_eq_getElem_cons h
theorem nat_Small_says (a : List Int) (h : WS a) (hl : a.length ≤ 100000000) (hv : val a < 18446744073709551616) : nat_Small a ((val a : Int), true) := by
 unfold nat_Small
 have hw : (words (val a)).length ≤ 2 := words_len 2 _ (by simpa using hv)
 refine ⟨_, nat_trim_says a h hl, IfB.dc (fun h2 => by omega) (fun _ => ?_)⟩
 generalize hW : words (val a) = W
 have hWS : WS W := hW ▸ WS_words _
 have hval : val W = val a := by rw [← hW, val_words]
 rw [hW] at hw
 refine LoopP.intro (fun z : Int × Int => ∃ k : Nat, k ≤ W.length ∧ z.1 = (k : Int) - 1 ∧ z.2 = (val (W.drop k) : Int)) (fun z => (z.1 + 1).toNat) ⟨W.length, Nat.le_refl _, by rw [wrap64' (by omega) (by omega)], by simp [val_nil]⟩ ?_
 rintro X ⟨z, y⟩ ⟨k, hk, rfl, rfl⟩ hX
 unfold nat_Small_L1
 refine IfB.dc (fun h1 => ?_) (fun h1 => ?_)
 ·have hk1 : k - 1 < W.length := by omega
  have ez : ((k : Int) - 1) = ((k - 1 : Nat) : Int) := by omega
  simp only [ez]
  have hx := WS_get hWS hk1
  refine ⟨_, Idx.nat hk1, hX _ ⟨k - 1, by omega, ?_, ?_⟩ ?_⟩
  ·simp only; rw [wrap64' (by omega) (by omega)]
  ·simp only
   have hd := drop_cons hk1
   rw [show k - 1 + 1 = k from by omega] at hd
   have hlt : val (W.drop (k - 1)) < 18446744073709551616 := by
    have h3 := val_split W (k - 1) (by omega)
    have h4 := Nat.pow_pos (n := k - 1) (show 0 < 4294967296 from by omega)
    have h5 : 1 * val (W.drop (k - 1)) ≤ 4294967296 ^ (k - 1) * val (W.drop (k - 1)) := Nat.mul_le_mul_right _ h4
    omega
   rw [hd, val_cons] at hlt ⊢
   rw [sh32, wrapu64 (by omega) (by omega), wrapu64 (by omega) (by omega)]
   have e1 : (val (W.drop k) : Int) * 4294967296 = ((2 ^ 32 * val (W.drop k) : Nat) : Int) := by omega
   have e2 : W[k - 1] = ((W[k - 1].toNat : Nat) : Int) := by omega
   have e3 : 2 ^ 32 * val (W.drop k) ||| W[k - 1].toNat = 2 ^ 32 * val (W.drop k) + W[k - 1].toNat := or_add (by omega)
   rw [e1, e2, bitO64 (by rw [e3]; omega) (by omega) (by omega), e3]
   simp only [Int.toNat_natCast]
   omega
  ·simp only; rw [wrap64' (by omega) (by omega)]; omega
 ·have : k = 0 := by omega
  subst this
  simp only [List.drop_zero, hval]
def cmpN (a b : Nat) : Int := if a < b then -1 else if b < a then 1 else 0
theorem val_lt_len {a b : List Int} (ha : WS a) (hb : WS b) (hc : Cn b) (h : a.length < b.length) : val a < val b := by
 have h1 := val_lt ha
 have hbne : b ≠ [] := by rintro rfl; simp at h
 have h2 : val b = val (b.take (b.length - 1)) + 4294967296 ^ (b.length - 1) * b[b.length - 1].toNat := by
  have := val_take1 (l := b) (k := b.length - 1) (by omega)
  rwa [val_take_all (by omega)] at this
 have h3 := hc hbne
 rw [List.getLast_eq_getElem] at h3
 have h4 := WS_get hb (i := b.length - 1) (by omega)
 have h5 : 4294967296 ^ a.length ≤ 4294967296 ^ (b.length - 1) := Nat.pow_le_pow_right (by omega) (by omega)
 have h6 : 4294967296 ^ (b.length - 1) * 1 ≤ 4294967296 ^ (b.length - 1) * b[b.length - 1].toNat := Nat.mul_le_mul_left _ (by omega)
 omega
theorem val_cmp_top {a b : List Int} {k : Nat} (ha : WS a) (hka : k < a.length) (hkb : k < b.length) (hx : a[k] < b[k]) (ha0 : 0 ≤ a[k]) (hd : val (a.drop (k + 1)) = val (b.drop (k + 1))) : val a < val b := by
 have h1 := val_split a k (by omega)
 have h2 := val_split b k (by omega)
 rw [drop_cons hka, val_cons] at h1
 rw [drop_cons hkb, val_cons] at h2
 have h3 := val_lt (WS_take ha k)
 rw [List.length_take, Nat.min_eq_left (by omega)] at h3
 rw [hd] at h1
 have h5 : 4294967296 ^ k * (a[k].toNat + 1 + 4294967296 * val (b.drop (k + 1))) ≤ 4294967296 ^ k * (b[k].toNat + 4294967296 * val (b.drop (k + 1))) := Nat.mul_le_mul_left _ (by omega)
 have h6 : 4294967296 ^ k * (a[k].toNat + 1 + 4294967296 * val (b.drop (k + 1))) = 4294967296 ^ k * (a[k].toNat + 4294967296 * val (b.drop (k + 1))) + 4294967296 ^ k := by grind
 omega
theorem nat_Compare_says (a b : List Int) (ha : WS a) (hb : WS b) (hla : a.length ≤ 100000000) (hlb : b.length ≤ 100000000) : nat_Compare a b (cmpN (val a) (val b)) := by
 unfold nat_Compare
 refine ⟨_, nat_trim_says a ha hla, _, nat_trim_says b hb hlb, ?_⟩
 have hA : (words (val a)).length ≤ a.length := words_len _ _ (val_lt ha)
 have hB : (words (val b)).length ≤ b.length := words_len _ _ (val_lt hb)
 have ea := val_words (val a)
 have eb := val_words (val b)
 have wa := WS_words (val a)
 have wb := WS_words (val b)
 have ca := words_Cn (val a)
 have cb := words_Cn (val b)
 rw [← ea, ← eb]
 simp only [val_words]
 generalize words (val a) = A at *
 generalize words (val b) = B at *
 rw [← ea, ← eb]
 clear ea eb
 unfold cmpN
 refine IfB.neI (fun hne => ?_) (fun he => ?_)
 ·rw [wrap64' (by omega) (by omega)]
  rcases Nat.lt_or_gt_of_ne (show A.length ≠ B.length from by omega) with hlt | hgt
  ·have := val_lt_len wa wb cb hlt
   rw [if_pos this]
   split <;> (try split) <;> omega
  ·have := val_lt_len wb wa ca hgt
   rw [if_neg (by omega), if_pos this]
   split <;> (try split) <;> omega
 ·have he : A.length = B.length := by omega
  refine LoopP.intro (fun z : Int => ∃ k : Nat, k ≤ A.length ∧ z = (k : Int) - 1 ∧ val (A.drop k) = val (B.drop k)) (fun z => (z + 1).toNat) ⟨A.length, Nat.le_refl _, by rw [wrap64' (by omega) (by omega)], by rw [List.drop_of_length_le (Nat.le_refl _), List.drop_of_length_le (by omega)]⟩ ?_
  rintro X z ⟨k, hk, rfl, hd⟩ hX
  unfold nat_Compare_L1
  refine IfB.dc (fun h1 => ?_) (fun h1 => ?_)
  ·have hk1 : k - 1 < A.length := by omega
   have hk2 : k - 1 < B.length := by omega
   have ez : ((k : Int) - 1) = ((k - 1 : Nat) : Int) := by omega
   simp only [ez]
   have hd' : val (A.drop (k - 1 + 1)) = val (B.drop (k - 1 + 1)) := by rw [show k - 1 + 1 = k from by omega]; exact hd
   have xa := WS_get wa hk1
   have xb := WS_get wb hk2
   refine ⟨_, Idx.nat hk1, _, Idx.nat hk2, IfB.dc (fun h2 => ?_) (fun h2 => ⟨_, Idx.nat hk2, IfB.dc (fun h3 => ?_) (fun h3 => ?_)⟩)⟩
   ·rw [if_pos (val_cmp_top wa hk1 hk2 h2 xa.1 hd')]
   ·have := val_cmp_top wb hk2 hk1 h3 xb.1 hd'.symm
    rw [if_neg (by omega), if_pos this]
   ·refine hX _ ⟨k - 1, by omega, ?_, ?_⟩ ?_
    ·rw [wrap64' (by omega) (by omega)]
    ·rw [drop_cons hk1, drop_cons hk2, val_cons, val_cons, hd', show A[k - 1] = B[k - 1] from by omega]
    ·rw [wrap64' (by omega) (by omega)]; omega
  ·have : k = 0 := by omega
   subst this
   simp only [List.drop_zero] at hd
   rw [if_neg (by omega), if_neg (by omega)]
theorem nat_at_says (a : List Int) (k : Nat) (h : WS a) : nat_at a (k : Int) (atN a k : Int) := by
 unfold nat_at atN
 refine IfB.dc (fun h1 => ?_) (fun h1 => ?_)
 ·have hk : k < a.length := by omega
  have := WS_get h hk
  refine ⟨_, Idx.nat hk, ?_⟩
  rw [dif_pos hk, wrapu64 (by omega) (by omega)]; omega
 ·rw [dif_neg (by omega)]; rfl
theorem nat_Add_says (a b : List Int) (ha : WS a) (hb : WS b) (hla : a.length ≤ 10000000) (hlb : b.length ≤ 10000000) : nat_Add a b (words (val a + val b)) := by
 unfold nat_Add
 obtain ⟨n, hn, hna, hnb, hn1⟩ : ∃ n : Nat, IntKind.i64.wrap ((if (b.length : Int) > (a.length : Int) then (b.length : Int) else (a.length : Int)) + 1) = (n : Int) ∧ a.length < n ∧ b.length < n ∧ n ≤ 10000001 := by
  split
  ·exact ⟨b.length + 1, by rw [wrap64' (by omega) (by omega)]; omega, by omega, by omega, by omega⟩
  ·exact ⟨a.length + 1, by rw [wrap64' (by omega) (by omega)]; omega, by omega, by omega, by omega⟩
 unfold nat_Add_L1
 simp only [hn, Int.toNat_natCast, List.length_replicate]
 refine ⟨⟨by omega, fits_of (by omega) (by omega), fits_of (by omega) (by omega)⟩, ?_⟩
 refine LoopP.intro (fun z : Int × Int × List Int => ∃ c k : Nat, z.1 = c ∧ z.2.1 = k ∧ k ≤ n ∧ c ≤ 1 ∧ z.2.2.length = n ∧ WS z.2.2 ∧ val (z.2.2.take k) + 4294967296 ^ k * c = val (a.take k) + val (b.take k)) (fun z => n - z.2.1.toNat) ⟨0, 0, rfl, rfl, by omega, by omega, by simp, WS_rep n, by simp [val_nil]⟩ ?_
 rintro X ⟨z1, z2, out⟩ ⟨c, k, h1, h2, hk, hc, hlo, hwo, hv⟩ hX
 simp only at h1 h2 hlo hwo hv
 subst h1 h2
 dsimp only
 refine IfB.dc (fun hlt => ?_) (fun hge => ?_)
 ·have hkn : k < out.length := by omega
  have xa := atN_lt ha k
  have xb := atN_lt hb k
  refine ⟨_, nat_at_says a k ha, _, nat_at_says b k hb, _, Idx.nat hkn, ?_⟩
  rw [sh32, wrapu64 (n := (atN a k : Int) + atN b k) (by omega) (by omega), wrapu64 (by omega) (by omega), wrap64' (by omega) (by omega), wrapu32m]
  have hd : Int.fdiv ((c : Int) + (↑(atN a k) + ↑(atN b k))) 4294967296 = (((c + (atN a k + atN b k)) / 4294967296 : Nat) : Int) := by rw [Int.fdiv_eq_ediv_of_nonneg _ (by omega)]; rfl
  have hm : ((c : Int) + (↑(atN a k) + ↑(atN b k))) % 4294967296 = (((c + (atN a k + atN b k)) % 4294967296 : Nat) : Int) := by rfl
  rw [hd, hm]
  refine hX _ ⟨_, k + 1, rfl, by (try dsimp only) <;> omega, by (try dsimp only) <;> omega, by (try dsimp only) <;> omega, by simp [hlo], WS_set hwo _ (by omega) (by omega), ?_⟩ (by (try dsimp only) <;> omega)
  simp only [Int.toNat_natCast]
  rw [val_set_take hkn, val_takeA a k, val_takeA b k, Int.toNat_natCast, Nat.pow_succ]
  have e := Nat.div_add_mod (c + (atN a k + atN b k)) 4294967296
  generalize (c + (atN a k + atN b k)) / 4294967296 = c' at *
  generalize (c + (atN a k + atN b k)) % 4294967296 = x at *
  grind
 ·have hkn : k = n := by omega
  subst hkn
  have hv' : val out = val a + val b := by
   rw [val_take_all (by omega), val_take_all (l := a) (by omega), val_take_all (l := b) (by omega)] at hv
   have h1 := val_lt ha
   have h2 := val_lt hb
   have h3 : c = 0 := by
    rcases Nat.eq_zero_or_pos c with h | h
    ·exact h
    ·exfalso
     have : c = 1 := by omega
     subst this
     have e1 : 4294967296 ^ a.length ≤ 4294967296 ^ (k - 1) := Nat.pow_le_pow_right (by omega) (by omega)
     have e2 : 4294967296 ^ b.length ≤ 4294967296 ^ (k - 1) := Nat.pow_le_pow_right (by omega) (by omega)
     have e3 : 4294967296 ^ k = 4294967296 ^ (k - 1) * 4294967296 := by rw [← Nat.pow_succ]; congr 1; omega
     omega
   subst h3
   omega
  refine ⟨_, nat_trim_says out hwo (by omega), ?_⟩
  rw [hv']
theorem nat_Sub_says (a b : List Int) (ha : WS a) (hb : WS b) (hla : a.length ≤ 10000000) (hlb : b.length ≤ 10000000) : nat_Sub a b (if val a < val b then ([], false) else (words (val a - val b), true)) := by
 unfold nat_Sub
 refine ⟨_, nat_Compare_says a b ha hb (by omega) (by omega), IfB.dc (fun h => ?_) (fun h => ?_)⟩
 ·have : val a < val b := by
   unfold cmpN at h; split at h
   ·assumption
   ·split at h <;> omega
  rw [if_pos this]
 have hge : val b ≤ val a := by
  unfold cmpN at h; split at h
  ·omega
  ·omega
 rw [if_neg (by omega)]
 clear h
 unfold nat_Sub_L1
 simp only [Int.toNat_natCast, List.length_replicate]
 refine ⟨⟨by omega, fits_of (by omega) (by omega), fits_of (by omega) (by omega)⟩, ?_⟩
 refine LoopP.intro (fun z : Int × Int × List Int => ∃ c k : Nat, z.1 = c ∧ z.2.1 = k ∧ k ≤ a.length ∧ c ≤ 1 ∧ z.2.2.length = a.length ∧ WS z.2.2 ∧ val (z.2.2.take k) + val (b.take k) = val (a.take k) + 4294967296 ^ k * c) (fun z => a.length - z.2.1.toNat) ⟨0, 0, rfl, rfl, by omega, by omega, by simp, WS_rep _, by simp [val_nil]⟩ ?_
 rintro X ⟨z1, z2, out⟩ ⟨c, k, h1, h2, hk, hc, hlo, hwo, hv⟩ hX
 simp only at h1 h2 hlo hwo hv
 subst h1 h2
 dsimp only
 refine IfB.dc (fun hlt => ?_) (fun hge' => ?_)
 ·have hkn : k < out.length := by omega
  have xa := atN_lt ha k
  have xb := atN_lt hb k
  refine ⟨_, nat_at_says a k ha, _, nat_at_says b k hb, _, Idx.nat hkn, ?_⟩
  rw [sh63, wrap64' (by omega) (by omega), wrapu64m, wrapu64m, wrapu32m]
  have hd : Int.fdiv ((((atN a k : Int) - ↑(atN b k)) % 18446744073709551616 - ↑c) % 18446744073709551616) 9223372036854775808 = ((if atN a k < atN b k + c then 1 else 0 : Nat) : Int) := by
   rw [Int.fdiv_eq_ediv_of_nonneg _ (by omega)]; split <;> omega
  have hm : (((atN a k : Int) - ↑(atN b k)) % 18446744073709551616 - ↑c) % 18446744073709551616 % 4294967296 = ((if atN a k < atN b k + c then atN a k + 4294967296 - (atN b k + c) else atN a k - (atN b k + c) : Nat) : Int) := by
   split <;> omega
  rw [hd, hm]
  refine hX _ ⟨_, k + 1, rfl, by (try dsimp only) <;> omega, by (try dsimp only) <;> omega, by split <;> omega, by simp [hlo], WS_set hwo _ (by omega) (by split <;> omega), ?_⟩ (by (try dsimp only) <;> omega)
  simp only [Int.toNat_natCast]
  rw [val_set_take hkn, val_takeA a k, val_takeA b k, Int.toNat_natCast, Nat.pow_succ]
  have e : (if atN a k < atN b k + c then atN a k + 4294967296 - (atN b k + c) else atN a k - (atN b k + c)) + atN b k + c = atN a k + 4294967296 * (if atN a k < atN b k + c then 1 else 0) := by split <;> omega
  generalize (if atN a k < atN b k + c then 1 else 0) = c' at *
  generalize (if atN a k < atN b k + c then atN a k + 4294967296 - (atN b k + c) else atN a k - (atN b k + c)) = x at *
  grind
 ·have hkn : k = a.length := by omega
  subst hkn
  have hv' : val out = val a - val b := by
   rw [val_take_all (by omega), val_take_all (l := a) (by omega)] at hv
   have h1 := val_lt ha
   have h2 := val_lt hwo
   rw [hlo] at h2
   have hbt : val (b.take a.length) = val b := by
    rcases Nat.lt_or_ge b.length a.length with h | h
    ·exact val_take_all (by omega)
    ·have h3 := val_split b a.length h
     have h4 : val (b.drop a.length) = 0 := by
      rcases Nat.eq_zero_or_pos (val (b.drop a.length)) with h | h
      ·exact h
      ·have : 4294967296 ^ a.length * 1 ≤ 4294967296 ^ a.length * val (b.drop a.length) := Nat.mul_le_mul_left _ h
       omega
     rw [h4] at h3; omega
   rw [hbt] at hv
   have h3 : c = 0 := by
    rcases Nat.eq_zero_or_pos c with h | h
    ·exact h
    ·have : c = 1 := by omega
     subst this; omega
   subst h3
   omega
  refine ⟨_, nat_trim_says out hwo (by omega), ?_⟩
  rw [hv']
theorem nat_Mul_says (a b : List Int) (ha : WS a) (hb : WS b) (hla : a.length ≤ 10000000) (hlb : b.length ≤ 10000000) : nat_Mul a b (words (val a * val b)) := by
 unfold nat_Mul
 have hn : IntKind.i64.wrap ((a.length : Int) + (b.length : Int)) = ((a.length + b.length : Nat) : Int) := by rw [wrap64' (by omega) (by omega)]; omega
 rw [hn, Int.toNat_natCast]
 refine ⟨⟨by omega, fits_of (by omega) (by omega), fits_of (by omega) (by omega)⟩, ?_⟩
 generalize hm : b.length = m at *
 refine LoopP.intro (fun z : Int × List Int => ∃ i : Nat, z.1 = i ∧ i ≤ a.length ∧ z.2.length = a.length + m ∧ WS z.2 ∧ val (z.2.take (i + m)) = val (a.take i) * val b) (fun z => a.length - z.1.toNat) ⟨0, rfl, by omega, by simp, WS_rep _, by simp [val_nil, List.take_replicate, val_rep]⟩ ?_
 rintro X ⟨z1, out⟩ ⟨i, h1, hi, hlo, hwo, hv⟩ hX
 simp only at h1 hlo hwo hv
 subst h1
 unfold nat_Mul_L1
 dsimp only
 refine IfB.dc (fun hlt => ?_) (fun hge => ?_)
 ·have hia : i < a.length := by omega
  have xa := WS_get ha hia
  refine ⟨_, Idx.nat hia, ?_⟩
  refine LoopP.intro (fun z : Int × Int × List Int => ∃ c k : Nat, z.1 = c ∧ z.2.1 = k ∧ k ≤ m ∧ c < 4294967296 ∧ z.2.2.length = a.length + m ∧ WS z.2.2 ∧ val (z.2.2.take (i + m)) + 4294967296 ^ (i + k) * c = val (out.take (i + m)) + 4294967296 ^ i * (a[i].toNat * val (b.take k))) (fun z => m - z.2.1.toNat) ⟨0, 0, rfl, rfl, by omega, by omega, hlo, hwo, by simp [val_nil]⟩ ?_
  rintro X2 ⟨z1, z2, o2⟩ ⟨c, k, h1, h2, hk, hc, hl2, hw2, hv2⟩ hX2
  simp only at h1 h2 hl2 hw2 hv2
  subst h1 h2
  unfold nat_Mul_L2
  dsimp only
  rw [hm]
  refine IfB.dc (fun hlt2 => ?_) (fun hge2 => ?_)
  ·have hkb : k < b.length := by omega
   have hik : i + k < o2.length := by omega
   have xb := WS_get hb hkb
   have xo := WS_get hw2 hik
   have ei : IntKind.i64.wrap ((i : Int) + (k : Int)) = ((i + k : Nat) : Int) := by rw [wrap64' (by omega) (by omega)]; omega
   rw [ei]
   refine ⟨_, Idx.nat hkb, _, Idx.nat hik, _, Idx.nat hik, ?_⟩
   have hxy : a[i].toNat * b[k].toNat ≤ 4294967295 * 4294967295 := Nat.mul_le_mul (by omega) (by omega)
   have exy : a[i] * b[k] = ((a[i].toNat * b[k].toNat : Nat) : Int) := by
    rw [Int.natCast_mul, Int.toNat_of_nonneg xa.1, Int.toNat_of_nonneg xb.1]
   have eo : o2[i + k] = ((o2[i + k].toNat : Nat) : Int) := by omega
   have eS : IntKind.u64.wrap ((c : Int) + IntKind.u64.wrap (IntKind.u64.wrap (IntKind.u64.wrap a[i] * IntKind.u64.wrap b[k]) + IntKind.u64.wrap o2[i + k])) = ((c + (a[i].toNat * b[k].toNat + o2[i + k].toNat) : Nat) : Int) := by
    rw [wrapu64 (n := a[i]) (by omega) (by omega), wrapu64 (n := b[k]) (by omega) (by omega), wrapu64 (n := o2[i + k]) (by omega) (by omega), exy]
    rw [wrapu64 (n := ((a[i].toNat * b[k].toNat : Nat) : Int)) (by omega) (by omega), wrapu64 (n := ((a[i].toNat * b[k].toNat : Nat) : Int) + o2[i + k]) (by omega) (by omega), wrapu64 (by omega) (by omega)]
    omega
   rw [eS, sh32, wrap64' (by omega) (by omega), wrapu32m]
   have hd : Int.fdiv ((c + (a[i].toNat * b[k].toNat + o2[i + k].toNat) : Nat) : Int) 4294967296 = (((c + (a[i].toNat * b[k].toNat + o2[i + k].toNat)) / 4294967296 : Nat) : Int) := by rw [Int.fdiv_eq_ediv_of_nonneg _ (by omega)]; rfl
   have hmo : ((c + (a[i].toNat * b[k].toNat + o2[i + k].toNat) : Nat) : Int) % 4294967296 = (((c + (a[i].toNat * b[k].toNat + o2[i + k].toNat)) % 4294967296 : Nat) : Int) := by rfl
   rw [hd, hmo]
   refine hX2 _ ⟨_, k + 1, rfl, by (try dsimp only) <;> omega, by (try dsimp only) <;> omega, by omega, by simp [hl2], WS_set hw2 _ (by omega) (by omega), ?_⟩ (by (try dsimp only) <;> omega)
   simp only [Int.toNat_natCast]
   have hikt : i + k < (o2.take (i + m)).length := by rw [List.length_take]; omega
   have hs := val_set hikt (((c + (a[i].toNat * b[k].toNat + o2[i + k].toNat)) % 4294967296 : Nat) : Int)
   rw [List.getElem_take, Int.toNat_natCast] at hs
   rw [List.take_set, val_take1 hkb]
   have e := Nat.div_add_mod (c + (a[i].toNat * b[k].toNat + o2[i + k].toNat)) 4294967296
   have ep : 4294967296 ^ (i + k) = 4294967296 ^ i * 4294967296 ^ k := Nat.pow_add _ _ _
   have ep2 : 4294967296 ^ (i + (k + 1)) = 4294967296 ^ i * 4294967296 ^ k * 4294967296 := by rw [← Nat.add_assoc, Nat.pow_succ, ep]
   rw [ep] at hs hv2
   rw [ep2]
   generalize (c + (a[i].toNat * b[k].toNat + o2[i + k].toNat)) / 4294967296 = c' at *
   generalize (c + (a[i].toNat * b[k].toNat + o2[i + k].toNat)) % 4294967296 = x at *
   generalize val ((o2.take (i + m)).set (i + k) (x : Int)) = v2 at *
   generalize val (o2.take (i + m)) = v1 at *
   generalize val (out.take (i + m)) = v0 at *
   generalize val (b.take k) = vb at *
   generalize o2[i + k].toNat = oo at *
   generalize a[i].toNat = ai at *
   generalize b[k].toNat = bk at *
   generalize 4294967296 ^ i = P at *
   generalize 4294967296 ^ k = R at *
   clear hX hX2 exy eS hd hmo
   grind
  ·have : k = m := by omega
   subst this
   have him : i + k < o2.length := by omega
   have ei : IntKind.i64.wrap ((i : Int) + (k : Int)) = ((i + k : Nat) : Int) := by rw [wrap64' (by omega) (by omega)]; omega
   rw [ei, wrap64' (by omega) (by omega), wrapu32 (by omega) (by omega)]
   refine ⟨_, Idx.nat him, hX _ ⟨i + 1, by (try dsimp only) <;> omega, by (try dsimp only) <;> omega, by simp [hl2], WS_set hw2 _ (by omega) (by omega), ?_⟩ (by (try dsimp only) <;> omega)⟩
   simp only [Int.toNat_natCast]
   rw [show i + 1 + k = i + k + 1 from by omega, val_set_take him, val_take1 hia, Int.toNat_natCast, hv2, hv]
   rw [val_take_all (l := b) (by omega)]
   grind
 ·have : i = a.length := by omega
  subst this
  refine ⟨_, nat_trim_says out hwo (by omega), ?_⟩
  rw [val_take_all (by omega), val_take_all (l := a) (by omega)] at hv
  rw [hv]
theorem or_add' {i a b : Nat} (h : b < 2 ^ i) : b ||| 2 ^ i * a = b + 2 ^ i * a := by rw [Nat.or_comm, or_add h]; omega
theorem nat_Shift_says (a : List Int) (n : Nat) (ha : WS a) (hla : a.length ≤ 10000000) (hn : n < 32) : nat_Shift a (n : Int) (words (val a * 2 ^ n)) := by
 unfold nat_Shift
 refine IfB.dc (fun h => by omega) (fun _ => IfB.dc (fun h => by omega) (fun _ => ?_))
 have hq : IntKind.i64.wrap (Int.tdiv (n : Int) (32 : Int)) = 0 := by
  rw [show Int.tdiv (n : Int) 32 = ((n / 32 : Nat) : Int) from rfl, show n / 32 = 0 from by omega]; decide
 have hr : Int.tmod (n : Int) 32 = (n : Int) := by rw [show Int.tmod (n : Int) 32 = ((n % 32 : Nat) : Int) from rfl, Nat.mod_eq_of_lt hn]
 unfold nat_Shift_L1
 rw [hq]
 simp only [hr, Int.add_zero]
 have hm : IntKind.i64.wrap ((IntKind.i64.wrap (a.length : Int)) + 1) = ((a.length + 1 : Nat) : Int) := by rw [wrap64' (n := (a.length : Int)) (by omega) (by omega), wrap64' (by omega) (by omega)]; omega
 rw [hm, Int.toNat_natCast]
 refine ⟨⟨by omega, fits_of (by omega) (by omega), fits_of (by omega) (by omega)⟩, ?_⟩
 have hP : 2 ^ n ≤ 2147483648 := Nat.le_trans (Nat.pow_le_pow_right (n := 2) (by omega) (show n ≤ 31 from by omega)) (by decide)
 have hP2 : 2 ^ n * 2 ^ (32 - n) = 4294967296 := by rw [← Nat.pow_add, show n + (32 - n) = 32 from by omega]
 have hsh : (2 : Int) ^ (min (Int.toNat (n : Int)) (IntKind.bits .u64)) = ((2 ^ n : Nat) : Int) := by
  have : min n 64 = n := by omega
  simp [IntKind.bits, this]
 refine LoopP.intro (fun z : Int × List Int => ∃ i : Nat, z.1 = i ∧ i ≤ a.length ∧ z.2.length = a.length + 1 ∧ WS z.2 ∧ val (z.2.take (i + 1)) = val (a.take i) * 2 ^ n ∧ atN z.2 i < 2 ^ n ∧ ∀ j, i < j → atN z.2 j = 0) (fun z => a.length - z.1.toNat) ⟨0, rfl, by omega, by simp, WS_rep _, by simp [val_nil, val_cons, List.take_replicate, val_rep], ?_, ?_⟩ ?_
 ·simp [atN]; exact Nat.two_pow_pos n
 ·intro j _; unfold atN; split
  ·simp
  ·rfl
 rintro X ⟨z1, out⟩ ⟨i, h1, hi, hlo, hwo, hv, ht, hz⟩ hX
 simp only at h1 hlo hwo hv ht hz
 subst h1
 dsimp only
 refine IfB.dc (fun hlt => ?_) (fun hge => ?_)
 ·have hia : i < a.length := by omega
  have hio : i < out.length := by omega
  have hio1 : i + 1 < out.length := by omega
  have xa := WS_get ha hia
  have xo := WS_get hwo hio
  rw [wrap64' (n := (i : Int)) (by omega) (by omega), wrap64' (n := (i : Int) + 1) (by omega) (by omega)]
  have ei1 : (i : Int) + 1 = ((i + 1 : Nat) : Int) := by omega
  rw [ei1]
  rw [hsh]
  have hy : a[i].toNat * 2 ^ n ≤ 4294967295 * 2147483648 := Nat.mul_le_mul (by omega) hP
  have ey : IntKind.u64.wrap (IntKind.u64.wrap a[i] * ((2 ^ n : Nat) : Int)) = ((a[i].toNat * 2 ^ n : Nat) : Int) := by
   rw [wrapu64 (n := a[i]) (by omega) (by omega)]
   have : a[i] * ((2 ^ n : Nat) : Int) = ((a[i].toNat * 2 ^ n : Nat) : Int) := by rw [Int.natCast_mul, Int.toNat_of_nonneg xa.1]
   rw [this, wrapu64 (by omega) (by omega)]
  refine ⟨_, Idx.nat hia, by omega, _, Idx.nat hio, _, Idx.nat hio, ?_⟩
  rw [ey, sh32, wrapu32m, show Int.fdiv ((a[i].toNat * 2 ^ n : Nat) : Int) 4294967296 = ((a[i].toNat * 2 ^ n / 4294967296 : Nat) : Int) from by rw [Int.fdiv_eq_ediv_of_nonneg _ (by omega)]; rfl,
   show ((a[i].toNat * 2 ^ n : Nat) : Int) % 4294967296 = ((a[i].toNat * 2 ^ n % 4294967296 : Nat) : Int) from rfl]
  have ehi : a[i].toNat * 2 ^ n / 4294967296 < 2 ^ n := by
   apply Nat.div_lt_of_lt_mul
   exact Nat.mul_lt_mul_of_pos_right (by omega) (Nat.two_pow_pos n)
  rw [wrapu32 (n := ((a[i].toNat * 2 ^ n / 4294967296 : Nat) : Int)) (by omega) (by omega)]
  have elo : a[i].toNat * 2 ^ n % 4294967296 = 2 ^ n * (a[i].toNat % 2 ^ (32 - n)) := by
   rw [← hP2, Nat.mul_comm a[i].toNat, Nat.mul_mod_mul_left]
  have e1 : out[i] = ((atN out i : Nat) : Int) := by unfold atN; rw [dif_pos hio]; omega
  have e3 : atN out i ||| a[i].toNat * 2 ^ n % 4294967296 = atN out i + a[i].toNat * 2 ^ n % 4294967296 := by rw [elo, or_add' ht]
  have e5 : atN out i + a[i].toNat * 2 ^ n % 4294967296 < 4294967296 := by
   rw [← e3]
   exact Nat.or_lt_two_pow (n := 32) (by omega) (by omega)
  have e4 : bitO .u32 out[i] ((a[i].toNat * 2 ^ n % 4294967296 : Nat) : Int) = ((atN out i + a[i].toNat * 2 ^ n % 4294967296 : Nat) : Int) := by
   rw [e1, bitO32 (by omega) (by omega) (by omega), e3]
  have e6 : bitO .u32 ((0 : Nat) : Int) ((a[i].toNat * 2 ^ n / 4294967296 : Nat) : Int) = ((a[i].toNat * 2 ^ n / 4294967296 : Nat) : Int) := by
   rw [bitO32 (by rw [Nat.zero_or]; omega) (by omega) (by omega), Nat.zero_or]
  rw [e4]
  have hI : Idx (out.set (Int.toNat (i : Int)) ((atN out i + a[i].toNat * 2 ^ n % 4294967296 : Nat) : Int)) ((i + 1 : Nat) : Int) ((0 : Nat) : Int) := by
   refine ⟨by omega, ?_⟩
   have h := hz (i + 1) (by omega)
   have h' := WS_get hwo hio1
   unfold atN at h; rw [dif_pos hio1] at h
   rw [Int.toNat_natCast, Int.toNat_natCast, List.getElem?_set_ne (by omega), List.getElem?_eq_getElem hio1]
   congr 1; omega
  refine ⟨_, hI, _, hI, ?_⟩
  rw [e6]
  simp only [Int.toNat_natCast]
  refine hX _ ⟨i + 1, by (try dsimp only) <;> omega, by (try dsimp only) <;> omega, by simp [hlo], WS_set (WS_set hwo _ (by omega) (by omega)) _ (by omega) (by omega), ?_, ?_, ?_⟩ (by (try dsimp only) <;> omega)
  ·dsimp only
   rw [val_set_take (by simpa using hio1), val_set_take hio, val_take1 hia, Int.toNat_natCast, Int.toNat_natCast]
   rw [val_takeA] at hv
   have e := Nat.div_add_mod (a[i].toNat * 2 ^ n) 4294967296
   rw [Nat.pow_succ]
   generalize a[i].toNat * 2 ^ n / 4294967296 = c' at *
   generalize a[i].toNat * 2 ^ n % 4294967296 = x at *
   clear hX e1 hI e3 e4 e5 e6 elo ey
   grind
  ·dsimp only
   unfold atN; rw [dif_pos (by simpa using hio1), List.getElem_set_self, Int.toNat_natCast]; exact ehi
  ·intro j hj
   dsimp only
   have h := hz j (by omega)
   unfold atN at h ⊢
   simp only [List.length_set]
   split
   ·rename_i hjl
    rw [dif_pos hjl] at h
    rw [List.getElem_set_ne (by omega), List.getElem_set_ne (by omega)]; exact h
   ·rfl
 ·have : i = a.length := by omega
  subst this
  refine ⟨_, nat_trim_says out hwo (by omega), ?_⟩
  rw [val_take_all (by omega), val_take_all (l := a) (by omega)] at hv
  rw [hv]
theorem words_len_le {m n : Nat} (h : m ≤ n) : (words m).length ≤ (words n).length := by
 refine words_len _ _ ?_
 have := val_lt (WS_words n)
 rw [val_words] at this
 omega
theorem wl {a : List Int} (h : WS a) : (words (val a)).length ≤ a.length := words_len _ _ (val_lt h)
theorem nat_digit_says (A : Nat) (b : List Int) (hb : WS b) (hlA : (words A).length ≤ 9000000) (hlb : b.length ≤ 9000000) (h0 : 0 < val b) (hAB : A < 4294967296 * val b) : nat_digit (words A) b (((A / val b : Nat) : Int), words (A % val b)) := by
 unfold nat_digit
 generalize hB : val b = B at *
 refine LoopP.intro (fun z : List Int × Int × Int => ∃ q j t : Nat, j ≤ 32 ∧ z.2.2 = (j : Int) - 1 ∧ q = 2 ^ j * t ∧ z.2.1 = (q : Int) ∧ q * B ≤ A ∧ A - q * B < 2 ^ j * B ∧ z.1 = words (A - q * B)) (fun z => (z.2.2 + 1).toNat) ⟨0, 32, 0, by omega, rfl, by omega, rfl, by omega, by omega, by simp⟩ ?_
 rintro X ⟨z1, z2, z3⟩ ⟨q, j, t, hj, h3, hq, h2, hle, hlt, h1⟩ hX
 simp only at h1 h2 h3
 subst h1 h2 h3
 unfold nat_digit_L1
 dsimp only
 refine IfB.dc (fun hj0 => ?_) (fun hj0 => ?_)
 ·obtain ⟨k, rfl⟩ : ∃ k, j = k + 1 := ⟨j - 1, by omega⟩
  have ek : ((k + 1 : Nat) : Int) - 1 = (k : Int) := by omega
  simp only [ek]
  have hs := nat_Shift_says b k hb (by omega) (by omega)
  rw [hB] at hs
  have hls : (words (B * 2 ^ k)).length ≤ b.length + 1 := by
   refine words_len _ _ ?_
   have h5 := val_lt hb
   rw [hB] at h5
   have h7 : 2 ^ k ≤ 4294967296 := Nat.le_trans (Nat.pow_le_pow_right (n := 2) (by omega) (show k ≤ 32 from by omega)) (by decide)
   rw [Nat.pow_succ]
   exact Nat.lt_of_lt_of_le (Nat.mul_lt_mul_of_pos_right h5 (Nat.two_pow_pos k)) (Nat.mul_le_mul_left _ h7)
  have hsub := nat_Sub_says (words (A - q * B)) (words (B * 2 ^ k)) (WS_words _) (WS_words _) (by have := words_len_le (show A - q * B ≤ A from by omega); omega) (by omega)
  rw [val_words, val_words] at hsub
  refine ⟨_, hs, ?_⟩
  have ep : 2 ^ (k + 1) = 2 ^ k * 2 := Nat.pow_succ 2 k
  rw [ep] at hq hlt
  by_cases hc : A - q * B < B * 2 ^ k
  ·rw [if_pos hc] at hsub
   refine ⟨_, _, hsub, IfB_false.2 ?_⟩
   rw [wrap64' (by omega) (by omega)]
   refine hX _ ⟨q, k, 2 * t, by omega, rfl, by rw [hq]; grind, rfl, hle, by rw [Nat.mul_comm (2 ^ k)]; exact hc, rfl⟩ (by (try dsimp only) <;> omega)
  ·rw [if_neg hc] at hsub
   refine ⟨_, _, hsub, IfB_true.2 ⟨by omega, ?_⟩⟩
   have hq1 : (q + 2 ^ k) * B ≤ A := by
    rw [Nat.add_mul, Nat.mul_comm (2 ^ k) B]; omega
   have hq2 : q + 2 ^ k < 4294967296 := by
    apply Nat.lt_of_mul_lt_mul_right (a := B)
    omega
   have hk31 : min k 32 = k := by omega
   have e0 : (1 : Int) * 2 ^ (min (Int.toNat (k : Int)) (IntKind.bits .u32)) = ((2 ^ k : Nat) : Int) := by
    rw [show min (Int.toNat (k : Int)) (IntKind.bits .u32) = k from Nat.min_eq_left (show k ≤ 32 by omega)]; simp
   have e1 : IntKind.u32.wrap ((1 : Int) * 2 ^ (min (Int.toNat (k : Int)) (IntKind.bits .u32))) = ((2 ^ k : Nat) : Int) := by
    rw [e0, wrapu32 (by omega) (by omega)]
   have e2 : q ||| 2 ^ k = q + 2 ^ k := by
    rw [hq, show 2 ^ k * 2 * t = 2 ^ (k + 1) * t from by rw [ep], or_add (Nat.pow_lt_pow_right (by omega) (by omega))]
   rw [e1, bitO32 (by omega) (by omega) (by omega), e2, wrap64' (by omega) (by omega)]
   refine hX _ ⟨q + 2 ^ k, k, 2 * t + 1, by omega, rfl, by rw [hq]; grind, rfl, hq1, ?_, ?_⟩ (by (try dsimp only) <;> omega)
   ·rw [Nat.add_mul]; rw [Nat.mul_comm B] at hc; generalize hz : 2 ^ k * B = z at *; have : 2 ^ k * 2 * B = 2 * z := by rw [← hz]; grind
    omega
   ·dsimp only; congr 1; rw [Nat.add_mul, Nat.mul_comm B]; omega
 ·have : j = 0 := by omega
  subst this
  simp only [Nat.pow_zero, Nat.one_mul] at hlt
  have hdiv : A / B = q := by
   apply Nat.div_eq_of_lt_le
   ·exact hle
   ·rw [Nat.add_mul]; omega
  have hmod : A % B = A - q * B := by
   have := Nat.div_add_mod A B
   rw [hdiv, Nat.mul_comm] at this
   omega
  rw [hdiv, hmod]
theorem isE_words (n : Nat) : (words n).isEmpty = decide (n = 0) := by
 by_cases h : n = 0
 ·subst h; rw [words_zero]; rfl
 ·rw [words_pos h]; simp [h]
theorem nat_DivMod_says (a b : List Int) (ha : WS a) (hb : WS b) (hla : a.length ≤ 8000000) (hlb : b.length ≤ 8000000) : nat_DivMod a b (if val b = 0 then ([], [], 5) else (words (val a / val b), words (val a % val b), 0)) := by
 unfold nat_DivMod
 refine ⟨_, nat_trim_says a ha (by omega), _, nat_trim_says b hb (by omega), ?_⟩
 have hlA := wl ha
 have hlB := wl hb
 generalize val a = a at *
 generalize hbb : val b = b at *
 by_cases hb0 : b = 0
 ·subst hb0
  rw [if_pos rfl, words_zero]
  exact ⟨fun _ => rfl, fun h => absurd h (by simp)⟩
 rw [if_neg hb0]
 have hBl : 0 < (words b).length := words_len_pos.2 hb0
 refine IfB.eqI (fun h => by omega) (fun _ => ?_)
 rw [Int.toNat_natCast]
 refine ⟨⟨by omega, fits_of (by omega) (by omega), fits_of (by omega) (by omega)⟩, ?_⟩
 have wA := WS_words a
 have vA := val_words a
 generalize words a = A at *
 refine LoopP.intro (fun z : Int × List Int × List Int => ∃ j R : Nat, j ≤ A.length ∧ z.1 = (j : Int) - 1 ∧ z.2.1 = words R ∧ R < b ∧ z.2.2.length = A.length ∧ WS z.2.2 ∧ val (z.2.2.drop j) * b + R = val (A.drop j)) (fun z => (z.1 + 1).toNat) ⟨A.length, 0, by omega, by rw [wrap64' (by omega) (by omega)], words_zero.symm, by omega, by simp, WS_rep _, by simp [val_nil]⟩ ?_
 rintro X ⟨z1, z2, out⟩ ⟨j, R, hj, h1, h2, hR, hlo, hwo, hv⟩ hX
 simp only at h1 h2 hlo hwo hv
 subst h1 h2
 unfold nat_DivMod_L1
 dsimp only
 refine IfB.dc (fun hj0 => ?_) (fun hj0 => ?_)
 ·obtain ⟨k, rfl⟩ : ∃ k, j = k + 1 := ⟨j - 1, by omega⟩
  have ek : ((k + 1 : Nat) : Int) - 1 = (k : Int) := by omega
  simp only [ek]
  have hkA : k < A.length := by omega
  have hko : k < out.length := by omega
  have xa := WS_get wA hkA
  have hlR : (words R).length ≤ 8000000 := by have := words_len_le (show R ≤ b from by omega); omega
  have hVlt : A[k].toNat + 4294967296 * R < 4294967296 * b := by omega
  have t1 : (words R).isEmpty = true → nat_trim [A[k]] (words (A[k].toNat + 4294967296 * R)) := fun he => by
   rw [isE_words] at he
   have : R = 0 := by simpa using he
   subst this
   have := nat_trim_says [A[k]] (WS_cons.2 ⟨xa, WS_nil⟩) (by simp)
   rw [val_cons, val_nil] at this
   exact this
  have t2 : nat_trim ([A[k]] ++ words R) (words (A[k].toNat + 4294967296 * R)) := by
   have := nat_trim_says ([A[k]] ++ words R) (WS_cons.2 ⟨xa, WS_words R⟩) (by simp; omega)
   rw [show [A[k]] ++ words R = A[k] :: words R from rfl, val_cons, val_words] at this
   exact this
  have hlV : (words (A[k].toNat + 4294967296 * R)).length ≤ (words R).length + 1 := by
   refine words_len _ _ ?_
   have h5 := val_lt (WS_words R)
   rw [val_words] at h5
   rw [Nat.pow_succ]
   omega
  have step : ∀ q r : Nat, q = (A[k].toNat + 4294967296 * R) / b → r = (A[k].toNat + 4294967296 * R) % b → X (IntKind.i64.wrap ((k : Int) - 1), words r, out.set (Int.toNat (k : Int)) (q : Int)) := fun q r hq hr => by
   have hqr := Nat.div_add_mod (A[k].toNat + 4294967296 * R) b
   have hrb := Nat.mod_lt (A[k].toNat + 4294967296 * R) (show b > 0 from by omega)
   have hqlt : (A[k].toNat + 4294967296 * R) / b < 4294967296 := Nat.div_lt_of_lt_mul (by rw [Nat.mul_comm b]; exact hVlt)
   rw [← hq] at hqr hqlt
   rw [← hr] at hqr hrb
   rw [wrap64' (by omega) (by omega), Int.toNat_natCast]
   refine hX _ ⟨k, r, by omega, rfl, rfl, hrb, by simp [hlo], WS_set hwo _ (by omega) (by omega), ?_⟩ (by (try dsimp only) <;> omega)
   dsimp only
   have hset : k < (out.set k (q : Int)).length := by simpa using hko
   rw [drop_cons hset, drop_cons hkA, val_cons, val_cons, List.getElem_set_self, List.drop_set_of_lt (by omega), ← hv]
   rw [Int.toNat_natCast]
   generalize val (out.drop (k + 1)) = D at *
   generalize A[k].toNat = x at *
   clear hX t1 t2
   grind
  clear hX
  generalize A[k].toNat + 4294967296 * R = V at *
  refine ⟨_, Idx.nat hkA, IfB.intro (fun he => ⟨_, t1 he, ?_⟩) (fun _ => ⟨fits_of (by simp; omega) (by omega), _, t2, ?_⟩)⟩
  all_goals
   clear t1 t2
   refine IfB.eqI (fun h1 => ?_) (fun h1 => ?_)
   ·have hb1 : b < 4294967296 := by
     have h := val_lt (WS_words b)
     rw [val_words, show (words b).length = 1 from by omega] at h
     simpa using h
    have hB : words b = [(b : Int)] := words_one hb0 hb1
    have hVs : V < 18446744073709551616 := by omega
    have hS := nat_Small_says (words V) (WS_words V) (by omega) (by rw [val_words]; exact hVs)
    rw [val_words] at hS
    have hI : Idx (words b) 0 (b : Int) := by rw [hB]; exact ⟨by omega, rfl⟩
    have hwb : IntKind.u64.wrap (b : Int) = (b : Int) := wrapu64 (by omega) (by omega)
    have hO := nat_Of_says (V % b) (by have := Nat.mod_lt V (show b > 0 from by omega); omega)
    refine ⟨_, _, hS, IfB_true.2 ⟨_, hI, ?_⟩⟩
    rw [hwb]
    refine ⟨by omega, _, Idx.nat hko, _, hI, ?_⟩
    rw [hwb]
    refine ⟨by omega, _, hO, ?_⟩
    have ed : IntKind.u32.wrap (IntKind.u64.wrap (Int.tdiv (V : Int) (b : Int))) = ((V / b : Nat) : Int) := by
     have hqlt : V / b < 4294967296 := Nat.div_lt_of_lt_mul (by rw [Nat.mul_comm b]; exact hVlt)
     rw [show Int.tdiv (V : Int) (b : Int) = ((V / b : Nat) : Int) from rfl]
     generalize V / b = q at *
     rw [wrapu64 (by omega) (by omega), wrapu32 (by omega) (by omega)]
    rw [ed]
    exact step _ _ rfl rfl
   ·have hd := nat_digit_says V (words b) (WS_words b) (by omega) (by omega) (by rw [val_words]; omega) (by rw [val_words]; exact hVlt)
    rw [val_words] at hd
    exact ⟨_, _, hd, _, Idx.nat hko, step _ _ rfl rfl⟩
 ·have : j = 0 := by omega
  subst this
  simp only [List.drop_zero, vA] at hv
  refine ⟨_, nat_trim_says out hwo (by omega), ?_⟩
  have hdiv : a / b = val out := by
   apply Nat.div_eq_of_lt_le
   ·omega
   ·rw [Nat.add_mul]; omega
  have hmod : a % b = R := by
   have := Nat.div_add_mod a b
   rw [hdiv, Nat.mul_comm] at this
   omega
  rw [hdiv, hmod]
theorem nat_Gcd_says (a b : List Int) (ha : WS a) (hb : WS b) (hla : a.length ≤ 8000000) (hlb : b.length ≤ 8000000) : nat_Gcd a b (words (Nat.gcd (val a) (val b))) := by
 unfold nat_Gcd
 refine ⟨_, nat_trim_says a ha (by omega), _, nat_trim_says b hb (by omega), ?_⟩
 have hlA := wl ha
 have hlB := wl hb
 generalize val a = a at *
 generalize val b = b at *
 refine LoopP.intro (fun z : List Int × List Int => ∃ x y : Nat, z.1 = words x ∧ z.2 = words y ∧ Nat.gcd x y = Nat.gcd a b ∧ (words x).length ≤ 8000000 ∧ (words y).length ≤ 8000000) (fun z => val z.2) ⟨a, b, rfl, rfl, rfl, by omega, by omega⟩ ?_
 rintro X ⟨z1, z2⟩ ⟨x, y, h1, h2, hg, hx, hy⟩ hX
 simp only at h1 h2
 subst h1 h2
 unfold nat_Gcd_L1
 dsimp only
 refine IfB.dc (fun h => ?_) (fun h => ?_)
 ·have hy0 : y ≠ 0 := words_len_pos.1 (by omega)
  have hd := nat_DivMod_says (words x) (words y) (WS_words x) (WS_words y) hx hy
  rw [val_words, val_words, if_neg hy0] at hd
  have hlt := Nat.mod_lt x (show y > 0 from by omega)
  refine ⟨_, _, _, hd, hX _ ⟨y, x % y, rfl, rfl, ?_, hy, ?_⟩ ?_⟩
  ·rw [← hg, Nat.gcd_comm y, ← Nat.gcd_rec, Nat.gcd_comm]
  ·have := words_len_le (show x % y ≤ y from by omega); omega
  ·dsimp only; rw [val_words, val_words]; exact hlt
 ·have hy0 : y = 0 := by
   rcases Nat.eq_zero_or_pos y with h' | h'
   ·exact h'
   ·have := words_len_pos.2 (show y ≠ 0 from by omega); omega
  subst hy0
  rw [← hg, Nat.gcd_zero_right]
end Go.Abs
end
