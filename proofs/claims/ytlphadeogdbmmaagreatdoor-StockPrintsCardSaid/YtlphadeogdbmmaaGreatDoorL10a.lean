/- Chapter 10, plain: numbers of digits alone, as they are read and printed; lines of words, as they are printed and read. -/
import Derived.Test.YtlphadeogdbmmaaGreatDoorLLin
import Derived.Test.YtlphadeogdbmmaaGreatDoorD10
namespace Go.Abs
open Go
set_option linter.unusedVariables false
set_option linter.unusedSimpArgs false
set_option linter.unnecessarySimpa false

abbrev Bs := List UInt8
def dig (b : UInt8) : Prop := 48 ≤ b.toNat ∧ b.toNat ≤ 57
instance (b : UInt8) : Decidable (dig b) := inferInstanceAs (Decidable (_ ∧ _))
def allDig (s : Bs) : Prop := ∀ b, b ∈ s → dig b
instance (s : Bs) : Decidable (allDig s) := inferInstanceAs (Decidable (∀ b, b ∈ s → dig b))
/-- The number that digits spell, behind acc. -/
def decV (acc : Nat) : Bs → Nat
  | [] => acc
  | b :: l => decV (acc * 10 + (b.toNat - 48)) l

theorem decV_nil (acc : Nat) : decV acc [] = acc := by rfl
theorem decV_cons (acc : Nat) (b : UInt8) (l : Bs) : decV acc (b :: l) = decV (acc * 10 + (b.toNat - 48)) l := by rfl
theorem dw_nil {p : UInt8 → Bool} : ∀ {l : Bs}, l.dropWhile p = [] ↔ ∀ x, x ∈ l → p x = true
  | [] => by simp
  | b :: l => by
    rw [List.dropWhile_cons]
    by_cases h : p b = true
    · rw [if_pos h, dw_nil]; simp [h]
    · rw [if_neg h]; simp [h]
theorem decV_ge : ∀ (l : Bs) (acc : Nat), acc ≤ decV acc l
  | [], acc => Nat.le_refl _
  | b :: l, acc => by have := decV_ge l (acc * 10 + (b.toNat - 48)); rw [decV_cons]; omega
theorem decV_app : ∀ (l m : Bs) (acc : Nat), decV acc (l ++ m) = decV (decV acc l) m
  | [], m, acc => rfl
  | b :: l, m, acc => by rw [List.cons_append, decV_cons, decV_cons]; exact decV_app l m _
theorem decV_lt : ∀ (l : Bs) (acc : Nat), allDig l → decV acc l < (acc + 1) * 10 ^ l.length
  | [], acc, _ => by rw [decV_nil]; simp
  | b :: l, acc, h => by
    have hb := h b (by simp)
    unfold dig at hb
    have := decV_lt l (acc * 10 + (b.toNat - 48)) fun c hc => h c (by simp [hc])
    rw [decV_cons]
    refine Nat.lt_of_lt_of_le this ?_
    rw [List.length_cons, Nat.pow_succ, Nat.mul_comm (10 ^ l.length) 10, ← Nat.mul_assoc]
    exact Nat.mul_le_mul_right _ (by omega)
theorem decV_low : ∀ (l : Bs) (acc : Nat), acc * 10 ^ l.length ≤ decV acc l
  | [], acc => by rw [decV_nil]; simp
  | b :: l, acc => by
    have := decV_low l (acc * 10 + (b.toNat - 48))
    rw [decV_cons]
    refine Nat.le_trans ?_ this
    rw [List.length_cons, Nat.pow_succ, Nat.mul_comm (10 ^ l.length) 10, ← Nat.mul_assoc]
    exact Nat.mul_le_mul_right _ (by omega)

def strip (s : Bs) : Bs := Lib.trimLeftS s [48]
theorem strip_cons (b : UInt8) (l : Bs) : strip (b :: l) = if b = 48 then strip l else b :: l := by
  unfold strip Lib.trimLeftS
  rw [List.dropWhile_cons]
  by_cases h : b = 48
  · subst h; simp
  · simp [h]
theorem strip_val : ∀ s : Bs, decV 0 (strip s) = decV 0 s
  | [] => rfl
  | b :: l => by
    rw [strip_cons]
    split
    · rename_i h; subst h; rw [strip_val l]; rfl
    · rfl
theorem strip_len : ∀ s : Bs, (strip s).length ≤ s.length
  | [] => Nat.le_refl _
  | b :: l => by
    rw [strip_cons]
    split
    · have := strip_len l; simp; omega
    · simp
theorem strip_dig : ∀ s : Bs, allDig s → allDig (strip s)
  | [], h => h
  | b :: l, h => by
    rw [strip_cons]
    split
    · exact strip_dig l fun c hc => h c (by simp [hc])
    · exact h
theorem strip_low : ∀ s : Bs, allDig s → 9 < (strip s).length → 1000000000 ≤ decV 0 s
  | [], _, h => by simp [strip, Lib.trimLeftS] at h
  | b :: l, hd, h => by
    rw [strip_cons] at h
    split at h
    · rename_i hb; subst hb
      have := strip_low l (fun c hc => hd c (by simp [hc])) h
      rw [decV_cons]; exact this
    · rename_i hb
      have hdb := hd b (by simp)
      unfold dig at hdb
      have hne : b.toNat ≠ 48 := fun e => hb ((u8 (c := 48) (by decide)).1 e)
      have h1 := decV_low l (0 * 10 + (b.toNat - 48))
      have h2 : 10 ^ 9 ≤ 10 ^ l.length := Nat.pow_le_pow_right (by omega) (by simp at h; omega)
      have h3 : 1 * 10 ^ l.length ≤ (0 * 10 + (b.toNat - 48)) * 10 ^ l.length := Nat.mul_le_mul_right _ (by omega)
      rw [decV_cons]
      omega
theorem strip_small (s : Bs) (h : allDig s) (hl : (strip s).length ≤ 9) : decV 0 s < 1000000000 := by
  have h1 := decV_lt (strip s) 0 (strip_dig s h)
  rw [strip_val] at h1
  have h2 : 10 ^ (strip s).length ≤ 10 ^ 9 := Nat.pow_le_pow_right (by omega) hl
  omega

theorem parse_dig : ∀ (l : Bs) (acc : Nat), allDig l → decV acc l < 1000000000 → Lib.parseUint10 acc l = .ok (decV acc l)
  | [], acc, _, _ => rfl
  | b :: l, acc, h, hv => by
    have hb := h b (by simp)
    unfold dig at hb
    have h1 := decV_ge l (acc * 10 + (b.toNat - 48))
    rw [decV_cons] at hv
    unfold Lib.parseUint10
    rw [if_pos hb, if_neg (by omega), if_neg (by omega), parse_dig l _ (fun c hc => h c (by simp [hc])) hv]
    rfl

theorem atoi_dig (s : Bs) (hne : s ≠ []) (h : allDig s) (hv : decV 0 s < 1000000000) : Lib.atoiAll s = .ok (decV 0 s : Int) := by
  cases s with
  | nil => exact absurd rfl hne
  | cons c r =>
    have hc := h c (by simp)
    unfold dig at hc
    unfold Lib.atoiAll
    simp only
    rw [if_neg (by omega)]
    unfold Lib.parseMag
    rw [if_neg (by simp), parse_dig _ 0 h hv]
    simp only
    rw [if_neg (by omega), if_neg (by omega), if_neg (by omega)]

abbrev ten : Bs := [48, 49, 50, 51, 52, 53, 54, 55, 56, 57]
theorem ten_dig (b : UInt8) : ten.contains b = true ↔ dig b := by
  unfold dig ten
  simp only [List.contains_cons, List.contains_nil, Bool.or_false, Bool.or_eq_true, beq_iff_eq]
  constructor
  · rintro (h | h | h | h | h | h | h | h | h | h) <;> subst h <;> decide
  · intro h
    have k : ∀ c : Nat, c < 256 → b.toNat = c → b = c.toUInt8 := fun c hc e => (u8 hc).1 e
    have := k 48 (by decide); have := k 49 (by decide); have := k 50 (by decide); have := k 51 (by decide); have := k 52 (by decide); have := k 53 (by decide); have := k 54 (by decide); have := k 55 (by decide); have := k 56 (by decide); have := k 57 (by decide)
    have : b.toNat = 48 ∨ b.toNat = 49 ∨ b.toNat = 50 ∨ b.toNat = 51 ∨ b.toNat = 52 ∨ b.toNat = 53 ∨ b.toNat = 54 ∨ b.toNat = 55 ∨ b.toNat = 56 ∨ b.toNat = 57 := by omega
    rcases this with e | e | e | e | e | e | e | e | e | e <;> simp_all
theorem trim_dig (s : Bs) : Lib.trimS s ten = [] ↔ allDig s := by
  unfold Lib.trimS Lib.trimLeftS Lib.trimRightS
  constructor
  · intro h b hb
    rw [← ten_dig]
    have h1 := dw_nil.1 h
    rcases List.mem_append.1 ((List.takeWhile_append_dropWhile (p := (ten.contains ·)) (l := s.reverse)) ▸ (List.mem_reverse.2 hb)) with h2 | h2
    · exact List.all_eq_true.1 (List.all_takeWhile (p := (ten.contains ·)) (l := s.reverse)) b h2
    · exact h1 b (List.mem_reverse.2 h2)
  · intro h
    have : s.reverse.dropWhile (ten.contains ·) = [] := dw_nil.2 fun x hx => (ten_dig x).2 (h x (List.mem_reverse.1 hx))
    rw [this]; rfl

/-- What a word reads as, of a few digits; -1: it is no number. -/
def numS (s : Bs) : Int := if s ≠ [] ∧ allDig s ∧ (strip s).length ≤ 9 ∧ s.length ≤ 400 then (decV 0 s : Nat) else -1

theorem ascii_ten : Ascii ten := by unfold Ascii ten; intro b hb; simp at hb; rcases hb with h | h | h | h | h | h | h | h | h | h <;> subst h <;> decide

theorem stock_number_says (s : Bs) (hl : s.length ≤ 1000000) : stock_number s (numS s) := by
  unfold stock_number
  have bad : ∀ (P : Prop), (¬ (s ≠ [] ∧ allDig s ∧ (strip s).length ≤ 9 ∧ s.length ≤ 400)) → numS s = -1 := fun _ h => if_neg h
  cases ha : Lib.atoiAll s with
  | range => exact ⟨_, true, ⟨by omega, by rw [ha]⟩, IfB_true.2 (bad True fun ⟨h1, h2, h3, _⟩ => by rw [atoi_dig s h1 h2 (strip_small s h2 h3)] at ha; cases ha)⟩
  | ok v =>
    refine ⟨v, false, ⟨by omega, by rw [ha]⟩, IfB_false.2 ⟨_, ⟨by unfold Short; omega, by unfold Short; decide, ascii_ten, rfl⟩, ?_⟩⟩
    refine IfB.bool (fun h => bad True fun ⟨_, h2, _⟩ => ?_) (fun h => ?_)
    · have := (trim_dig s).2 h2
      unfold ten at this
      rw [this] at h; simp at h
    · have hd : allDig s := (trim_dig s).1 (by simpa using h)
      refine ⟨strip s, ⟨by unfold Short; omega, by unfold Short; decide, by unfold Ascii; decide, rfl⟩, IfB.dec (fun h9 => bad True fun ⟨_, _, h3, _⟩ => by omega) (fun h9 => IfB.dec (fun h4 => bad True fun ⟨_, _, _, h5⟩ => by omega) (fun h4 => ?_))⟩
      have hne : s ≠ [] := fun e => by subst e; cases ha
      have h9' : (strip s).length ≤ 9 := by omega
      unfold numS
      rw [if_pos ⟨hne, hd, h9', by omega⟩]
      rw [atoi_dig s hne hd (strip_small s hd h9')] at ha
      cases ha; rfl
  | _ => exact ⟨0, true, ⟨by omega, by rw [ha]⟩, IfB_true.2 (bad True fun ⟨h1, h2, h3, _⟩ => by rw [atoi_dig s h1 h2 (strip_small s h2 h3)] at ha; cases ha)⟩

/-- What the document reads, at most a bound. -/
def numR (s : Bs) (most : Nat) : Int := if s ≠ [] ∧ allDig s ∧ s.length ≤ 400 ∧ decV 0 s ≤ most then (decV 0 s : Nat) else -1

theorem num_eq (s : Bs) (most : Nat) (hm : most < 1000000000) : (0 ≤ numR s most → numS s = numR s most ∧ numR s most ≤ most) ∧ (numR s most < 0 → numS s = -1 ∨ (most : Int) < numS s) := by
  unfold numR
  split
  · rename_i h
    obtain ⟨h1, h2, h3, h4⟩ := h
    refine ⟨fun _ => ⟨?_, by omega⟩, fun h => by omega⟩
    have hs : (strip s).length ≤ 9 := by
      by_cases hs : (strip s).length ≤ 9
      · exact hs
      · have := strip_low s h2 (by omega); omega
    unfold numS
    rw [if_pos ⟨h1, h2, hs, h3⟩]
  · rename_i h
    refine ⟨fun h => by omega, fun _ => ?_⟩
    unfold numS
    split
    · rename_i h'
      right
      have : ¬ decV 0 s ≤ most := fun h4 => h ⟨h'.1, h'.2.1, h'.2.2.2, h4⟩
      omega
    · exact .inl rfl

theorem wrap8 {z : Int} (h : 0 ≤ z ∧ z < 256) : IntKind.u8.wrap z = z := by
  simp only [IntKind.wrap, IntKind.signed, IntKind.bits]; simp; omega

theorem offcutref10_number_says (s : Bs) (most : Nat) (hm : most ≤ 1000000000) (hl : s.length ≤ 1000000) : offcutref10_number s most (numR s most) := by
  unfold offcutref10_number
  refine LoopP.intro (fun z : Int × Int => ∃ i : Nat, z.2 = i ∧ i ≤ s.length ∧ allDig (s.take i) ∧ ∃ n : Nat, z.1 = n ∧ n ≤ 10 * most + 9 ∧ ((n ≤ most ∧ n = decV 0 (s.take i)) ∨ (most < n ∧ most < decV 0 (s.take i)))) (fun z => s.length - z.2.toNat) ⟨0, rfl, Nat.zero_le _, by intro b hb; simp at hb, 0, rfl, by omega, .inl ⟨by omega, rfl⟩⟩ ?_
  rintro X ⟨z, w⟩ ⟨i, hw, hi, hd, n, hz, hn, hv⟩ hX
  simp only at hw hz
  subst hw; subst hz
  unfold offcutref10_number_L1
  refine IfB.dec (fun hlt => ?_) (fun hge => ?_)
  · have hlt' : i < s.length := by omega
    have hb := List.getElem?_eq_getElem hlt'
    have hi' : Idx s (i : Int) s[i] := ⟨Int.natCast_nonneg _, by simpa using hb⟩
    have htk : s.take (i + 1) = s.take i ++ [s[i]] := by rw [List.take_add_one, hb]; rfl
    have nod : ¬ dig s[i] → numR s most = -1 := fun h => by
      unfold numR
      rw [if_neg]
      rintro ⟨_, h2, _⟩
      exact h (h2 _ (List.getElem_mem hlt'))
    refine ⟨s[i], hi', IfB.dec (fun h => nod fun hd => by unfold dig at hd; omega) (fun h1 => ⟨s[i], hi', IfB.dec (fun h => nod fun hd => by unfold dig at hd; omega) (fun h2 => ?_)⟩)⟩
    have hdi : dig s[i] := ⟨by omega, by omega⟩
    have hd' : allDig (s.take (i + 1)) := by
      rw [htk]
      intro b hb
      rcases List.mem_append.1 hb with h | h
      · exact hd b h
      · simp at h; subst h; exact hdi
    have hvv : decV 0 (s.take (i + 1)) = decV 0 (s.take i) * 10 + (s[i].toNat - 48) := by rw [htk, decV_app, decV_cons, decV_nil]
    have ei : IntKind.i64.wrap ((i : Int) + 1) = ((i + 1 : Nat) : Int) := by rw [wrap64 (by constructor <;> omega)]; simp
    rw [ei]
    refine IfB.dec (fun hle => ⟨s[i], hi', ?_⟩) (fun hle => ?_)
    · have hnm : n ≤ most := by omega
      have e1 : IntKind.u8.wrap (((s[i].toNat : Nat) : Int) - 48) = ((s[i].toNat - 48 : Nat) : Int) := by
        rw [wrap8 (by unfold dig at hdi; omega)]; unfold dig at hdi; omega
      have e2 : IntKind.i64.wrap (IntKind.i64.wrap ((n : Int) * 10) + IntKind.i64.wrap (IntKind.u8.wrap (((s[i].toNat : Nat) : Int) - 48))) = ((n * 10 + (s[i].toNat - 48) : Nat) : Int) := by
        unfold dig at hdi
        rw [e1, wrap64 (n := (n : Int) * 10) (by constructor <;> omega), wrap64 (n := ((s[i].toNat - 48 : Nat) : Int)) (by constructor <;> omega), wrap64 (by constructor <;> omega)]
        omega
      rw [e2]
      refine hX _ ⟨i + 1, rfl, hlt', hd', _, rfl, by unfold dig at hdi; omega, ?_⟩ (by simp; omega)
      rcases hv with ⟨_, hv⟩ | ⟨h, _⟩
      · rw [hvv, ← hv]
        by_cases h : n * 10 + (s[i].toNat - 48) ≤ most
        · exact .inl ⟨h, rfl⟩
        · exact .inr ⟨by omega, by omega⟩
      · omega
    · refine hX _ ⟨i + 1, rfl, hlt', hd', n, rfl, hn, .inr ?_⟩ (by simp; omega)
      rcases hv with ⟨h, _⟩ | ⟨h1, h2⟩
      · omega
      · exact ⟨h1, by rw [hvv]; omega⟩
  · have e : i = s.length := by omega
    subst e
    rw [List.take_length] at hd hv
    have no : ¬ (s ≠ [] ∧ allDig s ∧ s.length ≤ 400 ∧ decV 0 s ≤ most) → numR s most = -1 := fun h => if_neg h
    refine IfB.bool (fun h => no fun ⟨h1, _⟩ => h1 (by simpa using h)) (fun h => IfB.dec (fun h4 => no fun ⟨_, _, h3, _⟩ => by omega) (fun h4 => IfB.dec (fun h5 => no fun ⟨_, _, _, h6⟩ => ?_) (fun h5 => ?_)))
    · rcases hv with ⟨h, _⟩ | ⟨_, h⟩ <;> omega
    · rcases hv with ⟨h6, h7⟩ | ⟨h6, _⟩
      · unfold numR
        rw [if_pos ⟨by simpa using h, hd, by omega, by omega⟩, h7]
      · omega

/-! ### numbers as they are printed -/
theorem decD_eq (u : Nat) : Lib.decDigits u = if u < 10 then [UInt8.ofNat (48 + u)] else Lib.decDigits (u / 10) ++ [UInt8.ofNat (48 + u % 10)] := by
  rw [Lib.decDigits]; by_cases h : u < 10 <;> simp [h]
theorem digit_byte {d : Nat} (hd : d < 10) : (UInt8.ofNat (48 + d)).toNat = 48 + d := by simp; omega
theorem decV_one (acc d : Nat) (hd : d < 10) : decV acc [UInt8.ofNat (48 + d)] = acc * 10 + d := by
  rw [decV_cons, decV_nil, digit_byte hd]; omega
theorem decD_dig : ∀ (u : Nat), allDig (Lib.decDigits u) ∧ Lib.decDigits u ≠ [] ∧ decV 0 (Lib.decDigits u) = u := by
  intro u
  induction u using Nat.strongRecOn with
  | _ u ih =>
    have one : ∀ d : Nat, d < 10 → dig (UInt8.ofNat (48 + d)) := fun d hd => by unfold dig; rw [digit_byte hd]; omega
    rw [decD_eq]
    by_cases h : u < 10
    · rw [if_pos h]
      refine ⟨fun b hb => by rw [List.mem_singleton] at hb; subst hb; exact one u h, by simp, ?_⟩
      rw [decV_one _ _ h]; omega
    · rw [if_neg h]
      have hm := Nat.mod_lt u (show 10 > 0 by omega)
      obtain ⟨i1, i2, i3⟩ := ih (u / 10) (by omega)
      refine ⟨fun b hb => ?_, by simp, ?_⟩
      · rcases List.mem_append.1 hb with hb | hb
        · exact i1 b hb
        · rw [List.mem_singleton] at hb; subst hb; exact one _ hm
      · rw [decV_app, i3, decV_one _ _ hm]; omega
theorem decD_len : ∀ (k u : Nat), u < 10 ^ (k + 1) → (Lib.decDigits u).length ≤ k + 1
  | 0, u, h => by rw [decD_eq, if_pos (by simpa using h)]; simp
  | k + 1, u, h => by
    rw [decD_eq]
    by_cases hu : u < 10
    · rw [if_pos hu]; simp
    · rw [if_neg hu]
      have := decD_len k (u / 10) (by rw [Nat.pow_succ] at h; omega)
      simp; omega
theorem itoa_nat (u : Nat) : Lib.itoa (u : Int) = Lib.decDigits u := by
  unfold Lib.itoa; rw [if_neg (by omega)]; simp
theorem itoa_num (u : Nat) (h : u < 1000000000) : numS (Lib.itoa (u : Int)) = u := by
  rw [itoa_nat]
  obtain ⟨h1, h2, h3⟩ := decD_dig u
  have h4 := decD_len 8 u (by omega)
  have h5 := strip_len (Lib.decDigits u)
  unfold numS
  rw [if_pos ⟨h2, h1, by omega, by omega⟩, h3]

/-! ### lines of words -/
def wdOK (w : Bs) : Prop := w ≠ [] ∧ ∀ b, b ∈ w → 33 ≤ b.toNat ∧ b.toNat ≤ 126 ∧ b.toNat ≠ 35
theorem dig_wd {s : Bs} (hne : s ≠ []) (h : allDig s) : wdOK s := ⟨hne, fun b hb => by have := h b hb; unfold dig at this; omega⟩
theorem wd_sp {w : Bs} (h : wdOK w) : w ≠ [] ∧ ∀ b, b ∈ w → Lib.isSp b = false := by
  refine ⟨h.1, fun b hb => ?_⟩
  have hr := h.2 b hb
  have k : ∀ c : Nat, c < 256 → b.toNat ≠ c → (b == c.toUInt8) = false := fun c hc h => by
    rw [beq_eq_false_iff_ne]; exact fun e => h ((u8 hc).2 e)
  have h9 := k 9 (by decide) (by omega); have h10 := k 10 (by decide) (by omega); have h11 := k 11 (by decide) (by omega); have h12 := k 12 (by decide) (by omega); have h13 := k 13 (by decide) (by omega); have h32 := k 32 (by decide) (by omega)
  unfold Lib.isSp
  simp at h9 h10 h11 h12 h13 h32 ⊢
  exact ⟨⟨⟨⟨⟨h9, h10⟩, h11⟩, h12⟩, h13⟩, h32⟩

/-- A line's text. -/
def lineT (ws : Ws) : Bs := Lib.join ws [32]
theorem line_mem {ws : Ws} (h : ∀ w, w ∈ ws → wdOK w) {b : UInt8} (hb : b ∈ lineT ws) : 32 ≤ b.toNat ∧ b.toNat ≤ 126 ∧ b.toNat ≠ 35 := by
  rcases join_mem hb with rfl | ⟨w, hw, hb⟩
  · decide
  · have := (h w hw).2 b hb; omega
theorem line_words {ws : Ws} (h : ∀ w, w ∈ ws → wdOK w) : wordsOf (lineT ws) = ws := by
  unfold wordsOf
  rw [head_none fun b hb e => by have := line_mem h hb; subst e; simp at this]
  exact fields_join fun w hw => wd_sp (h w hw)

theorem split_line : ∀ (a rest : Bs), (∀ b, b ∈ a → b ≠ 10) → splitC 10 (a ++ 10 :: rest) = a :: splitC 10 rest
  | [], rest, _ => by simp [splitC]
  | b :: a, rest, h => by
    have := split_line a rest fun c hc => h c (by simp [hc])
    rw [List.cons_append, splitC, if_neg (h b (by simp)), this]

/-- The text of lines. -/
def linesT : List Ws → Bs
  | [] => []
  | ws :: r => lineT ws ++ 10 :: linesT r
def linesN (k : Int) : List Ws → Ls
  | [] => []
  | ws :: r => (k + 1, ws) :: linesN (k + 1) r

theorem linesFrom_T : ∀ (l : List Ws) (k : Int) (rest : Bs), (∀ ws, ws ∈ l → ws ≠ [] ∧ ∀ w, w ∈ ws → wdOK w) → linesFrom k (splitC 10 (linesT l ++ rest)) = linesN k l ++ linesFrom (k + l.length) (splitC 10 rest)
  | [], k, rest, _ => by simp [linesT, linesN]
  | ws :: l, k, rest, h => by
    obtain ⟨h1, h2⟩ := h ws (by simp)
    have ih := linesFrom_T l (k + 1) rest fun w hw => h w (by simp [hw])
    have e : linesT (ws :: l) ++ rest = lineT ws ++ 10 :: (linesT l ++ rest) := by simp [linesT]
    rw [e, split_line _ _ fun b hb e => by have := line_mem h2 hb; subst e; simp at this]
    have hp : 0 < (wordsOf (lineT ws)).length := by rw [line_words h2]; exact List.length_pos_iff.2 h1
    rw [linesFrom, if_pos hp, line_words h2, ih]
    simp only [linesN, List.cons_append, List.length_cons]
    congr 3
    omega

theorem linesT_right : ∀ (l : List Ws), (∀ ws, ws ∈ l → ∀ w, w ∈ ws → wdOK w) → ∀ b, b ∈ linesT l → mayB b
  | [], _, b, hb => by simp [linesT] at hb
  | ws :: l, h, b, hb => by
    rw [linesT] at hb
    rcases List.mem_append.1 hb with hb | hb
    · have := line_mem (h ws (by simp)) hb; unfold mayB; omega
    · rcases List.mem_cons.1 hb with rfl | hb
      · unfold mayB; decide
      · exact linesT_right l (fun w hw => h w (by simp [hw])) b hb
theorem rightP_of {s : Bs} (h : ∀ b, b ∈ s → mayB b) : RightP s := fun i b hi hb => h b (List.mem_of_getElem? hb)

theorem linesN_length : ∀ (l : List Ws) (k : Int), (linesN k l).length = l.length
  | [], k => rfl
  | _ :: l, k => by simp [linesN, linesN_length l]

end Go.Abs
