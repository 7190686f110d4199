/- Chapter 17, plain: each item in the first set that has room, told by both texts. -/
import Derived.Test.YtjhpilmjfbkanaaDoorL17a
namespace Go.Abs
set_option linter.unusedVariables false
set_option linter.unusedSimpArgs false
set_option linter.unnecessarySimpa false

def chkBit (s k : Nat) : Bool := s.testBit k || ((s ||| 2 ^ k) == s + 2 ^ k)
set_option maxRecDepth 20000 in
theorem chkBit_all : (List.range 4096).all (fun s => (List.range 12).all fun k => chkBit s k) = true := by kernel_rfl

theorem or_add {s k : Nat} (hs : s < 4096) (hk : k < 12) (h : s.testBit k = false) : s ||| 2 ^ k = s + 2 ^ k := by
  have h1 := List.all_eq_true.1 chkBit_all s (by simpa using hs)
  have h2 := List.all_eq_true.1 h1 k (by simpa using hk)
  simpa [chkBit, h] using h2

theorem two_pow_le {k n : Nat} (hk : k < n) (hn : n ≤ 12) : (2 : Nat) ^ k < 2 ^ n ∧ (2 : Nat) ^ n ≤ 4096 := ⟨Nat.pow_lt_pow_right (by omega) hk, (pow_le12 hn).2.1⟩

/-- A set with one item more. -/
theorem add_item {s : Int} {k n : Nat} (h0 : 0 ≤ s) (h1 : s < 2 ^ n) (hn : n ≤ 12) (hk : k < n) (hb : inSet s k = false) :
    bitO .i64 s (2 ^ k) = s + 2 ^ k ∧ s + 2 ^ k < 2 ^ n ∧ ∀ j, inSet (s + 2 ^ k) j = (inSet s j || j == k) := by
  obtain ⟨p1, p2, p3⟩ := pow_le12 hn
  obtain ⟨q1, q2⟩ := two_pow_le hk hn
  have ek : ((2 ^ k : Nat) : Int) = 2 ^ k := by simp
  have es : s = (s.toNat : Int) := by omega
  have hs : s.toNat < 2 ^ n := by omega
  rw [inSet_bit h0] at hb
  have ho := or_add (s := s.toNat) (k := k) (by omega) (by omega) hb
  have e1 : s + 2 ^ k = ((s.toNat ||| 2 ^ k : Nat) : Int) := by rw [ho, es, ← ek]; simp
  have hlt : s.toNat ||| 2 ^ k < 2 ^ n := Nat.or_lt_two_pow hs q1
  have k0 : (0 : Int) ≤ 2 ^ k := by rw [← ek]; exact Int.natCast_nonneg _
  have k1 : (2 : Int) ^ k < 4096 := by rw [← ek]; omega
  have k2 : ((2 : Int) ^ k).toNat = 2 ^ k := by rw [← ek]; exact Int.toNat_natCast _
  refine ⟨?_, by rw [e1, ← p3]; exact_mod_cast hlt, fun j => ?_⟩
  · have h := orE_nat h0 (show s < 4096 by omega) k0 k1
    rw [k2] at h
    rw [e1]; exact h
  · rw [e1, inSet_bit (by omega), Int.toNat_natCast, Nat.testBit_or, inSet_bit h0, Nat.testBit_two_pow]
    congr 1; rw [Bool.eq_iff_iff, decide_eq_true_eq, beq_iff_eq]; exact eq_comm

theorem wideL_add {ws : List Int} {s s' : Int} {k : Nat} (h : ∀ j, inSet s' j = (inSet s j || j == k)) (hb : inSet s k = false) (m : Nat) : wideL ws s' m = wideL ws s m + if k < m then Wd ws k else 0 := by
  induction m with
  | zero => simp [wideL]
  | succ m ih =>
    rw [wideL, wideL, ih, h m]
    by_cases hm : m = k
    · subst hm; simp [hb, Wd]
    · have : (m == k) = false := by simpa using hm
      rw [this, Bool.or_false]
      by_cases hk : k < m
      · rw [if_pos hk, if_pos (show k < m + 1 by omega)]; omega
      · rw [if_neg hk, if_neg (show ¬ k < m + 1 by omega)]; omega

theorem wideL_zero (ws : List Int) (m : Nat) : wideL ws 0 m = 0 := by
  have h : ∀ j, inSet 0 j = false := fun j => by rw [inSet_bit (by omega)]; simp
  induction m with
  | zero => rfl
  | succ m ih => rw [wideL, ih, h]; simp

theorem inSet_zero (j : Nat) : inSet 0 j = false := by rw [inSet_bit (by omega)]; simp

def hasRoom (roll : Int) (ws : List Int) (k : Nat) (s : Int) : Bool := decide (wideL ws s ws.length + Wd ws k ≤ roll)

/-- An item goes into the first set that has room. -/
def ff (roll : Int) (ws : List Int) (out : List Int) (k : Nat) : List Int :=
  match out.findIdx? (hasRoom roll ws k) with
  | some i => out.set i (out.getD i 0 + 2 ^ k)
  | none => out ++ [2 ^ k]

structure Inv (roll : Int) (ws : List Int) (pl : List Nat) (out : List Int) : Prop where
  rng : ∀ s, s ∈ out → 0 < s ∧ s < 2 ^ ws.length
  fit : ∀ s, s ∈ out → wideL ws s ws.length ≤ roll
  cnt : ∀ k, cnt out k = if k ∈ pl then 1 else 0
  full : ∀ (i : Nat) (a b : Int), out[i]? = some a → out[i + 1]? = some b → roll < wideL ws a ws.length + wideL ws b ws.length
  len : out.length ≤ pl.length

theorem cnt_append (a b : List Int) (k : Nat) : cnt (a ++ b) k = cnt a k + cnt b k := by simp [cnt]
theorem cnt_none {out : List Int} {k : Nat} (h : cnt out k = 0) {s : Int} (hs : s ∈ out) : inSet s k = false := by
  cases hi : inSet s k with
  | false => rfl
  | true =>
    have : s ∈ out.filter fun s => inSet s k := List.mem_filter.2 ⟨hs, hi⟩
    rw [List.length_eq_zero_iff.1 h] at this; cases this

theorem wideL_nonneg {ws : List Int} (hw : ∀ w, w ∈ ws → 0 ≤ w ∧ w ≤ 1048576) (s : Int) (m : Nat) : 0 ≤ wideL ws s m := (wideL_le hw s m).1

theorem may_w {roll : Int} {ws : List Int} (h : mayB roll ws = true) : ∀ w, w ∈ ws → 0 ≤ w ∧ w ≤ 1048576 := by
  obtain ⟨h1, h2, h3, h4⟩ := mayB_some h
  intro w hw; have := h4 w hw; omega
theorem may_Wd {roll : Int} {ws : List Int} (h : mayB roll ws = true) {k : Nat} (hk : k < ws.length) : 1 ≤ Wd ws k ∧ Wd ws k ≤ roll := by
  obtain ⟨h1, h2, h3, h4⟩ := mayB_some h
  have : Wd ws k ∈ ws := by simp [Wd, List.getD_eq_getElem?_getD, hk]
  exact h4 _ this

theorem split_at {α : Type} {l : List α} {i : Nat} {x : α} (h : l[i]? = some x) : l = l.take i ++ x :: l.drop (i + 1) ∧ (l.take i).length = i := by
  obtain ⟨hlt, hx⟩ := List.getElem?_eq_some_iff.1 h
  refine ⟨?_, by simp; omega⟩
  rw [← hx, List.getElem_cons_drop, List.take_append_drop]

theorem inv_step {roll : Int} {ws : List Int} (hm : mayB roll ws = true) {pl : List Nat} {out : List Int} (I : Inv roll ws pl out) {k : Nat} (hk : k < ws.length) (hnew : k ∉ pl) : Inv roll ws (pl ++ [k]) (ff roll ws out k) := by
  obtain ⟨m1, m2, hn, m4⟩ := mayB_some hm
  have hw := may_w hm
  obtain ⟨wk0, wk1⟩ := may_Wd hm hk
  have hc0 : cnt out k = 0 := by rw [I.cnt, if_neg hnew]
  have ek : ((2 ^ k : Nat) : Int) = 2 ^ k := by simp
  have kpos : (0 : Int) < 2 ^ k := by rw [← ek]; have := Nat.two_pow_pos k; omega
  unfold ff
  cases hf : out.findIdx? (hasRoom roll ws k) with
  | some i =>
    simp only
    rw [List.findIdx?_eq_some_iff_getElem] at hf
    obtain ⟨hlt, hroom, _⟩ := hf
    have hget : out[i]? = some out[i] := List.getElem?_eq_getElem hlt
    have egD : out.getD i 0 = out[i] := by simp [List.getD_eq_getElem?_getD, hlt]
    rw [egD]
    generalize out[i] = s at hroom hget
    have hs : s ∈ out := List.mem_of_getElem? hget
    obtain ⟨r1, r2⟩ := I.rng s hs
    have hb := cnt_none hc0 hs
    obtain ⟨b1, b2, b3⟩ := add_item (by omega) r2 hn hk hb
    have hwide := wideL_add (ws := ws) b3 hb ws.length
    rw [if_pos hk] at hwide
    obtain ⟨e1, e2⟩ := split_at hget
    have eset : out.set i (s + 2 ^ k) = out.take i ++ (s + 2 ^ k) :: out.drop (i + 1) := by
      rw [List.set_eq_take_append_cons_drop, if_pos hlt]
    have mem : ∀ t, t ∈ out.set i (s + 2 ^ k) → t = s + 2 ^ k ∨ t ∈ out := fun t ht => (List.mem_or_eq_of_mem_set ht).symm
    have hroom' : wideL ws s ws.length + Wd ws k ≤ roll := by simpa [hasRoom] using hroom
    refine ⟨fun t ht => ?_, fun t ht => ?_, fun j => ?_, fun j a b ha hb' => ?_, ?_⟩
    · rcases mem t ht with rfl | ht
      · exact ⟨by omega, b2⟩
      · exact I.rng t ht
    · rcases mem t ht with rfl | ht
      · rw [hwide]; exact hroom'
      · exact I.fit t ht
    · have hj := I.cnt j
      rw [e1, cnt_append, cnt_cons] at hj
      rw [eset, cnt_append, cnt_cons, b3 j]
      by_cases hjk : j = k
      · subst hjk
        rw [hb] at hj ⊢
        simp [hnew] at hj ⊢; omega
      · have : (j == k) = false := by simpa using hjk
        rw [this, Bool.or_false, hj]
        simp [hjk]
    · -- a set that has grown is no narrower
      have grown : ∀ (m : Nat) (t : Int), (out.set i (s + 2 ^ k))[m]? = some t → ∃ t0, out[m]? = some t0 ∧ wideL ws t0 ws.length ≤ wideL ws t ws.length := by
        intro m t ht
        rw [List.getElem?_set] at ht
        split at ht
        · rename_i hm'
          subst hm'
          cases ht
          exact ⟨s, hget, by omega⟩
        · exact ⟨t, ht, Int.le_refl _⟩
      obtain ⟨a0, ga, la⟩ := grown _ _ ha
      obtain ⟨b0, gb, lb⟩ := grown _ _ hb'
      have := I.full j a0 b0 ga gb
      omega
    · have := I.len; simp; omega
  | none =>
    simp only
    rw [List.findIdx?_eq_none_iff] at hf
    obtain ⟨b1, b2, b3⟩ := add_item (s := 0) (k := k) (n := ws.length) (by omega) (by have := pow_le12 hn; have := Nat.two_pow_pos ws.length; omega) hn hk (inSet_zero k)
    have hwide := wideL_add (ws := ws) b3 (inSet_zero k) ws.length
    rw [if_pos hk, wideL_zero] at hwide
    rw [Int.zero_add] at hwide b2 b3
    refine ⟨fun t ht => ?_, fun t ht => ?_, fun j => ?_, fun j a b ha hb' => ?_, ?_⟩
    · rcases List.mem_append.1 ht with ht | ht
      · exact I.rng t ht
      · simp at ht; subst ht; exact ⟨kpos, b2⟩
    · rcases List.mem_append.1 ht with ht | ht
      · exact I.fit t ht
      · simp at ht; subst ht; omega
    · rw [cnt_append, I.cnt j, cnt_cons, b3 j, inSet_zero]
      by_cases hjk : j = k
      · subst hjk; simp [hnew, cnt]
      · have : (j == k) = false := by simpa using hjk
        simp [this, hjk, cnt]
    · have hj1 := (List.getElem?_eq_some_iff.1 hb').1
      simp at hj1
      have hja : j < out.length := by omega
      rw [List.getElem?_append_left hja] at ha
      by_cases hj2 : j + 1 < out.length
      · rw [List.getElem?_append_left hj2] at hb'
        exact I.full j a b ha hb'
      · rw [List.getElem?_append_right (by omega)] at hb'
        have : j + 1 - out.length = 0 := by omega
        rw [this] at hb'; simp at hb'; subst hb'
        have := hf a (List.mem_of_getElem? ha)
        simp [hasRoom] at this
        omega
    · have := I.len; simp; omega

def fold (roll : Int) (ws : List Int) (A : List Nat) : List Int := A.foldl (ff roll ws) []

theorem fold_succ {roll : Int} {ws : List Int} {A : List Nat} {i : Nat} {k : Nat} (h : A[i]? = some k) : fold roll ws (A.take (i + 1)) = ff roll ws (fold roll ws (A.take i)) k := by
  obtain ⟨hlt, hx⟩ := List.getElem?_eq_some_iff.1 h
  rw [List.take_succ_eq_append_getElem hlt, fold, List.foldl_append, hx]; rfl

theorem fold_inv {roll : Int} {ws : List Int} (hm : mayB roll ws = true) {A : List Nat} (hp : A.Perm (List.range ws.length)) (i : Nat) (hi : i ≤ A.length) : Inv roll ws (A.take i) (fold roll ws (A.take i)) := by
  induction i with
  | zero => exact ⟨by simp [fold], by simp [fold], by simp [fold, Abs.cnt], by simp [fold], by simp [fold]⟩
  | succ i ih =>
    have hlt : i < A.length := hi
    have hg : A[i]? = some A[i] := List.getElem?_eq_getElem hlt
    rw [fold_succ hg]
    have hk : A[i] < ws.length := by have := hp.mem_iff.1 (List.getElem_mem hlt); simpa using this
    have e := List.take_succ_eq_append_getElem hlt
    rw [e]
    refine inv_step hm (ih (by omega)) hk ?_
    have hnd : (A.take (i + 1)).Nodup := (hp.nodup_iff.2 List.nodup_range).sublist (List.take_sublist _ _)
    rw [e, List.nodup_append] at hnd
    exact fun h => hnd.2.2 _ h _ (by simp) rfl

/-! ### pack.First -/
theorem pow64 {k : Nat} (hk : k < 12) : IntKind.i64.wrap ((1 : Int) * 2 ^ (min (Int.toNat (k : Int)) (IntKind.bits .i64))) = 2 ^ k := by
  have e : min (Int.toNat (k : Int)) (IntKind.bits .i64) = k := by simp [IntKind.bits]; omega
  have ek : ((2 ^ k : Nat) : Int) = 2 ^ k := by simp
  have := two_pow_le (k := k) (n := 12) hk (Nat.le_refl _)
  have h0 : (0 : Int) ≤ 2 ^ k := by rw [← ek]; exact Int.natCast_nonneg _
  have h1 : (2 : Int) ^ k < 4096 := by rw [← ek]; omega
  rw [e, Int.one_mul, wrap64]
  constructor <;> omega

theorem f20_of {roll : Int} {ws : List Int} (hm : mayB roll ws = true) {s : Int} (h : 0 < s ∧ s < 2 ^ ws.length) : f20 ws s (wideL ws s ws.length) :=
  ⟨by omega, h.2, (mayB_some hm).2.2.1, may_w hm, rfl⟩

theorem wide_small {roll : Int} {ws : List Int} (hm : mayB roll ws = true) (s : Int) : 0 ≤ wideL ws s ws.length ∧ wideL ws s ws.length ≤ 1048576 * 12 := by
  have h := wideL_le (may_w hm) s ws.length
  have := (mayB_some hm).2.2.1
  omega

theorem idx_last {out : List Int} {x : Int} : Idx (out ++ [x]) (out.length : Int) x := ⟨by omega, by simp⟩
theorem set_last {out : List Int} {x y : Int} : (out ++ [x]).set (Int.toNat (out.length : Int)) y = out ++ [y] := by
  rw [Int.toNat_natCast, List.set_append_right _ _ (by omega)]; simp

theorem place_ok {roll : Int} {ws : List Int} (hm : mayB roll ws = true) {i : Nat} {out : List Int} {pl : List Nat} (I : Inv roll ws pl out) {k : Nat} (hk : k < ws.length) (hnew : k ∉ pl) (hi : i < 12) (hpl : pl.length ≤ 12) (X1 : (Int × List Int) → Prop) (hX : X1 (((i + 1 : Nat) : Int), ff roll ws out k)) :
    LoopP (f8_L2 roll ws (i : Int) out X1 (k : Int)) (0 : Int) := by
  obtain ⟨m1, m2, hn, m4⟩ := mayB_some hm
  obtain ⟨wk0, wk1⟩ := may_Wd hm hk
  have hlen := I.len
  have wi : IntKind.i64.wrap ((i : Int) + 1) = ((i + 1 : Nat) : Int) := by rw [wrap64 (by constructor <;> omega)]; rfl
  have hc0 : cnt out k = 0 := by rw [I.cnt, if_neg hnew]
  refine LoopP.intro (fun s => ∃ j : Nat, s = (j : Int) ∧ j ≤ out.length ∧ ∀ m x, m < j → out[m]? = some x → hasRoom roll ws k x = false) (fun s => out.length - s.toNat) ⟨0, rfl, by omega, by omega⟩ ?_
  rintro X _ ⟨j, rfl, hj, hno⟩ hX'
  unfold f8_L2
  simp only
  refine IfB.dec (fun h => ?_) (fun h => ?_)
  · have hlt : j < out.length := by omega
    have hget : out[j]? = some out[j] := List.getElem?_eq_getElem hlt
    have hs := List.getElem_mem hlt
    have rg := I.rng _ hs
    have ws' := wide_small hm out[j]
    have hidx : Idx out (j : Int) out[j] := ⟨by omega, by simp [hlt]⟩
    refine ⟨out[j], hidx, _, f20_of hm rg, _, wd_idx rfl hk, IfB.dec (fun hc => ?_) (fun hc => ?_)⟩
    · rw [wrap64 (by constructor <;> omega)] at hc
      refine IfB.dec (fun h => by omega) (fun _ => ⟨out[j], hidx, by omega, out[j], hidx, ?_⟩)
      rw [pow64 (by omega), wi, (add_item (by omega) rg.2 hn hk (cnt_none hc0 hs)).1, Int.toNat_natCast]
      have hf : out.findIdx? (hasRoom roll ws k) = some j := by
        rw [List.findIdx?_eq_some_iff_getElem]
        refine ⟨hlt, by simpa [hasRoom] using hc, fun m hmj => ?_⟩
        rw [hno m _ hmj (List.getElem?_eq_getElem (by omega))]; simp
      have : ff roll ws out k = out.set j (out[j] + 2 ^ k) := by
        simp only [ff, hf]
        congr 1; simp [List.getD_eq_getElem?_getD, hlt]
      rw [← this]; exact hX
    · rw [wrap64 (by constructor <;> omega)] at hc
      rw [wrap64 (by constructor <;> omega)]
      refine hX' _ ⟨j + 1, rfl, by omega, fun m x hmj hx => ?_⟩ (by simp; omega)
      rcases Nat.lt_or_ge m j with h1 | h1
      · exact hno m x h1 hx
      · obtain rfl : m = j := by omega
        rw [hget] at hx; cases hx
        simpa [hasRoom] using hc
  · obtain rfl : j = out.length := by omega
    have hf : out.findIdx? (hasRoom roll ws k) = none := by
      rw [List.findIdx?_eq_none_iff]
      intro x hx
      obtain ⟨m, hmx⟩ := List.mem_iff_getElem?.1 hx
      exact hno m x (List.getElem?_eq_some_iff.1 hmx).1 hmx
    refine ⟨by simp [Fits]; omega, 0, idx_last, by omega, 0, idx_last, ?_⟩
    rw [pow64 (by omega), wi, set_last]
    have e0 := (add_item (s := 0) (k := k) (n := ws.length) (by omega) (by have := pow_le12 hn; have := Nat.two_pow_pos ws.length; omega) hn hk (inSet_zero k)).1
    rw [e0, Int.zero_add]
    have : ff roll ws out k = out ++ [2 ^ k] := by simp only [ff, hf]
    rw [← this]; exact hX

theorem first_ok {roll : Int} {ws : List Int} (hm : mayB roll ws = true) : ∃ A, Sorted ws A ∧ A.Perm (List.range ws.length) ∧ f8 roll ws (fold roll ws A) := by
  obtain ⟨m1, m2, hn, m4⟩ := mayB_some hm
  obtain ⟨A, hA, hp, ho⟩ := order_ok (may_w hm) hn
  have lenA : A.length = ws.length := by simpa using hp.length_eq
  refine ⟨A, hA, hp, true, hm.symm, ?_⟩
  simp only [IfB_true]
  refine ⟨ofN A, ho, ?_⟩
  refine LoopP.intro (fun s => ∃ i : Nat, i ≤ A.length ∧ s = ((i : Int), fold roll ws (A.take i))) (fun s => A.length - s.1.toNat) ⟨0, by omega, rfl⟩ ?_
  rintro X _ ⟨i, hi, rfl⟩ hX
  unfold f8_L1
  simp only [ofN_length]
  refine IfB.dec (fun h => ?_) (fun h => ?_)
  · have hlt : i < A.length := by omega
    have hg : A[i]? = some A[i] := List.getElem?_eq_getElem hlt
    have hk : A[i] < ws.length := by have := hp.mem_iff.1 (List.getElem_mem hlt); simpa using this
    have hnd : (A.take (i + 1)).Nodup := (hp.nodup_iff.2 List.nodup_range).sublist (List.take_sublist _ _)
    rw [List.take_succ_eq_append_getElem hlt, List.nodup_append] at hnd
    refine ⟨(A[i] : Int), ofN_idx (by omega) (by simp), place_ok hm (fold_inv hm hp i hi) hk (fun h => hnd.2.2 _ h _ (by simp) rfl) (by omega) (by simp; omega) X ?_⟩
    rw [← fold_succ hg]
    exact hX _ ⟨i + 1, by omega, rfl⟩ (by simp; omega)
  · obtain rfl : i = A.length := by omega
    rw [List.take_length]

end Go.Abs
