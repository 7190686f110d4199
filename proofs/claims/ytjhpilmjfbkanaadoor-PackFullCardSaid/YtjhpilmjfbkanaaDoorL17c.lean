/- Chapter 17, plain: the document's First; the laws PackFirst and PackFull. -/
import Derived.Test.YtjhpilmjfbkanaaDoorL17b
namespace Go.Abs
set_option linter.unusedVariables false
set_option linter.unusedSimpArgs false
set_option linter.unnecessarySimpa false

theorem f17_of {roll : Int} {ws : List Int} (hm : mayB roll ws = true) {s : Int} (h : 0 < s ∧ s < 2 ^ ws.length) : f17 ws s (wideL ws s ws.length) := by
  obtain ⟨m1, m2, hn, m4⟩ := mayB_some hm
  obtain ⟨p1, p2, p3⟩ := pow_le12 hn
  exact ⟨by constructor <;> omega, small_of hm, rfl⟩

def doneL (ws : List Int) (pl : List Nat) : List Bool := (List.range ws.length).map fun k => decide (k ∈ pl)
theorem doneL_get {ws : List Int} {pl : List Nat} {k : Nat} (hk : k < ws.length) : (doneL ws pl)[k]? = some (decide (k ∈ pl)) := by simp [doneL, hk]
theorem doneL_set {ws : List Int} {pl : List Nat} {k : Nat} : (doneL ws pl).set k true = doneL ws (pl ++ [k]) := by
  apply List.ext_getElem?
  intro j
  rw [List.getElem?_set]
  by_cases hj : j < ws.length
  · rw [doneL_get hj]
    by_cases e : k = j
    · subst e; simp [doneL, hj]
    · rw [if_neg e, doneL_get hj]; simp [eq_comm, e]
  · rw [List.getElem?_eq_none (l := doneL ws (pl ++ [k])) (by simp [doneL]; omega)]
    split
    · rw [if_neg (by simp [doneL]; omega)]
    · exact List.getElem?_eq_none (by simp [doneL]; omega)

theorem refPlace_ok {roll : Int} {ws : List Int} (hm : mayB roll ws = true) {i : Nat} {out : List Int} {pl : List Nat} (I : Inv roll ws pl out) {k : Nat} (hk : k < ws.length) (hnew : k ∉ pl) (hi : i < 12) (hpl : pl.length ≤ 12) (dn : List Bool) (X1 : (Int × List Int × List Bool) → Prop)
    (hX : X1 (((i + 1 : Nat) : Int), ff roll ws out k, dn.set k true)) : LoopP (f12_L4 roll ws (i : Int) out dn X1 (k : Int) (2 ^ k)) (0 : Int) := by
  obtain ⟨m1, m2, hn, m4⟩ := mayB_some hm
  obtain ⟨wk0, wk1⟩ := may_Wd hm hk
  have hlen := I.len
  have wi : IntKind.i64.wrap ((i : Int) + 1) = ((i + 1 : Nat) : Int) := by rw [wrap64 (by constructor <;> omega)]; rfl
  have hc0 : cnt out k = 0 := by rw [I.cnt, if_neg hnew]
  have ek : ((2 ^ k : Nat) : Int) = 2 ^ k := by simp
  have k0 : (0 : Int) ≤ 2 ^ k := by rw [← ek]; exact Int.natCast_nonneg _
  have k1 : (2 : Int) ^ k < 4096 := by have := two_pow_le hk hn; rw [← ek]; omega
  obtain ⟨p1, p2, p3⟩ := pow_le12 hn
  refine LoopP.intro (fun s => ∃ j : Nat, s = (j : Int) ∧ j ≤ out.length ∧ ∀ m x, m < j → out[m]? = some x → hasRoom roll ws k x = false) (fun s => out.length - s.toNat) ⟨0, rfl, by omega, by omega⟩ ?_
  rintro X _ ⟨j, rfl, hj, hno⟩ hX'
  unfold f12_L4
  simp only
  refine IfB.dec (fun h => ?_) (fun h => ?_)
  · have hlt : j < out.length := by omega
    have hget : out[j]? = some out[j] := List.getElem?_eq_getElem hlt
    have hs := List.getElem_mem hlt
    have rg := I.rng _ hs
    have ws' := wide_small hm out[j]
    have hidx : Idx out (j : Int) out[j] := ⟨by omega, by simp [hlt]⟩
    refine ⟨out[j], hidx, _, f17_of hm rg, _, wd_idx rfl hk, IfB.dec (fun hc => ?_) (fun hc => ?_)⟩
    · rw [wrap64 (by constructor <;> omega)] at hc
      rw [wrap64 (by constructor <;> omega)]
      refine hX' _ ⟨j + 1, rfl, by omega, fun m x hmj hx => ?_⟩ (by simp; omega)
      rcases Nat.lt_or_ge m j with h1 | h1
      · exact hno m x h1 hx
      · obtain rfl : m = j := by omega
        rw [hget] at hx; cases hx
        simpa [hasRoom] using hc
    · rw [wrap64 (by constructor <;> omega)] at hc
      refine IfB.intro (fun h => by simp at h; omega) (fun _ => ⟨out[j], hidx, out[j], hidx, ?_⟩)
      rw [wi, wrap64 (by constructor <;> omega), Int.toNat_natCast, Int.toNat_natCast]
      have hf : out.findIdx? (hasRoom roll ws k) = some j := by
        rw [List.findIdx?_eq_some_iff_getElem]
        refine ⟨hlt, by simpa [hasRoom] using hc, fun m hmj => ?_⟩
        rw [hno m _ hmj (List.getElem?_eq_getElem (by omega))]; simp
      have : ff roll ws out k = out.set j (out[j] + 2 ^ k) := by
        simp only [ff, hf]
        congr 1; simp [List.getD_eq_getElem?_getD, hlt]
      rw [← this]; exact hX
  · obtain rfl : j = out.length := by omega
    have hf : out.findIdx? (hasRoom roll ws k) = none := by
      rw [List.findIdx?_eq_none_iff]
      intro x hx
      obtain ⟨m, hmx⟩ := List.mem_iff_getElem?.1 hx
      exact hno m x (List.getElem?_eq_some_iff.1 hmx).1 hmx
    refine IfB.intro (fun _ => ⟨by simp [Fits]; omega, 0, idx_last, 0, idx_last, ?_⟩) (fun h => by simp at h)
    rw [wi, set_last, wrap64 (by constructor <;> omega), Int.zero_add, Int.toNat_natCast]
    have : ff roll ws out k = out ++ [2 ^ k] := by simp only [ff, hf]
    rw [← this]; exact hX

theorem refFirst_ok {roll : Int} {ws : List Int} (hm : mayB roll ws = true) {A : List Nat} (hA : Sorted ws A) (hp : A.Perm (List.range ws.length)) : f12 roll ws (fold roll ws A) := by
  obtain ⟨m1, m2, hn, m4⟩ := mayB_some hm
  have lenA : A.length = ws.length := by simpa using hp.length_eq
  have hnd : A.Nodup := hp.nodup_iff.2 List.nodup_range
  refine ⟨⟨by omega, by simp [Fits]; omega, by simp [Fits]; omega⟩, ?_⟩
  refine LoopP.intro (fun s => ∃ i : Nat, i ≤ A.length ∧ s = ((i : Int), fold roll ws (A.take i), doneL ws (A.take i))) (fun s => A.length - s.1.toNat) ⟨0, by omega, ?_⟩ ?_
  · have : List.replicate (Int.toNat (ws.length : Int)) false = doneL ws (A.take 0) := by
      apply List.ext_getElem?
      intro j
      by_cases hj : j < ws.length
      · rw [doneL_get hj]; simp [hj]
      · rw [List.getElem?_eq_none (by simp; omega), List.getElem?_eq_none (by simp [doneL]; omega)]
    rw [this]; rfl
  rintro X _ ⟨i, hi, rfl⟩ hX
  unfold f12_L1
  simp only
  refine IfB.dec (fun h => ?_) (fun h => ?_)
  · have hlt : i < A.length := by omega
    have hg : A[i]? = some A[i] := List.getElem?_eq_getElem hlt
    generalize hk' : A[i] = k at hg
    have hkA : k ∈ A := List.mem_of_getElem? hg
    have hk : k < ws.length := by have := hp.mem_iff.1 hkA; simpa using this
    obtain ⟨e1, e2⟩ := split_at hg
    have hnd2 := hnd
    rw [e1, List.nodup_append] at hnd2
    have hnew : k ∉ A.take i := fun h => hnd2.2.2 _ h k (by simp) rfl
    have hA2 := hA
    unfold Sorted at hA2
    rw [e1, List.pairwise_append] at hA2
    have least : ∀ j, j < ws.length → j ∉ A.take i → j ≠ k → Rb ws k j := by
      intro j hj hnj hne
      have hjA : j ∈ A := hp.mem_iff.2 (by simpa using hj)
      rw [e1, List.mem_append] at hjA
      rcases hjA with hjA | hjA
      · exact absurd hjA hnj
      · rcases List.mem_cons.1 hjA with rfl | hjA
        · exact absurd rfl hne
        · exact (List.pairwise_cons.1 hA2.2.1).1 j hjA
    have hI := fold_inv hm hp i (by omega)
    refine LoopP.intro (fun s => ∃ (j : Nat), s.2 = (j : Int) ∧ j ≤ ws.length ∧ ((s.1 = -1 ∧ ∀ m, m < j → m ∈ A.take i) ∨ ∃ b : Nat, s.1 = (b : Int) ∧ b < j ∧ b ∉ A.take i ∧ ∀ m, m < j → m ∉ A.take i → m = b ∨ Rb ws b m)) (fun s => ws.length - s.2.toNat) ⟨0, rfl, by omega, .inl ⟨rfl, by omega⟩⟩ ?_
    rintro X2 ⟨a, b⟩ ⟨j, rfl, hj, hb⟩ hX2
    simp only at hX2 hb
    unfold f12_L2
    simp only
    have wj : IntKind.i64.wrap ((j : Int) + 1) = ((j + 1 : Nat) : Int) := by rw [wrap64 (by constructor <;> omega)]; rfl
    refine IfB.dec (fun h2 => ?_) (fun h2 => ?_)
    · have hjl : j < ws.length := by omega
      refine ⟨decide (j ∈ A.take i), ⟨by omega, by simpa using doneL_get hjl⟩, ?_⟩
      rw [wj]
      refine IfB.dec (fun hd => ?_) (fun hd => ?_)
      · refine hX2 _ ⟨j + 1, rfl, by omega, ?_⟩ (by simp; omega)
        rcases hb with ⟨rfl, hb⟩ | ⟨b, rfl, hbj, hbn, hb⟩
        · left; refine ⟨rfl, fun m hmj => ?_⟩
          rcases Nat.lt_or_ge m j with h1 | h1
          · exact hb m h1
          · obtain rfl : m = j := by omega
            exact hd
        · right; refine ⟨b, rfl, by omega, hbn, fun m hmj hmn => ?_⟩
          rcases Nat.lt_or_ge m j with h1 | h1
          · exact hb m h1 hmn
          · obtain rfl : m = j := by omega
            exact absurd hd hmn
      · rcases hb with ⟨rfl, hb⟩ | ⟨b, rfl, hbj, hbn, hb⟩
        · refine IfB.dec (fun _ => ?_) (fun h => by omega)
          refine hX2 _ ⟨j + 1, rfl, by omega, .inr ⟨j, rfl, by omega, hd, fun m hmj hmn => ?_⟩⟩ (by simp; omega)
          rcases Nat.lt_or_ge m j with h1 | h1
          · exact absurd (hb m h1) hmn
          · left; omega
        · refine IfB.dec (fun h => by omega) (fun _ => ⟨_, wd_idx rfl hjl, _, wd_idx rfl (show b < ws.length by omega), IfB.dec (fun hc => ?_) (fun hc => ?_)⟩)
          · refine hX2 _ ⟨j + 1, rfl, by omega, .inr ⟨j, rfl, by omega, hd, fun m hmj hmn => ?_⟩⟩ (by simp; omega)
            have hjb : Rb ws j b := .inl hc
            rcases Nat.lt_or_ge m j with h1 | h1
            · rcases hb m h1 hmn with rfl | h3
              · exact .inr hjb
              · exact .inr (hjb.trans h3)
            · left; omega
          · refine hX2 _ ⟨j + 1, rfl, by omega, .inr ⟨b, rfl, by omega, hbn, fun m hmj hmn => ?_⟩⟩ (by simp; omega)
            rcases Nat.lt_or_ge m j with h1 | h1
            · exact hb m h1 hmn
            · obtain rfl : m = j := by omega
              right; unfold Rb; omega
    · obtain rfl : j = ws.length := by omega
      have hbest : a = (k : Int) := by
        rcases hb with ⟨rfl, hb⟩ | ⟨b, rfl, hbj, hbn, hb⟩
        · exact absurd (hb k hk) hnew
        · rcases hb k hk hnew with h3 | h3
          · rw [h3]
          · by_cases e : b = k
            · rw [e]
            · exact ((least b hbj hbn e).asymm h3).elim
      subst hbest
      refine ⟨false, ⟨by omega, by rw [Int.toNat_natCast, doneL_get hk]; simp [hnew]⟩, ?_⟩
      refine LoopP.intro (fun s => ∃ j : Nat, s = (2 ^ j, (j : Int)) ∧ j ≤ k) (fun s => k - s.2.toNat) ⟨0, rfl, by omega⟩ ?_
      rintro X3 _ ⟨j, rfl, hjk⟩ hX3
      unfold f12_L3
      simp only
      refine IfB.dec (fun h3 => ?_) (fun h3 => ?_)
      · have ek : ((2 ^ j : Nat) : Int) = 2 ^ j := by simp
        have k0 : (0 : Int) ≤ 2 ^ j := by rw [← ek]; exact Int.natCast_nonneg _
        have k1 : (2 : Int) ^ j < 4096 := by have := two_pow_le (k := j) (n := 12) (by omega) (by omega); rw [← ek]; omega
        refine hX3 _ ⟨j + 1, ?_, by omega⟩ (by rw [wrap64 (n := (j : Int) + 1) (by constructor <;> omega)]; simp; omega)
        rw [wrap64 (by constructor <;> omega), wrap64 (by constructor <;> omega), Int.pow_succ]; rfl
      · obtain rfl : j = k := by omega
        refine refPlace_ok hm hI hk hnew (by omega) (by simp; omega) _ X ?_
        rw [← fold_succ hg, doneL_set]
        have e3 : A.take i ++ [j] = A.take (i + 1) := by rw [List.take_succ_eq_append_getElem hlt, hk']
        rw [e3]
        exact hX _ ⟨i + 1, by omega, rfl⟩ (by simp; omega)
  · obtain rfl : i = A.length := by omega
    rw [List.take_length]

theorem isB_fold {roll : Int} {ws : List Int} (hm : mayB roll ws = true) {A : List Nat} (hp : A.Perm (List.range ws.length)) : isB roll ws (fold roll ws A) = true := by
  have lenA : A.length = ws.length := by simpa using hp.length_eq
  have I := fold_inv hm hp A.length (Nat.le_refl _)
  rw [List.take_length] at I
  simp only [isB, hm, Bool.true_and, Bool.and_eq_true, List.all_eq_true]
  refine ⟨fun s hs => ?_, fun k hk => ?_⟩
  · have r := I.rng s hs
    have f := I.fit s hs
    simp [okOne, fitsB, hm, r.1, r.2, f]; omega
  · have : k ∈ A := hp.mem_iff.2 hk
    rw [I.cnt, if_pos this]; rfl

theorem law_first (roll : Int) (ws : List Int) : f3 roll ws true := by
  unfold f3
  refine IfB.dec (fun _ => ⟨true, rfl, by simp⟩) (fun h20 => ?_)
  cases hm : mayB roll ws with
  | true =>
    obtain ⟨m1, m2, hn, m4⟩ := mayB_some hm
    obtain ⟨A, hA, hp, hf⟩ := first_ok hm
    have lenA : A.length = ws.length := by simpa using hp.length_eq
    have I := fold_inv hm hp A.length (Nat.le_refl _)
    rw [List.take_length] at I
    have hlen := I.len
    have hp2 := pow_le12 hn
    refine ⟨_, hf, true, hm.symm, ?_⟩
    simp only [IfB_true]
    refine ⟨true, hm.symm, ?_⟩
    simp only [IfB_true]
    refine ⟨true, hm.symm, ?_⟩
    simp only [IfB_true]
    refine ⟨_, refFirst_ok hm hA hp, IfB.intro (fun h => by simp at h) (fun _ => ?_)⟩
    generalize hout : fold roll ws A = out at *
    refine LoopP.intro (fun s => ∃ i : Nat, s = (i : Int) ∧ i ≤ out.length) (fun s => out.length - s.toNat) ⟨0, rfl, by omega⟩ ?_
    rintro X _ ⟨i, rfl, hi⟩ hX
    unfold f3_L1
    simp only
    refine IfB.dec (fun h => ?_) (fun h => ?_)
    · have hlt : i < out.length := by omega
      have hidx : Idx out (i : Int) out[i] := ⟨by omega, by simp [hlt]⟩
      refine ⟨_, hidx, _, hidx, IfB.intro (fun h => by simp at h) (fun _ => ?_)⟩
      rw [wrap64 (by constructor <;> omega)]
      exact hX _ ⟨i + 1, rfl, by omega⟩ (by simp; omega)
    · refine ⟨true, ⟨fun s hs => ?_, by omega, ?_⟩, ?_⟩
      · have := I.rng s hs; constructor <;> omega
      · rw [law_packs, ← hout, isB_fold hm hp]
      · simp only [IfB_true]
        exact ⟨true, rfl, by simp⟩
  | false =>
    refine ⟨[], ⟨false, hm.symm, by simp⟩, false, hm.symm, ?_⟩
    simp only [IfB_false]
    refine ⟨false, hm.symm, ?_⟩
    simp only [IfB_false]
    refine ⟨false, hm.symm, ?_⟩
    simp only [IfB_false]
    refine IfB.intro (fun _ => ⟨0, ⟨false, hm.symm, by simp⟩, IfB.intro (fun _ => ⟨true, rfl, by simp⟩) (fun h => by simp at h)⟩) (fun h => by simp at h)

theorem law_full (roll : Int) (ws : List Int) : f6 roll ws true := by
  unfold f6
  refine IfB.dec (fun _ => ⟨true, rfl, by simp⟩) (fun h12 => ?_)
  cases hm : mayB roll ws with
  | true =>
    obtain ⟨A, hA, hp, hf⟩ := first_ok hm
    have lenA : A.length = ws.length := by simpa using hp.length_eq
    have I := fold_inv hm hp A.length (Nat.le_refl _)
    rw [List.take_length] at I
    have hlen := I.len
    refine ⟨true, hm.symm, ?_⟩
    simp only [IfB_true]
    refine ⟨_, hf, ?_⟩
    generalize hout : fold roll ws A = out at *
    refine LoopP.intro (fun s => ∃ i : Nat, s = ((i + 1 : Nat) : Int) ∧ i ≤ out.length) (fun s => out.length + 1 - s.toNat) ⟨0, rfl, by omega⟩ ?_
    rintro X _ ⟨i, rfl, hi⟩ hX
    unfold f6_L1
    simp only
    refine IfB.dec (fun h => ?_) (fun h => ⟨true, rfl, by simp⟩)
    have hlt : i + 1 < out.length := by omega
    have g1 : out[i]? = some out[i] := List.getElem?_eq_getElem (by omega)
    have g2 : out[i + 1]? = some out[i + 1] := List.getElem?_eq_getElem hlt
    have e1 : IntKind.i64.wrap (((i + 1 : Nat) : Int) - 1) = (i : Int) := by rw [wrap64 (by constructor <;> omega)]; omega
    rw [e1]
    have w1 := wide_small hm out[i]
    have w2 := wide_small hm out[i + 1]
    refine ⟨_, ⟨by omega, by simp⟩, _, f17_of hm (I.rng _ (List.mem_of_getElem? g1)), _, ⟨by omega, by rw [Int.toNat_natCast]; exact g2⟩, _, f17_of hm (I.rng _ (List.mem_of_getElem? g2)), IfB.dec (fun hc => ?_) (fun _ => ?_)⟩
    · rw [wrap64 (by constructor <;> omega)] at hc
      have := I.full i _ _ g1 g2
      omega
    · rw [wrap64 (by constructor <;> omega)]
      exact hX _ ⟨i + 1, by omega, by omega⟩ (by omega)
  | false =>
    refine ⟨false, hm.symm, ?_⟩
    simp only [IfB_false]
    exact ⟨true, rfl, by simp⟩

end Go.Abs
