/- Part of a proof, in few files: L13a L13b L13c L13d L13e. -/
import Derived.Test.YtdbfgnpobfbfmaaGreatDoorLawProofParsesK44
import Derived.Test.YtdbfgnpobfbfmaaGreatDoorLawProofParsesK49
import Derived.Test.YtdbfgnpobfbfmaaGreatDoorLawProofParsesK35

section
/- Chapter 13 plain: numbers read, of both; rows of fractions held against one another. -/
namespace Go.Abs
open Go
set_option linter.unusedVariables false
set_option linter.unusedSimpArgs false
set_option linter.unnecessarySimpa false

abbrev Q3 := Bool × List Int × List Int
/-- Is a text a number? -/
def isN (w : By) : Prop := (ratR w).2.2.2 = 0
instance (w : By) : Decidable (isN w) := inferInstanceAs (Decidable (_ = _))
/-- The number of a text. -/
def numOf (w : By) : Q3 := ((ratR w).1, (ratR w).2.1, (ratR w).2.2.1)

theorem lines_Number_says (w : By) (hl : w.length ≤ 1000000) : lines_Number w (if isN w then ((numOf w).1, (numOf w).2.1, (numOf w).2.2, true) else (false, [], words 1, false)) := by
  unfold lines_Number
  have h := rat_Parse_says w hl
  refine ⟨(ratR w).1, (ratR w).2.1, (ratR w).2.2.1, (ratR w).2.2.2, h, IfB.neI (fun he => ?_) (fun he => ?_)⟩
  · rw [if_neg (show ¬ isN w from he)]; exact ⟨_, _, _, rat_Int0, rfl⟩
  · rw [if_pos (show isN w from he)]; rfl

theorem proof_numbers_says (l : List By) (hl : l.length ≤ 100000) (hw : ∀ w, w ∈ l → w.length ≤ 1000000) : proof_numbers l (if ∀ w, w ∈ l → isN w then (l.map numOf, decide (l.length ≤ 180)) else ([], false)) := by
  unfold proof_numbers
  refine LoopP.intro (fun z : Int × List Q3 => ∃ k : Nat, z.1 = k ∧ k ≤ l.length ∧ (∀ w, w ∈ l.take k → isN w) ∧ z.2 = (l.take k).map numOf) (fun z => l.length - z.1.toNat) ⟨0, rfl, by omega, by simp, by simp⟩ ?_
  rintro X ⟨z1, z2⟩ ⟨k, h1, hk, hn, h2⟩ hX
  simp only at h1 h2
  subst h1 h2
  unfold proof_numbers_L1
  dsimp only
  refine IfB.dec (fun h => ?_) (fun h => ?_)
  · have hkl : k < l.length := by omega
    have htk : l.take (k + 1) = l.take k ++ [l[k]] := by rw [List.take_add_one, List.getElem?_eq_getElem hkl]; rfl
    have hs := lines_Number_says l[k] (hw _ (List.getElem_mem hkl))
    refine ⟨_, Idx.nat hkl, ?_⟩
    by_cases hk2 : isN l[k]
    · rw [if_pos hk2] at hs
      refine ⟨_, _, _, true, hs, IfB_true.2 ⟨?_, ?_⟩⟩
      · unfold Fits; simp; omega
      · rw [wrap64' (by omega) (by omega)]
        refine hX _ ⟨k + 1, by dsimp only; omega, by omega, fun w hw => ?_, ?_⟩ (by dsimp only; omega)
        · rw [htk] at hw
          rcases List.mem_append.1 hw with hw | hw
          · exact hn w hw
          · simp at hw; subst hw; exact hk2
        · dsimp only
          rw [htk, List.map_append]; rfl
    · rw [if_neg hk2] at hs
      refine ⟨_, _, _, false, hs, IfB_false.2 ?_⟩
      rw [if_neg (fun h => hk2 (h _ (List.getElem_mem hkl)))]
  · have : k = l.length := by omega
    subst this
    rw [List.take_length] at hn ⊢
    rw [if_pos hn, List.length_map]
    exact IfB.dec (fun h => by rw [decide_eq_true (by omega)]) (fun h => by rw [decide_eq_false (by omega)])

/-- Digits, at most 400. -/
def dgOK (s : By) : Prop := s ≠ [] ∧ allDg s ∧ s.length ≤ 400
instance (s : By) : Decidable (dgOK s) := inferInstanceAs (Decidable (_ ∧ _))
theorem dgOK_parse (s : By) : dgOK s ↔ (parseR s).2 = 0 := by
  unfold dgOK parseR
  by_cases h : s = [] ∨ ¬ allDg s
  · rw [if_pos h]
    constructor
    · rintro ⟨h1, h2, _⟩; exact (h.elim h1 (fun h => h h2)).elim
    · intro h'; simp at h'
  · rw [if_neg h]
    have h1 : s ≠ [] := fun e => h (.inl e)
    have h2 : allDg s := Decidable.byContradiction fun e => h (.inr e)
    by_cases h3 : 400 < s.length
    · rw [if_pos h3]
      constructor
      · rintro ⟨_, _, h4⟩; omega
      · intro h'; simp at h'
    · rw [if_neg h3]; exact ⟨fun _ => rfl, fun _ => ⟨h1, h2, by omega⟩⟩

theorem digits_says (s : By) (hl : s.length ≤ 1000000) : offcutref08_digits s (decide (dgOK s)) := by
  unfold offcutref08_digits
  refine LoopP.intro (fun z : Int => ∃ k : Nat, z = k ∧ k ≤ s.length ∧ allDg (s.take k)) (fun z => s.length - z.toNat) ⟨0, rfl, by omega, by intro b hb; simp at hb⟩ ?_
  rintro X z ⟨k, rfl, hk, hd⟩ hX
  unfold offcutref08_digits_L1
  refine IfB.dec (fun h => ?_) (fun h => ?_)
  · have hks : k < s.length := by omega
    have htk : s.take (k + 1) = s.take k ++ [s[k]] := by rw [List.take_add_one, List.getElem?_eq_getElem hks]; rfl
    have no : ¬ dg s[k] → decide (dgOK s) = false := fun h => decide_eq_false fun h' => h (h'.2.1 _ (List.getElem_mem hks))
    refine ⟨_, Idx.nat hks, IfB.dec (fun h1 => no fun h => by unfold dg at h; omega) (fun h1 => ⟨_, Idx.nat hks, IfB.dec (fun h2 => no fun h => by unfold dg at h; omega) (fun h2 => ?_)⟩)⟩
    rw [wrap64' (by omega) (by omega)]
    refine hX _ ⟨k + 1, by omega, by omega, ?_⟩ (by omega)
    rw [htk, allDg_app]
    exact ⟨hd, by intro b hb; simp at hb; subst hb; unfold dg; omega⟩
  · have : k = s.length := by omega
    subst this
    rw [List.take_length] at hd
    refine IfB.dec (fun h1 => IfB.dec (fun h2 => decide_eq_true ⟨fun e => by subst e; simp at h1, hd, by omega⟩) (fun h2 => decide_eq_false fun h' => h2 (by have := h'.2.2; omega))) (fun h1 => decide_eq_false fun h' => h1 (by have := List.length_pos_iff.2 h'.1; omega))

/-! ### rows of fractions -/
def okQ (x : Q3) : Prop := WS x.2.1 ∧ WS x.2.2 ∧ x.2.1.length ≤ 10000 ∧ x.2.2.length ≤ 10000
theorem numOf_ok (w : By) : okQ (numOf w) := by
  have hp : ∀ (v : Nat), True := fun _ => trivial
  unfold okQ numOf ratR
  dsimp only
  have h1 := parseR_len (if (Lib.cut w [47]).2.2 then (Lib.cut w [47]).2.1 else [49])
  have h2 := wholeR_len (Lib.cut w [47]).1
  have h3 := parseR_WS (if (Lib.cut w [47]).2.2 then (Lib.cut w [47]).2.1 else [49])
  have h4 := wholeR_WS (Lib.cut w [47]).1
  generalize parseR (if (Lib.cut w [47]).2.2 then (Lib.cut w [47]).2.1 else [49]) = P at *
  generalize wholeR (Lib.cut w [47]).1 = A at *
  split
  · exact ⟨WS_nil, WS_nil, by simp, by simp⟩
  · split
    · exact ⟨WS_nil, WS_nil, by simp, by simp⟩
    · split
      · exact ⟨WS_nil, WS_nil, by simp, by simp⟩
      · refine ⟨WS_words _, WS_words _, ?_, ?_⟩
        · exact Nat.le_trans (words_len_le (Nat.div_le_self _ _)) (Nat.le_trans (wl h4) (by omega))
        · exact Nat.le_trans (words_len_le (Nat.div_le_self _ _)) (Nat.le_trans (wl h3) (by omega))

theorem same1_refl (x : Q3) (h : okQ x) : vec_Same_1 x.1 x.2.1 x.2.2 x.1 x.2.1 x.2.2 true := by
  obtain ⟨h1, h2, h3, h4⟩ := h
  refine ⟨_, rat_Compare_says x.1 x.2.1 x.2.2 x.1 x.2.1 x.2.2 h1 h2 h1 h2 (by omega) (by omega) (by omega) (by omega), ?_⟩
  unfold cmpZ
  rw [if_neg (by omega), if_neg (by omega)]
  exact IfB_true.2 rfl
theorem vec_Same_refl (l : List Q3) (hl : l.length ≤ 1000000) (h : ∀ x, x ∈ l → okQ x) : vec_Same l l true := by
  unfold vec_Same
  refine IfB.neI (fun h => absurd rfl h) (fun _ => ?_)
  refine LoopP.intro (fun z : Int => ∃ k : Nat, z = k ∧ k ≤ l.length) (fun z => l.length - z.toNat) ⟨0, rfl, by omega⟩ ?_
  rintro X z ⟨k, rfl, hk⟩ hX
  unfold vec_Same_L1
  refine IfB.dec (fun h1 => ?_) (fun h1 => rfl)
  have hkl : k < l.length := by omega
  refine ⟨_, _, _, Idx.nat hkl, _, _, _, Idx.nat hkl, true, same1_refl l[k] (h _ (List.getElem_mem hkl)), IfB_true.2 ?_⟩
  rw [wrap64' (by omega) (by omega)]
  exact hX _ ⟨k + 1, by omega, by omega⟩ (by omega)
theorem proof_Same_refl (v : Int) (x y z : List Q3) (hx : x.length ≤ 1000000) (hy : y.length ≤ 1000000) (hz : z.length ≤ 1000000) (h1 : ∀ a, a ∈ x → okQ a) (h2 : ∀ a, a ∈ y → okQ a) (h3 : ∀ a, a ∈ z → okQ a) : proof_Same v x y z v x y z true := by
  unfold proof_Same
  refine IfB.eqI (fun _ => ⟨true, vec_Same_refl x hx h1, IfB_true.2 ⟨true, vec_Same_refl y hy h2, IfB_true.2 ⟨true, vec_Same_refl z hz h3, IfB_true.2 rfl⟩⟩⟩) (fun h => absurd rfl h)

end Go.Abs
end

section
/- Chapter 13 plain: what the document's reference takes for a number. -/
namespace Go.Abs
open Go
set_option linter.unusedVariables false
set_option linter.unusedSimpArgs false
set_option linter.unnecessarySimpa false

theorem dV_zero : ∀ {s : By}, allDg s → (dV 0 s = 0 ↔ ∀ b, b ∈ s → b = 48)
  | [], _ => by simp [dV_nil]
  | b :: l, h => by
    have hb := h b (by simp)
    have ih := dV_zero (s := l) fun c hc => h c (by simp [hc])
    unfold dg at hb
    rw [dV_cons, dV_acc]
    have hp : 0 < 10 ^ l.length := Nat.pow_pos (by omega)
    have hb48 : b = 48 ↔ b.toNat = 48 := ⟨fun e => by subst e; rfl, fun e => UInt8.toNat_inj.1 e⟩
    constructor
    · intro h0
      have h1 : (0 * 10 + (b.toNat - 48)) * 10 ^ l.length = 0 := by omega
      have h2 : dV 0 l = 0 := by omega
      rcases Nat.mul_eq_zero.1 h1 with h3 | h3
      · intro c hc
        rcases List.mem_cons.1 hc with rfl | hc
        · exact hb48.2 (by omega)
        · exact ih.1 h2 c hc
      · omega
    · intro h0
      have h1 : b.toNat = 48 := hb48.1 (h0 b (by simp))
      have h2 := ih.2 fun c hc => h0 c (by simp [hc])
      rw [h1, h2]; simp

def allZ (s : By) : Prop := ∀ c, c ∈ s → c = 48
instance (s : By) : Decidable (allZ s) := inferInstanceAs (Decidable (∀ c, c ∈ s → c = 48))
/-- A number as the reference has it, without a - ahead. -/
def numU (t : By) : Bool :=
  if (Lib.cut t [47]).2.2 then decide (dgOK (Lib.cut t [47]).1) && decide (dgOK (Lib.cut t [47]).2.1) && !decide (allZ (Lib.cut t [47]).2.1) else decide (dgOK t)

theorem cut_app {a b : By} {c : UInt8} (h : ∀ x, x ∈ a → x ≠ c) : Lib.cut (a ++ c :: b) [c] = (a, b, true) := by
  have hi : Lib.index (a ++ c :: b) [c] = (a.length : Int) := by
    rw [Lib.index_one]
    induction a with
    | nil => simp [Lib.indexByte]
    | cons x l ih =>
      have hx := h x (by simp)
      have := ih fun y hy => h y (by simp [hy])
      simp [Lib.indexByte, hx, this]
  unfold Lib.cut
  rw [hi]
  simp
theorem cut_no {a : By} {c : UInt8} (h : ∀ x, x ∈ a → x ≠ c) : Lib.cut a [c] = (a, [], false) := by
  have hi : Lib.index a [c] = -1 := by
    rw [Lib.index_one]
    induction a with
    | nil => rfl
    | cons x l ih =>
      have hx := h x (by simp)
      have := ih fun y hy => h y (by simp [hy])
      simp [Lib.indexByte, hx, this]
  unfold Lib.cut
  rw [hi]
  simp


theorem sub_drop {p : By} {k : Nat} (h : k < p.length) (hl : p.length ≤ 1000000) : sub p (IntKind.i64.wrap ((k : Int) + 1)) (p.length : Int) = p.drop (k + 1) := by
  rw [wrap64' (by omega) (by omega)]
  unfold sub
  rw [show ((k : Int) + 1).toNat = k + 1 from by omega, Int.toNat_natCast, List.take_of_length_le (by simp)]
theorem sub_take {p : By} {k : Nat} : sub p 0 (k : Int) = p.take k := by unfold sub; simp

theorem numIn {p : By} {k : Nat} (hk : k < p.length) (hl : p.length ≤ 1000000) (h47 : p[k] = 47) (hno : ∀ x, x ∈ p.take k → x ≠ 47) : LoopP (offcutref08_Number_L4 p (k : Int) (numU p)) (true, (0 : Int)) := by
  have hsp : p = p.take k ++ 47 :: p.drop (k + 1) := by
    have := (List.take_append_drop k p).symm
    rw [List.drop_eq_getElem_cons hk, h47] at this
    exact this
  have hc : Lib.cut p [47] = (p.take k, p.drop (k + 1), true) := by
    have := cut_app (a := p.take k) (b := p.drop (k + 1)) hno
    rwa [← hsp] at this
  have hu : numU p = (decide (dgOK (p.take k)) && decide (dgOK (p.drop (k + 1))) && !decide (allZ (p.drop (k + 1)))) := by
    unfold numU; rw [hc]; rfl
  have da := digits_says (p.take k) (by simp; omega)
  have db := digits_says (p.drop (k + 1)) (by simp; omega)
  rw [hu]
  have hsk : SubOk p 0 (k : Int) := ⟨by omega, by omega, by omega⟩
  generalize hd : p.drop (k + 1) = d at *
  have hdl : d.length ≤ 1000000 := by rw [← hd]; simp; omega
  refine LoopP.intro (fun z : Bool × Int => ∃ j : Nat, z.2 = j ∧ j ≤ d.length ∧ z.1 = decide (allZ (d.take j))) (fun z => d.length - z.2.toNat) ⟨0, rfl, by omega, by simp [allZ]⟩ ?_
  rintro X ⟨z1, z2⟩ ⟨j, h2, hj, h1⟩ hX
  simp only at h1 h2
  subst h1 h2
  unfold offcutref08_Number_L4
  dsimp only
  rw [sub_drop hk hl, hd, sub_take]
  have step : (hlt : j < d.length) → ∀ c : UInt8, d[j] = c → X (decide (allZ (d.take (j + 1))), (IntKind.i64.wrap ((j : Int) + 1))) := fun hlt c hc => by
    rw [wrap64' (by omega) (by omega)]
    exact hX _ ⟨j + 1, by dsimp only; omega, by omega, rfl⟩ (by dsimp only; omega)
  have htk : (hlt : j < d.length) → d.take (j + 1) = d.take j ++ [d[j]] := fun hlt => by rw [List.take_add_one, List.getElem?_eq_getElem hlt]; rfl
  by_cases hz : allZ (d.take j)
  · rw [decide_eq_true hz]
    refine IfB_true.2 (IfB.dec (fun h => ?_) (fun h => ?_))
    · have hlt : j < d.length := by omega
      refine ⟨_, Idx.nat hlt, IfB.neI (fun h3 => ?_) (fun h3 => ?_)⟩
      · have hx := step hlt _ rfl
        rw [decide_eq_false (p := allZ (d.take (j + 1))) (fun h' => h3 (by
          have := h' d[j] (by rw [htk hlt]; exact List.mem_append_right _ (List.mem_singleton.2 rfl))
          rw [this]; rfl))] at hx
        exact hx
      · have hx := step hlt _ rfl
        have h48 : d[j] = 48 := UInt8.toNat_inj.1 (by show d[j].toNat = 48; omega)
        rw [decide_eq_true (p := allZ (d.take (j + 1))) (fun b hb => by
          rw [htk hlt] at hb
          rcases List.mem_append.1 hb with hb | hb
          · exact hz b hb
          · simp at hb; rw [hb]; exact h48)] at hx
        exact hx
    · have : j = d.length := by omega
      subst this
      rw [List.take_length] at hz
      rw [decide_eq_true (p := allZ d) hz]
      simp only [Bool.not_true, Bool.and_false]
      refine ⟨hsk, _, da, IfB.intro (fun _ => ⟨_, db, IfB.intro (fun _ => trivial) (fun _ => trivial)⟩) (fun _ => trivial)⟩
  · rw [decide_eq_false hz]
    refine IfB_false.2 (IfB.dec (fun h => ?_) (fun h => ?_))
    · have hlt : j < d.length := by omega
      have hx := step hlt _ rfl
      rw [decide_eq_false (p := allZ (d.take (j + 1))) (fun h' => hz fun b hb => h' b (by rw [htk hlt]; exact List.mem_append_left _ hb))] at hx
      exact ⟨_, Idx.nat hlt, IfB.intro (fun _ => hx) (fun _ => hx)⟩
    · have : j = d.length := by omega
      subst this
      rw [List.take_length] at hz
      rw [decide_eq_false (p := allZ d) hz]
      simp only [Bool.not_false, Bool.and_true]
      refine ⟨hsk, _, da, IfB.intro (fun h1 => ⟨_, db, IfB.intro (fun h2 => by rw [h1, h2]; rfl) (fun h2 => by rw [h1, h2]; rfl)⟩) (fun h1 => by rw [h1]; rfl)⟩

theorem numLoop (p : By) (hl : p.length ≤ 1000000) : LoopP (offcutref08_Number_L3 p (numU p)) (0 : Int) := by
  refine LoopP.intro (fun z : Int => ∃ k : Nat, z = k ∧ k ≤ p.length ∧ ∀ x, x ∈ p.take k → x ≠ 47) (fun z => p.length - z.toNat) ⟨0, rfl, by omega, by simp⟩ ?_
  rintro X z ⟨k, rfl, hk, hno⟩ hX
  unfold offcutref08_Number_L3
  refine IfB.dec (fun h => ?_) (fun h => ?_)
  · have hkl : k < p.length := by omega
    refine ⟨_, Idx.nat hkl, IfB.eqI (fun h2 => ?_) (fun h2 => ?_)⟩
    · have h47 : p[k] = 47 := UInt8.toNat_inj.1 (by show p[k].toNat = 47; omega)
      refine ⟨?_, numIn hkl hl h47 hno⟩
      rw [wrap64' (by omega) (by omega)]
      exact ⟨by omega, by omega, by omega⟩
    · rw [wrap64' (by omega) (by omega)]
      refine hX _ ⟨k + 1, by omega, by omega, fun x hx => ?_⟩ (by omega)
      rw [List.take_add_one, List.getElem?_eq_getElem hkl] at hx
      rcases List.mem_append.1 hx with hx | hx
      · exact hno x hx
      · simp at hx; subst hx; exact fun e => h2 (by rw [e]; rfl)
  · have : k = p.length := by omega
    subst this
    rw [List.take_length] at hno
    have hu : numU p = decide (dgOK p) := by unfold numU; rw [cut_no hno]; rfl
    have hd := digits_says p hl
    rw [hu]
    exact ⟨_, hd, IfB.intro (fun h => h) (fun h => h)⟩

theorem trimP_cons (b : UInt8) (l : By) : Lib.trimPrefix (b :: l) [45] = if b = 45 then l else b :: l := by
  unfold Lib.trimPrefix Lib.hasPrefix
  by_cases h : b = 45
  · subst h; simp [List.isPrefixOf]
  · have : ¬ (45 = b) := fun e => h e.symm
    simp [List.isPrefixOf, h, this]

theorem Number_says (w : By) (hl : w.length ≤ 1000000) : offcutref08_Number w true (numU (Lib.trimPrefix w [45])) := by
  unfold offcutref08_Number
  refine IfB_true.2 (IfB.dec (fun h => ?_) (fun h => ?_))
  · cases w with
    | nil => simp at h
    | cons b l =>
      rw [trimP_cons]
      refine ⟨b, ⟨by omega, rfl⟩, IfB.eqI (fun h2 => ?_) (fun h2 => ?_)⟩
      · have hb : b = 45 := UInt8.toNat_inj.1 (by show b.toNat = 45; omega)
        rw [if_pos hb]
        refine ⟨⟨by omega, by simp; omega, by omega⟩, ?_⟩
        have es : sub (b :: l) (1 : Int) ((b :: l).length : Int) = l := by unfold sub; simp
        have := numLoop l (by simp at hl; omega)
        have e : offcutref08_Number_L1 (b :: l) (numU l) = offcutref08_Number_L3 (sub (b :: l) (1 : Int) ((b :: l).length : Int)) (numU l) := rfl
        rw [e, es]
        exact this
      · rw [if_neg (fun e => h2 (by rw [e]; rfl))]
        exact numLoop (b :: l) hl
  · cases w with
    | cons b l => exact absurd (by simp) h
    | nil =>
      have := numLoop [] (by simp)
      exact this

theorem dw_nil2 : ∀ (w : By), w.dropWhile (fun y : UInt8 => !(y == 47)) = [] ↔ ∀ x, x ∈ w → (!(x == 47)) = true
  | [] => by simp
  | b :: l => by
    rw [List.dropWhile_cons]
    by_cases h : (!(b == 47)) = true
    · rw [if_pos h, dw_nil2 l]
      constructor
      · intro h' x hx
        rcases List.mem_cons.1 hx with rfl | hx
        · exact h
        · exact h' x hx
      · exact fun h' x hx => h' x (by simp [hx])
    · rw [if_neg h]
      exact ⟨fun e => by simp at e, fun h' => absurd (h' b (by simp)) h⟩
theorem dw_head : ∀ (w : By), w.dropWhile (fun y : UInt8 => !(y == 47)) ≠ [] → ∀ y l, w.dropWhile (fun y : UInt8 => !(y == 47)) = y :: l → y = 47
  | [], h => by simp at h
  | b :: l, h => by
    rw [List.dropWhile_cons] at h ⊢
    by_cases hb : (!(b == 47)) = true
    · rw [if_pos hb] at h ⊢; exact dw_head l h
    · rw [if_neg hb]
      intro y l' e
      cases e
      simpa using hb
theorem tw_mem : ∀ (w : By) (x : UInt8), x ∈ w.takeWhile (fun y : UInt8 => !(y == 47)) → (!(x == 47)) = true
  | [], x, h => by simp at h
  | b :: l, x, h => by
    rw [List.takeWhile_cons] at h
    split at h
    · rename_i hb
      rcases List.mem_cons.1 h with rfl | h
      · exact hb
      · exact tw_mem l x h
    · simp at h

/-- A number is so for both. -/
theorem numU_isN (w : By) : numU (Lib.trimPrefix w [45]) = decide (isN w) := by
  have fin : (numU (Lib.trimPrefix w [45]) = true ↔ isN w) → numU (Lib.trimPrefix w [45]) = decide (isN w) := fun h => by
    by_cases hh : isN w
    · rw [decide_eq_true hh]; exact h.2 hh
    · rw [decide_eq_false hh]; exact Bool.eq_false_iff.2 fun e => hh (h.1 e)
  apply fin
  clear fin
  have hone : parseR [49] = (words 1, 0) := by
    unfold parseR
    rw [if_neg (by decide), if_neg (by decide)]
    rfl
  have wz : ∀ a : By, (wholeR a).2.2 = 0 ↔ dgOK (Lib.trimPrefix a [45]) := fun a => by
    rw [dgOK_parse]
    unfold wholeR
    split
    · rename_i h; exact ⟨fun h' => absurd h' h, fun h' => absurd h' h⟩
    · rename_i h; exact ⟨fun _ => by omega, fun _ => rfl⟩
  have pz : ∀ b : By, dgOK b → (val (parseR b).1 = 0 ↔ allZ b) := fun b hb => by
    unfold parseR
    rw [if_neg (fun h => h.elim hb.1 fun h => h hb.2.1), if_neg (by have := hb.2.2; omega), val_words]
    exact dV_zero hb.2.1
  by_cases hs : ∃ a b, w = a ++ 47 :: b ∧ ∀ x, x ∈ a → x ≠ 47
  · obtain ⟨a, b, rfl, ha⟩ := hs
    have hc := cut_app (b := b) ha
    have ht : Lib.trimPrefix (a ++ 47 :: b) [45] = Lib.trimPrefix a [45] ++ 47 :: b ∧ ∀ x, x ∈ Lib.trimPrefix a [45] → x ≠ 47 := by
      cases a with
      | nil => refine ⟨?_, by simp [Lib.trimPrefix, Lib.hasPrefix]⟩
               rw [List.nil_append, trimP_cons, if_neg (by decide)]; rfl
      | cons y l =>
        rw [List.cons_append, trimP_cons, trimP_cons]
        split
        · exact ⟨rfl, fun x hx => ha x (by simp [hx])⟩
        · exact ⟨rfl, ha⟩
    have hc2 := cut_app (b := b) ht.2
    rw [ht.1]
    unfold numU isN ratR
    rw [hc2, hc]
    dsimp only
    simp only [if_true]
    have w1 := wz a
    by_cases h1 : dgOK (Lib.trimPrefix a [45])
    · rw [if_neg (by rw [w1.2 h1]; simp)]
      by_cases h2 : dgOK b
      · have e2 := (dgOK_parse b).1 h2
        rw [if_neg (by rw [e2]; simp)]
        by_cases h3 : allZ b
        · rw [if_pos ((pz b h2).2 h3)]; simp [h1, h2, h3]
        · rw [if_neg (fun h => h3 ((pz b h2).1 h))]; simp [h1, h2, h3]
      · have e2 : (parseR b).2 ≠ 0 := fun h => h2 ((dgOK_parse b).2 h)
        rw [if_pos e2]; simp [h2, e2]
    · have e1 : (wholeR a).2.2 ≠ 0 := fun h => h1 (w1.1 h)
      rw [if_pos e1]; simp [h1, e1]
  · have hno : ∀ x, x ∈ w → x ≠ 47 := by
      intro x hx e
      subst e
      refine hs ⟨w.takeWhile (fun y => !(y == 47)), (w.dropWhile (fun y => !(y == 47))).tail, ?_, fun x hx => ?_⟩
      · have h1 := (List.takeWhile_append_dropWhile (p := fun y : UInt8 => !(y == 47)) (l := w)).symm
        have h2 : w.dropWhile (fun y : UInt8 => !(y == 47)) ≠ [] := fun e => by
          have := (dw_nil2 w).1 e 47 hx
          simp at this
        have h3 := dw_head w h2
        cases hd : w.dropWhile (fun y : UInt8 => !(y == 47)) with
        | nil => exact absurd hd h2
        | cons y l =>
          rw [hd] at h1
          have : y = 47 := h3 y l hd
          subst this
          exact h1
      · have := tw_mem w x hx
        intro e; subst e; simp at this
    have hno2 : ∀ x, x ∈ Lib.trimPrefix w [45] → x ≠ 47 := fun x hx => hno x (by
      unfold Lib.trimPrefix at hx
      split at hx
      · exact List.mem_of_mem_drop hx
      · exact hx)
    unfold numU isN ratR
    rw [cut_no hno2, cut_no hno]
    dsimp only
    simp only [Bool.false_eq_true, if_false]
    rw [hone]
    have w1 := wz w
    have v1 : ¬ val (words 1, (0 : Int)).1 = 0 := by rw [val_words]; omega
    by_cases h1 : dgOK (Lib.trimPrefix w [45])
    · rw [if_neg (by rw [w1.2 h1]; simp)]
      rw [if_neg (show ¬ (words 1, (0 : Int)).2 ≠ 0 by simp), if_neg v1]; simp [h1]
    · have e1 : (wholeR w).2.2 ≠ 0 := fun h => h1 (w1.1 h)
      rw [if_pos e1]; simp [h1, e1]

end Go.Abs
end

section
/- Chapter 13 plain: a proof's lines, read by both. -/
namespace Go.Abs
open Go
set_option linter.unusedVariables false
set_option linter.unusedSimpArgs false
set_option linter.unnecessarySimpa false

abbrev Ln := List (Int × List By)
/-- Is a line one of numbers, behind a word? -/
def okP (kw : By) (ws : List By) : Prop := ws.head? = some kw ∧ ws.length ≤ 181 ∧ ∀ w, w ∈ ws.tail → isN w
instance (kw : By) (ws : List By) : Decidable (okP kw ws) := inferInstanceAs (Decidable (_ ∧ _ ∧ _))
/-- Lines that can be. -/
def lnOK (l : Ln) : Prop := ∀ x, x ∈ l → x.2 ≠ [] ∧ x.2.length ≤ 100000 ∧ ∀ w, w ∈ x.2 → w.length ≤ 1000000
theorem sub_tail {α : Type} (a : α) (l : List α) : sub (a :: l) (1 : Int) ((a :: l).length : Int) = l := by unfold sub; simp
theorem subok_tail {α : Type} (a : α) (l : List α) : SubOk (a :: l) (1 : Int) ((a :: l).length : Int) := ⟨by omega, by simp; omega, by omega⟩
theorem idx0 {α : Type} (a : α) (l : List α) : Idx (a :: l) (0 : Int) a := ⟨by omega, rfl⟩

theorem stepP {rest : Ln} {E0 : Prop} {E : Int → Prop} {N : Int → List Q3 → Prop} {kw : By} (hr : lnOK rest) (h0 : rest = [] → E0)
    (h1 : ∀ a ws r, rest = (a, ws) :: r → (okP kw ws → N a (ws.tail.map numOf)) ∧ (¬ okP kw ws → E a)) :
    IfB ((rest.length : Int) == (0 : Int)) E0
      (∃ (x26 : Int) (x27 : List (List UInt8)), Idx rest (0 : Int) (x26, x27) ∧
      SubOk x27 (1 : Int) (x27.length : Int) ∧
      ∃ (x30 : List (Bool × (List Int) × (List Int))) (x31 : Bool), proof_numbers (sub x27 (1 : Int) (x27.length : Int)) (x30, x31) ∧
      IfB x31
        (∃ (x33 : Int) (x34 : List (List UInt8)), Idx rest (0 : Int) (x33, x34) ∧
        ∃ (x36 : List UInt8), Idx x34 (0 : Int) x36 ∧
        IfB (!(x36 == kw))
          (∃ (x38 : Int) (x39 : List (List UInt8)), Idx rest (0 : Int) (x38, x39) ∧ E x38)
          (∃ (x41 : Int) (x42 : List (List UInt8)), Idx rest (0 : Int) (x41, x42) ∧
          SubOk rest (1 : Int) (rest.length : Int) ∧ N x41 x30))
        (∃ (x86 : Int) (x87 : List (List UInt8)), Idx rest (0 : Int) (x86, x87) ∧
        ∃ (x89 : List UInt8), Idx x87 (0 : Int) x89 ∧
        IfB (!(x89 == kw))
          (∃ (x91 : Int) (x92 : List (List UInt8)), Idx rest (0 : Int) (x91, x92) ∧ E x91)
          (∃ (x94 : Int) (x95 : List (List UInt8)), Idx rest (0 : Int) (x94, x95) ∧ E x94))) := by
  cases rest with
  | nil => exact IfB_true.2 (h0 rfl)
  | cons x r =>
    obtain ⟨a, ws⟩ := x
    obtain ⟨hne, hl, hwl⟩ := hr (a, ws) (by simp)
    dsimp only at hne hl hwl
    obtain ⟨hN, hE⟩ := h1 a ws r rfl
    refine IfB.eqI (fun h => by simp at h; omega) (fun _ => ?_)
    cases ws with
    | nil => exact absurd rfl hne
    | cons w l =>
      have hp := proof_numbers_says l (by simp at hl; omega) (fun v hv => hwl v (by simp [hv]))
      refine ⟨a, w :: l, idx0 _ _, subok_tail _ _, ?_⟩
      rw [sub_tail]
      by_cases hn : ∀ v, v ∈ l → isN v
      · rw [if_pos hn] at hp
        refine ⟨_, _, hp, IfB.dec (fun h => ?_) (fun h => ?_)⟩
        · refine ⟨a, w :: l, idx0 _ _, w, idx0 _ _, IfB.intro (fun hk => ⟨a, w :: l, idx0 _ _, hE fun ho => ?_⟩) (fun hk => ⟨a, w :: l, idx0 _ _, subok_tail _ _, hN ⟨?_, ?_, hn⟩⟩)⟩
          · have := ho.1
            simp at this hk
            exact hk this
          · simp at hk; simp [hk]
          · simp; omega
        · have : ¬ okP kw (w :: l) := fun ho => h (by have := ho.2.1; simp at this; omega)
          exact ⟨a, w :: l, idx0 _ _, w, idx0 _ _, IfB.intro (fun _ => ⟨a, w :: l, idx0 _ _, hE this⟩) (fun _ => ⟨a, w :: l, idx0 _ _, hE this⟩)⟩
      · rw [if_neg hn] at hp
        have : ¬ okP kw (w :: l) := fun ho => hn ho.2.2
        exact ⟨_, _, hp, IfB_false.2 ⟨a, w :: l, idx0 _ _, w, idx0 _ _, IfB.intro (fun _ => ⟨a, w :: l, idx0 _ _, hE this⟩) (fun _ => ⟨a, w :: l, idx0 _ _, hE this⟩)⟩⟩

theorem endP {rest : Ln} {E : Int → Prop} {N : Prop} (h0 : rest = [] → N) (h1 : ∀ a ws r, rest = (a, ws) :: r → E a) :
    IfB (decide ((rest.length : Int) > (0 : Int))) (∃ (x83 : Int) (x84 : List (List UInt8)), Idx rest (0 : Int) (x83, x84) ∧ E x83) N := by
  cases rest with
  | nil => exact IfB.dec (fun h => by simp at h) (fun _ => h0 rfl)
  | cons x r =>
    obtain ⟨a, ws⟩ := x
    exact IfB.dec (fun _ => ⟨a, ws, idx0 _ _, h1 a ws r rfl⟩) (fun h => absurd (by simp) h)

/-- The verdict of a first line. -/
def verd (w : List By) : Nat := if w = [[111, 112, 116, 105, 109, 97, 108]] then 1 else if w = [[105, 110, 102, 101, 97, 115, 105, 98, 108, 101]] then 2 else if w = [[117, 110, 98, 111, 117, 110, 100, 101, 100]] then 3 else 0
/-- The lines behind it: which is amiss, or their numbers' texts. -/
def lnR : List By → Int → Ln → Int ⊕ List (List By)
  | [], _, [] => .inr []
  | [], _, (a, _) :: _ => .inl a
  | _ :: _, last, [] => .inl last
  | kw :: ks, last, (a, ws) :: r => if okP kw ws then (match lnR ks a r with | .inl e => .inl e | .inr l => .inr (ws.tail :: l)) else .inl a
def kws (v : Nat) : List By := if v = 1 then [[120], [121]] else if v = 2 then [[121]] else [[120], [114, 97, 121]]
abbrev PT := Int × List By × List By × List By
/-- What a text's lines say: the line that is amiss, or verdict, x, y, ray. -/
def says13 : Ln → Int ⊕ PT
  | [] => .inl 0
  | (a, w) :: r =>
    if verd w = 0 then .inl a
    else match lnR (kws (verd w)) a r with
      | .inl e => .inl e
      | .inr l => .inr (if verd w = 1 then (1, l.getD 0 [], l.getD 1 [], []) else if verd w = 2 then (2, [], l.getD 0 [], []) else (3, l.getD 0 [], [], l.getD 1 []))
theorem says13_cons (a : Int) (w : List By) (r : Ln) : says13 ((a, w) :: r) = if verd w = 0 then .inl a else match lnR (kws (verd w)) a r with
      | .inl e => .inl e
      | .inr l => .inr (if verd w = 1 then (1, l.getD 0 [], l.getD 1 [], []) else if verd w = 2 then (2, [], l.getD 0 [], []) else (3, l.getD 0 [], [], l.getD 1 [])) := by rfl
def resP (x : Int ⊕ PT) : Int × List Q3 × List Q3 × List Q3 × Int × Int := match x with | .inl e => (0, [], [], [], e, 2) | .inr (v, x, y, z) => (v, x.map numOf, y.map numOf, z.map numOf, 0, 0)
def resR (x : Int ⊕ PT) : Int × Int × List By × List By × List By := match x with | .inl e => (0, e, [], [], []) | .inr (v, x, y, z) => (v, 0, x, y, z)

theorem lnOK_tail {x : Int × List By} {l : Ln} (h : lnOK (x :: l)) : lnOK l := fun y hy => h y (by simp [hy])


theorem verd_le (w : List By) : verd w ≤ 3 := by unfold verd; split <;> (try split) <;> (try split) <;> omega
theorem verd_1 {w : List By} : verd w = 1 ↔ w = [[111, 112, 116, 105, 109, 97, 108]] := by
  unfold verd
  by_cases h : w = [[111, 112, 116, 105, 109, 97, 108]]
  · simp [h]
  · rw [if_neg h]; constructor
    · intro h'; split at h' <;> (try split at h') <;> omega
    · intro h'; exact absurd h' h
theorem verd_2 {w : List By} : verd w = 2 ↔ w = [[105, 110, 102, 101, 97, 115, 105, 98, 108, 101]] := by
  unfold verd
  by_cases h : w = [[105, 110, 102, 101, 97, 115, 105, 98, 108, 101]]
  · subst h; simp
  · constructor
    · intro h'
      repeat' split at h'
      all_goals first | omega | contradiction
    · intro h'; exact absurd h' h
theorem verd_3 {w : List By} : verd w = 3 ↔ w = [[117, 110, 98, 111, 117, 110, 100, 101, 100]] := by
  unfold verd
  by_cases h : w = [[117, 110, 98, 111, 117, 110, 100, 101, 100]]
  · subst h; simp
  · constructor
    · intro h'
      repeat' split at h'
      all_goals first | omega | contradiction
    · intro h'; exact absurd h' h

theorem proof_words_lines (a : Int) (w : List By) (rest : Ln) (hok : lnOK ((a, w) :: rest)) (R : Int × List Q3 × List Q3 × List Q3 × Int × Int) (hR : R = resP (says13 ((a, w) :: rest))) :
    LoopP (proof_Parse_L1 ((a, w) :: rest) [] [111, 112, 116, 105, 109, 97, 108] [105, 110, 102, 101, 97, 115, 105, 98, 108, 101] [117, 110, 98, 111, 117, 110, 100, 101, 100] R) ((0 : Int), (0 : Int)) := by
  refine LoopP.intro (fun z : Int × Int => ∃ k : Nat, z.1 = k ∧ k ≤ 4 ∧ z.2 = ((if verd w < k then verd w else 0 : Nat) : Int)) (fun z => 4 - z.1.toNat) ⟨0, rfl, by omega, by simp⟩ ?_
  rintro X ⟨z1, z2⟩ ⟨k, h1, hk, h2⟩ hX
  simp only at h1 h2
  subst h1 h2
  unfold proof_Parse_L1
  dsimp only
  have hw := (hok (a, w) (by simp)).1
  dsimp only at hw
  refine IfB.dec (fun h => ?_) (fun h => ?_)
  · have next : ∀ v : Int, v = ((if verd w < k + 1 then verd w else 0 : Nat) : Int) → X (IntKind.i64.wrap ((k : Int) + 1), v) := fun v hv => by
      rw [wrap64' (by omega) (by omega)]
      exact hX _ ⟨k + 1, by dsimp only; omega, by omega, hv⟩ (by dsimp only; omega)
    have keep : verd w ≠ k → X (IntKind.i64.wrap ((k : Int) + 1), ((if verd w < k then verd w else 0 : Nat) : Int)) := fun hv => next _ (by
      congr 1
      by_cases h' : verd w < k
      · rw [if_pos h', if_pos (by omega)]
      · rw [if_neg h', if_neg (by omega)])
    have round : ∀ x9 : By, 0 < k → (verd w = k ↔ w = [x9]) → ∃ (x11 : Int) (x12 : List (List UInt8)), Idx ((a, w) :: rest) (0 : Int) (x11, x12) ∧
      IfB ((x12.length : Int) == (1 : Int))
        (∃ (x14 : Int) (x15 : List (List UInt8)), Idx ((a, w) :: rest) (0 : Int) (x14, x15) ∧
        ∃ (x17 : List UInt8), Idx x15 (0 : Int) x17 ∧
        IfB (x17 == x9)
          (X ((IntKind.i64.wrap ((k : Int) + 1)), (k : Int)))
          (X ((IntKind.i64.wrap ((k : Int) + 1)), ((if verd w < k then verd w else 0 : Nat) : Int))))
        (X ((IntKind.i64.wrap ((k : Int) + 1)), ((if verd w < k then verd w else 0 : Nat) : Int))) := fun x9 h0 hiff => by
      refine ⟨a, w, idx0 _ _, IfB.eqI (fun h1 => ?_) (fun h1 => keep fun hv => h1 (by rw [hiff.1 hv]; rfl))⟩
      cases w with
      | nil => exact absurd rfl hw
      | cons y l =>
        have hl : l = [] := by simp at h1; exact List.length_eq_zero_iff.1 (by omega)
        subst hl
        refine ⟨a, [y], idx0 _ _, y, idx0 _ _, IfB.intro (fun h2 => ?_) (fun h2 => keep fun hv => ?_)⟩
        · have h2 : y = x9 := by simpa using h2
          have hv := hiff.2 (by rw [h2])
          exact next _ (by rw [hv, if_pos (by omega)])
        · have := hiff.1 hv
          simp at this h2
          exact h2 this
    match k, hk, h with
    | 0, _, _ => exact ⟨[], idx0 _ _, IfB.dec (fun h => by simp at h) (fun _ => by
        refine next _ ?_
        by_cases h' : verd w < 1
        · have : verd w = 0 := by omega
          simp [this]
        · simp [h'])⟩
    | 1, _, _ => exact ⟨[111, 112, 116, 105, 109, 97, 108], ⟨by omega, rfl⟩, IfB.dec (fun _ => round _ (by omega) verd_1) (fun h => absurd (by omega) h)⟩
    | 2, _, _ => exact ⟨[105, 110, 102, 101, 97, 115, 105, 98, 108, 101], ⟨by omega, rfl⟩, IfB.dec (fun _ => round _ (by omega) verd_2) (fun h => absurd (by omega) h)⟩
    | 3, _, _ => exact ⟨[117, 110, 98, 111, 117, 110, 100, 101, 100], ⟨by omega, rfl⟩, IfB.dec (fun _ => round _ (by omega) verd_3) (fun h => absurd (by omega) h)⟩
    | k + 4, hk, h => omega
  · have hk4 : k = 4 := by omega
    subst hk4
    have hv3 := verd_le w
    rw [if_pos (by omega)]
    clear hX h
    have hrest := lnOK_tail hok
    have R0 : ∀ e, says13 ((a, w) :: rest) = .inl e → R = (0, [], [], [], e, 2) := fun e h => by rw [hR, h]; rfl
    have R1 : ∀ v x y z, says13 ((a, w) :: rest) = .inr (v, x, y, z) → R = (v, x.map numOf, y.map numOf, z.map numOf, 0, 0) := fun v x y z h => by rw [hR, h]; rfl
    clear hR
    refine IfB.eqI (fun h => ⟨a, w, idx0 _ _, R0 _ ?_⟩) (fun h => ⟨a, w, idx0 _ _, subok_tail _ _, ?_⟩)
    · rw [says13_cons, if_pos (by omega)]
    simp only [sub_tail]
    have hne : ¬ verd w = 0 := by omega
    have hs : says13 ((a, w) :: rest) = match lnR (kws (verd w)) a rest with
      | .inl e => .inl e
      | .inr l => .inr (if verd w = 1 then (1, l.getD 0 [], l.getD 1 [], []) else if verd w = 2 then (2, [], l.getD 0 [], []) else (3, l.getD 0 [], [], l.getD 1 [])) := by
      rw [says13_cons, if_neg hne]
    rw [hs] at R0 R1
    clear hs h
    have h123 : verd w = 1 ∨ verd w = 2 ∨ verd w = 3 := by omega
    rcases h123 with hv | hv | hv
    · rw [hv] at R0 R1 ⊢
      simp only [kws, if_true] at R0 R1
      refine IfB.neI (fun _ => IfB.neI (fun _ => ?_) (fun h => absurd h (by omega))) (fun h => absurd h (by omega))
      refine stepP (kw := [120]) hrest (fun h => R0 _ (by subst h; rfl)) (fun a1 w1 r1 h => ⟨fun ho => ?_, fun hn => R0 _ (by subst h; simp only [lnR, if_neg hn])⟩)
      subst h
      simp only [sub_tail]
      refine stepP (kw := [121]) (lnOK_tail hrest) (fun h => R0 _ (by subst h; simp only [lnR, if_pos ho])) (fun a2 w2 r2 h => ⟨fun ho2 => ?_, fun hn => R0 _ (by subst h; simp only [lnR, if_pos ho, if_neg hn])⟩)
      subst h
      simp only [sub_tail]
      refine endP (fun h => R1 _ w1.tail w2.tail [] (by subst h; simp only [lnR, if_pos ho, if_pos ho2]; rfl)) (fun a3 w3 r3 h => R0 _ (by subst h; simp only [lnR, if_pos ho, if_pos ho2]))
    · rw [hv] at R0 R1 ⊢
      simp only [kws, show ¬ (2 : Nat) = 1 by omega, if_false, if_true] at R0 R1
      refine IfB.neI (fun h => absurd rfl h) (fun _ => ?_)
      refine stepP (kw := [121]) hrest (fun h => R0 _ (by subst h; rfl)) (fun a1 w1 r1 h => ⟨fun ho => ?_, fun hn => R0 _ (by subst h; simp only [lnR, if_neg hn])⟩)
      subst h
      simp only [sub_tail]
      refine endP (fun h => R1 _ [] w1.tail [] (by subst h; simp only [lnR, if_pos ho]; rfl)) (fun a3 w3 r3 h => R0 _ (by subst h; simp only [lnR, if_pos ho]))
    · rw [hv] at R0 R1 ⊢
      simp only [kws, show ¬ (3 : Nat) = 1 by omega, show ¬ (3 : Nat) = 2 by omega, if_false] at R0 R1
      refine IfB.neI (fun _ => IfB.neI (fun h => absurd rfl h) (fun _ => ?_)) (fun h => absurd h (by omega))
      refine stepP (kw := [120]) hrest (fun h => R0 _ (by subst h; rfl)) (fun a1 w1 r1 h => ⟨fun ho => ?_, fun hn => R0 _ (by subst h; simp only [lnR, if_neg hn])⟩)
      subst h
      simp only [sub_tail]
      refine stepP (kw := [114, 97, 121]) (lnOK_tail hrest) (fun h => R0 _ (by subst h; simp only [lnR, if_pos ho])) (fun a2 w2 r2 h => ⟨fun ho2 => ?_, fun hn => R0 _ (by subst h; simp only [lnR, if_pos ho, if_neg hn])⟩)
      subst h
      simp only [sub_tail]
      refine endP (fun h => R1 _ w1.tail [] w2.tail (by subst h; simp only [lnR, if_pos ho, if_pos ho2]; rfl)) (fun a3 w3 r3 h => R0 _ (by subst h; simp only [lnR, if_pos ho, if_pos ho2]))

theorem proof_Parse_says (s : By) (hl : s.length ≤ 3000) (hr : RightP s) (hok : lnOK (allL s)) : proof_Parse s (if allL s = [] then (0, [], [], [], 0, 2) else resP (says13 (allL s))) := by
  unfold proof_Parse
  refine ⟨_, _, lines_All_says (by omega) hr, IfB.neI (fun h => absurd rfl h) (fun _ => IfB.eqI (fun h => ?_) (fun h => ?_))⟩
  · rw [if_pos (List.length_eq_zero_iff.1 (by omega))]
  · cases ha : allL s with
    | nil => rw [ha] at h; simp at h
    | cons x rest =>
      obtain ⟨a, w⟩ := x
      rw [ha] at hok
      rw [if_neg (by simp)]
      exact ⟨_, _, _, _, rfl, proof_words_lines a w rest hok _ rfl⟩
theorem proof_Parse_wrong (s : By) (hl : s.length ≤ 3000) (hr : ¬ RightP s) : proof_Parse s (0, [], [], [], 0, 2) := by
  unfold proof_Parse
  exact ⟨_, _, lines_All_form (by omega) hr, IfB.neI (fun _ => rfl) (fun h => by omega)⟩

/-! ### the document's reference -/
theorem numsR {ws : List By} {F : (Int → Prop) → Int → Prop} {E N : Prop} (hl : ws.length ≤ 100000) (hw : ∀ w, w ∈ ws → w.length ≤ 1000000)
    (hF : ∀ (X2 : Int → Prop) (k : Int), F X2 k = IfB (decide (k < (ws.length : Int))) (∃ (x21 : List UInt8), Idx ws k x21 ∧ ∃ (x23 : Bool), offcutref08_Number x21 true x23 ∧ IfB x23 (X2 (IntKind.i64.wrap (k + 1))) E) N)
    (h1 : (∀ w, w ∈ ws.tail → isN w) → N) (h2 : (¬ ∀ w, w ∈ ws.tail → isN w) → E) (hne : ws ≠ []) : LoopP F (1 : Int) := by
  have hp := List.length_pos_iff.2 hne
  refine LoopP.intro (fun z : Int => ∃ k : Nat, z = k ∧ 1 ≤ k ∧ k ≤ ws.length ∧ ∀ w, w ∈ (ws.take k).tail → isN w) (fun z => ws.length - z.toNat) ⟨1, rfl, by omega, by omega, fun w hw => by
    cases ws with
    | nil => exact absurd rfl hne
    | cons y l => simp at hw⟩ ?_
  rintro X z ⟨k, rfl, hk1, hk, hn⟩ hX
  rw [hF]
  refine IfB.dec (fun h => ?_) (fun h => ?_)
  · have hkl : k < ws.length := by omega
    have hs := Number_says ws[k] (hw _ (List.getElem_mem hkl))
    rw [numU_isN] at hs
    have htk : (ws.take (k + 1)).tail = (ws.take k).tail ++ [ws[k]] := by
      rw [List.take_add_one, List.getElem?_eq_getElem hkl]
      cases ws with
      | nil => simp at hkl
      | cons y l =>
        cases k with
        | zero => omega
        | succ k => simp
    refine ⟨_, Idx.nat hkl, _, hs, IfB.dec (fun hi => ?_) (fun hi => h2 fun hall => hi (hall _ ?_))⟩
    · rw [wrap64' (by omega) (by omega)]
      refine hX _ ⟨k + 1, by omega, by omega, by omega, fun w hw => ?_⟩ (by omega)
      rw [htk] at hw
      rcases List.mem_append.1 hw with hw | hw
      · exact hn w hw
      · simp at hw; subst hw; exact hi
    · cases ws with
      | nil => simp at hkl
      | cons y l =>
        cases k with
        | zero => omega
        | succ k => simp
  · have : k = ws.length := by omega
    subst this
    rw [List.take_length] at hn
    exact h1 hn

end Go.Abs
end

section
/- Chapter 13 plain: the document's reference of a proof's text. -/
namespace Go.Abs
open Go
set_option linter.unusedVariables false
set_option linter.unusedSimpArgs false
set_option linter.unnecessarySimpa false

theorem stepR {all pre rest : Ln} {last : Int} {wl : List By} {keys : List By} {kw : By} {i : Nat} {E : Int → Prop} {F : Int → List By → Prop} (hall : all = pre ++ (last, wl) :: rest) (hi : pre.length = i) (hl : all.length ≤ 100000) (hr : lnOK rest) (hk : Idx keys (i : Int) kw)
    (h0 : rest = [] → E last) (h1 : ∀ a ws r, rest = (a, ws) :: r → ws ≠ [] → (ws.head? = some kw → ws.length ≤ 181 → F a ws) ∧ (¬ (ws.head? = some kw ∧ ws.length ≤ 181) → E a)) :
    IfB (decide ((IntKind.i64.wrap ((i : Int) + 1)) ≥ (all.length : Int)))
      (∃ (x11 : Int) (x12 : List (List UInt8)), Idx all (IntKind.i64.wrap ((all.length : Int) - 1)) (x11, x12) ∧ E x11)
      (∃ (x14 : Int) (x15 : List (List UInt8)), Idx all (IntKind.i64.wrap ((i : Int) + 1)) (x14, x15) ∧
      ∃ (x17 : List UInt8), Idx x15 (0 : Int) x17 ∧
      ∃ (x19 : List UInt8), Idx keys (i : Int) x19 ∧
      IfB (!(x17 == x19)) (E x14) (IfB (decide ((x15.length : Int) > (181 : Int))) (E x14) (F x14 x15))) := by
  have hlen : all.length = i + 1 + rest.length := by rw [hall]; simp; omega
  rw [wrap64' (n := (i : Int) + 1) (by omega) (by omega), wrap64' (n := (all.length : Int) - 1) (by omega) (by omega)]
  refine IfB.dec (fun h => ?_) (fun h => ?_)
  · have : rest = [] := List.length_eq_zero_iff.1 (by omega)
    refine ⟨last, wl, ⟨by omega, ?_⟩, h0 this⟩
    rw [show ((all.length : Int) - 1).toNat = i from by omega, hall, List.getElem?_append_right (by omega), hi]
    simp
  · cases rest with
    | nil => simp at hlen; omega
    | cons x r =>
      obtain ⟨a, ws⟩ := x
      obtain ⟨hne, _, _⟩ := hr (a, ws) (by simp)
      dsimp only at hne
      obtain ⟨q1, q2⟩ := h1 a ws r rfl hne
      cases ws with
      | nil => exact absurd rfl hne
      | cons w l =>
        refine ⟨a, w :: l, ⟨by omega, ?_⟩, w, idx0 _ _, kw, hk, IfB.intro (fun h => q2 fun h' => ?_) (fun h => IfB.dec (fun h2 => q2 fun h' => by have := h'.2; omega) (fun h2 => q1 ?_ (by omega)))⟩
        · rw [show ((i : Int) + 1).toNat = i + 1 from by omega, hall, List.getElem?_append_right (by omega), hi, show i + 1 - i = 1 from by omega]
          rfl
        · have := h'.1; simp at this h; exact h this
        · simp at h; simp [h]

theorem endR {all pre rest : Ln} {n : Nat} {E : Int → Prop} {N : Prop} (hall : all = pre ++ rest) (hn : pre.length = n + 1) (hl : all.length ≤ 100000) (h0 : rest = [] → N) (h1 : ∀ a ws r, rest = (a, ws) :: r → E a) :
    IfB (decide ((all.length : Int) > (IntKind.i64.wrap ((n : Int) + 1)))) (∃ (x35 : Int) (x36 : List (List UInt8)), Idx all (IntKind.i64.wrap ((n : Int) + 1)) (x35, x36) ∧ E x35) N := by
  have hlen : all.length = n + 1 + rest.length := by rw [hall]; simp; omega
  rw [wrap64' (by omega) (by omega)]
  refine IfB.dec (fun h => ?_) (fun h => h0 (List.length_eq_zero_iff.1 (by omega)))
  cases rest with
  | nil => simp at hlen; omega
  | cons x r =>
    obtain ⟨a, ws⟩ := x
    refine ⟨a, ws, ⟨by omega, ?_⟩, h1 a ws r rfl⟩
    rw [show ((n : Int) + 1).toNat = n + 1 from by omega, hall, List.getElem?_append_right (by omega), hn]
    simp

theorem beqF {x y : By} {A B : Prop} (h : x ≠ y) (hb : B) : IfB (x == y) A B := IfB.intro (fun e => absurd (by simpa using e) h) (fun _ => hb)
theorem beqT {x : By} {A B : Prop} (ha : A) : IfB (x == x) A B := IfB.intro (fun _ => ha) (fun e => by simp at e)
theorem subok1 {α : Type} {l : List α} (h : l ≠ []) : SubOk l (1 : Int) (l.length : Int) := by
  cases l with
  | nil => exact absurd rfl h
  | cons a l => exact subok_tail a l
theorem sub1 {α : Type} {l : List α} : sub l (1 : Int) (l.length : Int) = l.tail := by
  cases l with
  | nil => rfl
  | cons a l => exact sub_tail a l

theorem ref13_lines (a : Int) (w : List By) (rest : Ln) (hok : lnOK ((a, w) :: rest)) (hl : rest.length ≤ 10000) (R : Int × Int × List By × List By × List By) (hR : R = resR (says13 ((a, w) :: rest))) :
    IfB ((w.length : Int) == (1 : Int))
      (∃ (x6 : Int) (x7 : List (List UInt8)), Idx ((a, w) :: rest) (0 : Int) (x6, x7) ∧
      ∃ (x9 : List UInt8), Idx x7 (0 : Int) x9 ∧
      IfB (x9 == ([111, 112, 116, 105, 109, 97, 108] : List UInt8))
        (LoopP (offcutref13_Parse_L1 ((a, w) :: rest) R) ((0 : Int), ([] : List (List UInt8)), ([] : List (List UInt8)), ([] : List (List UInt8))))
        (IfB (x9 == ([105, 110, 102, 101, 97, 115, 105, 98, 108, 101] : List UInt8))
          (LoopP (offcutref13_Parse_L3 ((a, w) :: rest) R) ((0 : Int), ([] : List (List UInt8)), ([] : List (List UInt8)), ([] : List (List UInt8))))
          (IfB (x9 == ([117, 110, 98, 111, 117, 110, 100, 101, 100] : List UInt8))
            (LoopP (offcutref13_Parse_L5 ((a, w) :: rest) R) ((0 : Int), ([] : List (List UInt8)), ([] : List (List UInt8)), ([] : List (List UInt8))))
            (∃ (x92 : Int) (x93 : List (List UInt8)), Idx ((a, w) :: rest) (0 : Int) (x92, x93) ∧
            R = (0, x92, ([] : List (List UInt8)), ([] : List (List UInt8)), ([] : List (List UInt8)))))))
      (∃ (x95 : Int) (x96 : List (List UInt8)), Idx ((a, w) :: rest) (0 : Int) (x95, x96) ∧
      R = (0, x95, ([] : List (List UInt8)), ([] : List (List UInt8)), ([] : List (List UInt8)))) := by
  have hrest := lnOK_tail hok
  have R0 : ∀ e, says13 ((a, w) :: rest) = .inl e → R = (0, e, [], [], []) := fun e h => by rw [hR, h]; rfl
  have R1 : ∀ v x y z, says13 ((a, w) :: rest) = .inr (v, x, y, z) → R = (v, 0, x, y, z) := fun v x y z h => by rw [hR, h]; rfl
  clear hR
  have no : verd w = 0 → R = (0, a, [], [], []) := fun h => R0 _ (by rw [says13_cons, if_pos h])
  have hs : ¬ verd w = 0 → says13 ((a, w) :: rest) = match lnR (kws (verd w)) a rest with
      | .inl e => .inl e
      | .inr l => .inr (if verd w = 1 then (1, l.getD 0 [], l.getD 1 [], []) else if verd w = 2 then (2, [], l.getD 0 [], []) else (3, l.getD 0 [], [], l.getD 1 [])) := fun hne => by
    exact (says13_cons a w rest).trans (if_neg hne)
  have bad : ∀ kw (ws : List By), ¬ (ws.head? = some kw ∧ ws.length ≤ 181) → ¬ okP kw ws := fun kw ws h ho => h ⟨ho.1, ho.2.1⟩
  refine IfB.eqI (fun h1 => ?_) (fun h1 => ⟨a, w, idx0 _ _, no ?_⟩)
  · cases w with
    | nil => simp at h1
    | cons y l =>
      have hl0 : l = [] := by simp at h1; exact List.length_eq_zero_iff.1 (by omega)
      subst hl0
      refine ⟨a, [y], idx0 _ _, y, idx0 _ _, IfB.intro (fun h2 => ?_) (fun h2 => IfB.intro (fun h3 => ?_) (fun h3 => IfB.intro (fun h4 => ?_) (fun h4 => ⟨a, [y], idx0 _ _, no ?_⟩)))⟩
      · obtain rfl : y = [111, 112, 116, 105, 109, 97, 108] := by simpa using h2
        have hv : verd [([111, 112, 116, 105, 109, 97, 108] : By)] = 1 := verd_1.2 rfl
        rw [hs (by omega), hv] at R0 R1
        simp only [kws, if_true] at R0 R1
        refine LoopP.once fun X hX => ?_
        unfold offcutref13_Parse_L1
        dsimp only
        refine IfB.dec (fun _ => ?_) (fun h => absurd (by decide) h)
        refine stepR (i := 0) (pre := []) (kw := [120]) rfl rfl (by simp; omega) hrest (idx0 _ _) (fun h => R0 _ (by subst h; rfl)) (fun a1 w1 r1 h hne => ⟨fun hh h181 => ?_, fun hn => R0 _ (by subst h; simp only [lnR, if_neg (bad _ _ hn)])⟩)
        subst h
        obtain ⟨_, q2, q3⟩ := hrest (a1, w1) (by simp)
        refine numsR (ws := w1) (E := R = (0, a1, [], [], [])) q2 q3 (fun X2 k => rfl) (fun hn => ?_) (fun hn => R0 _ (by simp only [lnR]; rw [if_neg (fun ho : okP [120] w1 => hn ho.2.2)])) hne
        have ho : okP [120] w1 := ⟨hh, h181, hn⟩
        refine ⟨[120], idx0 _ _, beqF (by decide) ⟨[120], idx0 _ _, beqF (by decide) ⟨subok1 hne, hX _ ?_⟩⟩⟩
        unfold offcutref13_Parse_L1
        dsimp only
        rw [show IntKind.i64.wrap ((0 : Int) + 1) = ((1 : Nat) : Int) from by decide, sub1]
        refine IfB.dec (fun _ => ?_) (fun h => absurd (by decide) h)
        refine stepR (i := 1) (pre := [(a, [[111, 112, 116, 105, 109, 97, 108]])]) (kw := [121]) rfl rfl (by simp at hl ⊢; omega) (lnOK_tail hrest) ⟨by omega, rfl⟩ (fun h => R0 _ (by subst h; simp only [lnR, if_pos ho])) (fun a2 w2 r2 h hne2 => ⟨fun hh2 h1812 => ?_, fun hn => R0 _ (by subst h; simp only [lnR, if_pos ho, if_neg (bad _ _ hn)])⟩)
        subst h
        obtain ⟨_, q4, q5⟩ := hrest (a2, w2) (by simp)
        refine numsR (ws := w2) (E := R = (0, a2, [], [], [])) q4 q5 (fun X2 k => rfl) (fun hn2 => ?_) (fun hn2 => R0 _ (by simp only [lnR, if_pos ho]; rw [if_neg (fun ho2 : okP [121] w2 => hn2 ho2.2.2)])) hne2
        have ho2 : okP [121] w2 := ⟨hh2, h1812, hn2⟩
        refine ⟨[121], ⟨by omega, rfl⟩, beqT ⟨[121], ⟨by omega, rfl⟩, beqF (by decide) ⟨subok1 hne2, hX _ ?_⟩⟩⟩
        unfold offcutref13_Parse_L1
        dsimp only
        rw [show IntKind.i64.wrap (((1 : Nat) : Int) + 1) = ((2 : Nat) : Int) from by decide, sub1]
        refine IfB.dec (fun h => absurd h (by decide)) (fun _ => ?_)
        refine endR (n := 2) (pre := [(a, [[111, 112, 116, 105, 109, 97, 108]]), (a1, w1), (a2, w2)]) rfl rfl (by simp at hl ⊢; omega) (fun h => R1 _ w1.tail w2.tail [] (by subst h; simp only [lnR, if_pos ho, if_pos ho2]; rfl)) (fun a3 w3 r3 h => R0 _ (by subst h; simp only [lnR, if_pos ho, if_pos ho2]))
      · obtain rfl : y = [105, 110, 102, 101, 97, 115, 105, 98, 108, 101] := by simpa using h3
        have hv : verd [([105, 110, 102, 101, 97, 115, 105, 98, 108, 101] : By)] = 2 := verd_2.2 rfl
        rw [hs (by omega), hv] at R0 R1
        simp only [kws, show ¬ (2 : Nat) = 1 by omega, if_false, if_true] at R0 R1
        refine LoopP.once fun X hX => ?_
        unfold offcutref13_Parse_L3
        dsimp only
        refine IfB.dec (fun _ => ?_) (fun h => absurd (by decide) h)
        refine stepR (i := 0) (pre := []) (kw := [121]) rfl rfl (by simp; omega) hrest (idx0 _ _) (fun h => R0 _ (by subst h; rfl)) (fun a1 w1 r1 h hne => ⟨fun hh h181 => ?_, fun hn => R0 _ (by subst h; simp only [lnR, if_neg (bad _ _ hn)])⟩)
        subst h
        obtain ⟨_, q2, q3⟩ := hrest (a1, w1) (by simp)
        refine numsR (ws := w1) (E := R = (0, a1, [], [], [])) q2 q3 (fun X2 k => rfl) (fun hn => ?_) (fun hn => R0 _ (by simp only [lnR]; rw [if_neg (fun ho : okP [121] w1 => hn ho.2.2)])) hne
        have ho : okP [121] w1 := ⟨hh, h181, hn⟩
        refine ⟨[121], idx0 _ _, beqT ⟨[121], idx0 _ _, beqF (by decide) ⟨subok1 hne, hX _ ?_⟩⟩⟩
        unfold offcutref13_Parse_L3
        dsimp only
        rw [show IntKind.i64.wrap ((0 : Int) + 1) = ((1 : Nat) : Int) from by decide, sub1]
        refine IfB.dec (fun h => absurd h (by decide)) (fun _ => ?_)
        refine endR (n := 1) (pre := [(a, [[105, 110, 102, 101, 97, 115, 105, 98, 108, 101]]), (a1, w1)]) rfl rfl (by simp at hl ⊢; omega) (fun h => R1 _ [] w1.tail [] (by subst h; simp only [lnR, if_pos ho]; rfl)) (fun a3 w3 r3 h => R0 _ (by subst h; simp only [lnR, if_pos ho]))
      · obtain rfl : y = [117, 110, 98, 111, 117, 110, 100, 101, 100] := by simpa using h4
        have hv : verd [([117, 110, 98, 111, 117, 110, 100, 101, 100] : By)] = 3 := verd_3.2 rfl
        rw [hs (by omega), hv] at R0 R1
        simp only [kws, show ¬ (3 : Nat) = 1 by omega, show ¬ (3 : Nat) = 2 by omega, if_false] at R0 R1
        refine LoopP.once fun X hX => ?_
        unfold offcutref13_Parse_L5
        dsimp only
        refine IfB.dec (fun _ => ?_) (fun h => absurd (by decide) h)
        refine stepR (i := 0) (pre := []) (kw := [120]) rfl rfl (by simp; omega) hrest (idx0 _ _) (fun h => R0 _ (by subst h; rfl)) (fun a1 w1 r1 h hne => ⟨fun hh h181 => ?_, fun hn => R0 _ (by subst h; simp only [lnR, if_neg (bad _ _ hn)])⟩)
        subst h
        obtain ⟨_, q2, q3⟩ := hrest (a1, w1) (by simp)
        refine numsR (ws := w1) (E := R = (0, a1, [], [], [])) q2 q3 (fun X2 k => rfl) (fun hn => ?_) (fun hn => R0 _ (by simp only [lnR]; rw [if_neg (fun ho : okP [120] w1 => hn ho.2.2)])) hne
        have ho : okP [120] w1 := ⟨hh, h181, hn⟩
        refine ⟨[120], idx0 _ _, beqF (by decide) ⟨[120], idx0 _ _, beqF (by decide) ⟨subok1 hne, hX _ ?_⟩⟩⟩
        unfold offcutref13_Parse_L5
        dsimp only
        rw [show IntKind.i64.wrap ((0 : Int) + 1) = ((1 : Nat) : Int) from by decide, sub1]
        refine IfB.dec (fun _ => ?_) (fun h => absurd (by decide) h)
        refine stepR (i := 1) (pre := [(a, [[117, 110, 98, 111, 117, 110, 100, 101, 100]])]) (kw := [114, 97, 121]) rfl rfl (by simp at hl ⊢; omega) (lnOK_tail hrest) ⟨by omega, rfl⟩ (fun h => R0 _ (by subst h; simp only [lnR, if_pos ho])) (fun a2 w2 r2 h hne2 => ⟨fun hh2 h1812 => ?_, fun hn => R0 _ (by subst h; simp only [lnR, if_pos ho, if_neg (bad _ _ hn)])⟩)
        subst h
        obtain ⟨_, q4, q5⟩ := hrest (a2, w2) (by simp)
        refine numsR (ws := w2) (E := R = (0, a2, [], [], [])) q4 q5 (fun X2 k => rfl) (fun hn2 => ?_) (fun hn2 => R0 _ (by simp only [lnR, if_pos ho]; rw [if_neg (fun ho2 : okP [114, 97, 121] w2 => hn2 ho2.2.2)])) hne2
        have ho2 : okP [114, 97, 121] w2 := ⟨hh2, h1812, hn2⟩
        refine ⟨[114, 97, 121], ⟨by omega, rfl⟩, beqF (by decide) ⟨[114, 97, 121], ⟨by omega, rfl⟩, beqT ⟨subok1 hne2, hX _ ?_⟩⟩⟩
        unfold offcutref13_Parse_L5
        dsimp only
        rw [show IntKind.i64.wrap (((1 : Nat) : Int) + 1) = ((2 : Nat) : Int) from by decide, sub1]
        refine IfB.dec (fun h => absurd h (by decide)) (fun _ => ?_)
        refine endR (n := 2) (pre := [(a, [[117, 110, 98, 111, 117, 110, 100, 101, 100]]), (a1, w1), (a2, w2)]) rfl rfl (by simp at hl ⊢; omega) (fun h => R1 _ w1.tail [] w2.tail (by subst h; simp only [lnR, if_pos ho, if_pos ho2]; rfl)) (fun a3 w3 r3 h => R0 _ (by subst h; simp only [lnR, if_pos ho, if_pos ho2]))
      · unfold verd
        rw [if_neg (fun e => by simp at e h2; exact h2 e), if_neg (fun e => by simp at e h3; exact h3 e), if_neg (fun e => by simp at e h4; exact h4 e)]
  · unfold verd
    rw [if_neg (fun e => h1 (by rw [e]; rfl)), if_neg (fun e => h1 (by rw [e]; rfl)), if_neg (fun e => h1 (by rw [e]; rfl))]

theorem ref13_Parse_says (s : By) (hl : s.length ≤ 3000) (hr : RightP s) (hok : lnOK (allL s)) (hn : (allL s).length ≤ 10000) : offcutref13_Parse s (resR (says13 (allL s))) := by
  unfold offcutref13_Parse
  have hall := offcutref07_All_says (s := s) (by omega)
  rw [goL_all hr] at hall
  refine ⟨_, hall, IfB.eqI (fun h => ?_) (fun h => ?_)⟩
  · rw [List.length_eq_zero_iff.1 (show (allL s).length = 0 by omega)]; rfl
  · cases ha : allL s with
    | nil => rw [ha] at h; simp at h
    | cons x rest =>
      obtain ⟨a, w⟩ := x
      rw [ha] at hok hn
      exact ⟨a, w, idx0 _ _, ref13_lines a w rest hok (by simp at hn; omega) _ rfl⟩

end Go.Abs
end

section
/- Chapter 13 plain: ProofParses. -/
namespace Go.Abs
open Go
set_option linter.unusedVariables false
set_option linter.unusedSimpArgs false
set_option linter.unnecessarySimpa false

theorem awk13 (A B : Prop) (h : A) : ∃ x : Bool, offcutlaw13_awake x ∧ IfB x A B := ⟨true, rfl, IfB_true.2 h⟩

theorem wlen_mem {l : List By} {w : By} (h : w ∈ l) : w.length ≤ wlen l := by
  induction l with
  | nil => simp at h
  | cons x l ih =>
    have e : wlen (x :: l) = x.length + 1 + wlen l := by simp [wlen]
    rw [e]
    rcases List.mem_cons.1 h with rfl | h
    · omega
    · have := ih h; omega
theorem allL_ok {s : By} (hl : s.length ≤ 100000 - 1) : lnOK (allL s) ∧ (allL s).length ≤ s.length + 1 := by
  refine ⟨fun x hx => ?_, ?_⟩
  · obtain ⟨i, hi⟩ := List.mem_iff_getElem?.1 hx
    have h1 := Rising.at (linesFrom_rising (splitC 10 s) 0) hi
    have h2 := all_wlen s x hx
    have h3 := wlen_len x.2
    exact ⟨List.length_pos_iff.1 h1.1, by omega, fun w hw => by have := wlen_mem hw; omega⟩
  · have h1 := linesFrom_length (splitC 10 s) 0
    have h2 := split_len (c := 10) (s := s)
    have h3 := List.count_le_length (a := (10 : UInt8)) (l := s)
    show (linesFrom 0 (splitC 10 s)).length ≤ _
    omega

def wsOK (ws : List By) : Prop := ws.length ≤ 100000 ∧ ∀ w, w ∈ ws → w.length ≤ 1000000
theorem wsOK_nil : wsOK [] := ⟨by simp, by simp⟩
theorem lnR_ok : ∀ {ks : List By} {last : Int} {rest : Ln} {l : List (List By)}, lnOK rest → lnR ks last rest = .inr l → ∀ ws, ws ∈ l → wsOK ws
  | [], _, [], l, _, h, ws, hw => by simp [lnR] at h; subst h; simp at hw
  | [], _, (a, w) :: r, l, _, h, ws, hw => by simp [lnR] at h
  | kw :: ks, last, [], l, _, h, ws, hw => by simp [lnR] at h
  | kw :: ks, last, (a, w) :: r, l, ho, h, ws, hw => by
    unfold lnR at h
    split at h
    · cases hq : lnR ks a r with
      | inl e => rw [hq] at h; simp at h
      | inr l' =>
        rw [hq] at h
        simp at h
        subst h
        rcases List.mem_cons.1 hw with rfl | hw
        · obtain ⟨_, h2, h3⟩ := ho (a, w) (by simp)
          exact ⟨by simp at h2 ⊢; omega, fun v hv => h3 v (List.mem_of_mem_tail hv)⟩
        · exact lnR_ok (lnOK_tail ho) hq ws hw
    · simp at h
theorem getD_ok {l : List (List By)} (h : ∀ ws, ws ∈ l → wsOK ws) (i : Nat) : wsOK (l.getD i []) := by
  rw [List.getD_eq_getElem?_getD]
  cases hi : l[i]? with
  | none => exact wsOK_nil
  | some w => exact h w (List.mem_iff_getElem?.2 ⟨i, hi⟩)
theorem says13_ok {l : Ln} (ho : lnOK l) {v : Int} {x y z : List By} (h : says13 l = .inr (v, x, y, z)) : v ≠ 0 ∧ wsOK x ∧ wsOK y ∧ wsOK z := by
  cases l with
  | nil => simp [says13] at h
  | cons p r =>
    obtain ⟨a, w⟩ := p
    rw [says13_cons] at h
    split at h
    · simp at h
    · cases hq : lnR (kws (verd w)) a r with
      | inl e => rw [hq] at h; simp at h
      | inr l' =>
        rw [hq] at h
        have hk := lnR_ok (lnOK_tail ho) hq
        simp only [Sum.inr.injEq] at h
        split at h
        · simp only [Prod.mk.injEq] at h
          obtain ⟨rfl, rfl, rfl, rfl⟩ := h
          exact ⟨by omega, getD_ok hk 0, getD_ok hk 1, wsOK_nil⟩
        · split at h
          · simp only [Prod.mk.injEq] at h
            obtain ⟨rfl, rfl, rfl, rfl⟩ := h
            exact ⟨by omega, wsOK_nil, getD_ok hk 0, wsOK_nil⟩
          · simp only [Prod.mk.injEq] at h
            obtain ⟨rfl, rfl, rfl, rfl⟩ := h
            exact ⟨by omega, getD_ok hk 0, wsOK_nil, getD_ok hk 1⟩

theorem wantR {ws : List By} {F : (Int × List Q3 → Prop) → Int × List Q3 → Prop} {N : List Q3 → Prop} (hw : wsOK ws)
    (hF : ∀ (X : Int × List Q3 → Prop) (k : Int) (l : List Q3), F X (k, l) = IfB (decide (k < (ws.length : Int))) (∃ (x30 : List UInt8), Idx ws k x30 ∧ ∃ (x32 : Bool) (x33 : List Int) (x34 : List Int) (x35 : Int), rat_Parse x30 (x32, x33, x34, x35) ∧ Fits (l.length + [(x32, x33, x34)].length) 56 ∧ X ((IntKind.i64.wrap (k + 1)), (l ++ [(x32, x33, x34)]))) (N l))
    (h : N (ws.map numOf)) : LoopP F ((0 : Int), ([] : List Q3)) := by
  refine LoopP.intro (fun z : Int × List Q3 => ∃ k : Nat, z.1 = k ∧ k ≤ ws.length ∧ z.2 = (ws.take k).map numOf) (fun z => ws.length - z.1.toNat) ⟨0, rfl, by omega, by simp⟩ ?_
  rintro X ⟨z1, z2⟩ ⟨k, h1, hk, h2⟩ hX
  simp only at h1 h2
  subst h1 h2
  rw [hF]
  have hwl := hw.1
  refine IfB.dec (fun hlt => ?_) (fun hge => ?_)
  · have hkl : k < ws.length := by omega
    have hp := rat_Parse_says ws[k] (hw.2 _ (List.getElem_mem hkl))
    refine ⟨_, Idx.nat hkl, (ratR ws[k]).1, (ratR ws[k]).2.1, (ratR ws[k]).2.2.1, (ratR ws[k]).2.2.2, hp, ?_, ?_⟩
    · unfold Fits; simp; omega
    · rw [wrap64' (by omega) (by omega)]
      refine hX _ ⟨k + 1, by dsimp only; omega, by omega, ?_⟩ (by dsimp only; omega)
      dsimp only
      rw [List.take_add_one, List.getElem?_eq_getElem hkl, List.map_append]
      rfl
  · have : k = ws.length := by omega
    subst this
    rw [List.take_length]
    exact h

theorem mapOK {ws : List By} (h : wsOK ws) : (ws.map numOf).length ≤ 1000000 ∧ ∀ a, a ∈ ws.map numOf → okQ a := by
  refine ⟨by have := h.1; simp; omega, fun a ha => ?_⟩
  obtain ⟨w, _, rfl⟩ := List.mem_map.1 ha
  exact numOf_ok w

theorem law_parses (s : By) : offcutlaw13_ProofParses s true := by
  unfold offcutlaw13_ProofParses
  refine IfB.dec (fun _ => awk13 _ _ rfl) (fun hl => ?_)
  have hl' : s.length ≤ 3000 := by omega
  have same0 := proof_Same_refl 0 [] [] [] (by simp) (by simp) (by simp) (by simp) (by simp) (by simp)
  by_cases hr : RightP s
  · obtain ⟨hok, hlen⟩ := allL_ok (s := s) (by omega)
    have hp := proof_Parse_says s hl' hr hok
    have hq := ref13_Parse_says s hl' hr hok (by omega)
    have hp2 : proof_Parse s (resP (says13 (allL s))) := by
      by_cases h : allL s = []
      · rw [if_pos h] at hp; rw [h]; exact hp
      · rw [if_neg h] at hp; exact hp
    clear hp
    have hR := offcutref07_Right_says (s := s) (r := true) (by omega) ⟨fun _ => hr, fun _ => rfl⟩
    cases hs : says13 (allL s) with
    | inl e =>
      rw [hs] at hp2 hq
      refine ⟨0, [], [], [], e, 2, hp2, true, hR, IfB_true.2 ⟨0, e, [], [], [], hq, IfB.eqI (fun _ => ?_) (fun h => absurd rfl h)⟩⟩
      exact ⟨true, same0, IfB_true.2 (IfB.eqI (fun _ => IfB.eqI (fun _ => awk13 _ _ rfl) (fun h => absurd rfl h)) (fun h => absurd rfl h))⟩
    | inr p =>
      obtain ⟨v, x, y, z⟩ := p
      obtain ⟨hv, hx, hy, hz⟩ := says13_ok hok hs
      rw [hs] at hp2 hq
      refine ⟨v, x.map numOf, y.map numOf, z.map numOf, 0, 0, hp2, true, hR, IfB_true.2 ⟨v, 0, x, y, z, hq, IfB.eqI (fun h => absurd h hv) (fun _ => ?_)⟩⟩
      refine wantR hx (N := fun l => _) (fun X k l => rfl) ?_
      refine wantR hy (N := fun l => _) (fun X k l => rfl) ?_
      refine wantR hz (N := fun l => _) (fun X k l => rfl) ?_
      have mx := mapOK hx
      have my := mapOK hy
      have mz := mapOK hz
      exact IfB.eqI (fun _ => IfB.eqI (fun _ => ⟨true, proof_Same_refl v _ _ _ mx.1 my.1 mz.1 mx.2 my.2 mz.2, IfB_true.2 (awk13 _ _ rfl)⟩) (fun h => absurd rfl h)) (fun h => absurd rfl h)
  · have hp := proof_Parse_wrong s hl' hr
    have hR := offcutref07_Right_says (s := s) (r := false) (by omega) ⟨fun h => Bool.noConfusion h, fun h => absurd h hr⟩
    refine ⟨0, [], [], [], 0, 2, hp, false, hR, IfB_false.2 ?_⟩
    exact ⟨true, same0, IfB_true.2 (IfB.eqI (fun _ => IfB.eqI (fun _ => awk13 _ _ rfl) (fun h => absurd rfl h)) (fun h => absurd rfl h))⟩

end Go.Abs
end
