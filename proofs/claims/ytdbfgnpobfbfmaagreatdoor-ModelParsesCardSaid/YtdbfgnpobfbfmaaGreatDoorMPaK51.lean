/- Part of a proof, in few files: L8a L8b L8c L8d L8e L8f L8g L8h L8i L8j L8k L8l. -/
import Derived.Test.YtdbfgnpobfbfmaaGreatDoorMPaK33
import Derived.Test.YtdbfgnpobfbfmaaGreatDoorMPaK50

section
namespace Go.Abs
open Go
set_option linter.unusedVariables false
set_option linter.unusedSimpArgs false
set_option linter.unnecessarySimpa false
abbrev Tm := Bool × Option By × By
abbrev TM := By × Bool × List Int × List Int
abbrev TR := Int × By × By
noncomputable def nameB (w : By) : Bool := @decide (NameP w) (Classical.propDecidable _)
theorem nameB_iff (w : By) : nameB w = true ↔ NameP w := by unfold nameB; exact @decide_eq_true_iff _ (Classical.propDecidable _)
def signS (first : Bool) (l : Ws) : Option (Bool × Ws) :=
  match l with
  | [] => if first then some (false, []) else none
  | w :: r => if w = [45] then some (true, r) else if first then some (false, w :: r) else if w = [43] then some (false, r) else none
def numS (l : Ws) : Option By × Ws := match l with | [] => (none, []) | w :: r => if numU w then (some w, r) else (none, w :: r)
noncomputable def nameS (neg : Bool) (l : Ws) : Option (Tm × Ws) :=
  match (numS l).2 with | [] => none | w :: r => if nameB w then some ((neg, (numS l).1, w), r) else none
noncomputable def stepS (first : Bool) (l : Ws) : Option (Tm × Ws) := match signS first l with | none => none | some (neg, l1) => nameS neg l1
theorem numS_len (l : Ws) : (numS l).2.length ≤ l.length := by
  unfold numS; cases l with
  | nil => simp
  | cons w r => simp only; split <;> simp
theorem nameS_lt {neg : Bool} {l : Ws} {t : Tm} {r : Ws} (h : nameS neg l = some (t, r)) : r.length < l.length := by
  unfold nameS at h
  have := numS_len l
  split at h
  · cases h
  · rename_i w r' e
    rw [e] at this
    split at h
    · cases h; simp at this; omega
    · cases h
theorem signS_len {first : Bool} {l l1 : Ws} {neg : Bool} (h : signS first l = some (neg, l1)) : l1.length ≤ l.length := by
  unfold signS at h
  split at h
  · split at h <;> cases h; simp
  · split at h
    · cases h; simp
    · split at h
      · cases h; simp
      · split at h <;> cases h; simp
theorem stepS_lt {first : Bool} {l : Ws} {t : Tm} {r : Ws} (h : stepS first l = some (t, r)) : r.length < l.length := by
  unfold stepS at h
  split at h
  · cases h
  · rename_i neg l1 e
    have := signS_len e; have := nameS_lt h; omega
noncomputable def sumS (first : Bool) (l : Ws) : Option (List Tm) :=
  if first = false ∧ l = [] then some [] else
  match h : stepS first l with
  | none => none
  | some (t, r) => (sumS false r).map (t :: ·)
termination_by l.length
decreasing_by exact stepS_lt h
theorem sumS_nil : sumS false [] = some [] := by rw [sumS]; simp
theorem sumS_step {first : Bool} {l : Ws} (hl : first = true ∨ l ≠ []) : sumS first l = match stepS first l with | none => none | some (t, r) => (sumS false r).map (t :: ·) := by
  rw [sumS, if_neg (by rintro ⟨h1, h2⟩; rcases hl with h | h; · rw [h1] at h; cases h
                       · exact h h2)]
  split <;> rename_i h <;> rw [h]
noncomputable def sumW (l : Ws) : Option (List Tm) := if l = [[48]] then some [] else sumS true l
def sgF (neg : Bool) : Fr := (neg, words 1, words 1)
theorem sg1 (neg : Bool) : rat_Int (if neg then -1 else 1) (sgF neg) := by
  have w1 : (words 1).length ≤ 70000 := by rw [words_one (by omega) (by omega)]; simp
  have hm : whole_Make neg (words 1) (neg, words 1) := by
    have := whole_Make_says neg (words 1) (WS_words 1) (by omega)
    rw [val_words] at this
    simpa using this
  have hr : rat_Make neg (words 1) (words 1) (sgF neg) := by
    have := rat_Make_says neg (words 1) (words 1) (WS_words 1) (WS_words 1) w1 w1
    rw [val_words] at this
    have e : ratC neg 1 (den1 1) = sgF neg := by unfold ratC den1 sgF; simp
    rwa [e] at this
  have h1 := nat_Of_says 1 (by omega)
  unfold rat_Int whole_Of
  cases neg with
  | true => exact ⟨true, words 1, IfB_true.2 ⟨words 1, h1, true, words 1, hm, rfl⟩, words 1, h1, _, _, _, hr, rfl⟩
  | false => exact ⟨false, words 1, IfB_false.2 ⟨words 1, h1, false, words 1, hm, rfl⟩, words 1, h1, _, _, _, hr, rfl⟩
theorem sgF_ok (neg : Bool) : okX (sgF neg) 1 := ⟨WS_words 1, WS_words 1, by unfold sgF; rw [words_one (by omega) (by omega)]; simp, by unfold sgF; rw [words_one (by omega) (by omega)]; simp⟩
def numV : Option By → Fr | none => sgF false | some w => numOf w
theorem numOf_okX (w : By) : okX (numOf w) 10000 := ⟨(numOf_ok w).1, (numOf_ok w).2.1, (numOf_ok w).2.2.1, (numOf_ok w).2.2.2⟩
theorem numV_ok (o : Option By) : okX (numV o) 10000 := by
  cases o with
  | none => exact (sgF_ok false).mono (by omega)
  | some w => exact numOf_okX w
def tmV (t : Tm) : Fr := mulF (sgF t.1) (numV t.2.1)
theorem tmV_mul (neg : Bool) (o : Option By) (n : By) : rat_Mul (sgF neg).1 (sgF neg).2.1 (sgF neg).2.2 (numV o).1 (numV o).2.1 (numV o).2.2 (tmV (neg, o, n)) := (mulR (sgF_ok neg) (numV_ok o) (by omega) (by omega)).1
theorem tmV_ok (t : Tm) : okX (tmV t) 10003 := (mulR (sgF_ok t.1) (numV_ok t.2.1) (by omega) (by omega)).2.2
def tmM (t : Tm) : TM := (t.2.2, tmV t)
def tmR (t : Tm) : TR := (if t.1 then -1 else 1, t.2.1.getD [49], t.2.2)
theorem first_at : ∀ {w : By} {c : UInt8}, c ∈ w → ∃ a b, w = a ++ c :: b ∧ ∀ x, x ∈ a → x ≠ c
  | [], c, h => by cases h
  | y :: l, c, h => by
    by_cases hy : y = c
    · exact ⟨[], l, by rw [hy]; rfl, by simp⟩
    · have hc : c ∈ l := by
        rcases List.mem_cons.1 h with e | e
        · exact absurd e.symm hy
        · exact e
      obtain ⟨a, b, e, ha⟩ := first_at hc
      refine ⟨y :: a, b, by rw [e]; rfl, fun x hx => ?_⟩
      rcases List.mem_cons.1 hx with rfl | hx
      · exact hy
      · exact ha x hx
theorem contains_one (w : By) (c : UInt8) : Lib.contains w [c] = decide (c ∈ w) := by
  unfold Lib.contains
  by_cases h : c ∈ w
  · rw [decide_eq_true h]
    obtain ⟨a, b, rfl, ha⟩ := first_at h
    rw [indexAt ha]; simp
  · rw [indexNo (fun b hb e => h (by rw [← e]; exact hb))]; simp [h]
theorem numU_no45 {w : By} (h : (45 : UInt8) ∈ w) : numU w = false := by
  have hd : ∀ s : By, (45 : UInt8) ∈ s → ¬ dgOK s := fun s hs hk => by have := hk.2.1 _ hs; unfold dg at this; revert this; decide
  unfold numU
  split
  · rename_i hc
    have hw : w = (Lib.cut w [47]).1 ++ 47 :: (Lib.cut w [47]).2.1 := by
      by_cases hs : (47 : UInt8) ∈ w
      · obtain ⟨a, b, rfl, ha⟩ := first_at hs; rw [cut_app ha]
      · rw [cut_no (fun x hx e => hs (by rw [← e]; exact hx))] at hc; cases hc
    rw [hw] at h
    rcases List.mem_append.1 h with h | h
    · rw [decide_eq_false (hd _ h)]; simp
    · rcases List.mem_cons.1 h with h | h
      · exact absurd h (by decide)
      · rw [decide_eq_false (hd _ h)]; simp
  · rw [decide_eq_false (hd _ h)]
theorem numU_isN' {w : By} (h : (45 : UInt8) ∉ w) : numU w = decide (isN w) := by
  have := numU_isN w
  cases w with
  | nil => exact this
  | cons b l =>
    rw [trimP_cons, if_neg (fun e => h (by rw [e]; simp))] at this
    exact this
theorem Number_false (w : By) (hl : w.length ≤ 1000000) : offcutref08_Number w false (numU w) := by
  unfold offcutref08_Number
  exact IfB_false.2 (numLoop w hl)
end Go.Abs
end

section
namespace Go.Abs
open Go
set_option linter.unusedVariables false
set_option linter.unusedSimpArgs false
set_option linter.unnecessarySimpa false
theorem IfB.be {α : Type} [BEq α] [LawfulBEq α] {a b : α} {A B : Prop} (h1 : a = b → A) (h2 : a ≠ b → B) : IfB (a == b) A B := ⟨fun h => h1 (by simpa using h), fun h => h2 (by simpa using h)⟩
theorem IfB.nbe {α : Type} [BEq α] [LawfulBEq α] {a b : α} {A B : Prop} (h1 : a ≠ b → A) (h2 : a = b → B) : IfB (!(a == b)) A B := ⟨fun h => h1 (by simpa using h), fun h => h2 (by simpa using h)⟩
noncomputable def nameN (neg : Bool) (o : Option By) (l : Ws) : Option (Tm × Ws) := match l with | [] => none | w :: r => if nameB w then some ((neg, o, w), r) else none
theorem nameS_eq (neg : Bool) (l : Ws) : nameS neg l = nameN neg (numS l).1 (numS l).2 := rfl
abbrev SX := Ws × Bool × List TM
def KS (X : SX → Prop) (r : List TM × Bool) (out : List TM) : Option (Tm × Ws) → Prop
  | none => r = ([], false)
  | some (t, rest) => X (rest, false, out ++ [tmM t])
def NmC (sg v : Fr) (l : Ws) (out : List TM) (X : SX → Prop) (r : List TM × Bool) : Prop :=
  ∃ x25 : By, Idx l (0 : Int) x25 ∧ ∃ x27 : Bool, lines_Name x25 x27 ∧ IfB x27
    (∃ x29 : By, Idx l (0 : Int) x29 ∧ ∃ (x31 : Bool) (x32 : List Int) (x33 : List Int), rat_Mul sg.1 sg.2.1 sg.2.2 v.1 v.2.1 v.2.2 (x31, x32, x33) ∧
     Fits (out.length + [(x29, x31, x32, x33)].length) 72 ∧ SubOk l (1 : Int) (l.length : Int) ∧ X (sub l (1 : Int) (l.length : Int), false, out ++ [(x29, x31, x32, x33)]))
    (r = (([] : List TM), false))
def DC (sg one : Fr) (l : Ws) (out : List TM) (X : SX → Prop) (r : List TM × Bool) : Prop :=
  ∃ x89 : By, Idx l (0 : Int) x89 ∧ ∃ x91 : Bool, strings_Contains x89 ([45] : List UInt8) x91 ∧ IfB x91 (NmC sg one l out X r)
    (∃ x105 : By, Idx l (0 : Int) x105 ∧ ∃ (x107 : Bool) (x108 : List Int) (x109 : List Int) (x110 : Bool), lines_Number x105 (x107, x108, x109, x110) ∧
     IfB x110 (SubOk l (1 : Int) (l.length : Int) ∧ IfB (((sub l (1 : Int) (l.length : Int)).length : Int) == (0 : Int)) (r = (([] : List TM), false)) (NmC sg (x107, x108, x109) (sub l (1 : Int) (l.length : Int)) out X r))
       (NmC sg one l out X r))
def EC (sg one : Fr) (l : Ws) (out : List TM) (X : SX → Prop) (r : List TM × Bool) : Prop :=
  IfB (decide ((l.length : Int) > (0 : Int))) (DC sg one l out X r) (IfB ((l.length : Int) == (0 : Int)) (r = (([] : List TM), false)) (NmC sg one l out X r))
theorem nmP {neg : Bool} {o : Option By} {l : Ws} {out : List TM} {X : SX → Prop} {r : List TM × Bool} (hl : l ≠ []) (ho : out.length ≤ 1000000) (h : KS X r out (nameN neg o l)) : NmC (sgF neg) (numV o) l out X r := by
  cases l with
  | nil => exact absurd rfl hl
  | cons w t =>
    refine ⟨w, idx0 w t, nameB w, lines_Name_says (nameB_iff w), IfB.bool (fun hn => ?_) (fun hn => ?_)⟩
    · simp only [nameN, hn, if_true, KS] at h
      refine ⟨w, idx0 w t, _, _, _, tmV_mul neg o w, by unfold Fits; simp; omega, subok_tail w t, ?_⟩
      rw [sub_tail]; exact h
    · simp only [nameN, hn, KS] at h
      exact h
theorem dcP {neg : Bool} {l : Ws} {out : List TM} {X : SX → Prop} {r : List TM × Bool} (hl : l ≠ []) (hw : ∀ w, w ∈ l → w.length ≤ 1000000) (ho : out.length ≤ 1000000) (h : KS X r out (nameS neg l)) : DC (sgF neg) (sgF false) l out X r := by
  have hnone : numU (l.head hl) = false → NmC (sgF neg) (sgF false) l out X r := fun hn => by
    refine nmP (o := none) hl ho ?_
    rw [nameS_eq] at h
    cases l with
    | nil => exact absurd rfl hl
    | cons w t => simp only [List.head_cons] at hn; simpa [numS, hn] using h
  cases l with
  | nil => exact absurd rfl hl
  | cons w t =>
    refine ⟨w, idx0 w t, _, ⟨by unfold Short; have := hw w (by simp); omega, rfl⟩, ?_⟩
    rw [contains_one]
    refine IfB.dec (fun hc => hnone (numU_no45 hc)) (fun hc => ?_)
    refine ⟨w, idx0 w t, ?_⟩
    have hs := lines_Number_says w (hw w (by simp))
    have hu := numU_isN' hc
    by_cases hn : isN w
    · rw [if_pos hn] at hs
      rw [decide_eq_true hn] at hu
      refine ⟨_, _, _, true, hs, IfB_true.2 ⟨subok_tail w t, ?_⟩⟩
      rw [sub_tail]
      have h' : KS X r out (nameN neg (some w) t) := by rw [nameS_eq] at h; simpa [numS, hu] using h
      refine IfB.eqi (fun h0 => ?_) (fun h0 => ?_)
      · have : t = [] := List.length_eq_zero_iff.1 (by omega)
        subst this; exact h'
      · exact nmP (o := some w) (fun e => h0 (by rw [e]; rfl)) ho h'
    · rw [if_neg hn] at hs
      rw [decide_eq_false hn] at hu
      exact ⟨_, _, _, false, hs, IfB_false.2 (hnone hu)⟩
theorem ecP {neg : Bool} {l : Ws} {out : List TM} {X : SX → Prop} {r : List TM × Bool} (hw : ∀ w, w ∈ l → w.length ≤ 1000000) (ho : out.length ≤ 1000000) (h : KS X r out (nameS neg l)) : EC (sgF neg) (sgF false) l out X r := by
  refine IfB.dec (fun hp => dcP (fun e => by rw [e] at hp; simp at hp) hw ho h) (fun hp => IfB.eqi (fun h0 => ?_) (fun h0 => absurd (by omega) h0))
  have : l = [] := List.length_eq_zero_iff.1 (by omega)
  subst this; exact h
theorem sum_step {l : Ws} {first : Bool} {out : List TM} {X : SX → Prop} {r : List TM × Bool} (hw : ∀ w, w ∈ l → w.length ≤ 1000000) (ho : out.length ≤ 1000000) (h : if first = true ∨ l ≠ [] then KS X r out (stepS first l) else r = (out, true)) : model_sum_L1 r X (l, first, out) := by
  unfold model_sum_L1
  have one : rat_Int 1 (sgF false) := sg1 false
  have mone : rat_Int (-1) (sgF true) := sg1 true
  cases first with
  | true =>
    simp only [true_or, if_true] at h
    refine IfB_true.2 ⟨_, _, _, one, IfB.dec (fun hp => ?_) (fun hp => ?_)⟩
    · cases l with
      | nil => simp at hp
      | cons w t =>
        have ht : ∀ w, w ∈ t → w.length ≤ 1000000 := fun x hx => hw x (by simp [hx])
        refine ⟨w, idx0 w t, IfB.be (fun hc => ?_) (fun hc => ?_)⟩
        · refine ⟨_, _, _, mone, subok_tail w t, _, _, _, one, ?_⟩
          rw [sub_tail]
          subst hc
          exact ecP (neg := true) ht ho h
        · have h' : KS X r out (nameS false (w :: t)) := by simpa [stepS, signS, hc] using h
          have main := dcP (neg := false) (by simp) hw ho h'
          refine ⟨w, idx0 w t, IfB.bool (fun _ => ?_) (fun _ => ?_)⟩ <;> exact ⟨_, _, _, one, main⟩
    · have : l = [] := List.length_eq_zero_iff.1 (by omega)
      subst this
      exact ⟨_, _, _, one, IfB.eqi (fun _ => h) (fun h0 => absurd rfl h0)⟩
  | false =>
    refine IfB_false.2 (IfB.dec (fun hp => ?_) (fun hp => ?_))
    · cases l with
      | nil => simp at hp
      | cons w t =>
        simp only [ne_eq, reduceCtorEq, not_false_eq_true, or_true, if_true] at h
        have ht : ∀ w, w ∈ t → w.length ≤ 1000000 := fun x hx => hw x (by simp [hx])
        refine ⟨_, _, _, one, w, idx0 w t, IfB.be (fun hc => ?_) (fun hc => ?_)⟩
        · refine ⟨_, _, _, mone, subok_tail w t, _, _, _, one, ?_⟩
          rw [sub_tail]
          subst hc
          exact ecP (neg := true) ht ho h
        · refine ⟨w, idx0 w t, IfB.be (fun hc2 => ?_) (fun hc2 => ?_)⟩
          · refine ⟨subok_tail w t, _, _, _, one, ?_⟩
            rw [sub_tail]
            subst hc2
            exact ecP (neg := false) ht ho h
          · simpa [stepS, signS, hc, hc2, KS] using h
    · have : l = [] := List.length_eq_zero_iff.1 (by omega)
      subst this
      simpa using h
theorem numS_suf (l : Ws) : (numS l).2 <:+ l := by
  unfold numS
  cases l with
  | nil => exact List.suffix_refl _
  | cons w l => simp only; split <;> first | exact List.suffix_cons _ _ | exact List.suffix_refl _
theorem nameS_suf {neg : Bool} {l : Ws} {t : Tm} {r : Ws} (h : nameS neg l = some (t, r)) : r <:+ l := by
  have hs := numS_suf l
  unfold nameS at h
  split at h
  · cases h
  · rename_i w r' e
    rw [e] at hs
    split at h
    · cases h; exact (List.suffix_cons _ _).trans hs
    · cases h
theorem signS_suf {first : Bool} {l l1 : Ws} {neg : Bool} (h : signS first l = some (neg, l1)) : l1 <:+ l := by
  unfold signS at h
  split at h
  · split at h <;> cases h; exact List.suffix_refl _
  · split at h
    · cases h; exact List.suffix_cons _ _
    · split at h
      · cases h; exact List.suffix_refl _
      · split at h <;> cases h; exact List.suffix_cons _ _
theorem stepS_suf {first : Bool} {l : Ws} {t : Tm} {r : Ws} (h : stepS first l = some (t, r)) : r <:+ l := by
  unfold stepS at h
  split at h
  · cases h
  · rename_i neg l1 e; exact (nameS_suf h).trans (signS_suf e)
def mRes (out : List TM) : Option (List Tm) → List TM × Bool | some ts => (out ++ ts.map tmM, true) | none => ([], false)
theorem sum_loop (l : Ws) (hl : l.length ≤ 100000) (hw : ∀ w, w ∈ l → w.length ≤ 1000000) : LoopP (model_sum_L1 (mRes [] (sumS true l))) (l, true, []) := by
  refine LoopP.intro (fun z : SX => mRes [] (sumS true l) = mRes z.2.2 (sumS z.2.1 z.1) ∧ (∀ w, w ∈ z.1 → w.length ≤ 1000000) ∧ z.2.2.length + z.1.length ≤ l.length) (fun z => z.1.length) ⟨rfl, hw, by simp⟩ ?_
  rintro X ⟨z1, z2, z3⟩ ⟨h1, h2, h3⟩ hX
  simp only at h1 h2 h3
  refine sum_step h2 (by omega) ?_
  split
  · rename_i hc
    rw [sumS_step hc] at h1
    cases hs : stepS z2 z1 with
    | none => rw [hs] at h1; exact h1
    | some p =>
      obtain ⟨t, rest⟩ := p
      rw [hs] at h1
      have hlt := stepS_lt hs
      refine hX _ ⟨?_, fun w hw => h2 w ((stepS_suf hs).subset hw), ?_⟩ hlt
      · rw [h1]
        show mRes z3 ((sumS false rest).map (t :: ·)) = mRes (z3 ++ [tmM t]) (sumS false rest)
        cases sumS false rest <;> simp [mRes]
      · simp only [List.length_append, List.length_singleton]; omega
  · rename_i hc
    have e1 : z2 = false := by cases z2 <;> simp_all
    have e2 : z1 = [] := Classical.byContradiction fun h => hc (.inr h)
    subst e1 e2
    rw [h1, sumS_nil]; simp [mRes]
theorem model_sum_says (l : Ws) (hl : l.length ≤ 100000) (hw : ∀ w, w ∈ l → w.length ≤ 1000000) : model_sum l (mRes [] (sumW l)) := by
  have e : @model_sum_L2 = @model_sum_L1 := rfl
  unfold model_sum sumW
  refine IfB.eqi (fun h1 => ?_) (fun h1 => ?_)
  · cases l with
    | nil => simp at h1
    | cons w t =>
      have : t = [] := List.length_eq_zero_iff.1 (by rw [List.length_cons] at h1; omega)
      subst this
      refine ⟨w, idx0 w [], IfB.be (fun hc => ?_) (fun hc => ?_)⟩
      · subst hc; simp [mRes]
      · rw [if_neg (by simpa using hc)]
        exact sum_loop [w] hl hw
  · rw [if_neg (fun e => h1 (by rw [e]; rfl)), e]
    exact sum_loop l hl hw
end Go.Abs
end

section
namespace Go.Abs
open Go
set_option linter.unusedVariables false
set_option linter.unusedSimpArgs false
set_option linter.unnecessarySimpa false
abbrev RX := Int × List TR
def KR (p : Ws) (X : RX → Prop) (r : List TR × Bool) (out : List TR) : Option (Tm × Ws) → Prop
  | none => r = ([], false)
  | some (t, rest) => ∀ k : Nat, p.drop k = rest → k ≤ p.length → X ((k : Int), out ++ [tmR t])
def NrC (p : Ws) (j j1 sg : Int) (num : By) (out : List TR) (X : RX → Prop) (r : List TR × Bool) : Prop :=
  ∃ x15 : By, Idx p j x15 ∧ ∃ x17 : Bool, offcutref07_Name x15 x17 ∧ IfB x17 (∃ x19 : By, Idx p j x19 ∧ Fits (out.length + [(sg, num, x19)].length) 40 ∧ X (j1, out ++ [(sg, num, x19)])) (r = (([] : List TR), false))
def ArC (p : Ws) (j j1 j2 sg : Int) (out : List TR) (X : RX → Prop) (r : List TR × Bool) : Prop :=
  ∃ x8 : By, Idx p j x8 ∧ ∃ x10 : Bool, offcutref08_Number x8 false x10 ∧
   IfB x10 (∃ x12 : By, Idx p j x12 ∧ IfB (decide (j1 ≥ (p.length : Int))) (r = (([] : List TR), false)) (NrC p j1 j2 sg x12 out X r)) (NrC p j j1 sg ([49] : List UInt8) out X r)
theorem dropC {α : Type} {p : List α} {k : Nat} {w : α} {t : List α} (h : p.drop k = w :: t) : k < p.length ∧ Idx p (k : Int) w ∧ p.drop (k + 1) = t := by
  have hk : k < p.length := by
    rcases Nat.lt_or_ge k p.length with h1 | h1
    · exact h1
    · rw [List.drop_eq_nil_of_le h1] at h; cases h
  rw [List.drop_eq_getElem_cons hk] at h
  cases h
  exact ⟨hk, Idx.nat hk, rfl⟩
def sgZ (neg : Bool) : Int := if neg then -1 else 1
theorem nrP {p : Ws} {neg : Bool} {o : Option By} {l : Ws} {k : Nat} {j j1 sg : Int} {num : By} {out : List TR} {X : RX → Prop} {r : List TR × Bool} (hl : p.drop k = l) (hne : l ≠ []) (hj : j = (k : Int)) (hj1 : j1 = ((k + 1 : Nat) : Int)) (hsg : sg = sgZ neg) (hnum : num = o.getD [49]) (ho : out.length ≤ 1000000) (h : KR p X r out (nameN neg o l)) : NrC p j j1 sg num out X r := by
  subst hj hj1 hsg hnum
  cases l with
  | nil => exact absurd rfl hne
  | cons w t =>
    obtain ⟨a1, a2, a3⟩ := dropC hl
    refine ⟨w, a2, nameB w, offcutref07_Name_says (nameB_iff w), IfB.bool (fun hn => ?_) (fun hn => ?_)⟩
    · simp only [nameN, hn, if_true, KR] at h
      exact ⟨w, a2, by unfold Fits; simp; omega, h (k + 1) a3 (by omega)⟩
    · simp only [nameN, hn, KR] at h
      exact h
theorem arP {p : Ws} {neg : Bool} {l : Ws} {k : Nat} {j j1 j2 sg : Int} {out : List TR} {X : RX → Prop} {r : List TR × Bool} (hl : p.drop k = l) (hne : l ≠ []) (hj : j = (k : Int)) (hj1 : j1 = ((k + 1 : Nat) : Int)) (hj2 : j2 = ((k + 2 : Nat) : Int)) (hsg : sg = sgZ neg) (hw : ∀ w, w ∈ l → w.length ≤ 1000000) (ho : out.length ≤ 1000000) (h : KR p X r out (nameS neg l)) : ArC p j j1 j2 sg out X r := by
  have hl' := hl
  cases l with
  | nil => exact absurd rfl hne
  | cons w t =>
    obtain ⟨a1, a2, a3⟩ := dropC hl
    rw [nameS_eq] at h
    refine ⟨w, by rw [hj]; exact a2, numU w, Number_false w (hw w (by simp)), IfB.bool (fun hn => ?_) (fun hn => ?_)⟩
    · have h' : KR p X r out (nameN neg (some w) t) := by simpa [numS, hn] using h
      refine ⟨w, by rw [hj]; exact a2, IfB.dec (fun hp => ?_) (fun hp => ?_)⟩
      · have : t = [] := by rw [← a3]; exact List.drop_eq_nil_of_le (by omega)
        subst this; exact h'
      · refine nrP (o := some w) a3 (fun e => ?_) hj1 hj2 hsg rfl ho h'
        have : (p.drop (k + 1)).length = 0 := by rw [a3, e]; rfl
        rw [List.length_drop] at this; omega
    · refine nrP (o := none) hl' (by simp) hj hj1 hsg rfl ho ?_
      simpa [numS, hn] using h
theorem rsum_step {p : Ws} {k : Nat} {out : List TR} {X : RX → Prop} {r : List TR × Bool} (hk : k ≤ p.length) (hp : p.length ≤ 1000000) (hw : ∀ w, w ∈ p → w.length ≤ 1000000) (ho : out.length ≤ 1000000) (h : if out.length = 0 ∨ p.drop k ≠ [] then KR p X r out (stepS (decide (out.length = 0)) (p.drop k)) else r = (out, true)) : offcutref08_Sum_L1 p r X ((k : Int), out) := by
  unfold offcutref08_Sum_L1
  have w1 : IntKind.i64.wrap ((k : Int) + 1) = ((k + 1 : Nat) : Int) := by rw [wrap64' (by omega) (by omega)]; rfl
  have w2 : IntKind.i64.wrap (IntKind.i64.wrap ((k : Int) + 1) + 1) = ((k + 2 : Nat) : Int) := by rw [w1, wrap64' (by omega) (by omega)]; rfl
  have w3 : IntKind.i64.wrap (IntKind.i64.wrap (IntKind.i64.wrap ((k : Int) + 1) + 1) + 1) = ((k + 3 : Nat) : Int) := by rw [w2, wrap64' (by omega) (by omega)]; rfl
  have hwd : ∀ j, ∀ w, w ∈ p.drop j → w.length ≤ 1000000 := fun j w h => hw w (List.mem_of_mem_drop h)
  -- behind a sign
  have A : ∀ (neg : Bool) (sg : Int), sg = sgZ neg → KR p X r out (nameS neg (p.drop (k + 1))) → IfB (decide (IntKind.i64.wrap ((k : Int) + 1) < (p.length : Int))) (ArC p (IntKind.i64.wrap ((k : Int) + 1)) (IntKind.i64.wrap (IntKind.i64.wrap ((k : Int) + 1) + 1)) (IntKind.i64.wrap (IntKind.i64.wrap (IntKind.i64.wrap ((k : Int) + 1) + 1) + 1)) sg out X r) (r = (([] : List TR), false)) := fun neg sg hsg h => by
    refine IfB.dec (fun hp => ?_) (fun hp => ?_)
    · refine arP (neg := neg) rfl (fun e => ?_) w1 w2 w3 hsg (hwd _) ho h
      have : (p.drop (k + 1)).length = 0 := by rw [e]; rfl
      rw [List.length_drop] at this; omega
    · have : p.drop (k + 1) = [] := List.drop_eq_nil_of_le (by omega)
      rw [this] at h; exact h
  refine IfB.dec (fun hp => ?_) (fun hp => ?_)
  · have hkl : k < p.length := by omega
    have hd := List.drop_eq_getElem_cons hkl
    have hx : Idx p (k : Int) p[k] := Idx.nat hkl
    rw [if_pos (.inr (by rw [hd]; exact List.cons_ne_nil _ _))] at h
    refine ⟨_, hx, IfB.be (fun hc => ?_) (fun hc => ?_)⟩
    · refine A true (-1) rfl ?_
      rw [hd] at h
      simpa [stepS, signS, hc] using h
    · refine IfB.dec (fun h0 => ?_) (fun h0 => ?_)
      · have e0 : decide (out.length = 0) = false := decide_eq_false (by omega)
        rw [e0, hd] at h
        refine ⟨_, hx, IfB.nbe (fun hc2 => ?_) (fun hc2 => ?_)⟩
        · simpa [stepS, signS, hc, hc2, KR] using h
        · refine A false 1 rfl ?_
          simpa [stepS, signS, hc, hc2] using h
      · have e0 : decide (out.length = 0) = true := decide_eq_true (by omega)
        rw [e0] at h
        refine arP (neg := false) rfl (by rw [hd]; exact List.cons_ne_nil _ _) rfl w1 w2 rfl (hwd _) ho ?_
        rw [hd] at h ⊢
        simpa [stepS, signS, hc] using h
  · have hkl : p.drop k = [] := List.drop_eq_nil_of_le (by omega)
    rw [hkl] at h
    refine IfB.eqi (fun h0 => ?_) (fun h0 => ?_)
    · have e0 : out.length = 0 := by omega
      rw [if_pos (.inl e0), decide_eq_true e0] at h; exact h
    · have e0 : ¬ out.length = 0 := by omega
      rw [if_neg (fun e => e.elim e0 (fun e => e rfl))] at h; exact h
def rRes (out : List TR) : Option (List Tm) → List TR × Bool | some ts => (out ++ ts.map tmR, true) | none => ([], false)
theorem rsum_loop (l : Ws) (hl : l.length ≤ 100000) (hw : ∀ w, w ∈ l → w.length ≤ 1000000) : LoopP (offcutref08_Sum_L1 l (rRes [] (sumS true l))) ((0 : Int), []) := by
  refine LoopP.intro (fun z : RX => ∃ k : Nat, z.1 = k ∧ k ≤ l.length ∧ rRes [] (sumS true l) = rRes z.2 (sumS (decide (z.2.length = 0)) (l.drop k)) ∧ z.2.length ≤ k) (fun z => l.length - z.1.toNat) ⟨0, rfl, by omega, rfl, by simp⟩ ?_
  rintro X ⟨z1, z2⟩ ⟨k, h0, hk, h1, h3⟩ hX
  simp only at h0 h1 h3
  subst h0
  refine rsum_step hk (by omega) hw (by omega) ?_
  split
  · rename_i hc
    rw [sumS_step (hc.imp (fun h => decide_eq_true h) id)] at h1
    cases hs : stepS (decide (z2.length = 0)) (l.drop k) with
    | none => rw [hs] at h1; exact h1
    | some p =>
      obtain ⟨t, rest⟩ := p
      rw [hs] at h1
      have hlt := stepS_lt hs
      intro k' hk' hkl
      have hk2 : k < k' := by
        rw [← hk', List.length_drop, List.length_drop] at hlt; omega
      refine hX _ ⟨k', rfl, hkl, ?_, by simp; omega⟩ (by dsimp only; omega)
      rw [h1, hk', show decide ((z2 ++ [tmR t]).length = 0) = false from decide_eq_false (by simp)]
      show rRes z2 ((sumS false rest).map (t :: ·)) = rRes (z2 ++ [tmR t]) (sumS false rest)
      cases sumS false rest <;> simp [rRes]
  · rename_i hc
    have e1 : decide (z2.length = 0) = false := decide_eq_false (fun e => hc (.inl e))
    have e2 : l.drop k = [] := Classical.byContradiction fun h => hc (.inr h)
    rw [h1, e1, e2, sumS_nil]; simp [rRes]
theorem ref_sum_says (l : Ws) (hl : l.length ≤ 100000) (hw : ∀ w, w ∈ l → w.length ≤ 1000000) : offcutref08_Sum l (rRes [] (sumW l)) := by
  have e : @offcutref08_Sum_L2 = @offcutref08_Sum_L1 := rfl
  unfold offcutref08_Sum sumW
  refine IfB.eqi (fun h1 => ?_) (fun h1 => ?_)
  · cases l with
    | nil => simp at h1
    | cons w t =>
      have : t = [] := List.length_eq_zero_iff.1 (by rw [List.length_cons] at h1; omega)
      subst this
      refine ⟨w, idx0 w [], IfB.be (fun hc => ?_) (fun hc => ?_)⟩
      · subst hc; simp [rRes]
      · rw [if_neg (by simpa using hc)]
        exact rsum_loop [w] hl hw
  · rw [if_neg (fun e => h1 (by rw [e]; rfl)), e]
    exact rsum_loop l hl hw
end Go.Abs
end

section
namespace Go.Abs
open Go
open Classical
set_option linter.unusedVariables false
set_option linter.unusedSimpArgs false
set_option linter.unnecessarySimpa false
def colonB (w : By) : Bool := w.getLast? == some 58
theorem suf_colon (w : By) : Lib.hasSuffix w [58] = colonB w := by
  unfold Lib.hasSuffix colonB
  rw [Bool.eq_iff_iff, List.isSuffixOf_iff_suffix, beq_iff_eq, List.getLast?_eq_some_iff]
  exact ⟨fun ⟨t, e⟩ => ⟨t, e.symm⟩, fun ⟨t, e⟩ => ⟨t, e.symm⟩⟩
theorem getD_at {α : Type} {l : List α} {k : Nat} {d : α} (h : k < l.length) : l.getD k d = l[k] := by simp [List.getD, h]
theorem trim_colon {w : By} (h : colonB w = true) : Lib.trimSuffix w [58] = w.dropLast := by
  unfold Lib.trimSuffix
  rw [suf_colon, h, if_pos rfl, List.dropLast_eq_take]; rfl
def relOf (w : By) : Option Int := if w = [60, 61] then some (-1) else if w = [61] then some 0 else if w = [62, 61] then some 1 else none
theorem rel_get (w : By) : mpGet relsL w = ((relOf w).getD 0, (relOf w).isSome) := by
  unfold mpGet relsL relOf
  by_cases h1 : w = [60, 61]
  · subst h1; rfl
  by_cases h2 : w = [61]
  · subst h2; rfl
  by_cases h3 : w = [62, 61]
  · subst h3; rfl
  have e1 : (([60, 61] : By) == w) = false := by simpa using fun e : [60, 61] = w => h1 e.symm
  have e2 : (([61] : By) == w) = false := by simpa using fun e : [61] = w => h2 e.symm
  have e3 : (([62, 61] : By) == w) = false := by simpa using fun e : [62, 61] = w => h3 e.symm
  simp [List.find?, e1, e2, e3, h1, h2, h3]
abbrev Ln8 := By × List Tm × Int × By
def midW (ws : Ws) : Ws := sub ws (1 : Int) (IntKind.i64.wrap ((ws.length : Int) - 2))
def w0W (ws : Ws) : By := ws.headD []
def wrW (ws : Ws) : By := ws.getD (ws.length - 2) []
def wlW (ws : Ws) : By := ws.getD (ws.length - 1) []
def rowOK (ws : Ws) : Prop := 4 ≤ ws.length ∧ colonB (w0W ws) = true ∧ nameB (w0W ws).dropLast = true ∧ (relOf (wrW ws)).isSome = true ∧ isN (wlW ws)
noncomputable def rowS (ws : Ws) : Option Ln8 := if rowOK ws then (sumW (midW ws)).map fun ts => ((w0W ws).dropLast, ts, (relOf (wrW ws)).getD 0, wlW ws) else none
def nbOf (w : By) : Fr := if isN w then numOf w else (false, [], words 1)
theorem number_nb (w : By) (hl : w.length ≤ 1000000) : lines_Number w ((nbOf w).1, (nbOf w).2.1, (nbOf w).2.2, decide (isN w)) := by
  have := lines_Number_says w hl
  unfold nbOf
  by_cases h : isN w
  · rw [if_pos h] at this ⊢; rw [decide_eq_true h]; exact this
  · rw [if_neg h] at this ⊢; rw [decide_eq_false h]; exact this
noncomputable def rowM (ws : Ws) : By × List TM × Int × Bool × List Int × List Int × Bool :=
  if ws.length < 4 then ([], [], 0, false, [], [], false)
  else (Lib.trimSuffix (w0W ws) [58], (mRes [] (sumW (midW ws))).1, (relOf (wrW ws)).getD 0, (nbOf (wlW ws)).1, (nbOf (wlW ws)).2.1, (nbOf (wlW ws)).2.2, colonB (w0W ws) && nameB (Lib.trimSuffix (w0W ws) [58]) && (relOf (wrW ws)).isSome && decide (isN (wlW ws)) && (mRes [] (sumW (midW ws))).2)
def wrdOK (ws : Ws) : Prop := ws.length ≤ 100000 ∧ ∀ w, w ∈ ws → w.length ≤ 1000000
theorem mid_ok {ws : Ws} (h : wrdOK ws) : wrdOK (midW ws) := by
  unfold midW sub
  exact ⟨by simp; have := h.1; omega, fun w hw => h.2 w (List.mem_of_mem_drop (List.mem_of_mem_take hw))⟩
theorem ends_idx {ws : Ws} (h : wrdOK ws) (h4 : 4 ≤ ws.length) : Idx ws (0 : Int) (w0W ws) ∧ Idx ws (IntKind.i64.wrap ((ws.length : Int) - 2)) (wrW ws) ∧ Idx ws (IntKind.i64.wrap ((ws.length : Int) - 1)) (wlW ws) ∧ SubOk ws (1 : Int) (IntKind.i64.wrap ((ws.length : Int) - 2)) := by
  have := h.1
  have e2 : IntKind.i64.wrap ((ws.length : Int) - 2) = ((ws.length - 2 : Nat) : Int) := by rw [wrap64' (by omega) (by omega)]; omega
  have e1 : IntKind.i64.wrap ((ws.length : Int) - 1) = ((ws.length - 1 : Nat) : Int) := by rw [wrap64' (by omega) (by omega)]; omega
  rw [e1, e2]
  refine ⟨?_, ?_, ?_, by omega, by omega, by omega⟩
  · cases ws with
    | nil => simp at h4
    | cons w t => exact idx0 w t
  · unfold wrW; rw [getD_at (by omega)]; exact Idx.nat (by omega)
  · unfold wlW; rw [getD_at (by omega)]; exact Idx.nat (by omega)
theorem mem_w0 {ws : Ws} (h4 : 4 ≤ ws.length) : w0W ws ∈ ws := by
  cases ws with
  | nil => simp at h4
  | cons w t => simp [w0W]
theorem mem_wl {ws : Ws} (h4 : 4 ≤ ws.length) : wlW ws ∈ ws := by unfold wlW; rw [getD_at (by omega)]; exact List.getElem_mem _
theorem model_row_says (ws : Ws) (h : wrdOK ws) : model_row ws (rowM ws) := by
  unfold model_row
  refine IfB.dec (fun h4 => ?_) (fun h4 => ?_)
  · unfold rowM; rw [if_pos (by omega)]
  have h4 : 4 ≤ ws.length := by omega
  obtain ⟨i0, i2, i1, so⟩ := ends_idx h h4
  have hS : model_sum (sub ws (1 : Int) (IntKind.i64.wrap ((ws.length : Int) - 2))) (mRes [] (sumW (midW ws))) := model_sum_says _ (mid_ok h).1 (mid_ok h).2
  have hN := number_nb (wlW ws) (h.2 _ (mem_wl h4))
  have E : rowM ws = (Lib.trimSuffix (w0W ws) [58], (mRes [] (sumW (midW ws))).1, (relOf (wrW ws)).getD 0, (nbOf (wlW ws)).1, (nbOf (wlW ws)).2.1, (nbOf (wlW ws)).2.2, colonB (w0W ws) && nameB (Lib.trimSuffix (w0W ws) [58]) && (relOf (wrW ws)).isSome && decide (isN (wlW ws)) && (mRes [] (sumW (midW ws))).2) := if_neg (by omega)
  have hc : strings_CutSuffix (w0W ws) ([58] : List UInt8) (Lib.trimSuffix (w0W ws) [58], colonB (w0W ws)) := ⟨by have := h.2 _ (mem_w0 h4); omega, by rw [suf_colon]⟩
  have hg := rel_get (wrW ws)
  obtain ⟨S1, S2, hSe⟩ : ∃ a b, mRes [] (sumW (midW ws)) = (a, b) := ⟨_, _, rfl⟩
  rw [hSe] at hS E
  have hnm : lines_Name (Lib.trimSuffix (w0W ws) [58]) (nameB (Lib.trimSuffix (w0W ws) [58])) := lines_Name_says (nameB_iff _)
  refine ⟨_, i0, _, _, hc, IfB.bool (fun b1 => ?_) (fun b1 => ?_)⟩
  · refine ⟨_, rfl, _, i2, _, _, hg, IfB.bool (fun b2 => ?_) (fun b2 => ?_)⟩
    · refine ⟨_, i1, _, _, _, _, hN, IfB.bool (fun b3 => ?_) (fun b3 => ?_)⟩
      · refine ⟨so, _, _, hS, IfB.bool (fun b4 => ?_) (fun b4 => ?_)⟩ <;> refine ⟨_, hnm, IfB.bool (fun b5 => ?_) (fun b5 => ?_)⟩ <;> rw [E, b1, b2, b3, b5] <;> dsimp only <;> rw [b4] <;> rfl
      · refine ⟨so, _, _, hS, IfB.bool (fun b4 => ?_) (fun b4 => ?_)⟩ <;> refine ⟨_, hnm, IfB.bool (fun b5 => ?_) (fun b5 => ?_)⟩ <;> rw [E, b1, b2, b3, b5] <;> dsimp only <;> rw [b4] <;> rfl
    · refine ⟨_, i1, _, _, _, _, hN, IfB.bool (fun b3 => ?_) (fun b3 => ?_)⟩
      · refine ⟨so, _, _, hS, IfB.bool (fun b4 => ?_) (fun b4 => ?_)⟩ <;> refine ⟨_, hnm, IfB.bool (fun b5 => ?_) (fun b5 => ?_)⟩ <;> rw [E, b1, b2, b3, b5] <;> dsimp only <;> rw [b4] <;> rfl
      · refine ⟨so, _, _, hS, IfB.bool (fun b4 => ?_) (fun b4 => ?_)⟩ <;> refine ⟨_, hnm, IfB.bool (fun b5 => ?_) (fun b5 => ?_)⟩ <;> rw [E, b1, b2, b3, b5] <;> dsimp only <;> rw [b4] <;> rfl
  · refine ⟨_, rfl, _, i2, _, _, hg, IfB.bool (fun b2 => ?_) (fun b2 => ?_)⟩
    · refine ⟨_, i1, _, _, _, _, hN, IfB.bool (fun b3 => ?_) (fun b3 => ?_)⟩
      · refine ⟨so, _, _, hS, IfB.bool (fun b4 => ?_) (fun b4 => ?_)⟩ <;> rw [E, b1, b2, b3] <;> dsimp only <;> rw [b4] <;> simp
      · refine ⟨so, _, _, hS, IfB.bool (fun b4 => ?_) (fun b4 => ?_)⟩ <;> rw [E, b1, b2, b3] <;> dsimp only <;> rw [b4] <;> simp
    · refine ⟨_, i1, _, _, _, _, hN, IfB.bool (fun b3 => ?_) (fun b3 => ?_)⟩
      · refine ⟨so, _, _, hS, IfB.bool (fun b4 => ?_) (fun b4 => ?_)⟩ <;> rw [E, b1, b2, b3] <;> dsimp only <;> rw [b4] <;> simp
      · refine ⟨so, _, _, hS, IfB.bool (fun b4 => ?_) (fun b4 => ?_)⟩ <;> rw [E, b1, b2, b3] <;> dsimp only <;> rw [b4] <;> simp
end Go.Abs
end

section
namespace Go.Abs
open Go
open Classical
set_option linter.unusedVariables false
set_option linter.unusedSimpArgs false
set_option linter.unnecessarySimpa false
def relR (w : By) : Int := if w = [62, 61] then 1 else if w = [61] then 0 else if w = [60, 61] then -1 else 2
noncomputable def rowR (ws : Ws) : By × List TR × Int × By × Bool :=
  if 4 ≤ ws.length ∧ colonB (w0W ws) = true ∧ nameB (w0W ws).dropLast = true ∧ isN (wlW ws) then ((w0W ws).dropLast, (rRes [] (sumW (midW ws))).1, relR (wrW ws), wlW ws, (rRes [] (sumW (midW ws))).2 && decide (relR (wrW ws) < 2)) else ([], [], 0, [], false)
theorem sub_dl {w : By} (h : 1 ≤ w.length) (hl : w.length ≤ 1000000) : sub w 0 (IntKind.i64.wrap ((w.length : Int) - 1)) = w.dropLast ∧ SubOk w 0 (IntKind.i64.wrap ((w.length : Int) - 1)) := by
  have e1 : IntKind.i64.wrap ((w.length : Int) - 1) = ((w.length - 1 : Nat) : Int) := by rw [wrap64' (by omega) (by omega)]; omega
  rw [e1]
  refine ⟨?_, by omega, by omega, by omega⟩
  unfold sub
  rw [List.dropLast_eq_take]; simp
theorem colon_len {w : By} (h : colonB w = true) (hn : nameB w.dropLast = true) : 2 ≤ w.length := by
  have := ((nameB_iff _).1 hn).1
  rw [List.length_dropLast] at this; omega
theorem colon_idx {w : By} (h2 : 1 ≤ w.length) (hl : w.length ≤ 1000000) : ∃ c : UInt8, Idx w (IntKind.i64.wrap ((w.length : Int) - 1)) c ∧ (colonB w = true ↔ ((c.toNat : Nat) : Int) = 58) := by
  have e1 : IntKind.i64.wrap ((w.length : Int) - 1) = ((w.length - 1 : Nat) : Int) := by rw [wrap64' (by omega) (by omega)]; omega
  rw [e1]
  refine ⟨w[w.length - 1], Idx.nat (by omega), ?_⟩
  unfold colonB
  rw [beq_iff_eq, List.getLast?_eq_getElem?, List.getElem?_eq_getElem (by omega)]
  constructor
  · intro h; cases h' : w[w.length - 1]; rw [h'] at h; cases h; rfl
  · intro h
    congr 1
    exact UInt8.toNat_inj.1 (by show _ = 58; omega)
def RLf (ws : Ws) (ts : List TR) (rel : Int) (fl : Bool) (r : By × List TR × Int × By × Bool) : Prop :=
  ∃ x33 : By, Idx ws (0 : Int) x33 ∧ ∃ x35 : By, Idx ws (0 : Int) x35 ∧ SubOk x33 0 (IntKind.i64.wrap ((x35.length : Int) - 1)) ∧
   ∃ x38 : By, Idx ws (IntKind.i64.wrap ((ws.length : Int) - 1)) x38 ∧ r = ((sub x33 0 (IntKind.i64.wrap ((x35.length : Int) - 1))), ts, rel, x38, fl)
theorem rlf {ws : Ws} (h : wrdOK ws) (h4 : 4 ≤ ws.length) (hw : 1 ≤ (w0W ws).length) {ts : List TR} {rel : Int} {fl : Bool} {r : By × List TR × Int × By × Bool} (hr : r = ((w0W ws).dropLast, ts, rel, wlW ws, fl)) : RLf ws ts rel fl r := by
  obtain ⟨i0, i2, i1, so⟩ := ends_idx h h4
  obtain ⟨e, s⟩ := sub_dl hw (h.2 _ (mem_w0 h4))
  exact ⟨_, i0, _, i0, s, _, i1, by rw [e]; exact hr⟩
theorem ref_row_says (ws : Ws) (h : wrdOK ws) : offcutref08_Row ws (rowR ws) := by
  unfold offcutref08_Row
  refine IfB.dec (fun h4 => ?_) (fun h4 => ?_)
  · unfold rowR; rw [if_neg (fun h => by omega)]
  have h4 : 4 ≤ ws.length := by omega
  obtain ⟨i0, i2, i1, so⟩ := ends_idx h h4
  have hw0 := h.2 _ (mem_w0 h4)
  refine ⟨_, i0, IfB.dec (fun h2 => ?_) (fun h2 => ?_)⟩
  · unfold rowR; rw [if_neg (fun hh => by have := colon_len hh.2.1 hh.2.2.1; omega)]
  have h2 : 2 ≤ (w0W ws).length := by omega
  obtain ⟨c, ic, hc⟩ := colon_idx (w := w0W ws) (by omega) hw0
  obtain ⟨e0, s0⟩ := sub_dl (w := w0W ws) (by omega) hw0
  refine ⟨_, i0, _, i0, c, ic, IfB.nei (fun hn => ?_) (fun hn => ?_)⟩
  · unfold rowR; rw [if_neg (fun hh => hn (hc.1 hh.2.1))]
  have hcol := hc.2 hn
  refine ⟨_, i0, _, i0, s0, nameB (w0W ws).dropLast, by rw [e0]; exact offcutref07_Name_says (nameB_iff _), IfB.bool (fun hnm => ?_) (fun hnm => ?_)⟩
  rotate_left
  · unfold rowR; rw [if_neg (fun hh => by rw [hnm] at hh; exact absurd hh.2.2.1 (by simp))]
  refine ⟨_, i1, decide (isN (wlW ws)), by rw [← numU_isN]; exact Number_says _ (h.2 _ (mem_wl h4)), IfB.dec (fun hN => ?_) (fun hN => ?_)⟩
  rotate_left
  · unfold rowR; rw [if_neg (fun hh => hN hh.2.2.2)]
  have E : rowR ws = ((w0W ws).dropLast, (rRes [] (sumW (midW ws))).1, relR (wrW ws), wlW ws, (rRes [] (sumW (midW ws))).2 && decide (relR (wrW ws) < 2)) := if_pos ⟨h4, hcol, hnm, hN⟩
  have hS : offcutref08_Sum (sub ws (1 : Int) (IntKind.i64.wrap ((ws.length : Int) - 2))) (rRes [] (sumW (midW ws))) := ref_sum_says _ (mid_ok h).1 (mid_ok h).2
  obtain ⟨S1, S2, hSe⟩ : ∃ a b, rRes [] (sumW (midW ws)) = (a, b) := ⟨_, _, rfl⟩
  rw [hSe] at hS E
  dsimp only at E
  have L : ∀ (rel : Int) (fl : Bool), relR (wrW ws) = rel → fl = (S2 && decide (rel < 2)) → RLf ws S1 rel fl (rowR ws) := fun rel fl h1 h2 => rlf h h4 (by omega) (by rw [E, h1, h2])
  have last : ∀ rel : Int, relR (wrW ws) = rel → rel < 2 → SubOk ws (1 : Int) (IntKind.i64.wrap ((ws.length : Int) - 2)) ∧ ∃ (x30 : List TR) (x31 : Bool), offcutref08_Sum (sub ws (1 : Int) (IntKind.i64.wrap ((ws.length : Int) - 2))) (x30, x31) ∧ IfB x31 (RLf ws x30 rel true (rowR ws)) (RLf ws x30 rel false (rowR ws)) := fun rel h1 h2 =>
    ⟨so, S1, S2, hS, IfB.bool (fun b => L rel _ h1 (by rw [b, decide_eq_true h2]; rfl)) (fun b => L rel _ h1 (by rw [b]; rfl))⟩
  refine ⟨_, i2, IfB.be (fun r1 => ?_) (fun r1 => ?_)⟩
  · refine ⟨_, i2, IfB.be (fun r2 => ?_) (fun r2 => ?_)⟩
    · rw [r1] at r2; cases r2
    · refine ⟨_, i2, IfB.be (fun r3 => ?_) (fun r3 => ?_)⟩
      · rw [r1] at r3; cases r3
      · exact last (-1) (by unfold relR; rw [if_neg r3, if_neg r2, if_pos r1]) (by omega)
  · refine ⟨_, i2, IfB.be (fun r2 => ?_) (fun r2 => ?_)⟩
    · refine ⟨_, i2, IfB.be (fun r3 => ?_) (fun r3 => ?_)⟩
      · rw [r2] at r3; cases r3
      · exact last 0 (by unfold relR; rw [if_neg r3, if_pos r2]) (by omega)
    · refine ⟨_, i2, IfB.be (fun r3 => ?_) (fun r3 => ?_)⟩
      · exact last 1 (by unfold relR; rw [if_pos r3]) (by omega)
      · have e2 : relR (wrW ws) = 2 := by unfold relR; rw [if_neg r3, if_neg r2, if_neg r1]
        exact ⟨so, S1, S2, hS, IfB.bool (fun b => L 2 _ e2 (by simp)) (fun b => L 2 _ e2 (by simp))⟩
def minB : By := [109, 105, 110]
noncomputable def firstS (ws : Ws) : Option Ln8 := if w0W ws = minB then (sumW ws.tail).map fun ts => ([], ts, 0, []) else none
noncomputable def firstM (ws : Ws) : By × List TM × Int × Bool × List Int × List Int × Bool :=
  if w0W ws = minB then ([], (mRes [] (sumW ws.tail)).1, 0, false, [], [], (mRes [] (sumW ws.tail)).2) else ([], [], 0, false, [], [], false)
noncomputable def firstR (ws : Ws) : By × List TR × Int × By × Bool :=
  if w0W ws = minB then ([], (rRes [] (sumW ws.tail)).1, 0, [], (rRes [] (sumW ws.tail)).2) else ([], [], 0, [], false)
theorem model_first_says (ws : Ws) (h : wrdOK ws) (hne : ws ≠ []) : model_first ws (firstM ws) := by
  cases ws with
  | nil => exact absurd rfl hne
  | cons w t =>
    unfold model_first
    refine ⟨w, idx0 w t, IfB.nbe (fun hw => ?_) (fun hw => ?_)⟩
    · unfold firstM; rw [if_neg (show ¬ w0W (w :: t) = minB from hw)]
    · have E : firstM (w :: t) = ([], (mRes [] (sumW t)).1, 0, false, [], [], (mRes [] (sumW t)).2) := if_pos (show w0W (w :: t) = minB from hw)
      have hS := model_sum_says t (by have := h.1; simp at this; omega) (fun x hx => h.2 x (by simp [hx]))
      obtain ⟨S1, S2, hSe⟩ : ∃ a b, mRes [] (sumW t) = (a, b) := ⟨_, _, rfl⟩
      rw [hSe] at hS E
      refine ⟨subok_tail w t, S1, S2, by rw [sub_tail]; exact hS, IfB.bool (fun b => ?_) (fun b => ?_)⟩ <;> rw [E, b]
theorem ref_first_says (ws : Ws) (h : wrdOK ws) (hne : ws ≠ []) : offcutref08_First ws (firstR ws) := by
  cases ws with
  | nil => exact absurd rfl hne
  | cons w t =>
    unfold offcutref08_First
    refine ⟨w, idx0 w t, IfB.nbe (fun hw => ?_) (fun hw => ?_)⟩
    · unfold firstR; rw [if_neg (show ¬ w0W (w :: t) = minB from hw)]
    · have E : firstR (w :: t) = ([], (rRes [] (sumW t)).1, 0, [], (rRes [] (sumW t)).2) := if_pos (show w0W (w :: t) = minB from hw)
      have hS := ref_sum_says t (by have := h.1; simp at this; omega) (fun x hx => h.2 x (by simp [hx]))
      obtain ⟨S1, S2, hSe⟩ : ∃ a b, rRes [] (sumW t) = (a, b) := ⟨_, _, rfl⟩
      rw [hSe] at hS E
      refine ⟨subok_tail w t, S1, S2, by rw [sub_tail]; exact hS, IfB.bool (fun b => ?_) (fun b => ?_)⟩ <;> rw [E, b]
theorem rowM_flag (ws : Ws) : (rowM ws).2.2.2.2.2.2 = (rowS ws).isSome := by
  unfold rowM rowS rowOK
  by_cases h4 : ws.length < 4
  · rw [if_pos h4, if_neg (fun h => by omega)]; rfl
  rw [if_neg h4]
  by_cases hc : colonB (w0W ws) = true
  · rw [trim_colon hc]
    by_cases hr : nameB (w0W ws).dropLast = true ∧ (relOf (wrW ws)).isSome = true ∧ isN (wlW ws)
    · rw [if_pos ⟨by omega, hc, hr⟩, hc, hr.1, hr.2.1, decide_eq_true hr.2.2]
      cases sumW (midW ws) <;> rfl
    · rw [if_neg (fun h => hr h.2.2)]
      by_cases h1 : nameB (w0W ws).dropLast = true
      · by_cases h2 : (relOf (wrW ws)).isSome = true
        · have h3 : ¬ isN (wlW ws) := fun h3 => hr ⟨h1, h2, h3⟩
          simp [h3]
        · simp [h2]
      · simp [h1]
  · rw [if_neg (fun h => hc h.2.1)]
    simp [hc]
theorem rowM_some {ws : Ws} {x : Ln8} (h : rowS ws = some x) : rowM ws = (x.1, x.2.1.map tmM, x.2.2.1, (numOf x.2.2.2).1, (numOf x.2.2.2).2.1, (numOf x.2.2.2).2.2, true) ∧ isN x.2.2.2 := by
  have hf := rowM_flag ws
  unfold rowS at h
  split at h
  · rename_i hk
    cases hs : sumW (midW ws) with
    | none => rw [hs] at h; cases h
    | some ts =>
      rw [hs] at h
      cases h
      obtain ⟨h4, hc, hn, hr, hN⟩ := hk
      unfold rowM
      rw [if_neg (by omega), trim_colon hc, hs, hc, hn, hr, decide_eq_true hN]
      refine ⟨?_, hN⟩
      unfold nbOf
      rw [if_pos hN]
      simp [mRes]
  · cases h
theorem rel_lt (w : By) : relR w < 2 ↔ (relOf w).isSome = true := by
  unfold relR relOf
  by_cases h1 : w = [60, 61]
  · subst h1; decide
  by_cases h2 : w = [61]
  · subst h2; decide
  by_cases h3 : w = [62, 61]
  · subst h3; decide
  simp [h1, h2, h3]
theorem rel_eq {w : By} (h : (relOf w).isSome = true) : relR w = (relOf w).getD 0 := by
  unfold relR relOf at *
  by_cases h1 : w = [60, 61]
  · subst h1; decide
  by_cases h2 : w = [61]
  · subst h2; decide
  by_cases h3 : w = [62, 61]
  · subst h3; decide
  simp [h1, h2, h3] at h
theorem rowR_flag (ws : Ws) : (rowR ws).2.2.2.2 = (rowS ws).isSome := by
  unfold rowR rowS rowOK
  by_cases hk : 4 ≤ ws.length ∧ colonB (w0W ws) = true ∧ nameB (w0W ws).dropLast = true ∧ isN (wlW ws)
  · rw [if_pos hk]
    by_cases hr : (relOf (wrW ws)).isSome = true
    · rw [if_pos ⟨hk.1, hk.2.1, hk.2.2.1, hr, hk.2.2.2⟩]
      simp only [decide_eq_true ((rel_lt _).2 hr), Bool.and_true]
      cases sumW (midW ws) <;> rfl
    · rw [if_neg (fun h => hr h.2.2.2.1)]
      simp only [decide_eq_false (fun h => hr ((rel_lt _).1 h)), Bool.and_false]; rfl
  · rw [if_neg hk, if_neg (fun h => hk ⟨h.1, h.2.1, h.2.2.1, h.2.2.2.2⟩)]; rfl
theorem rowR_some {ws : Ws} {x : Ln8} (h : rowS ws = some x) : rowR ws = (x.1, x.2.1.map tmR, x.2.2.1, x.2.2.2, true) := by
  unfold rowS at h
  split at h
  · rename_i hk
    cases hs : sumW (midW ws) with
    | none => rw [hs] at h; cases h
    | some ts =>
      rw [hs] at h
      cases h
      obtain ⟨h4, hc, hn, hr, hN⟩ := hk
      unfold rowR
      rw [if_pos ⟨h4, hc, hn, hN⟩, hs, decide_eq_true ((rel_lt _).2 hr), rel_eq hr]
      simp [rRes]
  · cases h
theorem firstM_flag (ws : Ws) : (firstM ws).2.2.2.2.2.2 = (firstS ws).isSome := by
  unfold firstM firstS; split
  · cases sumW ws.tail <;> rfl
  · rfl
theorem firstR_flag (ws : Ws) : (firstR ws).2.2.2.2 = (firstS ws).isSome := by
  unfold firstR firstS; split
  · cases sumW ws.tail <;> rfl
  · rfl
theorem firstM_some {ws : Ws} {x : Ln8} (h : firstS ws = some x) : firstM ws = ([], x.2.1.map tmM, 0, false, [], [], true) ∧ x.1 = [] := by
  unfold firstS at h; split at h
  · rename_i hk
    cases hs : sumW ws.tail with
    | none => rw [hs] at h; cases h
    | some ts => rw [hs] at h; cases h; unfold firstM; rw [if_pos hk, hs]; simp [mRes]
  · cases h
theorem firstR_some {ws : Ws} {x : Ln8} (h : firstS ws = some x) : firstR ws = ([], x.2.1.map tmR, 0, [], true) := by
  unfold firstS at h; split at h
  · rename_i hk
    cases hs : sumW ws.tail with
    | none => rw [hs] at h; cases h
    | some ts => rw [hs] at h; cases h; unfold firstR; rw [if_pos hk, hs]; simp [rRes]
  · cases h
end Go.Abs
end

section
namespace Go.Abs
open Go
open Classical
set_option linter.unusedVariables false
set_option linter.unusedSimpArgs false
set_option linter.unnecessarySimpa false
theorem take_succ {α : Type} {l : List α} {k : Nat} (h : k < l.length) : l.take (k + 1) = l.take k ++ [l[k]] := by rw [List.take_add_one, List.getElem?_eq_getElem h]; rfl
theorem nodup_succ {l : List By} {k : Nat} (h : k < l.length) : (l.take (k + 1)).Nodup ↔ (l.take k).Nodup ∧ l[k] ∉ l.take k := by
  rw [take_succ h, List.nodup_append]
  constructor
  · rintro ⟨a, _, c⟩
    exact ⟨a, fun hm => c _ hm _ (by simp) rfl⟩
  · rintro ⟨a, b⟩
    exact ⟨a, by simp, fun x hx y hy e => by simp at hy; subst hy; subst e; exact b hx⟩
def idxN (l : Ws) (x : By) : Int := if x ∈ l then ((l.idxOf x : Nat) : Int) else -1
theorem idxFrom_says (x : By) : ∀ (l : Ws) (i : Nat), Lib.idxFromS (l.map mkB) (mkB x) i = if x ∈ l then ((i + l.idxOf x : Nat) : Int) else -1
  | [], i => by simp [Lib.idxFromS]
  | y :: l, i => by
    rw [List.map_cons, Lib.idxFromS]
    by_cases h : y = x
    · subst h; simp
    · rw [if_neg (fun e => h (mkB_inj e)), idxFrom_says x l (i + 1)]
      have h' : ¬ x = y := fun e => h e.symm
      by_cases hm : x ∈ l
      · rw [if_pos hm, if_pos (by simp [hm])]
        have hb : (y == x) = false := by simpa using h
        have e : (y :: l).idxOf x = l.idxOf x + 1 := by rw [List.idxOf_cons, hb]; rfl
        rw [e]; omega
      · rw [if_neg hm, if_neg (by simp [h', hm])]
theorem lines_Index_says (l : Ws) (x : By) (hl : l.length ≤ 100000000) : lines_Index l x (idxN l x) := by
  refine ⟨_, ⟨by omega, ?_⟩, rfl⟩
  have := idxFrom_says x l 0
  rw [Nat.zero_add] at this
  exact this.symm
theorem idxN_neg {l : Ws} {x : By} : idxN l x < 0 ↔ x ∉ l := by unfold idxN; split <;> rename_i h <;> simp [h] <;> omega
theorem idxN_at {l : Ws} {x : By} (h : x ∈ l) : idxN l x = ((l.idxOf x : Nat) : Int) ∧ l.idxOf x < l.length := ⟨if_pos h, List.idxOf_lt_length_of_mem h⟩
theorem model_twice_says (l : List TM) (hl : l.length ≤ 100000) : model_twice l (decide (¬ (l.map (·.1)).Nodup)) := by
  unfold model_twice
  have hd : ∀ k, (h : k < l.length) → (l.map (·.1))[k]'(by simpa using h) = l[k].1 := fun k h => by simp
  refine LoopP.intro (fun z : Int => ∃ k : Nat, z = k ∧ k ≤ l.length ∧ ((l.map (·.1)).take k).Nodup) (fun z => l.length - z.toNat) ⟨0, rfl, by omega, by simp⟩ ?_
  rintro X z ⟨k, rfl, hk, hn⟩ hX
  unfold model_twice_L1
  dsimp only
  refine IfB.dec (fun h => ?_) (fun h => ?_)
  · have hkl : k < l.length := by omega
    have hkm : k < (l.map (·.1)).length := by simpa using hkl
    refine ⟨l[k].1, l[k].2.1, l[k].2.2.1, l[k].2.2.2, Idx.nat hkl, ⟨by omega, by omega, by omega⟩, ?_⟩
    have es : sub l 0 (k : Int) = l.take k := by unfold sub; simp
    have hlen : (l.take k).length = k := by rw [List.length_take]; omega
    rw [show model_twice_L2 l (k : Int) X l[k].1 (decide (¬ (l.map (·.1)).Nodup)) = model_twice_L2 l (k : Int) X l[k].1 (decide (¬ (l.map (·.1)).Nodup)) from rfl]
    refine LoopP.intro (fun y : Int => ∃ j : Nat, y = j ∧ j ≤ k ∧ ∀ i, (hi : i < j) → ∀ hil : i < l.length, l[i].1 ≠ l[k].1) (fun y => k - y.toNat) ⟨0, rfl, by omega, fun i hi => absurd hi (by omega)⟩ ?_
    rintro Y y ⟨j, rfl, hj, hne⟩ hY
    unfold model_twice_L2
    dsimp only
    rw [es, hlen]
    refine IfB.dec (fun h1 => ?_) (fun h1 => ?_)
    · have hjk : j < k := by omega
      have hjl : j < l.length := by omega
      refine ⟨l[j].1, l[j].2.1, l[j].2.2.1, l[j].2.2.2, ⟨by omega, by simp [hjk, hjl]⟩, IfB.be (fun he => ?_) (fun he => ?_)⟩
      · refine IfB.dec (fun _ => ?_) (fun h0 => absurd (by omega) h0)
        refine decide_eq_true fun hnd => ?_
        have := (nodup_succ hkm).1 (hnd.sublist (List.take_sublist _ _))
        apply this.2
        rw [hd k hkl, ← he, ← hd j hjl]
        exact List.mem_take_iff_getElem.2 ⟨j, by simp; omega, rfl⟩
      · rw [wrap64' (by omega) (by omega)]
        refine hY _ ⟨j + 1, by omega, by omega, fun i hi hil => ?_⟩ (by omega)
        by_cases hij : i = j
        · subst hij; exact he
        · exact hne i (by omega) hil
    · rw [wrap64' (by omega) (by omega)]
      refine hX _ ⟨k + 1, by omega, by omega, (nodup_succ hkm).2 ⟨hn, fun hm => ?_⟩⟩ (by omega)
      obtain ⟨i, hi, e⟩ := List.mem_take_iff_getElem.1 hm
      rw [hd k hkl] at e
      have hik : i < k := by simp at hi; omega
      have hil : i < l.length := by omega
      rw [hd i hil] at e
      exact hne i (by omega) hil e
  · have e : k = l.length := by omega
    subst e
    rw [List.take_of_length_le (by simp)] at hn
    exact decide_eq_false fun hh => hh hn
theorem ref_twice_says (l : List TR) (hl : l.length ≤ 100000) : offcutref08_Twice l (decide (¬ (l.map (·.2.2)).Nodup)) := by
  unfold offcutref08_Twice
  have hd : ∀ k, (h : k < l.length) → (l.map (·.2.2))[k]'(by simpa using h) = l[k].2.2 := fun k h => by simp
  refine LoopP.intro (fun z : Int => ∃ k : Nat, z = k ∧ k ≤ l.length ∧ ((l.map (·.2.2)).take k).Nodup) (fun z => l.length - z.toNat) ⟨0, rfl, by omega, by simp⟩ ?_
  rintro X z ⟨k, rfl, hk, hn⟩ hX
  unfold offcutref08_Twice_L1
  dsimp only
  refine IfB.dec (fun h => ?_) (fun h => ?_)
  · have hkl : k < l.length := by omega
    have hkm : k < (l.map (·.2.2)).length := by simpa using hkl
    refine LoopP.intro (fun y : Int => ∃ j : Nat, y = j ∧ j ≤ k ∧ ∀ i, (hi : i < j) → ∀ hil : i < l.length, l[i].2.2 ≠ l[k].2.2) (fun y => k - y.toNat) ⟨0, rfl, by omega, fun i hi => absurd hi (by omega)⟩ ?_
    rintro Y y ⟨j, rfl, hj, hne⟩ hY
    unfold offcutref08_Twice_L2
    dsimp only
    refine IfB.dec (fun h1 => ?_) (fun h1 => ?_)
    · have hjk : j < k := by omega
      have hjl : j < l.length := by omega
      refine ⟨l[k].1, l[k].2.1, l[k].2.2, Idx.nat hkl, l[j].1, l[j].2.1, l[j].2.2, Idx.nat hjl, IfB.be (fun he => ?_) (fun he => ?_)⟩
      · refine decide_eq_true fun hnd => ?_
        have := (nodup_succ hkm).1 (hnd.sublist (List.take_sublist _ _))
        apply this.2
        rw [hd k hkl, he, ← hd j hjl]
        exact List.mem_take_iff_getElem.2 ⟨j, by simp; omega, rfl⟩
      · rw [wrap64' (by omega) (by omega)]
        refine hY _ ⟨j + 1, by omega, by omega, fun i hi hil => ?_⟩ (by omega)
        by_cases hij : i = j
        · subst hij; exact fun e => he e.symm
        · exact hne i (by omega) hil
    · rw [wrap64' (by omega) (by omega)]
      refine hX _ ⟨k + 1, by omega, by omega, (nodup_succ hkm).2 ⟨hn, fun hm => ?_⟩⟩ (by omega)
      obtain ⟨i, hi, e⟩ := List.mem_take_iff_getElem.1 hm
      rw [hd k hkl] at e
      have hik : i < k := by simp at hi; omega
      have hil : i < l.length := by omega
      rw [hd i hil] at e
      exact hne i (by omega) hil e
  · have e : k = l.length := by omega
    subst e
    rw [List.take_of_length_le (by simp)] at hn
    exact decide_eq_false fun hh => hh hn
theorem ref_has_says (l : Ws) (x : By) (hl : l.length ≤ 100000000) : offcutref08_Has l x (decide (x ∈ l)) := by
  unfold offcutref08_Has
  refine LoopP.intro (fun z : Int => ∃ k : Nat, z = k ∧ k ≤ l.length ∧ x ∉ l.take k) (fun z => l.length - z.toNat) ⟨0, rfl, by omega, by simp⟩ ?_
  rintro X z ⟨k, rfl, hk, hn⟩ hX
  unfold offcutref08_Has_L1
  dsimp only
  refine IfB.dec (fun h => ?_) (fun h => ?_)
  · have hkl : k < l.length := by omega
    refine ⟨_, Idx.nat hkl, IfB.be (fun he => ?_) (fun he => ?_)⟩
    · exact decide_eq_true (he ▸ List.getElem_mem hkl)
    · rw [wrap64' (by omega) (by omega)]
      refine hX _ ⟨k + 1, by omega, by omega, fun hm => ?_⟩ (by omega)
      rw [take_succ hkl, List.mem_append] at hm
      rcases hm with hm | hm
      · exact hn hm
      · simp at hm; exact he hm.symm
  · have e : k = l.length := by omega
    subst e
    rw [List.take_length] at hn
    exact decide_eq_false hn
def addN (vs : Ws) (ns : List By) : Ws := ns.foldl (fun vs n => if n ∈ vs then vs else vs ++ [n]) vs
theorem addN_len : ∀ (ns : List By) (vs : Ws), (addN vs ns).length ≤ vs.length + ns.length
  | [], vs => by simp [addN]
  | n :: ns, vs => by
    have e : addN vs (n :: ns) = addN (if n ∈ vs then vs else vs ++ [n]) ns := rfl
    rw [e]
    refine Nat.le_trans (addN_len ns _) ?_
    split <;> simp <;> omega
theorem addN_snoc (vs : Ws) (ns : List By) (n : By) : addN vs (ns ++ [n]) = if n ∈ addN vs ns then addN vs ns else addN vs ns ++ [n] := by unfold addN; rw [List.foldl_append]; rfl
theorem addLoop {ts : List TM} {vars : Ws} {E : Ws → Prop} (hv : vars.length ≤ 1000000) (ht : ts.length ≤ 100000) (hE : E (addN vars (ts.map (·.1)))) :
    LoopP (fun (X : Int × Ws → Prop) (s : Int × Ws) => match s with
      | (s200, s251) => IfB (decide (s200 < (ts.length : Int)))
         (∃ (x22 : List UInt8) (x23 : Bool) (x24 : List Int) (x25 : List Int), Idx ts s200 (x22, x23, x24, x25) ∧ ∃ (x27 : Int), lines_Index s251 x22 x27 ∧
          IfB (decide (x27 < (0 : Int))) (Fits (s251.length + [x22].length) 16 ∧ X ((IntKind.i64.wrap (s200 + 1)), (s251 ++ [x22]))) (X ((IntKind.i64.wrap (s200 + 1)), s251)))
         (E s251)) ((0 : Int), vars) := by
  refine LoopP.intro (fun z : Int × Ws => ∃ k : Nat, z.1 = k ∧ k ≤ ts.length ∧ z.2 = addN vars ((ts.map (·.1)).take k)) (fun z => ts.length - z.1.toNat) ⟨0, rfl, by omega, by simp [addN]⟩ ?_
  rintro X ⟨z1, z2⟩ ⟨k, h1, hk, h2⟩ hX
  simp only at h1 h2
  subst h1
  have hl2 : z2.length ≤ 1100000 := by have := addN_len ((ts.map (·.1)).take k) vars; rw [← h2, List.length_take, List.length_map] at this; omega
  refine IfB.dec (fun h => ?_) (fun h => ?_)
  · have hkl : k < ts.length := by omega
    have hs : (ts.map (·.1)).take (k + 1) = (ts.map (·.1)).take k ++ [ts[k].1] := by rw [take_succ (by simpa using hkl)]; simp
    refine ⟨ts[k].1, ts[k].2.1, ts[k].2.2.1, ts[k].2.2.2, Idx.nat hkl, _, lines_Index_says z2 _ (by omega), IfB.dec (fun hn => ?_) (fun hn => ?_)⟩
    · rw [wrap64' (by omega) (by omega)]
      refine ⟨by unfold Fits; simp; omega, hX _ ⟨k + 1, by dsimp only; omega, by omega, ?_⟩ (by dsimp only; omega)⟩
      dsimp only
      rw [hs, addN_snoc, ← h2, if_neg (idxN_neg.1 hn)]
    · rw [wrap64' (by omega) (by omega)]
      refine hX _ ⟨k + 1, by dsimp only; omega, by omega, ?_⟩ (by dsimp only; omega)
      dsimp only
      rw [hs, addN_snoc, ← h2, if_pos (Classical.byContradiction fun e => hn (idxN_neg.2 e))]
  · have e : k = ts.length := by omega
    subst e
    rw [List.take_of_length_le (by simp)] at h2
    rw [h2]; exact hE
end Go.Abs
end

section
namespace Go.Abs
open Go
open Classical
set_option linter.unusedVariables false
set_option linter.unusedSimpArgs false
set_option linter.unnecessarySimpa false
noncomputable def lineS (k : Nat) (ws : Ws) : Option Ln8 := if k = 0 then firstS ws else rowS ws
def dupT (ts : List Tm) : Prop := ¬ (ts.map (·.2.2)).Nodup
abbrev St8 := Ws × List Ln8
def nmsT (ts : List Tm) : List By := ts.map (·.2.2)
noncomputable def stepM (k : Nat) (st : St8) (ws : Ws) : Int ⊕ St8 :=
  match lineS k ws with
  | none => .inl 2
  | some x => if dupT x.2.1 ∨ (k ≠ 0 ∧ x.1 ∈ (st.2.drop 1).map (·.1)) then .inl 3 else
    if 60 < (addN st.1 (nmsT x.2.1)).length ∨ (k ≠ 0 ∧ 61 ≤ st.2.length) then .inl 4 else .inr (addN st.1 (nmsT x.2.1), st.2 ++ [x])
noncomputable def foldM (k : Nat) (st : St8) : Ls → (Int × Int) ⊕ St8
  | [] => .inr st
  | (a, ws) :: r => match stepM k st ws with | .inl e => .inl (a, e) | .inr st' => foldM (k + 1) st' r
def rowRec (x : Ln8) (c : List Fr) : By × List Fr × Int × Bool × List Int × List Int := (x.1, c, x.2.2.1, (numOf x.2.2.2).1, (numOf x.2.2.2).2.1, (numOf x.2.2.2).2.2)
def rowsM (l : List Ln8) : List (By × List Fr × Int × Bool × List Int × List Int) := (l.drop 1).map fun x => rowRec x []
def sumsM (l : List Ln8) : List (List TM) := l.map fun x => x.2.1.map tmM
theorem names_tmM (ts : List Tm) : (ts.map tmM).map (·.1) = nmsT ts := by simp [tmM, nmsT, Function.comp_def]
theorem names_tmR (ts : List Tm) : (ts.map tmR).map (·.2.2) = nmsT ts := by simp [tmR, nmsT, Function.comp_def]
theorem sumW_len {l : Ws} {ts : List Tm} (h : sumW l = some ts) : ts.length ≤ l.length := by
  have key : ∀ (n : Nat) (first : Bool) (l : Ws) (ts : List Tm), l.length ≤ n → sumS first l = some ts → ts.length ≤ l.length := by
    intro n
    induction n with
    | zero =>
      intro first l ts hl h
      have : l = [] := List.length_eq_zero_iff.1 (by omega)
      subst this
      cases first with
      | false => rw [sumS_nil] at h; cases h; simp
      | true =>
        rw [sumS_step (.inl rfl)] at h
        cases h
    | succ n ih =>
      intro first l ts hl h
      by_cases hc : first = true ∨ l ≠ []
      · rw [sumS_step hc] at h
        cases hs : stepS first l with
        | none => rw [hs] at h; cases h
        | some p =>
          obtain ⟨t, r⟩ := p
          rw [hs] at h
          have hlt := stepS_lt hs
          simp only [Option.map_eq_some_iff] at h
          obtain ⟨ts', h1, rfl⟩ := h
          have := ih false r ts' (by omega) h1
          simp; omega
      · have e1 : first = false := by cases first <;> simp_all
        have e2 : l = [] := Classical.byContradiction fun h => hc (.inr h)
        subst e1 e2
        rw [sumS_nil] at h; cases h; simp
  unfold sumW at h
  split at h
  · cases h; simp
  · exact key l.length true l ts (Nat.le_refl _) h
theorem line_len {k : Nat} {ws : Ws} {x : Ln8} (h : lineS k ws = some x) : x.2.1.length ≤ ws.length := by
  unfold lineS at h
  split at h
  · unfold firstS at h
    split at h
    · simp only [Option.map_eq_some_iff] at h
      obtain ⟨ts, h1, rfl⟩ := h
      have := sumW_len h1; simp at this ⊢; omega
    · cases h
  · unfold rowS at h
    split at h
    · simp only [Option.map_eq_some_iff] at h
      obtain ⟨ts, h1, rfl⟩ := h
      have := sumW_len h1
      unfold midW sub at this; simp at this ⊢; omega
    · cases h
abbrev MR := Ws × List Fr × List (By × List Fr × Int × Bool × List Int × List Int) × Int × Int
abbrev MX := Int × Ws × List (By × List Fr × Int × Bool × List Int × List Int) × List (List TM)
def errM (a e : Int) : MR := ([], [], [], a, e)
theorem rowNames_loop {l : List Ln8} (hl : l.length ≤ 1000000) : LoopP (model_Parse_L3 (rowsM l) ((l.drop 1).map (·.1))) ((0 : Int), []) := by
  have hlen : (rowsM l).length = l.length - 1 := by simp [rowsM]
  refine LoopP.intro (fun z : Int × Ws => ∃ k : Nat, z.1 = k ∧ k ≤ l.length - 1 ∧ z.2 = ((l.drop 1).map (·.1)).take k) (fun z => l.length - 1 - z.1.toNat) ⟨0, rfl, by omega, by simp⟩ ?_
  rintro X ⟨z1, z2⟩ ⟨k, h1, hk, h2⟩ hX
  simp only at h1 h2
  subst h1 h2
  unfold model_Parse_L3
  dsimp only
  refine IfB.dec (fun h => ?_) (fun h => ?_)
  · have hkl : k < l.length - 1 := by omega
    have hkd : k < (l.drop 1).length := by simp; omega
    refine ⟨_, _, _, _, _, _, ⟨by omega, by unfold rowsM; rw [List.getElem?_map, Int.toNat_natCast, List.getElem?_eq_getElem hkd]; rfl⟩, by unfold Fits; simp; omega, ?_⟩
    rw [wrap64' (by omega) (by omega)]
    refine hX _ ⟨k + 1, by dsimp only; omega, by omega, ?_⟩ (by dsimp only; omega)
    dsimp only
    rw [take_succ (by simpa using hkl)]; simp [rowRec]
  · have : k = l.length - 1 := by omega
    subst this
    rw [List.take_of_length_le (by simp)]
theorem model_line {x1 : Ls} {k : Nat} {a : Int} {ws : Ws} {st : St8} {r : MR} {X : MX → Prop} (hk : k < x1.length) (hx : x1[k] = (a, ws)) (hlen : x1.length ≤ 100000) (hws : wrdOK ws) (hne : ws ≠ [])
    (hst : st.2.length = k) (hv : st.1.length ≤ 60)
    (hE : ∀ e, stepM k st ws = .inl e → r = errM a e) (hX : ∀ st', stepM k st ws = .inr st' → X (((k + 1 : Nat) : Int), st'.1, rowsM st'.2, sumsM st'.2)) :
    model_Parse_L1 x1 r X ((k : Int), st.1, rowsM st.2, sumsM st.2) := by
  have hw1 : IntKind.i64.wrap ((k : Int) + 1) = ((k + 1 : Nat) : Int) := by rw [wrap64' (by omega) (by omega)]; rfl
  have hsl : (sumsM st.2).length = k := by unfold sumsM; rw [List.length_map, hst]
  unfold model_Parse_L1
  dsimp only
  refine IfB.dec (fun _ => ?_) (fun h => absurd (by omega) h)
  refine ⟨a, ws, ⟨by omega, by rw [Int.toNat_natCast, List.getElem?_eq_getElem hk, hx]⟩, IfB.eqi (fun h0 => ?_) (fun h0 => ?_)⟩
  · have h0 : k = 0 := by omega
    have eL : lineS k ws = firstS ws := if_pos h0
    have hsay := model_first_says ws hws hne
    have hflag := firstM_flag ws
    have hsome := fun x => firstM_some (ws := ws) (x := x)
    generalize firstM ws = R at hsay hflag hsome
    obtain ⟨f1, f2, f3, f4, f5, f6, f7⟩ := R
    refine ⟨f1, f2, f3, f4, f5, f6, f7, hsay, ?_⟩
    dsimp only at hflag
    cases hf : firstS ws with
    | none =>
      rw [hf] at hflag
      rw [hflag]
      exact IfB_false.2 (hE 2 (by unfold stepM; rw [eL, hf]))
    | some x =>
      have hln := line_len (eL.trans hf)
      have := hws.1
      have hR := (hsome x hf).1
      simp only [Prod.mk.injEq] at hR
      obtain ⟨rfl, rfl, rfl, rfl, rfl, rfl, rfl⟩ := hR
      refine IfB_true.2 ⟨_, model_twice_says _ (by simp; omega), ?_⟩
      rw [names_tmM]
      refine IfB.dec (fun hd => ?_) (fun hd => ?_)
      · exact hE 3 (by unfold stepM; rw [eL, hf]; exact if_pos (.inl hd))
      · have hs3 : stepM k st ws = if 60 < (addN st.1 (nmsT x.2.1)).length ∨ (k ≠ 0 ∧ 61 ≤ st.2.length) then .inl 4 else .inr (addN st.1 (nmsT x.2.1), st.2 ++ [x]) := by
          unfold stepM; rw [eL, hf]; exact if_neg (fun h => h.elim hd fun h => h.1 h0)
        refine addLoop (ts := x.2.1.map tmM) (vars := st.1) (E := fun s251 => IfB (decide ((s251.length : Int) > (60 : Int))) (r = errM a 4) (Fits ((sumsM st.2).length + [x.2.1.map tmM].length) 24 ∧ X ((IntKind.i64.wrap ((k : Int) + 1)), s251, rowsM st.2, (sumsM st.2 ++ [x.2.1.map tmM])))) (by omega) (by simp; omega) ?_
        rw [names_tmM]
        refine IfB.dec (fun hm => ?_) (fun hm => ?_)
        · exact hE 4 (by rw [hs3]; exact if_pos (.inl (by omega)))
        · refine ⟨by unfold Fits; rw [hsl]; simp; omega, ?_⟩
          rw [hw1]
          have := hX _ (by rw [hs3]; exact if_neg (fun h => h.elim (fun h => hm (by omega)) fun h => h.1 h0))
          dsimp only at this
          have e1 : rowsM (st.2 ++ [x]) = rowsM st.2 := by
            have : st.2 = [] := List.length_eq_zero_iff.1 (by omega)
            rw [this]; rfl
          have e2 : sumsM (st.2 ++ [x]) = sumsM st.2 ++ [x.2.1.map tmM] := by simp [sumsM]
          rw [e1, e2] at this
          exact this
  · have h0 : k ≠ 0 := by omega
    have eL : lineS k ws = rowS ws := if_neg h0
    have hsay := model_row_says ws hws
    have hflag := rowM_flag ws
    have hsome := fun x => rowM_some (ws := ws) (x := x)
    generalize rowM ws = R at hsay hflag hsome
    obtain ⟨f1, f2, f3, f4, f5, f6, f7⟩ := R
    refine ⟨f1, f2, f3, f4, f5, f6, f7, hsay, ?_⟩
    dsimp only at hflag
    cases hf : rowS ws with
    | none =>
      rw [hf] at hflag
      rw [hflag]
      exact IfB_false.2 (hE 2 (by unfold stepM; rw [eL, hf]))
    | some x =>
      have hln := line_len (eL.trans hf)
      have := hws.1
      have hR := (hsome x hf).1
      simp only [Prod.mk.injEq] at hR
      obtain ⟨rfl, rfl, rfl, rfl, rfl, rfl, rfl⟩ := hR
      refine IfB_true.2 (IfB.dec (fun _ => ?_) (fun h => absurd (by omega) h))
      refine ⟨_, model_twice_says _ (by simp; omega), ?_⟩
      rw [names_tmM]
      refine IfB.dec (fun hd => ?_) (fun hd => ?_)
      · exact hE 3 (by unfold stepM; rw [eL, hf]; exact if_pos (.inl hd))
      · refine ⟨_, rowNames_loop (l := st.2) (by omega), _, lines_Index_says _ x.1 (by simp; omega), IfB.dec (fun hi => ?_) (fun hi => ?_)⟩
        · refine hE 3 (by unfold stepM; rw [eL, hf]; refine if_pos (.inr ⟨h0, Classical.byContradiction fun hh => ?_⟩); have := idxN_neg.2 hh; omega)
        · have hnin : x.1 ∉ (st.2.drop 1).map (·.1) := idxN_neg.1 (by omega)
          have hs3 : stepM k st ws = if 60 < (addN st.1 (nmsT x.2.1)).length ∨ (k ≠ 0 ∧ 61 ≤ st.2.length) then .inl 4 else .inr (addN st.1 (nmsT x.2.1), st.2 ++ [x]) := by
            unfold stepM; rw [eL, hf]; exact if_neg (fun h => h.elim hd fun h => hnin h.2)
          have hrl : (rowsM st.2).length = k - 1 := by simp [rowsM, hst]
          refine addLoop (ts := x.2.1.map tmM) (vars := st.1) (E := fun s251 => IfB (decide ((s251.length : Int) > (60 : Int))) (r = errM a 4) (IfB (decide (((rowsM st.2).length : Int) ≥ (60 : Int))) (r = errM a 4) (Fits ((sumsM st.2).length + [x.2.1.map tmM].length) 24 ∧ Fits ((rowsM st.2).length + [rowRec x []].length) 104 ∧ X ((IntKind.i64.wrap ((k : Int) + 1)), s251, (rowsM st.2 ++ [rowRec x []]), (sumsM st.2 ++ [x.2.1.map tmM]))))) (by omega) (by simp; omega) ?_
          rw [names_tmM]
          refine IfB.dec (fun hm => ?_) (fun hm => ?_)
          · exact hE 4 (by rw [hs3]; exact if_pos (.inl (by omega)))
          · refine IfB.dec (fun hr => ?_) (fun hr => ?_)
            · exact hE 4 (by rw [hs3]; exact if_pos (.inr ⟨h0, by omega⟩))
            · refine ⟨by unfold Fits; rw [hsl]; simp; omega, by unfold Fits; rw [hrl]; simp; omega, ?_⟩
              rw [hw1]
              have := hX _ (by rw [hs3]; exact if_neg (fun h => h.elim (fun h => hm (by omega)) fun h => hr (by omega)))
              dsimp only at this
              have e1 : rowsM (st.2 ++ [x]) = rowsM st.2 ++ [rowRec x []] := by
                unfold rowsM
                rw [List.drop_append_of_le_length (by omega)]; simp
              have e2 : sumsM (st.2 ++ [x]) = sumsM st.2 ++ [x.2.1.map tmM] := by simp [sumsM]
              rw [e1, e2] at this
              exact this
end Go.Abs
end

section
namespace Go.Abs
open Go
open Classical
set_option linter.unusedVariables false
set_option linter.unusedSimpArgs false
set_option linter.unnecessarySimpa false
theorem nameS_facts {neg : Bool} {l : Ws} {t : Tm} {r : Ws} (h : nameS neg l = some (t, r)) : NameP t.2.2 ∧ ∀ w, t.2.1 = some w → isN w ∧ w ∈ l := by
  unfold nameS at h
  split at h
  · cases h
  · rename_i w r' e
    split at h
    · rename_i hn
      cases h
      refine ⟨(nameB_iff _).1 hn, fun w' hw => ?_⟩
      unfold numS at hw
      split at hw
      · cases hw
      · rename_i w2 r2
        split at hw
        · rename_i hu
          cases hw
          have h45 : (45 : UInt8) ∉ w' := fun h => by rw [numU_no45 h] at hu; cases hu
          rw [numU_isN' h45] at hu
          exact ⟨of_decide_eq_true hu, by simp⟩
        · cases hw
    · cases h
theorem stepS_facts {first : Bool} {l : Ws} {t : Tm} {r : Ws} (h : stepS first l = some (t, r)) : NameP t.2.2 ∧ ∀ w, t.2.1 = some w → isN w ∧ w ∈ l := by
  unfold stepS at h
  split at h
  · cases h
  · rename_i neg l1 e
    obtain ⟨a, b⟩ := nameS_facts h
    exact ⟨a, fun w hw => ⟨(b w hw).1, (signS_suf e).subset (b w hw).2⟩⟩
theorem sumS_facts : ∀ (n : Nat) (first : Bool) (l : Ws) (ts : List Tm), l.length ≤ n → sumS first l = some ts → ∀ t, t ∈ ts → NameP t.2.2 ∧ ∀ w, t.2.1 = some w → isN w ∧ w ∈ l := by
  intro n
  induction n with
  | zero =>
    intro first l ts hl h t ht
    have : l = [] := List.length_eq_zero_iff.1 (by omega)
    subst this
    cases first with
    | false => rw [sumS_nil] at h; cases h; cases ht
    | true => rw [sumS_step (.inl rfl)] at h; cases h
  | succ n ih =>
    intro first l ts hl h t ht
    by_cases hc : first = true ∨ l ≠ []
    · rw [sumS_step hc] at h
      cases hs : stepS first l with
      | none => rw [hs] at h; cases h
      | some p =>
        obtain ⟨t1, r⟩ := p
        rw [hs] at h
        have hlt := stepS_lt hs
        simp only [Option.map_eq_some_iff] at h
        obtain ⟨ts', h1, rfl⟩ := h
        rcases List.mem_cons.1 ht with rfl | ht
        · exact stepS_facts hs
        · obtain ⟨a, b⟩ := ih false r ts' (by omega) h1 t ht
          exact ⟨a, fun w hw => ⟨(b w hw).1, (stepS_suf hs).subset (b w hw).2⟩⟩
    · have e1 : first = false := by cases first <;> simp_all
      have e2 : l = [] := Classical.byContradiction fun h => hc (.inr h)
      subst e1 e2
      rw [sumS_nil] at h; cases h; cases ht
theorem sumW_facts {l : Ws} {ts : List Tm} (h : sumW l = some ts) : ∀ t, t ∈ ts → NameP t.2.2 ∧ ∀ w, t.2.1 = some w → isN w ∧ w ∈ l := by
  unfold sumW at h
  split at h
  · cases h; intro t ht; cases ht
  · exact sumS_facts l.length true l ts (Nat.le_refl _) h
theorem relOf_range (w : By) : -1 ≤ (relOf w).getD 0 ∧ (relOf w).getD 0 ≤ 1 := by
  unfold relOf
  split
  · decide
  · split
    · decide
    · split <;> decide
structure LnOK (ws : Ws) (x : Ln8) : Prop where
  names : ∀ t, t ∈ x.2.1 → NameP t.2.2 ∧ ∀ w, t.2.1 = some w → isN w ∧ w ∈ ws
structure RwOK (ws : Ws) (x : Ln8) : Prop where
  name : NameP x.1
  rel : -1 ≤ x.2.2.1 ∧ x.2.2.1 ≤ 1
  num : isN x.2.2.2
  mem : x.2.2.2 ∈ ws
theorem mid_mem {ws : Ws} {w : By} (h : w ∈ midW ws) : w ∈ ws := by unfold midW sub at h; exact List.mem_of_mem_drop (List.mem_of_mem_take h)
theorem rowS_ok {ws : Ws} {x : Ln8} (h : rowS ws = some x) : LnOK ws x ∧ RwOK ws x := by
  unfold rowS at h
  split at h
  · rename_i hk
    simp only [Option.map_eq_some_iff] at h
    obtain ⟨ts, h1, rfl⟩ := h
    obtain ⟨h4, hc, hn, hr, hN⟩ := hk
    exact ⟨⟨fun t ht => ⟨(sumW_facts h1 t ht).1, fun w hw => ⟨((sumW_facts h1 t ht).2 w hw).1, mid_mem ((sumW_facts h1 t ht).2 w hw).2⟩⟩⟩, ⟨(nameB_iff _).1 hn, relOf_range _, hN, mem_wl h4⟩⟩
  · cases h
theorem firstS_ok {ws : Ws} {x : Ln8} (h : firstS ws = some x) : LnOK ws x := by
  unfold firstS at h
  split at h
  · simp only [Option.map_eq_some_iff] at h
    obtain ⟨ts, h1, rfl⟩ := h
    exact ⟨fun t ht => ⟨(sumW_facts h1 t ht).1, fun w hw => ⟨((sumW_facts h1 t ht).2 w hw).1, List.mem_of_mem_tail ((sumW_facts h1 t ht).2 w hw).2⟩⟩⟩
  · cases h
theorem addN_mem (v : By) : ∀ (ns : List By) (vs : Ws), v ∈ addN vs ns ↔ v ∈ vs ∨ v ∈ ns
  | [], vs => by simp [addN]
  | n :: ns, vs => by
    show v ∈ addN (if n ∈ vs then vs else vs ++ [n]) ns ↔ _
    rw [addN_mem v ns]
    split
    · rename_i h
      constructor
      · rintro (h1 | h1)
        · exact .inl h1
        · exact .inr (by simp [h1])
      · rintro (h1 | h1)
        · exact .inl h1
        · rcases List.mem_cons.1 h1 with rfl | h1
          · exact .inl h
          · exact .inr h1
    · simp [or_assoc]
theorem addN_nodup : ∀ (ns : List By) (vs : Ws), vs.Nodup → (addN vs ns).Nodup
  | [], vs, h => h
  | n :: ns, vs, h => by
    show (addN (if n ∈ vs then vs else vs ++ [n]) ns).Nodup
    refine addN_nodup ns _ ?_
    split
    · exact h
    · rename_i hn
      rw [List.nodup_append]
      exact ⟨h, by simp, fun a ha b hb e => by simp at hb; subst hb; subst e; exact hn ha⟩
structure InvS (k : Nat) (st : St8) : Prop where
  len : st.2.length = k
  v60 : st.1.length ≤ 60
  r61 : k ≤ 61
  nd : st.1.Nodup
  nm : ∀ v, v ∈ st.1 → NameP v
  sub : ∀ x, x ∈ st.2 → ∀ t, t ∈ x.2.1 → t.2.2 ∈ st.1
  dup : ∀ x, x ∈ st.2 → ¬ dupT x.2.1
  rows : ((st.2.drop 1).map (·.1)).Nodup
  rok : ∀ x, x ∈ st.2.drop 1 → NameP x.1 ∧ (-1 ≤ x.2.2.1 ∧ x.2.2.1 ≤ 1) ∧ isN x.2.2.2
theorem InvS.zero : InvS 0 ([], []) := ⟨rfl, by simp, by omega, by simp, by simp, by simp, by simp, by simp, by simp⟩
theorem InvS.step {k : Nat} {st st' : St8} {ws : Ws} (h : InvS k st) (hs : stepM k st ws = .inr st') : InvS (k + 1) st' := by
  unfold stepM at hs
  split at hs
  · cases hs
  · rename_i x hx
    split at hs
    · cases hs
    · rename_i h1
      split at hs
      · cases hs
      · rename_i h2
        cases hs
        have hln : LnOK ws x := by
          unfold lineS at hx
          split at hx
          · exact firstS_ok hx
          · exact (rowS_ok hx).1
        refine ⟨by simp [h.len], ?_, ?_, addN_nodup _ _ h.nd, ?_, ?_, ?_, ?_, ?_⟩
        · exact Nat.le_of_not_lt fun e => h2 (.inl e)
        · by_cases hk : k = 0
          · omega
          · have := h.len
            have : ¬ 61 ≤ st.2.length := fun e => h2 (.inr ⟨hk, e⟩)
            omega
        · intro v hv
          rcases (addN_mem v _ _).1 hv with hv | hv
          · exact h.nm v hv
          · obtain ⟨t, ht, rfl⟩ := List.mem_map.1 hv
            exact (hln.names t ht).1
        · intro y hy t ht
          refine (addN_mem _ _ _).2 ?_
          rcases List.mem_append.1 hy with hy | hy
          · exact .inl (h.sub y hy t ht)
          · simp at hy; subst hy
            exact .inr (List.mem_map.2 ⟨t, ht, rfl⟩)
        · intro y hy
          rcases List.mem_append.1 hy with hy | hy
          · exact h.dup y hy
          · simp at hy; subst hy
            exact fun e => h1 (.inl e)
        · by_cases hk : k = 0
          · have : st.2 = [] := List.length_eq_zero_iff.1 (by have := h.len; omega)
            rw [this]; simp
          · rw [List.drop_append_of_le_length (by have := h.len; omega), List.map_append, List.nodup_append]
            refine ⟨h.rows, by simp, fun a ha b hb e => ?_⟩
            simp at hb
            subst hb; subst e
            exact h1 (.inr ⟨hk, ha⟩)
        · intro y hy
          by_cases hk : k = 0
          · have : st.2 = [] := List.length_eq_zero_iff.1 (by have := h.len; omega)
            rw [this] at hy; simp at hy
          · rw [List.drop_append_of_le_length (by have := h.len; omega)] at hy
            rcases List.mem_append.1 hy with hy | hy
            · exact h.rok y hy
            · simp at hy; subst hy
              have hr : rowS ws = some y := by unfold lineS at hx; rwa [if_neg hk] at hx
              have := (rowS_ok hr).2
              exact ⟨this.name, this.rel, this.num⟩
def denseW (vars : Ws) (ts : List TM) (d : List Fr) : List Fr := ts.foldl (fun d t => d.set (vars.idxOf t.1) t.2) d
def denseF (vars : Ws) (ts : List TM) : List Fr := denseW vars ts (List.replicate vars.length zeroF)
theorem denseW_len (vars : Ws) : ∀ (ts : List TM) (d : List Fr), (denseW vars ts d).length = d.length
  | [], d => rfl
  | t :: ts, d => by
    show (denseW vars ts (d.set (vars.idxOf t.1) t.2)).length = _
    rw [denseW_len vars ts]; simp
theorem denseF_len (vars : Ws) (ts : List TM) : (denseF vars ts).length = vars.length := by unfold denseF; rw [denseW_len]; simp
theorem zeroLoop {n : Nat} {E : List Fr → Prop} (hn : n ≤ 1000) (hE : E (List.replicate n zeroF)) :
    LoopP (fun (X : Int × List Fr → Prop) (s : Int × List Fr) => match s with
      | (s600, s657) => IfB (decide (s600 < ((List.replicate (Int.toNat (n : Int)) (0 : Int)).length : Int)))
         (∃ (x92 : Int), Idx (List.replicate (Int.toNat (n : Int)) (0 : Int)) s600 x92 ∧ ∃ (x94 : Bool) (x95 : List Int) (x96 : List Int), rat_Int x92 (x94, x95, x96) ∧
          Fits (s657.length + [(x94, x95, x96)].length) 56 ∧ X ((IntKind.i64.wrap (s600 + 1)), (s657 ++ [(x94, x95, x96)])))
         (E s657)) ((0 : Int), []) := by
  refine LoopP.intro (fun z : Int × List Fr => ∃ k : Nat, z.1 = k ∧ k ≤ n ∧ z.2 = List.replicate k zeroF) (fun z => n - z.1.toNat) ⟨0, rfl, by omega, rfl⟩ ?_
  rintro X ⟨z1, z2⟩ ⟨k, h1, hk, h2⟩ hX
  simp only at h1 h2
  subst h1 h2
  refine IfB.dec (fun h => ?_) (fun h => ?_)
  · have hkn : k < n := by simp at h; omega
    refine ⟨0, ⟨by omega, by simp [hkn]⟩, _, _, _, rat_Int0, by unfold Fits; simp; omega, ?_⟩
    rw [wrap64' (by omega) (by omega)]
    exact hX _ ⟨k + 1, by dsimp only; omega, by omega, by dsimp only; rw [List.replicate_succ']; rfl⟩ (by dsimp only; omega)
  · have : k = n := by simp at h; omega
    subst this; exact hE
theorem writeLoop {vars : Ws} {ts : List TM} {d0 : List Fr} {E : List Fr → Prop} (hv : vars.length ≤ 1000) (hd : d0.length = vars.length) (hl : ts.length ≤ 100000) (hm : ∀ t, t ∈ ts → t.1 ∈ vars) (hE : E (denseW vars ts d0)) :
    LoopP (fun (X : Int × List Fr → Prop) (s : Int × List Fr) => match s with
      | (s700, s757) => IfB (decide (s700 < (ts.length : Int)))
         (∃ (x100 : List UInt8) (x101 : Bool) (x102 : List Int) (x103 : List Int), Idx ts s700 (x100, x101, x102, x103) ∧ ∃ (x105 : Int), lines_Index vars x100 x105 ∧
          ∃ (x107 : Bool) (x108 : List Int) (x109 : List Int), Idx s757 x105 (x107, x108, x109) ∧ X ((IntKind.i64.wrap (s700 + 1)), (s757.set (Int.toNat x105) (x101, x102, x103))))
         (E s757)) ((0 : Int), d0) := by
  refine LoopP.intro (fun z : Int × List Fr => ∃ k : Nat, z.1 = k ∧ k ≤ ts.length ∧ z.2 = denseW vars (ts.take k) d0) (fun z => ts.length - z.1.toNat) ⟨0, rfl, by omega, rfl⟩ ?_
  rintro X ⟨z1, z2⟩ ⟨k, h1, hk, h2⟩ hX
  simp only at h1 h2
  subst h1
  refine IfB.dec (fun h => ?_) (fun h => ?_)
  · have hkn : k < ts.length := by omega
    have hmem := hm ts[k] (List.getElem_mem hkn)
    obtain ⟨i1, i2⟩ := idxN_at hmem
    have hz : z2.length = vars.length := by rw [h2, denseW_len, hd]
    refine ⟨ts[k].1, ts[k].2.1, ts[k].2.2.1, ts[k].2.2.2, Idx.nat hkn, _, lines_Index_says vars _ (by omega), ?_⟩
    rw [i1]
    refine ⟨_, _, _, Idx.nat (l := z2) (k := vars.idxOf ts[k].1) (by omega), ?_⟩
    rw [wrap64' (by omega) (by omega)]
    refine hX _ ⟨k + 1, by dsimp only; omega, by omega, ?_⟩ (by dsimp only; omega)
    dsimp only
    rw [take_succ hkn, h2]
    unfold denseW
    rw [List.foldl_append]; rfl
  · have : k = ts.length := by omega
    subst this
    rw [List.take_length] at h2
    rw [h2]; exact hE
end Go.Abs
end

section
namespace Go.Abs
open Go
open Classical
set_option linter.unusedVariables false
set_option linter.unusedSimpArgs false
set_option linter.unnecessarySimpa false
def costT (st : St8) : List TM := (sumsM st.2).headD []
def rowsD (st : St8) : List (By × List Fr × Int × Bool × List Int × List Int) := (st.2.drop 1).map fun x => rowRec x (denseF st.1 (x.2.1.map tmM))
def resMd : (Int × Int) ⊕ St8 → MR
  | .inl (a, e) => errM a e
  | .inr st => (st.1, denseF st.1 (costT st), rowsD st, 0, 0)
theorem set_mid {α : Type} {a b : List α} {k : Nat} {x : α} (ha : k < a.length) (hl : a.length = b.length) (hx : a[k] = x) : (a.take k ++ b.drop k).set k x = a.take (k + 1) ++ b.drop (k + 1) := by
  have e1 : (a.take k).length = k := by rw [List.length_take]; omega
  have hb : k < b.length := by omega
  rw [List.set_append_right _ _ (by omega), e1, Nat.sub_self, List.drop_eq_getElem_cons hb, List.set_cons_zero, take_succ ha, hx, List.append_assoc]; rfl
theorem rows_fill {st : St8} {k : Nat} {cost : List Fr} (h : InvS k st) (hk : 1 ≤ k) (hts : ∀ x, x ∈ st.2 → x.2.1.length ≤ 100000) :
    LoopP (model_Parse_L7 st.1 (rowsM st.2) (sumsM st.2) cost (st.1, cost, rowsD st, 0, 0)) ((0 : Int), rowsM st.2) := by
  have hr : (rowsM st.2).length = k - 1 := by simp [rowsM, h.len]
  have hd : (rowsD st).length = k - 1 := by simp [rowsD, h.len]
  have := h.r61
  have hv := h.v60
  refine LoopP.intro (fun z : Int × List (By × List Fr × Int × Bool × List Int × List Int) => ∃ j : Nat, z.1 = j ∧ j ≤ k - 1 ∧ z.2 = (rowsD st).take j ++ (rowsM st.2).drop j) (fun z => k - 1 - z.1.toNat) ⟨0, rfl, by omega, rfl⟩ ?_
  rintro X ⟨z1, z2⟩ ⟨j, h1, hj, h2⟩ hX
  simp only at h1 h2
  subst h1
  unfold model_Parse_L7
  dsimp only
  rw [hr]
  refine IfB.dec (fun hh => ?_) (fun hh => ?_)
  · have hjk : j < k - 1 := by omega
    have hjl : j + 1 < st.2.length := by have := h.len; omega
    have hw1 : IntKind.i64.wrap ((j : Int) + 1) = ((j + 1 : Nat) : Int) := by rw [wrap64' (by omega) (by omega)]; rfl
    rw [hw1]
    have hsum : (sumsM st.2)[j + 1]? = some (st.2[j + 1].2.1.map tmM) := by unfold sumsM; rw [List.getElem?_map, List.getElem?_eq_getElem hjl]; rfl
    have hdr : (st.2.drop 1)[j]? = some st.2[j + 1] := by rw [List.getElem?_drop, Nat.add_comm, List.getElem?_eq_getElem hjl]
    have hrow : (rowsM st.2)[j]? = some (rowRec st.2[j + 1] []) := by unfold rowsM; rw [List.getElem?_map, hdr]; rfl
    have hrd : (rowsD st)[j]'(by omega) = rowRec st.2[j + 1] (denseF st.1 (st.2[j + 1].2.1.map tmM)) := by
      have : (rowsD st)[j]? = some (rowRec st.2[j + 1] (denseF st.1 (st.2[j + 1].2.1.map tmM))) := by unfold rowsD; rw [List.getElem?_map, hdr]; rfl
      exact (List.getElem?_eq_some_iff.1 this).2
    have hmem : st.2[j + 1] ∈ st.2 := List.getElem_mem hjl
    refine ⟨_, ⟨by omega, hsum⟩, denseF st.1 (st.2[j + 1].2.1.map tmM), ⟨⟨by omega, by unfold Fits; simp; omega, by unfold Fits; simp; omega⟩, ?_⟩, ?_⟩
    · refine zeroLoop (n := st.1.length) (E := fun s960 => LoopP (model_Parse_L9 st.1 (st.2[j + 1].2.1.map tmM) (denseF st.1 (st.2[j + 1].2.1.map tmM))) ((0 : Int), s960)) (by omega) ?_
      refine writeLoop (vars := st.1) (ts := st.2[j + 1].2.1.map tmM) (d0 := List.replicate st.1.length zeroF) (E := fun s => denseF st.1 (st.2[j + 1].2.1.map tmM) = s) (by omega) (by simp) (by simp; exact hts _ hmem) (fun t ht => ?_) rfl
      obtain ⟨t', ht', rfl⟩ := List.mem_map.1 ht
      exact h.sub _ hmem t' ht'
    · have hz : z2[j]? = some (rowRec st.2[j + 1] []) := by
        rw [h2, List.getElem?_append_right (by rw [List.length_take]; omega), List.length_take, Nat.min_eq_left (by omega), Nat.sub_self, List.getElem?_drop, Nat.add_zero, hrow]
      refine ⟨_, _, _, _, _, _, ⟨by omega, hz⟩, ?_⟩
      refine hX _ ⟨j + 1, rfl, by omega, ?_⟩ (by dsimp only; omega)
      dsimp only
      rw [h2, Int.toNat_natCast]
      exact set_mid (by omega) (by omega) hrd
  · have : j = k - 1 := by omega
    subst this
    rw [h2, List.take_of_length_le (by omega), List.drop_eq_nil_of_le (by omega), List.append_nil]
def LsOK (l : Ls) : Prop := l.length ≤ 100000 ∧ ∀ x, x ∈ l → wrdOK x.2 ∧ x.2 ≠ []
theorem terms_len {l : Ls} (hl : LsOK l) : ∀ (r : Ls) (k : Nat) (st st' : St8), (∀ x, x ∈ r → x ∈ l) → (∀ x, x ∈ st.2 → x.2.1.length ≤ 100000) → foldM k st r = .inr st' → ∀ x, x ∈ st'.2 → x.2.1.length ≤ 100000
  | [], k, st, st', hr, hs, h => by cases h; exact hs
  | (a, ws) :: r, k, st, st', hr, hs, h => by
    unfold foldM at h
    cases he : stepM k st ws with
    | inl e => rw [he] at h; cases h
    | inr st1 =>
      rw [he] at h
      refine terms_len hl r (k + 1) st1 st' (fun x hx => hr x (by simp [hx])) ?_ h
      unfold stepM at he
      split at he
      · cases he
      · rename_i x hx
        split at he
        · cases he
        · split at he
          · cases he
          · cases he
            intro y hy
            rcases List.mem_append.1 hy with hy | hy
            · exact hs y hy
            · simp at hy; subst hy
              have := line_len hx
              have := (hl.2 (a, ws) (hr _ (by simp))).1.1
              dsimp only at this; omega
theorem foldM_inl {k : Nat} {st : St8} {p : Int × Ws} {r : Ls} {e : Int} (h : stepM k st p.2 = .inl e) : foldM k st (p :: r) = .inl (p.1, e) := by
  obtain ⟨a, ws⟩ := p
  unfold foldM; dsimp only at h ⊢; rw [h]
theorem foldM_inr {k : Nat} {st st' : St8} {p : Int × Ws} {r : Ls} (h : stepM k st p.2 = .inr st') : foldM k st (p :: r) = foldM (k + 1) st' r := by
  obtain ⟨a, ws⟩ := p
  conv => lhs; unfold foldM
  dsimp only at h ⊢; rw [h]
theorem parse_loop (l : Ls) (hl : LsOK l) (hne : l ≠ []) : LoopP (model_Parse_L1 l (resMd (foldM 0 ([], []) l))) ((0 : Int), [], [], []) := by
  have hlen := hl.1
  have hpos : 1 ≤ l.length := Nat.pos_of_ne_zero fun e => hne (List.length_eq_zero_iff.1 e)
  refine LoopP.intro (fun z : MX => ∃ (k : Nat) (st : St8), z = ((k : Int), st.1, rowsM st.2, sumsM st.2) ∧ k ≤ l.length ∧ InvS k st ∧ foldM 0 ([], []) l = foldM k st (l.drop k)) (fun z => l.length - z.1.toNat) ⟨0, ([], []), rfl, by omega, InvS.zero, rfl⟩ ?_
  rintro X z ⟨k, st, rfl, hk, hi, hf⟩ hX
  rcases Nat.lt_or_ge k l.length with hkl | hkl
  · have hd := List.drop_eq_getElem_cons hkl
    have hm := hl.2 _ (List.getElem_mem hkl)
    refine model_line (a := l[k].1) (ws := l[k].2) hkl rfl hl.1 hm.1 hm.2 hi.len hi.v60 (fun e he => ?_) (fun st' hs => ?_)
    · rw [hf, hd, foldM_inl he]; rfl
    · refine hX _ ⟨k + 1, st', rfl, by omega, hi.step hs, ?_⟩ (by dsimp only; omega)
      rw [hf, hd, foldM_inr hs]
  · have e : k = l.length := by omega
    have hdn : l.drop k = [] := List.drop_eq_nil_of_le hkl
    rw [hdn] at hf
    have hts := terms_len hl l 0 ([], []) st (fun x hx => hx) (by simp) hf
    rw [hf]
    unfold model_Parse_L1
    dsimp only
    have hv := hi.v60
    refine IfB.dec (fun h => absurd h (by omega)) (fun _ => ?_)
    obtain ⟨x0, xs, hst⟩ : ∃ x0 xs, st.2 = x0 :: xs := by
      cases h : st.2 with
      | nil => have := hi.len; rw [h] at this; simp at this; omega
      | cons x0 xs => exact ⟨x0, xs, rfl⟩
    have hm0 : x0 ∈ st.2 := by rw [hst]; simp
    have hc : costT st = x0.2.1.map tmM := by unfold costT sumsM; rw [hst]; rfl
    refine ⟨x0.2.1.map tmM, by rw [hst]; exact idx0 _ _, ⟨by omega, by unfold Fits; simp; omega, by unfold Fits; simp; omega⟩, ?_⟩
    refine zeroLoop (n := st.1.length) (E := fun s657 => LoopP (model_Parse_L6 st.1 (rowsM st.2) (sumsM st.2) (x0.2.1.map tmM) (resMd (.inr st))) ((0 : Int), s657)) (by omega) ?_
    refine writeLoop (vars := st.1) (ts := x0.2.1.map tmM) (d0 := List.replicate st.1.length zeroF) (E := fun s757 => LoopP (model_Parse_L7 st.1 (rowsM st.2) (sumsM st.2) s757 (resMd (.inr st))) ((0 : Int), rowsM st.2)) (by omega) (by simp) (by simp; exact hts _ hm0) (fun t ht => ?_) ?_
    · obtain ⟨t', ht', rfl⟩ := List.mem_map.1 ht
      exact hi.sub _ hm0 t' ht'
    · show LoopP (model_Parse_L7 st.1 (rowsM st.2) (sumsM st.2) (denseF st.1 (x0.2.1.map tmM)) (st.1, denseF st.1 (costT st), rowsD st, 0, 0)) ((0 : Int), rowsM st.2)
      rw [hc]
      exact rows_fill hi (by omega) hts
noncomputable def saysM (s : By) : (Int × Int) ⊕ St8 := if allL s = [] then .inl (0, 2) else foldM 0 ([], []) (allL s)
theorem wlen_mem8 : ∀ {l : Ws} {w : By}, w ∈ l → w.length + 1 ≤ wlen l
  | x :: l, w, h => by
    have e : wlen (x :: l) = x.length + 1 + wlen l := by simp [wlen]
    rw [e]
    rcases List.mem_cons.1 h with rfl | h
    · omega
    · have := wlen_mem8 h; omega
theorem allLs_ok {s : By} (hl : s.length ≤ 65536) : LsOK (allL s) := by
  constructor
  · have := linesFrom_length (splitC 10 s) 0
    have h2 : (splitC 10 s).length = s.count 10 + 1 := split_len
    have h3 : s.count 10 ≤ s.length := List.count_le_length
    unfold allL; omega
  · intro x hx
    have hw := all_wlen s x hx
    have h0 := wlen_len x.2
    refine ⟨⟨by omega, fun w hw' => ?_⟩, ?_⟩
    · have := wlen_mem8 hw'
      omega
    · have hr := linesFrom_rising (splitC 10 s) 0
      obtain ⟨i, hi, e⟩ := List.mem_iff_getElem.1 hx
      have := (hr.at (i := i) (x := x) (by unfold allL at hi e; rw [List.getElem?_eq_getElem hi, e])).1
      exact fun e => by rw [e] at this; simp at this
theorem model_Parse_says {s : By} (hl : s.length ≤ 65536) (hr : RightP s) : model_Parse s (resMd (saysM s)) := by
  unfold model_Parse
  refine ⟨_, _, lines_All_says hl hr, IfB.nei (fun h => absurd rfl h) (fun _ => ?_)⟩
  unfold saysM
  by_cases he : allL s = []
  · rw [if_pos he]
    exact IfB.eqi (fun _ => rfl) (fun h => absurd (by rw [he]; rfl) h)
  · rw [if_neg he]
    exact IfB.eqi (fun h => absurd (List.length_eq_zero_iff.1 (by omega)) he) (fun _ => parse_loop _ (allLs_ok hl) he)
theorem model_Parse_wrong {s : By} (hl : s.length ≤ 65536) (hr : ¬ RightP s) : model_Parse s (errM 0 2) := by
  unfold model_Parse
  exact ⟨_, _, lines_All_form hl hr, IfB.nei (fun _ => rfl) (fun h => absurd h (by decide))⟩
end Go.Abs
end

section
namespace Go.Abs
open Go
open Classical
set_option linter.unusedVariables false
set_option linter.unusedSimpArgs false
set_option linter.unnecessarySimpa false
abbrev LR := By × List TR × Int × By
abbrev RR8 := List LR × Ws × Int × Int
abbrev RX8 := Int × List LR × Ws × Ws
def ln8R (x : Ln8) : LR := (x.1, x.2.1.map tmR, x.2.2.1, x.2.2.2)
def errR (a e : Int) : RR8 := ([], [], a, e)
def rnm (l : List Ln8) : Ws := (l.drop 1).map (·.1)
theorem firstS_shape {ws : Ws} {x : Ln8} (h : firstS ws = some x) : x.1 = [] ∧ x.2.2.1 = 0 ∧ x.2.2.2 = [] := by
  unfold firstS at h
  split at h
  · simp only [Option.map_eq_some_iff] at h
    obtain ⟨ts, h1, rfl⟩ := h
    exact ⟨rfl, rfl, rfl⟩
  · cases h
theorem addLoopR {ts : List TR} {vars : Ws} {E : Ws → Prop} (hv : vars.length ≤ 1000000) (ht : ts.length ≤ 100000) (hE : E (addN vars (ts.map (·.2.2)))) :
    LoopP (fun (X : Int × Ws → Prop) (s : Int × Ws) => match s with
      | (s200, s253) => IfB (decide (s200 < (ts.length : Int)))
         (∃ (x30 : Int) (x31 : List UInt8) (x32 : List UInt8), Idx ts s200 (x30, x31, x32) ∧ ∃ (x34 : Bool), offcutref08_Has s253 x32 x34 ∧
          IfB x34 (X ((IntKind.i64.wrap (s200 + 1)), s253)) (∃ (x36 : Int) (x37 : List UInt8) (x38 : List UInt8), Idx ts s200 (x36, x37, x38) ∧ Fits (s253.length + [x38].length) 16 ∧ X ((IntKind.i64.wrap (s200 + 1)), (s253 ++ [x38]))))
         (E s253)) ((0 : Int), vars) := by
  refine LoopP.intro (fun z : Int × Ws => ∃ k : Nat, z.1 = k ∧ k ≤ ts.length ∧ z.2 = addN vars ((ts.map (·.2.2)).take k)) (fun z => ts.length - z.1.toNat) ⟨0, rfl, by omega, by simp [addN]⟩ ?_
  rintro X ⟨z1, z2⟩ ⟨k, h1, hk, h2⟩ hX
  simp only at h1 h2
  subst h1
  have hl2 : z2.length ≤ 1100000 := by have := addN_len ((ts.map (·.2.2)).take k) vars; rw [← h2, List.length_take, List.length_map] at this; omega
  refine IfB.dec (fun h => ?_) (fun h => ?_)
  · have hkl : k < ts.length := by omega
    have hs : (ts.map (·.2.2)).take (k + 1) = (ts.map (·.2.2)).take k ++ [ts[k].2.2] := by rw [take_succ (by simpa using hkl)]; simp
    refine ⟨ts[k].1, ts[k].2.1, ts[k].2.2, Idx.nat hkl, _, ref_has_says z2 _ (by omega), IfB.dec (fun hn => ?_) (fun hn => ?_)⟩
    · rw [wrap64' (by omega) (by omega)]
      refine hX _ ⟨k + 1, by dsimp only; omega, by omega, ?_⟩ (by dsimp only; omega)
      dsimp only
      rw [hs, addN_snoc, ← h2, if_pos hn]
    · rw [wrap64' (by omega) (by omega)]
      refine ⟨ts[k].1, ts[k].2.1, ts[k].2.2, Idx.nat hkl, by unfold Fits; simp; omega, hX _ ⟨k + 1, by dsimp only; omega, by omega, ?_⟩ (by dsimp only; omega)⟩
      dsimp only
      rw [hs, addN_snoc, ← h2, if_neg hn]
  · have e : k = ts.length := by omega
    subst e
    rw [List.take_of_length_le (by simp)] at h2
    rw [h2]; exact hE
theorem ref_line {x1 : Ls} {k : Nat} {a : Int} {ws : Ws} {st : St8} {r : RR8} {X : RX8 → Prop} (hk : k < x1.length) (hx : x1[k] = (a, ws)) (hlen : x1.length ≤ 100000) (hws : wrdOK ws) (hne : ws ≠ [])
    (hi : InvS k st)
    (hE : ∀ e, stepM k st ws = .inl e → r = errR a e) (hX : ∀ st', stepM k st ws = .inr st' → X (((k + 1 : Nat) : Int), st'.2.map ln8R, st'.1, rnm st'.2)) :
    offcutref08_Model_L1 x1 r X ((k : Int), st.2.map ln8R, st.1, rnm st.2) := by
  have hst := hi.len
  have hv := hi.v60
  have hr61 := hi.r61
  have hw1 : IntKind.i64.wrap ((k : Int) + 1) = ((k + 1 : Nat) : Int) := by rw [wrap64' (by omega) (by omega)]; rfl
  have hix : Idx x1 (k : Int) (a, ws) := ⟨by omega, by rw [Int.toNat_natCast, List.getElem?_eq_getElem hk, hx]⟩
  have hml : (st.2.map ln8R).length = k := by rw [List.length_map, hst]
  unfold offcutref08_Model_L1
  dsimp only
  refine IfB.dec (fun _ => ?_) (fun h => absurd (by omega) h)
  -- the first line
  have F : k = 0 → ∃ (x15 : Int) (x16 : Ws), Idx x1 (k : Int) (x15, x16) ∧ ∃ (x18 : By) (x19 : List TR) (x20 : Int) (x21 : By) (x22 : Bool), offcutref08_First x16 (x18, x19, x20, x21, x22) ∧
      IfB x22 (∃ (x24 : Bool), offcutref08_Twice x19 x24 ∧ IfB x24 (∃ (x26 : Int) (x27 : Ws), Idx x1 (k : Int) (x26, x27) ∧ r = (([] : List LR), ([] : Ws), x26, 3)) (LoopP (offcutref08_Model_L2 x1 (k : Int) (st.2.map ln8R) (rnm st.2) X x18 x19 x20 x21 r) ((0 : Int), st.1)))
        (∃ (x48 : Int) (x49 : Ws), Idx x1 (k : Int) (x48, x49) ∧ r = (([] : List LR), ([] : Ws), x48, 2)) := fun h0 => by
    have eL : lineS k ws = firstS ws := if_pos h0
    have e0 : st.2 = [] := List.length_eq_zero_iff.1 (by omega)
    have hsay := ref_first_says ws hws hne
    have hflag := firstR_flag ws
    have hsome := fun x => firstR_some (ws := ws) (x := x)
    generalize firstR ws = R at hsay hflag hsome
    obtain ⟨f1, f2, f3, f4, f5⟩ := R
    refine ⟨a, ws, hix, f1, f2, f3, f4, f5, hsay, ?_⟩
    dsimp only at hflag
    cases hf : firstS ws with
    | none =>
      rw [hf] at hflag
      rw [hflag]
      exact IfB_false.2 ⟨a, ws, hix, hE 2 (by unfold stepM; rw [eL, hf])⟩
    | some x =>
      have hln := line_len (eL.trans hf)
      have := hws.1
      have hR := hsome x hf
      simp only [Prod.mk.injEq] at hR
      obtain ⟨rfl, rfl, rfl, rfl, rfl⟩ := hR
      obtain ⟨s1, s2, s3⟩ := firstS_shape hf
      have eln : ln8R x = ([], x.2.1.map tmR, 0, []) := by unfold ln8R; rw [s1, s2, s3]
      refine IfB_true.2 ⟨_, ref_twice_says _ (by simp; omega), ?_⟩
      rw [names_tmR]
      refine IfB.dec (fun hd => ?_) (fun hd => ?_)
      · exact ⟨a, ws, hix, hE 3 (by unfold stepM; rw [eL, hf]; exact if_pos (.inl hd))⟩
      · have hs3 : stepM k st ws = if 60 < (addN st.1 (nmsT x.2.1)).length ∨ (k ≠ 0 ∧ 61 ≤ st.2.length) then .inl 4 else .inr (addN st.1 (nmsT x.2.1), st.2 ++ [x]) := by
          unfold stepM; rw [eL, hf]; exact if_neg (fun h => h.elim hd fun h => h.1 h0)
        refine addLoopR (ts := x.2.1.map tmR) (vars := st.1) (E := fun s253 => IfB (decide ((s253.length : Int) > (60 : Int))) (∃ (x42 : Int) (x43 : Ws), Idx x1 (k : Int) (x42, x43) ∧ r = (([] : List LR), ([] : Ws), x42, 4))
          (IfB (((rnm st.2).length : Int) == (60 : Int)) (Fits ((st.2.map ln8R).length + [(([], x.2.1.map tmR, 0, []) : LR)].length) 64 ∧ X ((IntKind.i64.wrap ((k : Int) + 1)), (st.2.map ln8R ++ [([], x.2.1.map tmR, 0, [])]), s253, rnm st.2))
            (Fits ((st.2.map ln8R).length + [(([], x.2.1.map tmR, 0, []) : LR)].length) 64 ∧ X ((IntKind.i64.wrap ((k : Int) + 1)), (st.2.map ln8R ++ [([], x.2.1.map tmR, 0, [])]), s253, rnm st.2)))) (by omega) (by simp; omega) ?_
        rw [names_tmR]
        refine IfB.dec (fun hm => ?_) (fun hm => ?_)
        · exact ⟨a, ws, hix, hE 4 (by rw [hs3]; exact if_pos (.inl (by omega)))⟩
        · have := hX _ (by rw [hs3]; exact if_neg (fun h => h.elim (fun h => hm (by omega)) fun h => h.1 h0))
          dsimp only at this
          have e1 : rnm (st.2 ++ [x]) = rnm st.2 := by rw [e0]; rfl
          rw [e1, List.map_append, List.map_singleton, eln] at this
          refine IfB.bool (fun _ => ?_) (fun _ => ?_) <;> exact ⟨by unfold Fits; rw [hml]; simp; omega, by rw [hw1]; exact this⟩
  have hsayR := ref_row_says ws hws
  have hflagR := rowR_flag ws
  have hsomeR := fun x => rowR_some (ws := ws) (x := x)
  generalize rowR ws = R at hsayR hflagR hsomeR
  obtain ⟨f1, f2, f3, f4, f5⟩ := R
  refine ⟨a, ws, hix, f1, f2, f3, f4, f5, hsayR, IfB.bool (fun hf5 => ?_) (fun hf5 => ?_)⟩
  rotate_left
  · -- no row
    refine IfB.eqi (fun h0 => F (by omega)) (fun h0 => ⟨a, ws, hix, hE 2 ?_⟩)
    dsimp only at hflagR
    rw [hf5] at hflagR
    have hn : rowS ws = none := by
      cases h : rowS ws with
      | none => rfl
      | some x => rw [h] at hflagR; cases hflagR
    unfold stepM lineS; rw [if_neg (by omega), hn]
  refine IfB.eqi (fun h0 => F (by omega)) (fun h0 => ?_)
  have h0 : k ≠ 0 := by omega
  have eL : lineS k ws = rowS ws := if_neg h0
  dsimp only at hflagR
  cases hf : rowS ws with
  | none => rw [hf, hf5] at hflagR; cases hflagR
  | some x =>
    have hln := line_len (eL.trans hf)
    have := hws.1
    have hR := hsomeR x hf
    simp only [Prod.mk.injEq] at hR
    obtain ⟨rfl, rfl, rfl, rfl, rfl⟩ := hR
    refine ⟨_, ref_twice_says _ (by simp; omega), ?_⟩
    rw [names_tmR]
    refine IfB.dec (fun hd => ?_) (fun hd => ?_)
    · exact ⟨a, ws, hix, hE 3 (by unfold stepM; rw [eL, hf]; exact if_pos (.inl hd))⟩
    refine IfB.dec (fun _ => ?_) (fun h => absurd (by omega) h)
    have hrl : (rnm st.2).length = k - 1 := by simp [rnm, hst]
    refine ⟨_, ref_has_says _ x.1 (by omega), IfB.dec (fun hh => ?_) (fun hh => ?_)⟩
    · exact ⟨a, ws, hix, hE 3 (by unfold stepM; rw [eL, hf]; exact if_pos (.inr ⟨h0, hh⟩))⟩
    have hs3 : stepM k st ws = if 60 < (addN st.1 (nmsT x.2.1)).length ∨ (k ≠ 0 ∧ 61 ≤ st.2.length) then .inl 4 else .inr (addN st.1 (nmsT x.2.1), st.2 ++ [x]) := by
      unfold stepM; rw [eL, hf]; exact if_neg (fun h => h.elim hd fun h => hh h.2)
    refine addLoopR (ts := x.2.1.map tmR) (vars := st.1) (E := fun s353 => IfB (decide ((s353.length : Int) > (60 : Int))) (∃ (x75 : Int) (x76 : Ws), Idx x1 (k : Int) (x75, x76) ∧ r = (([] : List LR), ([] : Ws), x75, 4))
      (IfB (((rnm st.2).length : Int) == (60 : Int)) (∃ (x79 : Int) (x80 : Ws), Idx x1 (k : Int) (x79, x80) ∧ r = (([] : List LR), ([] : Ws), x79, 4))
        (Fits ((rnm st.2).length + [x.1].length) 16 ∧ Fits ((st.2.map ln8R).length + [ln8R x].length) 64 ∧ X ((IntKind.i64.wrap ((k : Int) + 1)), (st.2.map ln8R ++ [ln8R x]), s353, (rnm st.2 ++ [x.1]))))) (by omega) (by simp; omega) ?_
    rw [names_tmR]
    refine IfB.dec (fun hm => ?_) (fun hm => ?_)
    · exact ⟨a, ws, hix, hE 4 (by rw [hs3]; exact if_pos (.inl (by omega)))⟩
    · refine IfB.eqi (fun hr => ?_) (fun hr => ?_)
      · exact ⟨a, ws, hix, hE 4 (by rw [hs3]; exact if_pos (.inr ⟨h0, by omega⟩))⟩
      · have := hX _ (by rw [hs3]; exact if_neg (fun h => h.elim (fun h => hm (by omega)) fun h => hr (by omega)))
        dsimp only at this
        have e1 : rnm (st.2 ++ [x]) = rnm st.2 ++ [x.1] := by
          unfold rnm
          rw [List.drop_append_of_le_length (by omega)]; simp
        rw [e1, List.map_append, List.map_singleton] at this
        exact ⟨by unfold Fits; rw [hrl]; simp; omega, by unfold Fits; rw [hml]; simp; omega, by rw [hw1]; exact this⟩
def resRd : (Int × Int) ⊕ St8 → RR8
  | .inl (a, e) => errR a e
  | .inr st => (st.2.map ln8R, st.1, 0, 0)
theorem ref_loop (l : Ls) (hl : LsOK l) : LoopP (offcutref08_Model_L1 l (resRd (foldM 0 ([], []) l))) ((0 : Int), [], [], []) := by
  have hlen := hl.1
  refine LoopP.intro (fun z : RX8 => ∃ (k : Nat) (st : St8), z = ((k : Int), st.2.map ln8R, st.1, rnm st.2) ∧ k ≤ l.length ∧ InvS k st ∧ foldM 0 ([], []) l = foldM k st (l.drop k)) (fun z => l.length - z.1.toNat) ⟨0, ([], []), rfl, by omega, InvS.zero, rfl⟩ ?_
  rintro X z ⟨k, st, rfl, hk, hi, hf⟩ hX
  rcases Nat.lt_or_ge k l.length with hkl | hkl
  · have hd := List.drop_eq_getElem_cons hkl
    have hm := hl.2 _ (List.getElem_mem hkl)
    refine ref_line (a := l[k].1) (ws := l[k].2) hkl rfl hl.1 hm.1 hm.2 hi (fun e he => ?_) (fun st' hs => ?_)
    · rw [hf, hd, foldM_inl he]; rfl
    · refine hX _ ⟨k + 1, st', rfl, by omega, hi.step hs, ?_⟩ (by dsimp only; omega)
      rw [hf, hd, foldM_inr hs]
  · have e : k = l.length := by omega
    have hdn : l.drop k = [] := List.drop_eq_nil_of_le hkl
    rw [hdn] at hf
    rw [hf]
    unfold offcutref08_Model_L1
    dsimp only
    exact IfB.dec (fun h => absurd h (by omega)) (fun _ => rfl)
theorem ref_Model_says {s : By} (hl : s.length ≤ 65536) (hr : RightP s) : offcutref08_Model s (resRd (saysM s)) := by
  unfold offcutref08_Model
  refine ⟨allL s, by rw [← goL_all hr]; exact offcutref07_All_says (by omega), ?_⟩
  unfold saysM
  by_cases he : allL s = []
  · rw [if_pos he]
    exact IfB.eqi (fun _ => rfl) (fun h => absurd (by rw [he]; rfl) h)
  · rw [if_neg he]
    exact IfB.eqi (fun h => absurd (List.length_eq_zero_iff.1 (by omega)) he) (fun _ => ref_loop _ (allLs_ok hl))
end Go.Abs
end

section
namespace Go.Abs
open Go
open Classical
set_option linter.unusedVariables false
set_option linter.unusedSimpArgs false
set_option linter.unnecessarySimpa false
abbrev MRow := By × List Fr × Int × Bool × List Int × List Int
def NamesP (l : Ws) : Prop := l.Nodup ∧ ∀ v, v ∈ l → NameP v
theorem idx_take {l : Ws} {k : Nat} (hk : k < l.length) : l.idxOf l[k] = k ↔ l[k] ∉ l.take k := by
  have hlt : l.idxOf l[k] < l.length := List.idxOf_lt_length_of_mem (List.getElem_mem hk)
  have he : l[l.idxOf l[k]] = l[k] := List.getElem_idxOf hlt
  constructor
  · intro h hm
    obtain ⟨i, hi, e⟩ := List.mem_take_iff_getElem.1 hm
    have hik : i < k := by omega
    have hil : i < l.length := by omega
    have := List.not_of_lt_findIdx (p := (· == l[k])) (xs := l) (i := i) (by show i < l.idxOf l[k]; omega)
    rw [e] at this
    simp at this
  · intro h
    rcases Nat.lt_or_ge (l.idxOf l[k]) k with h1 | h1
    · exact absurd (List.mem_take_iff_getElem.2 ⟨l.idxOf l[k], by omega, he⟩) h
    · rcases Nat.lt_or_ge k (l.idxOf l[k]) with h2 | h2
      · have := List.not_of_lt_findIdx (p := (· == l[k])) (xs := l) (i := k) h2
        simp at this
      · omega
theorem idx_nodup {l : Ws} {k : Nat} (hk : k < l.length) (hn : l.Nodup) : l.idxOf l[k] = k := (idx_take hk).2 ((nodup_succ hk).1 (hn.sublist (List.take_sublist _ _))).2
theorem model_names_says (l : Ws) (hl : l.length ≤ 1000000) : model_names l (decide (NamesP l)) := by
  unfold model_names
  refine LoopP.intro (fun z : Int => ∃ k : Nat, z = k ∧ k ≤ l.length ∧ (l.take k).Nodup ∧ ∀ v, v ∈ l.take k → NameP v) (fun z => l.length - z.toNat) ⟨0, rfl, by omega, by simp, by simp⟩ ?_
  rintro X z ⟨k, rfl, hk, hn, hm⟩ hX
  unfold model_names_L1
  dsimp only
  refine IfB.dec (fun h => ?_) (fun h => ?_)
  · have hkl : k < l.length := by omega
    refine ⟨_, Idx.nat hkl, _, lines_Name_says (nameB_iff _), IfB.bool (fun hN => ?_) (fun hN => ?_)⟩
    · have hN := (nameB_iff _).1 hN
      refine ⟨_, lines_Index_says l _ (by omega), ?_⟩
      rw [(idxN_at (List.getElem_mem hkl)).1]
      refine IfB.nei (fun he => ?_) (fun he => ?_)
      · refine decide_eq_false fun hp => he ?_
        rw [idx_nodup hkl hp.1]
      · rw [wrap64' (by omega) (by omega)]
        have := (idx_take hkl).1 (by omega)
        refine hX _ ⟨k + 1, by omega, by omega, (nodup_succ hkl).2 ⟨hn, this⟩, fun v hv => ?_⟩ (by omega)
        rw [take_succ hkl, List.mem_append] at hv
        rcases hv with hv | hv
        · exact hm v hv
        · simp at hv; subst hv; exact hN
    · refine decide_eq_false fun hp => ?_
      rw [(nameB_iff _).2 (hp.2 _ (List.getElem_mem hkl))] at hN; cases hN
  · have e : k = l.length := by omega
    subst e
    rw [List.take_length] at hn hm
    exact decide_eq_true ⟨hn, hm⟩
def MayM (V : Ws) (C : List Fr) (R : List MRow) : Prop := V.length ≤ 60 ∧ C.length = V.length ∧ R.length ≤ 60 ∧ NamesP V ∧ NamesP (R.map (·.1)) ∧ ∀ r, r ∈ R → r.2.1.length = V.length ∧ -1 ≤ r.2.2.1 ∧ r.2.2.1 ≤ 1
theorem model_Right_says (V : Ws) (C : List Fr) (R : List MRow) : model_Right V C R (decide (MayM V C R)) := by
  unfold model_Right
  refine IfB.dec (fun h1 => ?_) (fun h1 => decide_eq_false fun h => h1 (by have := h.1; omega))
  refine IfB.eqi (fun h2 => ?_) (fun h2 => decide_eq_false fun h => h2 (by have := h.2.1; omega))
  refine IfB.dec (fun h3 => ?_) (fun h3 => decide_eq_false fun h => h3 (by have := h.2.2.1; omega))
  refine ⟨_, model_names_says V (by omega), IfB.dec (fun h4 => ?_) (fun h4 => decide_eq_false fun h => h4 h.2.2.2.1)⟩
  refine LoopP.intro (fun z : Int × Ws => ∃ k : Nat, z.1 = k ∧ k ≤ R.length ∧ z.2 = (R.map (·.1)).take k) (fun z => R.length - z.1.toNat) ⟨0, rfl, by omega, by simp⟩ ?_
  rintro X ⟨z1, z2⟩ ⟨k, e1, hk, e2⟩ hX
  simp only at e1 e2
  subst e1
  unfold model_Right_L1
  dsimp only
  refine IfB.dec (fun h => ?_) (fun h => ?_)
  · have hkl : k < R.length := by omega
    refine ⟨R[k].1, R[k].2.1, R[k].2.2.1, R[k].2.2.2.1, R[k].2.2.2.2.1, R[k].2.2.2.2.2, Idx.nat hkl, by unfold Fits; rw [e2]; simp; omega, ?_⟩
    rw [wrap64' (by omega) (by omega)]
    refine hX _ ⟨k + 1, by dsimp only; omega, by omega, ?_⟩ (by dsimp only; omega)
    dsimp only
    rw [take_succ (by simpa using hkl), e2]; simp
  · have e : k = R.length := by omega
    subst e
    rw [List.take_of_length_le (by simp)] at e2
    refine ⟨_, model_names_says z2 (by rw [e2]; simp; omega), ?_⟩
    rw [e2]
    refine IfB.dec (fun h5 => ?_) (fun h5 => decide_eq_false fun h => h5 h.2.2.2.2.1)
    refine LoopP.intro (fun z : Int => ∃ k : Nat, z = k ∧ k ≤ R.length ∧ ∀ r, r ∈ R.take k → r.2.1.length = V.length ∧ -1 ≤ r.2.2.1 ∧ r.2.2.1 ≤ 1) (fun z => R.length - z.toNat) ⟨0, rfl, by omega, by simp⟩ ?_
    rintro Y z ⟨k, rfl, hk, hm⟩ hY
    unfold model_Right_L2
    dsimp only
    refine IfB.dec (fun h => ?_) (fun h => ?_)
    · have hkl : k < R.length := by omega
      have hmem := List.getElem_mem hkl
      have no : ∀ p : Prop, p → ¬ (R[k].2.1.length = V.length ∧ -1 ≤ R[k].2.2.1 ∧ R[k].2.2.1 ≤ 1) → IfB (decide ((k : Int) ≥ 0)) (decide (MayM V C R) = false) (decide (MayM V C R) = true) := fun _ _ hno =>
        IfB.dec (fun _ => decide_eq_false fun h => hno (h.2.2.2.2.2 _ hmem)) (fun h => absurd (by omega) h)
      refine ⟨R[k].1, R[k].2.1, R[k].2.2.1, R[k].2.2.2.1, R[k].2.2.2.2.1, R[k].2.2.2.2.2, Idx.nat hkl, IfB.nei (fun a => no True trivial (fun h => a (by omega))) (fun a => IfB.dec (fun b => no True trivial (fun h => by omega)) (fun b => IfB.dec (fun c => no True trivial (fun h => by omega)) (fun c => ?_)))⟩
      rw [wrap64' (by omega) (by omega)]
      refine hY _ ⟨k + 1, by omega, by omega, fun r hr => ?_⟩ (by omega)
      rw [take_succ hkl, List.mem_append] at hr
      rcases hr with hr | hr
      · exact hm r hr
      · simp at hr; subst hr; exact ⟨by omega, by omega, by omega⟩
    · have e : k = R.length := by omega
      subst e
      rw [List.take_length] at hm
      exact decide_eq_true ⟨by omega, by omega, by omega, h4, h5, hm⟩
end Go.Abs
end

section
namespace Go.Abs
open Go
open Classical
set_option linter.unusedVariables false
set_option linter.unusedSimpArgs false
set_option linter.unnecessarySimpa false
theorem awk8 (A B : Prop) (h : A) : ∃ x : Bool, offcutlaw08_awake x ∧ IfB x A B := ⟨true, rfl, IfB_true.2 h⟩
theorem same_nil : model_Same [] [] [] [] [] [] true := by
  unfold model_Same
  refine ⟨true, ?_, IfB_true.2 ⟨true, vec_Same_refl [] (by simp) (by simp), IfB_true.2 ?_⟩⟩
  · unfold slices_Equal_string_string
    refine IfB.nei (fun h => absurd rfl h) (fun _ => LoopP.once fun X hX => ?_)
    unfold slices_Equal_string_string_L1
    exact IfB.dec (fun h => absurd h (by decide)) (fun _ => rfl)
  · refine IfB.nei (fun h => absurd rfl h) (fun _ => LoopP.once fun X hX => ?_)
    unfold model_Same_L1
    exact IfB.dec (fun h => absurd h (by decide)) (fun _ => rfl)
def lastV (s : By) (ts : List Tm) (w : Fr) : Fr := ts.foldl (fun w t => if t.2.2 = s then tmV t else w) w
theorem idx_inj {l : Ws} {a b : By} (ha : a ∈ l) (hb : b ∈ l) (h : l.idxOf a = l.idxOf b) : a = b := by
  have h1 : l[l.idxOf a]'(List.idxOf_lt_length_of_mem ha) = a := List.getElem_idxOf _
  have h2 : l[l.idxOf b]'(List.idxOf_lt_length_of_mem hb) = b := List.getElem_idxOf _
  rw [← h1, ← h2]; simp only [h]
theorem denseW_at {vars : Ws} {s : By} (hs : s ∈ vars) : ∀ (ts : List Tm) (d : List Fr) (w : Fr), (∀ t, t ∈ ts → t.2.2 ∈ vars) → d.length = vars.length → d[vars.idxOf s]? = some w → (denseW vars (ts.map tmM) d)[vars.idxOf s]? = some (lastV s ts w)
  | [], d, w, hm, hl, hd => hd
  | t :: ts, d, w, hm, hl, hd => by
    have ht := hm t (by simp)
    show (denseW vars (ts.map tmM) (d.set (vars.idxOf t.2.2) (tmV t)))[vars.idxOf s]? = some (lastV s ts (if t.2.2 = s then tmV t else w))
    refine denseW_at hs ts _ _ (fun t ht => hm t (by simp [ht])) (by simp [hl]) ?_
    rw [List.getElem?_set]
    have hlt : vars.idxOf s < d.length := by rw [hl]; exact List.idxOf_lt_length_of_mem hs
    by_cases he : t.2.2 = s
    · rw [if_pos (by rw [he]), if_pos (by rw [he]; exact hlt), if_pos he]
    · rw [if_neg (fun e => he (idx_inj ht hs e)), if_neg he, hd]
theorem denseF_at {vars : Ws} {ts : List Tm} {k : Nat} (hk : k < vars.length) (hn : vars.Nodup) (hm : ∀ t, t ∈ ts → t.2.2 ∈ vars) : (denseF vars (ts.map tmM))[k]? = some (lastV vars[k] ts zeroF) := by
  have := denseW_at (s := vars[k]) (List.getElem_mem hk) ts (List.replicate vars.length zeroF) zeroF hm (by simp) (by rw [idx_nodup hk hn]; simp [hk])
  rwa [idx_nodup hk hn] at this
theorem lastV_ok (s : By) : ∀ (ts : List Tm) (w : Fr), okX w 10003 → okX (lastV s ts w) 10003
  | [], w, h => h
  | t :: ts, w, h => by
    show okX (lastV s ts (if t.2.2 = s then tmV t else w)) 10003
    refine lastV_ok s ts _ ?_
    split
    · exact tmV_ok t
    · exact h
theorem ratR_one : ratR [49] = (false, words 1, words 1, 0) := by
  have e1 : decT 1 = [49] := by rw [decT_lt (by omega)]; decide
  have := ratR_txt (p := false) (n := 1) (d := 1) (by rw [e1]; decide) (by rw [e1]; decide) (by simp) (by decide) (by decide)
  have e : rtxt (iV false 1) 1 = [49] := by
    unfold rtxt wtxt
    rw [if_pos rfl, if_neg (by decide)]
    exact e1
  rw [e] at this; exact this
theorem parse_num (o : Option By) (h : ∀ w, o = some w → isN w ∧ w.length ≤ 1000000) : rat_Parse (o.getD [49]) ((numV o).1, (numV o).2.1, (numV o).2.2, 0) := by
  cases o with
  | none =>
    have := rat_Parse_says [49] (by decide)
    rw [ratR_one] at this
    exact this
  | some w =>
    obtain ⟨h1, h2⟩ := h w rfl
    have := rat_Parse_says w h2
    unfold isN at h1
    have e : ratR w = ((numOf w).1, (numOf w).2.1, (numOf w).2.2, 0) := by unfold numOf; rw [← h1]
    rw [e] at this
    exact this
def numsOK (ts : List Tm) : Prop := ∀ t, t ∈ ts → ∀ w, t.2.1 = some w → isN w ∧ w.length ≤ 1000000
theorem cmp_self {x : Fr} {k : Nat} (h : okX x k) (hk : k ≤ 20000) : rat_Compare x.1 x.2.1 x.2.2 x.1 x.2.1 x.2.2 0 := by
  obtain ⟨c, h1, h2, _⟩ := cmpR h h hk hk
  have : c = 0 := h2.2 rfl
  rwa [this] at h1
theorem terms_says {vars : Ws} {ts : List Tm} (hv : vars.length ≤ 1000) (hn : vars.Nodup) (hl : ts.length ≤ 100000) (hm : ∀ t, t ∈ ts → t.2.2 ∈ vars) (hw : numsOK ts) : offcutlaw08_terms vars (denseF vars (ts.map tmM)) (ts.map tmR) true := by
  unfold offcutlaw08_terms
  rw [denseF_len]
  refine IfB.nei (fun h => absurd rfl h) (fun _ => ?_)
  refine LoopP.intro (fun z : Int => ∃ k : Nat, z = k ∧ k ≤ vars.length) (fun z => vars.length - z.toNat) ⟨0, rfl, by omega⟩ ?_
  rintro X z ⟨k, rfl, hk⟩ hX
  unfold offcutlaw08_terms_L1
  dsimp only
  refine IfB.dec (fun h => ?_) (fun _ => rfl)
  have hkl : k < vars.length := by omega
  refine ⟨_, Idx.nat hkl, zeroF.1, zeroF.2.1, zeroF.2.2, zeroR.1, ?_⟩
  refine LoopP.intro (fun z : Int × Bool × List Int × List Int => ∃ j : Nat, z.1 = j ∧ j ≤ ts.length ∧ z.2 = lastV vars[k] (ts.take j) zeroF) (fun z => ts.length - z.1.toNat) ⟨0, rfl, by omega, rfl⟩ ?_
  rintro Y ⟨z1, z2, z3, z4⟩ ⟨j, e1, hj, e2⟩ hY
  simp only at e1 e2
  subst e1
  unfold offcutlaw08_terms_L2
  dsimp only
  rw [List.length_map]
  refine IfB.dec (fun h2 => ?_) (fun h2 => ?_)
  · have hjl : j < ts.length := by omega
    refine ⟨_, _, _, ⟨by omega, by rw [Int.toNat_natCast, List.getElem?_map, List.getElem?_eq_getElem hjl]; rfl⟩, IfB.be (fun he => ?_) (fun he => ?_)⟩
    · have hp := parse_num ts[j].2.1 (hw _ (List.getElem_mem hjl))
      refine ⟨_, _, _, 0, hp, _, _, _, sg1 ts[j].1, _, _, _, tmV_mul ts[j].1 ts[j].2.1 ts[j].2.2, ?_⟩
      rw [wrap64' (by omega) (by omega)]
      refine hY _ ⟨j + 1, by dsimp only; omega, by omega, ?_⟩ (by dsimp only; omega)
      dsimp only
      rw [take_succ hjl]
      unfold lastV
      rw [List.foldl_append]
      exact (if_pos he).symm
    · rw [wrap64' (by omega) (by omega)]
      refine hY _ ⟨j + 1, by dsimp only; omega, by omega, ?_⟩ (by dsimp only; omega)
      dsimp only
      rw [take_succ hjl, e2]
      unfold lastV
      rw [List.foldl_append]
      exact (if_neg he).symm
  · have : j = ts.length := by omega
    subst this
    rw [List.take_length] at e2
    have hd := denseF_at hkl hn hm
    have hok := lastV_ok vars[k] ts zeroF (zeroR.2.2.mono (by omega))
    generalize lastV vars[k] ts zeroF = L at e2 hd hok
    subst e2
    refine ⟨_, _, _, ⟨by omega, hd⟩, 0, cmp_self hok (by omega), IfB.nei (fun h => absurd rfl h) (fun _ => ?_)⟩
    rw [wrap64' (by omega) (by omega)]
    exact hX _ ⟨k + 1, by omega, by omega⟩ (by omega)
theorem stepM_err {k : Nat} {st : St8} {ws : Ws} {e : Int} (h : stepM k st ws = .inl e) : e ≠ 0 := by
  unfold stepM at h
  split at h
  · cases h; decide
  · split at h
    · cases h; decide
    · split at h
      · cases h; decide
      · cases h
theorem foldM_err : ∀ (l : Ls) (k : Nat) (st : St8) {a e : Int}, foldM k st l = .inl (a, e) → e ≠ 0
  | [], k, st, a, e, h => by cases h
  | p :: r, k, st, a, e, h => by
    cases he : stepM k st p.2 with
    | inl e' => rw [foldM_inl he] at h; cases h; exact stepM_err he
    | inr st' => rw [foldM_inr he] at h; exact foldM_err r _ _ h
theorem foldM_inv : ∀ (l : Ls) (k : Nat) (st st' : St8), InvS k st → foldM k st l = .inr st' → InvS (k + l.length) st'
  | [], k, st, st', hi, h => by cases h; exact hi
  | p :: r, k, st, st', hi, h => by
    cases he : stepM k st p.2 with
    | inl e' => rw [foldM_inl he] at h; cases h
    | inr st1 =>
      rw [foldM_inr he] at h
      have := foldM_inv r (k + 1) st1 st' (hi.step he) h
      rwa [List.length_cons, Nat.add_comm r.length 1, ← Nat.add_assoc]
theorem foldM_nums {l : Ls} (hl : LsOK l) : ∀ (r : Ls) (k : Nat) (st st' : St8), (∀ x, x ∈ r → x ∈ l) → (∀ x, x ∈ st.2 → numsOK x.2.1 ∧ x.2.2.2.length ≤ 1000000) → foldM k st r = .inr st' → ∀ x, x ∈ st'.2 → numsOK x.2.1 ∧ x.2.2.2.length ≤ 1000000
  | [], k, st, st', hr, hs, h => by cases h; exact hs
  | p :: r, k, st, st', hr, hs, h => by
    cases he : stepM k st p.2 with
    | inl e' => rw [foldM_inl he] at h; cases h
    | inr st1 =>
      rw [foldM_inr he] at h
      refine foldM_nums hl r (k + 1) st1 st' (fun x hx => hr x (by simp [hx])) ?_ h
      unfold stepM at he
      split at he
      · cases he
      · rename_i x hx
        split at he
        · cases he
        · split at he
          · cases he
          · cases he
            intro y hy
            rcases List.mem_append.1 hy with hy | hy
            · exact hs y hy
            · simp at hy; subst hy
              have hw := (hl.2 p (hr _ (by simp))).1.2
              unfold lineS at hx
              split at hx
              · refine ⟨fun t ht w hw' => ?_, ?_⟩
                · obtain ⟨a, b⟩ := ((firstS_ok hx).names t ht).2 w hw'
                  exact ⟨a, hw w b⟩
                · rw [(firstS_shape hx).2.2]; simp
              · refine ⟨fun t ht w hw' => ?_, hw _ (rowS_ok hx).2.mem⟩
                obtain ⟨a, b⟩ := ((rowS_ok hx).1.names t ht).2 w hw'
                exact ⟨a, hw w b⟩
theorem mayM_parsed {k : Nat} {st : St8} (h : InvS k st) (hk : 1 ≤ k) : MayM st.1 (denseF st.1 (costT st)) (rowsD st) := by
  have hl := h.len
  have h61 := h.r61
  refine ⟨h.v60, denseF_len _ _, by simp [rowsD]; omega, ⟨h.nd, h.nm⟩, ⟨?_, ?_⟩, ?_⟩
  · have e : (rowsD st).map (·.1) = (st.2.drop 1).map (·.1) := by unfold rowsD; rw [List.map_map]; rfl
    rw [e]; exact h.rows
  · intro v hv
    simp only [rowsD, rowRec, List.map_map, List.mem_map, Function.comp] at hv
    obtain ⟨x, hx, rfl⟩ := hv
    exact (h.rok x hx).1
  · intro r hr
    obtain ⟨x, hx, rfl⟩ := List.mem_map.1 hr
    exact ⟨denseF_len _ _, (h.rok x hx).2.1.1, (h.rok x hx).2.1.2⟩
theorem law_mparses (s : By) : offcutlaw08_ModelParses s true := by
  unfold offcutlaw08_ModelParses
  refine IfB.dec (fun _ => awk8 _ _ rfl) (fun hs => ?_)
  have hs : s.length ≤ 65536 := by omega
  by_cases hr : RightP s
  · refine ⟨_, _, _, _, _, model_Parse_says hs hr, true, offcutref07_Right_says (by omega) (by simp [hr]), IfB_true.2 ⟨_, _, _, _, ref_Model_says hs hr, ?_⟩⟩
    cases hm : saysM s with
    | inl p =>
      obtain ⟨a, e⟩ := p
      have he : e ≠ 0 := by
        unfold saysM at hm
        split at hm
        · cases hm; decide
        · exact foldM_err _ _ _ hm
      exact IfB.nei (fun _ => ⟨true, same_nil, IfB_true.2 (IfB.eqi (fun _ => IfB.eqi (fun _ => awk8 _ _ rfl) (fun h => absurd rfl h)) (fun h => absurd rfl h))⟩) (fun h => absurd h he)
    | inr st =>
      have hne : allL s ≠ [] := fun e => by unfold saysM at hm; rw [if_pos e] at hm; cases hm
      have hf : foldM 0 ([], []) (allL s) = .inr st := by unfold saysM at hm; rwa [if_neg hne] at hm
      have hi := foldM_inv _ 0 ([], []) st InvS.zero hf
      rw [Nat.zero_add] at hi
      have hpos : 1 ≤ (allL s).length := Nat.pos_of_ne_zero fun e => hne (List.length_eq_zero_iff.1 e)
      have hL := allLs_ok hs
      have hts := terms_len hL (allL s) 0 ([], []) st (fun x hx => hx) (by simp) hf
      have hnum := foldM_nums hL (allL s) 0 ([], []) st (fun x hx => hx) (by simp) hf
      have hlen := hi.len
      have h61 := hi.r61
      have hv := hi.v60
      refine IfB.nei (fun h => absurd rfl h) (fun _ => IfB.nei (fun h => absurd rfl h) (fun _ => IfB.nei (fun h => absurd rfl h) (fun _ => IfB.nei (fun h => absurd rfl h) (fun _ => IfB.nei (fun h => absurd ?_ h) (fun _ => ?_)))))
      · show ((rowsD st).length : Int) = IntKind.i64.wrap (((st.2.map ln8R).length : Int) - 1)
        rw [List.length_map, wrap64' (by omega) (by omega)]
        simp [rowsD]; omega
      obtain ⟨x0, xs, hst⟩ : ∃ x0 xs, st.2 = x0 :: xs := by
        cases h : st.2 with
        | nil => rw [h] at hlen; simp at hlen; omega
        | cons x0 xs => exact ⟨x0, xs, rfl⟩
      have hm0 : x0 ∈ st.2 := by rw [hst]; simp
      have hc : costT st = x0.2.1.map tmM := by unfold costT sumsM; rw [hst]; rfl
      refine ⟨_, _, _, _, by show Idx (st.2.map ln8R) (0 : Int) (ln8R x0); rw [hst]; exact idx0 _ _, true, ?_, IfB_true.2 ?_⟩
      · show offcutlaw08_terms st.1 (denseF st.1 (costT st)) (x0.2.1.map tmR) true
        rw [hc]
        exact terms_says (by omega) hi.nd (hts _ hm0) (hi.sub _ hm0) (hnum _ hm0).1
      · refine LoopP.intro (fun z : Int => ∃ k : Nat, z = k ∧ k ≤ st.1.length) (fun z => st.1.length - z.toNat) ⟨0, rfl, by omega⟩ ?_
        rintro X z ⟨k, rfl, hk⟩ hX
        unfold offcutlaw08_ModelParses_L1
        dsimp only [resMd, resRd]
        refine IfB.dec (fun h => ?_) (fun _ => ?_)
        · have hkl : k < st.1.length := by omega
          refine ⟨_, Idx.nat hkl, _, Idx.nat hkl, IfB.nbe (fun h => absurd rfl h) (fun _ => ?_)⟩
          rw [wrap64' (by omega) (by omega)]
          exact hX _ ⟨k + 1, by omega, by omega⟩ (by omega)
        · have hrl : (rowsD st).length = (allL s).length - 1 := by simp [rowsD, hlen]
          refine LoopP.intro (fun z : Int => ∃ k : Nat, z = k ∧ k ≤ (rowsD st).length) (fun z => (rowsD st).length - z.toNat) ⟨0, rfl, by omega⟩ ?_
          rintro Y z ⟨k, rfl, hk⟩ hY
          unfold offcutlaw08_ModelParses_L2
          dsimp only
          refine IfB.dec (fun h => ?_) (fun _ => ?_)
          · have hkl : k < (rowsD st).length := by omega
            have hw1 : IntKind.i64.wrap ((k : Int) + 1) = ((k + 1 : Nat) : Int) := by rw [wrap64' (by omega) (by omega)]; rfl
            rw [hw1]
            have hjl : k + 1 < st.2.length := by omega
            have hdr : (st.2.drop 1)[k]? = some st.2[k + 1] := by rw [List.getElem?_drop, Nat.add_comm, List.getElem?_eq_getElem hjl]
            have hrow : (rowsD st)[k]? = some (rowRec st.2[k + 1] (denseF st.1 (st.2[k + 1].2.1.map tmM))) := by unfold rowsD; rw [List.getElem?_map, hdr]; rfl
            have hln : (st.2.map ln8R)[k + 1]? = some (ln8R st.2[k + 1]) := by rw [List.getElem?_map, List.getElem?_eq_getElem hjl]; rfl
            have hmem : st.2[k + 1] ∈ st.2 := List.getElem_mem hjl
            have hmemd : st.2[k + 1] ∈ st.2.drop 1 := List.mem_of_getElem? hdr
            have hN := (hi.rok _ hmemd).2.2
            have hp := parse_num (some st.2[k + 1].2.2.2) (fun w hw => by cases hw; exact ⟨hN, (hnum _ hmem).2⟩)
            refine ⟨_, _, _, _, _, _, ⟨by omega, by rw [Int.toNat_natCast]; exact hrow⟩, _, _, _, _, ⟨by omega, by rw [Int.toNat_natCast]; exact hln⟩, _, _, _, _, hp, IfB.nbe (fun h => absurd rfl h) (fun _ => IfB.nei (fun h => absurd rfl h) (fun _ => ?_))⟩
            refine ⟨0, cmp_self (numOf_okX st.2[k + 1].2.2.2) (by omega), IfB.nei (fun h => absurd rfl h) (fun _ => ?_)⟩
            refine ⟨true, terms_says (by omega) hi.nd (hts _ hmem) (hi.sub _ hmem) (hnum _ hmem).1, IfB_true.2 ?_⟩
            exact hY _ ⟨k + 1, by omega, by omega⟩ (by omega)
          · refine ⟨_, model_Right_says _ _ _, ?_⟩
            rw [decide_eq_true (mayM_parsed hi hpos)]
            exact IfB_true.2 (awk8 _ _ rfl)
  · refine ⟨_, _, _, _, _, model_Parse_wrong hs hr, false, offcutref07_Right_says (by omega) (by simp [hr]), IfB_false.2 ⟨true, same_nil, IfB_true.2 (IfB.eqi (fun _ => IfB.eqi (fun _ => awk8 _ _ rfl) (fun h => absurd rfl h)) (fun h => absurd rfl h))⟩⟩
end Go.Abs
end
