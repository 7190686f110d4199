/- A part. -/
import Derived.Test.YthkcibhfbcfhlaaGreatDoorDChK18
import Derived.Test.YthkcibhfbcfhlaaGreatDoorDChK28
import Derived.Test.YthkcibhfbcfhlaaGreatDoorDChK27
set_option linter.unusedVariables false
set_option linter.unusedSimpArgs false
set_option linter.unnecessarySimpa false
namespace Go.Abs
open Go
abbrev Tm := Bool × Option By × By
abbrev TM := By × Bool × List Int × List Int
noncomputable def nameB (w : By) : Bool := @decide (NameP w) (Classical.propDecidable _)
theorem nameB_iff (w : By) : nameB w = true ↔ NameP w := by unfold nameB; exact @decide_eq_true_iff _ (Classical.propDecidable _)
def signS (first : Bool) (l : Ws) : Option (Bool × Ws) :=
 match l with
 | [] => if first then some (false, []) else none
 | w :: r => if w = [45] then some (true, r) else if first then some (false, w :: r) else if w = [43] then some (false, r) else none
def numS (l : Ws) : Option By × Ws := match l with | [] => (none, []) | w :: r => if numU w then (some w, r) else (none, w :: r)
noncomputable def nameS (neg : Bool) (l : Ws) : Option (Tm × Ws) :=
 match (numS l).2 with | [] => none | w :: r => if nameB w then some ((neg, (numS l).1, w), r) else none
noncomputable def stepS (first : Bool) (l : Ws) : Option (Tm × Ws) := match signS first l with | none => none | some (neg, l1) => nameS neg l1
theorem numS_len (l : Ws) : (numS l).2.length ≤ l.length := by
 unfold numS; cases l with
 | nil => simp
 | cons w r => simp only; split <;> simp
theorem nameS_lt {neg : Bool} {l : Ws} {t : Tm} {r : Ws} (h : nameS neg l = some (t, r)) : r.length < l.length := by
 unfold nameS at h
 have := numS_len l
 split at h
 ·cases h
 ·rename_i w r' e
  rw [e] at this
  split at h
  ·cases h; simp at this; omega
  ·cases h
theorem signS_len {first : Bool} {l l1 : Ws} {neg : Bool} (h : signS first l = some (neg, l1)) : l1.length ≤ l.length := by
 unfold signS at h
 split at h
 ·split at h <;> cases h; simp
 ·split at h
  ·cases h; simp
  ·split at h
   ·cases h; simp
   ·split at h <;> cases h; simp
theorem stepS_lt {first : Bool} {l : Ws} {t : Tm} {r : Ws} (h : stepS first l = some (t, r)) : r.length < l.length := by
 unfold stepS at h
 split at h
 ·cases h
 ·rename_i neg l1 e
  have := signS_len e; have := nameS_lt h; omega
noncomputable def sumS (first : Bool) (l : Ws) : Option (List Tm) :=
 if first = false ∧ l = [] then some [] else
 match h : stepS first l with
 | none => none
 | some (t, r) => (sumS false r).map (t :: ·)
termination_by l.length
decreasing_by exact stepS_lt h
theorem sumS_nil : sumS false [] = some [] := by rw [sumS]; simp
theorem sumS_step {first : Bool} {l : Ws} (hl : first = true ∨ l ≠ []) : sumS first l = match stepS first l with | none => none | some (t, r) => (sumS false r).map (t :: ·) := by
 rw [sumS, if_neg (by rintro ⟨h1, h2⟩; rcases hl with h | h; · rw [h1] at h; cases h
                      ·exact h h2)]
 split <;> rename_i h <;> rw [h]
noncomputable def sumW (l : Ws) : Option (List Tm) := if l = [[48]] then some [] else sumS true l
def sgF (neg : Bool) : Fr := (neg, words 1, words 1)
theorem sg1 (neg : Bool) : rat_Int (if neg then -1 else 1) (sgF neg) := by
 have w1 : (words 1).length ≤ 7000000 := by rw [words_one (by omega) (by omega)]; simp
 have hm : whole_Make neg (words 1) (neg, words 1) := by
  have := whole_Make_says neg (words 1) (WS_words 1) (by omega)
  rw [val_words] at this
  simpa using this
 have hr : rat_Make neg (words 1) (words 1) (sgF neg) := by
  have := rat_Make_says neg (words 1) (words 1) (WS_words 1) (WS_words 1) w1 w1
  rw [val_words] at this
  have e : ratC neg 1 (den1 1) = sgF neg := by unfold ratC den1 sgF; simp
  rwa [e] at this
 have h1 := nat_Of_says 1 (by omega)
 unfold rat_Int whole_Of
 cases neg with
 | true => exact ⟨true, words 1, IfB_true.2 ⟨words 1, h1, true, words 1, hm, rfl⟩, words 1, h1, _,_,_,hr, rfl⟩
 | false => exact ⟨false, words 1, IfB_false.2 ⟨words 1, h1, false, words 1, hm, rfl⟩, words 1, h1, _,_,_,hr, rfl⟩
theorem sgF_ok (neg : Bool) : okX (sgF neg) 1 := ⟨WS_words 1, WS_words 1, by unfold sgF; rw [words_one (by omega) (by omega)]; simp, by unfold sgF; rw [words_one (by omega) (by omega)]; simp⟩
def numV : Option By → Fr | none => sgF false | some w => numOf w
theorem numOf_okX (w : By) : okX (numOf w) 400 := by
 have h := numOf_ok w
 refine ⟨h.1, h.2.1, ?_⟩
 unfold numOf ratR
 dsimp only
 have h1 := parseR_len (if (Lib.cut w [47]).2.2 then (Lib.cut w [47]).2.1 else [49])
 have h2 := wholeR_len (Lib.cut w [47]).1
 have h3 := parseR_WS (if (Lib.cut w [47]).2.2 then (Lib.cut w [47]).2.1 else [49])
 have h4 := wholeR_WS (Lib.cut w [47]).1
 generalize parseR (if (Lib.cut w [47]).2.2 then (Lib.cut w [47]).2.1 else [49]) = P at *
 generalize wholeR (Lib.cut w [47]).1 = A at *
 split
 ·exact ⟨by simp, by simp⟩
 ·split
  ·exact ⟨by simp, by simp⟩
  ·split
   ·exact ⟨by simp, by simp⟩
   ·exact ⟨Nat.le_trans (words_len_le (Nat.div_le_self _ _)) (Nat.le_trans (wl h4) (by omega)), Nat.le_trans (words_len_le (Nat.div_le_self _ _)) (Nat.le_trans (wl h3) (by omega))⟩
theorem numV_ok (o : Option By) : okX (numV o) 400 := by
 cases o with
 | none => exact (sgF_ok false).mono (by omega)
 | some w => exact numOf_okX w
def tmV (t : Tm) : Fr := mulF (sgF t.1) (numV t.2.1)
theorem tmV_mul (neg : Bool) (o : Option By) (n : By) : rat_Mul (sgF neg).1 (sgF neg).2.1 (sgF neg).2.2 (numV o).1 (numV o).2.1 (numV o).2.2 (tmV (neg, o, n)) := (mulR (sgF_ok neg) (numV_ok o) (by omega) (by omega)).1
theorem tmV_ok (t : Tm) : okX (tmV t) 403 := (mulR (sgF_ok t.1) (numV_ok t.2.1) (by omega) (by omega)).2.2
def tmM (t : Tm) : TM := (t.2.2, tmV t)
theorem first_at : ∀ {w : By} {c : UInt8}, c ∈ w → ∃ a b, w = a ++ c :: b ∧ ∀ x, x ∈ a → x ≠ c
 | [], c, h => by cases h
 | y :: l, c, h => by
  by_cases hy : y = c
  ·exact ⟨[], l, by rw [hy]; rfl, by simp⟩
  ·have hc : c ∈ l := by
    rcases List.mem_cons.1 h with e | e
    ·exact absurd e.symm hy
    ·exact e
   obtain ⟨a, b, e, ha⟩ := first_at hc
   refine ⟨y :: a, b, by rw [e]; rfl, fun x hx => ?_⟩
   rcases List.mem_cons.1 hx with rfl | hx
   ·exact hy
   ·exact ha x hx
theorem contains_one (w : By) (c : UInt8) : Lib.contains w [c] = decide (c ∈ w) := by
 unfold Lib.contains
 by_cases h : c ∈ w
 ·rw [decide_eq_true h]
  obtain ⟨a, b, rfl, ha⟩ := first_at h
  rw [indexAt ha]; simp
 ·rw [indexNo (fun b hb e => h (by rw [← e]; exact hb))]; simp [h]
theorem numU_no45 {w : By} (h : (45 : UInt8) ∈ w) : numU w = false := by
 have hd : ∀ s : By, (45 : UInt8) ∈ s → ¬ dgOK s := fun s hs hk => by have := hk.2.1 _ hs; unfold dg at this; revert this; decide
 unfold numU
 split
 ·rename_i hc
  have hw : w = (Lib.cut w [47]).1 ++ 47 :: (Lib.cut w [47]).2.1 := by
   by_cases hs : (47 : UInt8) ∈ w
   ·obtain ⟨a, b, rfl, ha⟩ := first_at hs; rw [cut_app ha]
   ·rw [cut_no (fun x hx e => hs (by rw [← e]; exact hx))] at hc; cases hc
  rw [hw] at h
  rcases List.mem_append.1 h with h | h
  ·rw [decide_eq_false (hd _ h)]; simp
  ·rcases List.mem_cons.1 h with h | h
   ·exact absurd h (by decide)
   ·rw [decide_eq_false (hd _ h)]; simp
 ·rw [decide_eq_false (hd _ h)]
theorem numU_isN' {w : By} (h : (45 : UInt8) ∉ w) : numU w = decide (isN w) := by
 have := numU_isN w
 cases w with
 | nil => exact this
 | cons b l =>
  rw [trimP_cons, if_neg (fun e => h (by rw [e]; simp))] at this
  exact this
end Go.Abs
namespace Go.Abs
open Go
theorem IfB.be {α : Type} [BEq α] [LawfulBEq α] {a b : α} {A B : Prop} (h1 : a = b → A) (h2 : a ≠ b → B) : IfB (a == b) A B := ⟨fun h => h1 (by simpa using h), fun h => h2 (by simpa using h)⟩
theorem IfB.nbe {α : Type} [BEq α] [LawfulBEq α] {a b : α} {A B : Prop} (h1 : a ≠ b → A) (h2 : a = b → B) : IfB (!(a == b)) A B := ⟨fun h => h1 (by simpa using h), fun h => h2 (by simpa using h)⟩
noncomputable def nameN (neg : Bool) (o : Option By) (l : Ws) : Option (Tm × Ws) := match l with | [] => none | w :: r => if nameB w then some ((neg, o, w), r) else none
theorem nameS_eq (neg : Bool) (l : Ws) : nameS neg l = nameN neg (numS l).1 (numS l).2 := rfl
abbrev SX := Ws × Bool × List TM
def KS (X : SX → Prop) (r : List TM × Bool) (out : List TM) : Option (Tm × Ws) → Prop
 | none => r = ([], false)
 | some (t, rest) => X (rest, false, out ++ [tmM t])
def NmC (sg v : Fr) (l : Ws) (out : List TM) (X : SX → Prop) (r : List TM × Bool) : Prop :=
 ∃ x25 : By, Idx l (0 : Int) x25 ∧ ∃ x27 : Bool, lines_Name x25 x27 ∧ IfB x27
  (∃ x29 : By, Idx l (0 : Int) x29 ∧ ∃ (x31 : Bool) (x32 : List Int) (x33 : List Int), rat_Mul sg.1 sg.2.1 sg.2.2 v.1 v.2.1 v.2.2 (x31, x32, x33) ∧
   Fits (out.length + [(x29, x31, x32, x33)].length) 72 ∧ SubOk l (1 : Int) (l.length : Int) ∧ X (sub l (1 : Int) (l.length : Int), false, out ++ [(x29, x31, x32, x33)]))
  (r = (([] : List TM), false))
def DC (sg one : Fr) (l : Ws) (out : List TM) (X : SX → Prop) (r : List TM × Bool) : Prop :=
 ∃ x89 : By, Idx l (0 : Int) x89 ∧ ∃ x91 : Bool, strings_Contains x89 ([45] : List UInt8) x91 ∧ IfB x91 (NmC sg one l out X r)
  (∃ x105 : By, Idx l (0 : Int) x105 ∧ ∃ (x107 : Bool) (x108 : List Int) (x109 : List Int) (x110 : Bool), lines_Number x105 (x107, x108, x109, x110) ∧
   IfB x110 (SubOk l (1 : Int) (l.length : Int) ∧ IfB (((sub l (1 : Int) (l.length : Int)).length : Int) == (0 : Int)) (r = (([] : List TM), false)) (NmC sg (x107, x108, x109) (sub l (1 : Int) (l.length : Int)) out X r))
    (NmC sg one l out X r))
def EC (sg one : Fr) (l : Ws) (out : List TM) (X : SX → Prop) (r : List TM × Bool) : Prop :=
 IfB (decide ((l.length : Int) > (0 : Int))) (DC sg one l out X r) (IfB ((l.length : Int) == (0 : Int)) (r = (([] : List TM), false)) (NmC sg one l out X r))
theorem nmP {neg : Bool} {o : Option By} {l : Ws} {out : List TM} {X : SX → Prop} {r : List TM × Bool} (hl : l ≠ []) (ho : out.length ≤ 1000000) (h : KS X r out (nameN neg o l)) : NmC (sgF neg) (numV o) l out X r := by
 cases l with
 | nil => exact absurd rfl hl
 | cons w t =>
  refine ⟨w, idx0 w t, nameB w, lines_Name_says (nameB_iff w), IfB.bool (fun hn => ?_) (fun hn => ?_)⟩
  ·simp only [nameN, hn, if_true, KS] at h
   refine ⟨w, idx0 w t, _,_,_,tmV_mul neg o w, by unfold Fits; simp; omega, subok_tail w t, ?_⟩
   rw [sub_tail]; exact h
  ·simp only [nameN, hn, KS] at h
   exact h
theorem dcP {neg : Bool} {l : Ws} {out : List TM} {X : SX → Prop} {r : List TM × Bool} (hl : l ≠ []) (hw : ∀ w, w ∈ l → w.length ≤ 1000000) (ho : out.length ≤ 1000000) (h : KS X r out (nameS neg l)) : DC (sgF neg) (sgF false) l out X r := by
 have hnone : numU (l.head hl) = false → NmC (sgF neg) (sgF false) l out X r := fun hn => by
  refine nmP (o := none) hl ho ?_
  rw [nameS_eq] at h
  cases l with
  | nil => exact absurd rfl hl
  | cons w t => simp only [List.head_cons] at hn; simpa [numS, hn] using h
 cases l with
 | nil => exact absurd rfl hl
 | cons w t =>
  refine ⟨w, idx0 w t, _,⟨by unfold Short; have := hw w (by simp); omega, rfl⟩, ?_⟩
  rw [contains_one]
  refine IfB.dec (fun hc => hnone (numU_no45 hc)) (fun hc => ?_)
  refine ⟨w, idx0 w t, ?_⟩
  have hs := lines_Number_says w (hw w (by simp))
  have hu := numU_isN' hc
  by_cases hn : isN w
  ·rw [if_pos hn] at hs
   rw [decide_eq_true hn] at hu
   refine ⟨_,_,_,true, hs, IfB_true.2 ⟨subok_tail w t, ?_⟩⟩
   rw [sub_tail]
   have h' : KS X r out (nameN neg (some w) t) := by rw [nameS_eq] at h; simpa [numS, hu] using h
   refine IfB.eqi (fun h0 => ?_) (fun h0 => ?_)
   ·have : t = [] := List.length_eq_zero_iff.1 (by omega)
    subst this; exact h'
   ·exact nmP (o := some w) (fun e => h0 (by rw [e]; rfl)) ho h'
  ·rw [if_neg hn] at hs
   rw [decide_eq_false hn] at hu
   exact ⟨_,_,_,false, hs, IfB_false.2 (hnone hu)⟩
theorem ecP {neg : Bool} {l : Ws} {out : List TM} {X : SX → Prop} {r : List TM × Bool} (hw : ∀ w, w ∈ l → w.length ≤ 1000000) (ho : out.length ≤ 1000000) (h : KS X r out (nameS neg l)) : EC (sgF neg) (sgF false) l out X r := by
 refine IfB.dec (fun hp => dcP (fun e => by rw [e] at hp; simp at hp) hw ho h) (fun hp => IfB.eqi (fun h0 => ?_) (fun h0 => absurd (by omega) h0))
 have : l = [] := List.length_eq_zero_iff.1 (by omega)
 subst this; exact h
theorem sum_step {l : Ws} {first : Bool} {out : List TM} {X : SX → Prop} {r : List TM × Bool} (hw : ∀ w, w ∈ l → w.length ≤ 1000000) (ho : out.length ≤ 1000000) (h : if first = true ∨ l ≠ [] then KS X r out (stepS first l) else r = (out, true)) : model_sum_L1 r X (l, first, out) := by
 unfold model_sum_L1
 have one : rat_Int 1 (sgF false) := sg1 false
 have mone : rat_Int (-1) (sgF true) := sg1 true
 cases first with
 | true =>
  simp only [true_or, if_true] at h
  refine IfB_true.2 ⟨_,_,_,one, IfB.dec (fun hp => ?_) (fun hp => ?_)⟩
  ·cases l with
   | nil => simp at hp
   | cons w t =>
    have ht : ∀ w, w ∈ t → w.length ≤ 1000000 := fun x hx => hw x (by simp [hx])
    refine ⟨w, idx0 w t, IfB.be (fun hc => ?_) (fun hc => ?_)⟩
    ·refine ⟨_,_,_,mone, subok_tail w t, _,_,_,one, ?_⟩
     rw [sub_tail]
     subst hc
     exact ecP (neg := true) ht ho h
    ·have h' : KS X r out (nameS false (w :: t)) := by simpa [stepS, signS, hc] using h
     have main := dcP (neg := false) (by simp) hw ho h'
     refine ⟨w, idx0 w t, IfB.bool (fun _ => ?_) (fun _ => ?_)⟩ <;> exact ⟨_,_,_,one, main⟩
  ·have : l = [] := List.length_eq_zero_iff.1 (by omega)
   subst this
   exact ⟨_,_,_,one, IfB.eqi (fun _ => h) (fun h0 => absurd rfl h0)⟩
 | false =>
  refine IfB_false.2 (IfB.dec (fun hp => ?_) (fun hp => ?_))
  ·cases l with
   | nil => simp at hp
   | cons w t =>
    simp only [ne_eq, reduceCtorEq, not_false_eq_true, or_true, if_true] at h
    have ht : ∀ w, w ∈ t → w.length ≤ 1000000 := fun x hx => hw x (by simp [hx])
    refine ⟨_,_,_,one, w, idx0 w t, IfB.be (fun hc => ?_) (fun hc => ?_)⟩
    ·refine ⟨_,_,_,mone, subok_tail w t, _,_,_,one, ?_⟩
     rw [sub_tail]
     subst hc
     exact ecP (neg := true) ht ho h
    ·refine ⟨w, idx0 w t, IfB.be (fun hc2 => ?_) (fun hc2 => ?_)⟩
     ·refine ⟨subok_tail w t, _,_,_,one, ?_⟩
      rw [sub_tail]
      subst hc2
      exact ecP (neg := false) ht ho h
     ·simpa [stepS, signS, hc, hc2, KS] using h
  ·have : l = [] := List.length_eq_zero_iff.1 (by omega)
   subst this
   simpa using h
theorem numS_suf (l : Ws) : (numS l).2 <:+ l := by
 unfold numS
 cases l with
 | nil => exact List.suffix_refl _
 | cons w l => simp only; split <;> first | exact List.suffix_cons _ _ | exact List.suffix_refl _
theorem nameS_suf {neg : Bool} {l : Ws} {t : Tm} {r : Ws} (h : nameS neg l = some (t, r)) : r <:+ l := by
 have hs := numS_suf l
 unfold nameS at h
 split at h
 ·cases h
 ·rename_i w r' e
  rw [e] at hs
  split at h
  ·cases h; exact (List.suffix_cons _ _).trans hs
  ·cases h
theorem signS_suf {first : Bool} {l l1 : Ws} {neg : Bool} (h : signS first l = some (neg, l1)) : l1 <:+ l := by
 unfold signS at h
 split at h
 ·split at h <;> cases h; exact List.suffix_refl _
 ·split at h
  ·cases h; exact List.suffix_cons _ _
  ·split at h
   ·cases h; exact List.suffix_refl _
   ·split at h <;> cases h; exact List.suffix_cons _ _
theorem stepS_suf {first : Bool} {l : Ws} {t : Tm} {r : Ws} (h : stepS first l = some (t, r)) : r <:+ l := by
 unfold stepS at h
 split at h
 ·cases h
 ·rename_i neg l1 e; exact (nameS_suf h).trans (signS_suf e)
def mRes (out : List TM) : Option (List Tm) → List TM × Bool | some ts => (out ++ ts.map tmM, true) | none => ([], false)
theorem sum_loop (l : Ws) (hl : l.length ≤ 100000) (hw : ∀ w, w ∈ l → w.length ≤ 1000000) : LoopP (model_sum_L1 (mRes [] (sumS true l))) (l, true, []) := by
 refine LoopP.intro (fun z : SX => mRes [] (sumS true l) = mRes z.2.2 (sumS z.2.1 z.1) ∧ (∀ w, w ∈ z.1 → w.length ≤ 1000000) ∧ z.2.2.length + z.1.length ≤ l.length) (fun z => z.1.length) ⟨rfl, hw, by simp⟩ ?_
 rintro X ⟨z1, z2, z3⟩ ⟨h1, h2, h3⟩ hX
 simp only at h1 h2 h3
 refine sum_step h2 (by omega) ?_
 split
 ·rename_i hc
  rw [sumS_step hc] at h1
  cases hs : stepS z2 z1 with
  | none => rw [hs] at h1; exact h1
  | some p =>
   obtain ⟨t, rest⟩ := p
   rw [hs] at h1
   have hlt := stepS_lt hs
   refine hX _ ⟨?_, fun w hw => h2 w ((stepS_suf hs).subset hw), ?_⟩ hlt
   ·rw [h1]
    show mRes z3 ((sumS false rest).map (t :: ·)) = mRes (z3 ++ [tmM t]) (sumS false rest)
    cases sumS false rest <;> simp [mRes]
   ·simp only [List.length_append, List.length_singleton]; omega
 ·rename_i hc
  have e1 : z2 = false := by cases z2 <;> simp_all
  have e2 : z1 = [] := Classical.byContradiction fun h => hc (.inr h)
  subst e1 e2
  rw [h1, sumS_nil]; simp [mRes]
theorem model_sum_says (l : Ws) (hl : l.length ≤ 100000) (hw : ∀ w, w ∈ l → w.length ≤ 1000000) : model_sum l (mRes [] (sumW l)) := by
 have e : @model_sum_L2 = @model_sum_L1 := rfl
 unfold model_sum sumW
 refine IfB.eqi (fun h1 => ?_) (fun h1 => ?_)
 ·cases l with
  | nil => simp at h1
  | cons w t =>
   have : t = [] := List.length_eq_zero_iff.1 (by rw [List.length_cons] at h1; omega)
   subst this
   refine ⟨w, idx0 w [], IfB.be (fun hc => ?_) (fun hc => ?_)⟩
   ·subst hc; simp [mRes]
   ·rw [if_neg (by simpa using hc)]
    exact sum_loop [w] hl hw
 ·rw [if_neg (fun e => h1 (by rw [e]; rfl)), e]
  exact sum_loop l hl hw
end Go.Abs
namespace Go.Abs
open Go
end Go.Abs
namespace Go.Abs
open Go
open Classical
def colonB (w : By) : Bool := w.getLast? == some 58
theorem suf_colon (w : By) : Lib.hasSuffix w [58] = colonB w := by
 unfold Lib.hasSuffix colonB
 rw [Bool.eq_iff_iff, List.isSuffixOf_iff_suffix, beq_iff_eq, List.getLast?_eq_some_iff]
 exact ⟨fun ⟨t, e⟩ => ⟨t, e.symm⟩, fun ⟨t, e⟩ => ⟨t, e.symm⟩⟩
theorem getD_at {α : Type} {l : List α} {k : Nat} {d : α} (h : k < l.length) : l.getD k d = l[k] := by simp [List.getD, h]
theorem trim_colon {w : By} (h : colonB w = true) : Lib.trimSuffix w [58] = w.dropLast := by
 unfold Lib.trimSuffix
 rw [suf_colon, h, if_pos rfl, List.dropLast_eq_take]; rfl
def relOf (w : By) : Option Int := if w = [60, 61] then some (-1) else if w = [61] then some 0 else if w = [62, 61] then some 1 else none
theorem rel_get (w : By) : mpGet relsL w = ((relOf w).getD 0, (relOf w).isSome) := by
 unfold mpGet relsL relOf
 by_cases h1 : w = [60, 61]
 ·subst h1; rfl
 by_cases h2 : w = [61]
 ·subst h2; rfl
 by_cases h3 : w = [62, 61]
 ·subst h3; rfl
 have e1 : (([60, 61] : By) == w) = false := by simpa using fun e : [60, 61] = w => h1 e.symm
 have e2 : (([61] : By) == w) = false := by simpa using fun e : [61] = w => h2 e.symm
 have e3 : (([62, 61] : By) == w) = false := by simpa using fun e : [62, 61] = w => h3 e.symm
 simp [List.find?, e1, e2, e3, h1, h2, h3]
abbrev Ln8 := By × List Tm × Int × By
def midW (ws : Ws) : Ws := sub ws (1 : Int) (IntKind.i64.wrap ((ws.length : Int) - 2))
def w0W (ws : Ws) : By := ws.headD []
def wrW (ws : Ws) : By := ws.getD (ws.length - 2) []
def wlW (ws : Ws) : By := ws.getD (ws.length - 1) []
def rowOK (ws : Ws) : Prop := 4 ≤ ws.length ∧ colonB (w0W ws) = true ∧ nameB (w0W ws).dropLast = true ∧ (relOf (wrW ws)).isSome = true ∧ isN (wlW ws)
noncomputable def rowS (ws : Ws) : Option Ln8 := if rowOK ws then (sumW (midW ws)).map fun ts => ((w0W ws).dropLast, ts, (relOf (wrW ws)).getD 0, wlW ws) else none
def nbOf (w : By) : Fr := if isN w then numOf w else (false, [], words 1)
theorem number_nb (w : By) (hl : w.length ≤ 1000000) : lines_Number w ((nbOf w).1, (nbOf w).2.1, (nbOf w).2.2, decide (isN w)) := by
 have := lines_Number_says w hl
 unfold nbOf
 by_cases h : isN w
 ·rw [if_pos h] at this ⊢; rw [decide_eq_true h]; exact this
 ·rw [if_neg h] at this ⊢; rw [decide_eq_false h]; exact this
noncomputable def rowM (ws : Ws) : By × List TM × Int × Bool × List Int × List Int × Bool :=
 if ws.length < 4 then ([], [], 0, false, [], [], false)
 else (Lib.trimSuffix (w0W ws) [58], (mRes [] (sumW (midW ws))).1, (relOf (wrW ws)).getD 0, (nbOf (wlW ws)).1, (nbOf (wlW ws)).2.1, (nbOf (wlW ws)).2.2, colonB (w0W ws) && nameB (Lib.trimSuffix (w0W ws) [58]) && (relOf (wrW ws)).isSome && decide (isN (wlW ws)) && (mRes [] (sumW (midW ws))).2)
def wrdOK (ws : Ws) : Prop := ws.length ≤ 100000 ∧ ∀ w, w ∈ ws → w.length ≤ 1000000
theorem mid_ok {ws : Ws} (h : wrdOK ws) : wrdOK (midW ws) := by
 unfold midW sub
 exact ⟨by simp; have := h.1; omega, fun w hw => h.2 w (List.mem_of_mem_drop (List.mem_of_mem_take hw))⟩
theorem ends_idx {ws : Ws} (h : wrdOK ws) (h4 : 4 ≤ ws.length) : Idx ws (0 : Int) (w0W ws) ∧ Idx ws (IntKind.i64.wrap ((ws.length : Int) - 2)) (wrW ws) ∧ Idx ws (IntKind.i64.wrap ((ws.length : Int) - 1)) (wlW ws) ∧ SubOk ws (1 : Int) (IntKind.i64.wrap ((ws.length : Int) - 2)) := by
 have := h.1
 have e2 : IntKind.i64.wrap ((ws.length : Int) - 2) = ((ws.length - 2 : Nat) : Int) := by rw [wrap64' (by omega) (by omega)]; omega
 have e1 : IntKind.i64.wrap ((ws.length : Int) - 1) = ((ws.length - 1 : Nat) : Int) := by rw [wrap64' (by omega) (by omega)]; omega
 rw [e1, e2]
 refine ⟨?_, ?_, ?_, by omega, by omega, by omega⟩
 ·cases ws with
  | nil => simp at h4
  | cons w t => exact idx0 w t
 ·unfold wrW; rw [getD_at (by omega)]; exact Idx.nat (by omega)
 ·unfold wlW; rw [getD_at (by omega)]; exact Idx.nat (by omega)
theorem mem_w0 {ws : Ws} (h4 : 4 ≤ ws.length) : w0W ws ∈ ws := by
 cases ws with
 | nil => simp at h4
 | cons w t => simp [w0W]
theorem mem_wl {ws : Ws} (h4 : 4 ≤ ws.length) : wlW ws ∈ ws := by unfold wlW; rw [getD_at (by omega)]; exact List.getElem_mem _
theorem model_row_says (ws : Ws) (h : wrdOK ws) : model_row ws (rowM ws) := by
 unfold model_row
 refine IfB.dec (fun h4 => ?_) (fun h4 => ?_)
 ·unfold rowM; rw [if_pos (by omega)]
 have h4 : 4 ≤ ws.length := by omega
 obtain ⟨i0, i2, i1, so⟩ := ends_idx h h4
 have hS : model_sum (sub ws (1 : Int) (IntKind.i64.wrap ((ws.length : Int) - 2))) (mRes [] (sumW (midW ws))) := model_sum_says _ (mid_ok h).1 (mid_ok h).2
 have hN := number_nb (wlW ws) (h.2 _ (mem_wl h4))
 have E : rowM ws = (Lib.trimSuffix (w0W ws) [58], (mRes [] (sumW (midW ws))).1, (relOf (wrW ws)).getD 0, (nbOf (wlW ws)).1, (nbOf (wlW ws)).2.1, (nbOf (wlW ws)).2.2, colonB (w0W ws) && nameB (Lib.trimSuffix (w0W ws) [58]) && (relOf (wrW ws)).isSome && decide (isN (wlW ws)) && (mRes [] (sumW (midW ws))).2) := if_neg (by omega)
 have hc : strings_CutSuffix (w0W ws) ([58] : List UInt8) (Lib.trimSuffix (w0W ws) [58], colonB (w0W ws)) := ⟨by have := h.2 _ (mem_w0 h4); omega, by rw [suf_colon]⟩
 have hg := rel_get (wrW ws)
 obtain ⟨S1, S2, hSe⟩ : ∃ a b, mRes [] (sumW (midW ws)) = (a, b) := ⟨_,_,rfl⟩
 rw [hSe] at hS E
 have hnm : lines_Name (Lib.trimSuffix (w0W ws) [58]) (nameB (Lib.trimSuffix (w0W ws) [58])) := lines_Name_says (nameB_iff _)
 refine ⟨_,i0, _,_,hc, IfB.bool (fun b1 => ?_) (fun b1 => ?_)⟩
 ·refine ⟨_,rfl, _,i2, _,_,hg, IfB.bool (fun b2 => ?_) (fun b2 => ?_)⟩
  ·refine ⟨_,i1, _,_,_,_,hN, IfB.bool (fun b3 => ?_) (fun b3 => ?_)⟩
   ·refine ⟨so, _,_,hS, IfB.bool (fun b4 => ?_) (fun b4 => ?_)⟩ <;> refine ⟨_,hnm, IfB.bool (fun b5 => ?_) (fun b5 => ?_)⟩ <;> rw [E, b1, b2, b3, b5] <;> dsimp only <;> rw [b4] <;> rfl
   ·refine ⟨so, _,_,hS, IfB.bool (fun b4 => ?_) (fun b4 => ?_)⟩ <;> refine ⟨_,hnm, IfB.bool (fun b5 => ?_) (fun b5 => ?_)⟩ <;> rw [E, b1, b2, b3, b5] <;> dsimp only <;> rw [b4] <;> rfl
  ·refine ⟨_,i1, _,_,_,_,hN, IfB.bool (fun b3 => ?_) (fun b3 => ?_)⟩
   ·refine ⟨so, _,_,hS, IfB.bool (fun b4 => ?_) (fun b4 => ?_)⟩ <;> refine ⟨_,hnm, IfB.bool (fun b5 => ?_) (fun b5 => ?_)⟩ <;> rw [E, b1, b2, b3, b5] <;> dsimp only <;> rw [b4] <;> rfl
   ·refine ⟨so, _,_,hS, IfB.bool (fun b4 => ?_) (fun b4 => ?_)⟩ <;> refine ⟨_,hnm, IfB.bool (fun b5 => ?_) (fun b5 => ?_)⟩ <;> rw [E, b1, b2, b3, b5] <;> dsimp only <;> rw [b4] <;> rfl
 ·refine ⟨_,rfl, _,i2, _,_,hg, IfB.bool (fun b2 => ?_) (fun b2 => ?_)⟩
  ·refine ⟨_,i1, _,_,_,_,hN, IfB.bool (fun b3 => ?_) (fun b3 => ?_)⟩
   ·refine ⟨so, _,_,hS, IfB.bool (fun b4 => ?_) (fun b4 => ?_)⟩ <;> rw [E, b1, b2, b3] <;> dsimp only <;> rw [b4] <;> simp
   ·refine ⟨so, _,_,hS, IfB.bool (fun b4 => ?_) (fun b4 => ?_)⟩ <;> rw [E, b1, b2, b3] <;> dsimp only <;> rw [b4] <;> simp
  ·refine ⟨_,i1, _,_,_,_,hN, IfB.bool (fun b3 => ?_) (fun b3 => ?_)⟩
   ·refine ⟨so, _,_,hS, IfB.bool (fun b4 => ?_) (fun b4 => ?_)⟩ <;> rw [E, b1, b2, b3] <;> dsimp only <;> rw [b4] <;> simp
   ·refine ⟨so, _,_,hS, IfB.bool (fun b4 => ?_) (fun b4 => ?_)⟩ <;> rw [E, b1, b2, b3] <;> dsimp only <;> rw [b4] <;> simp
end Go.Abs
namespace Go.Abs
open Go
open Classical
def minB : By := [109, 105, 110]
noncomputable def firstS (ws : Ws) : Option Ln8 := if w0W ws = minB then (sumW ws.tail).map fun ts => ([], ts, 0, []) else none
noncomputable def firstM (ws : Ws) : By × List TM × Int × Bool × List Int × List Int × Bool :=
 if w0W ws = minB then ([], (mRes [] (sumW ws.tail)).1, 0, false, [], [], (mRes [] (sumW ws.tail)).2) else ([], [], 0, false, [], [], false)
theorem model_first_says (ws : Ws) (h : wrdOK ws) (hne : ws ≠ []) : model_first ws (firstM ws) := by
 cases ws with
 | nil => exact absurd rfl hne
 | cons w t =>
  unfold model_first
  refine ⟨w, idx0 w t, IfB.nbe (fun hw => ?_) (fun hw => ?_)⟩
  ·unfold firstM; rw [if_neg (show ¬ w0W (w :: t) = minB from hw)]
  ·have E : firstM (w :: t) = ([], (mRes [] (sumW t)).1, 0, false, [], [], (mRes [] (sumW t)).2) := if_pos (show w0W (w :: t) = minB from hw)
   have hS := model_sum_says t (by have := h.1; simp at this; omega) (fun x hx => h.2 x (by simp [hx]))
   obtain ⟨S1, S2, hSe⟩ : ∃ a b, mRes [] (sumW t) = (a, b) := ⟨_,_,rfl⟩
   rw [hSe] at hS E
   refine ⟨subok_tail w t, S1, S2, by rw [sub_tail]; exact hS, IfB.bool (fun b => ?_) (fun b => ?_)⟩ <;> rw [E, b]
theorem rowM_flag (ws : Ws) : (rowM ws).2.2.2.2.2.2 = (rowS ws).isSome := by
 unfold rowM rowS rowOK
 by_cases h4 : ws.length < 4
 ·rw [if_pos h4, if_neg (fun h => by omega)]; rfl
 rw [if_neg h4]
 by_cases hc : colonB (w0W ws) = true
 ·rw [trim_colon hc]
  by_cases hr : nameB (w0W ws).dropLast = true ∧ (relOf (wrW ws)).isSome = true ∧ isN (wlW ws)
  ·rw [if_pos ⟨by omega, hc, hr⟩, hc, hr.1, hr.2.1, decide_eq_true hr.2.2]
   cases sumW (midW ws) <;> rfl
  ·rw [if_neg (fun h => hr h.2.2)]
   by_cases h1 : nameB (w0W ws).dropLast = true
   ·by_cases h2 : (relOf (wrW ws)).isSome = true
    ·have h3 : ¬ isN (wlW ws) := fun h3 => hr ⟨h1, h2, h3⟩
     simp [h3]
    ·simp [h2]
   ·simp [h1]
 ·rw [if_neg (fun h => hc h.2.1)]
  simp [hc]
theorem rowM_some {ws : Ws} {x : Ln8} (h : rowS ws = some x) : rowM ws = (x.1, x.2.1.map tmM, x.2.2.1, (numOf x.2.2.2).1, (numOf x.2.2.2).2.1, (numOf x.2.2.2).2.2, true) ∧ isN x.2.2.2 := by
 have hf := rowM_flag ws
 unfold rowS at h
 split at h
 ·rename_i hk
  cases hs : sumW (midW ws) with
  | none => rw [hs] at h; cases h
  | some ts =>
   rw [hs] at h
   cases h
   obtain ⟨h4, hc, hn, hr, hN⟩ := hk
   unfold rowM
   rw [if_neg (by omega), trim_colon hc, hs, hc, hn, hr, decide_eq_true hN]
   refine ⟨?_, hN⟩
   unfold nbOf
   rw [if_pos hN]
   simp [mRes]
 ·cases h
theorem firstM_flag (ws : Ws) : (firstM ws).2.2.2.2.2.2 = (firstS ws).isSome := by
 unfold firstM firstS; split
 ·cases sumW ws.tail <;> rfl
 ·rfl
theorem firstM_some {ws : Ws} {x : Ln8} (h : firstS ws = some x) : firstM ws = ([], x.2.1.map tmM, 0, false, [], [], true) ∧ x.1 = [] := by
 unfold firstS at h; split at h
 ·rename_i hk
  cases hs : sumW ws.tail with
  | none => rw [hs] at h; cases h
  | some ts => rw [hs] at h; cases h; unfold firstM; rw [if_pos hk, hs]; simp [mRes]
 ·cases h
end Go.Abs
namespace Go.Abs
open Go
open Classical
theorem take_succ {α : Type} {l : List α} {k : Nat} (h : k < l.length) : l.take (k + 1) = l.take k ++ [l[k]] := by rw [List.take_add_one, List.getElem?_eq_getElem h]; rfl
theorem nodup_succ {l : List By} {k : Nat} (h : k < l.length) : (l.take (k + 1)).Nodup ↔ (l.take k).Nodup ∧ l[k] ∉ l.take k := by
 rw [take_succ h, List.nodup_append]
 constructor
 ·rintro ⟨a, _,c⟩
  exact ⟨a, fun hm => c _ hm _ (by simp) rfl⟩
 ·rintro ⟨a, b⟩
  exact ⟨a, by simp, fun x hx y hy e => by simp at hy; subst hy; subst e; exact b hx⟩
def idxN (l : Ws) (x : By) : Int := if x ∈ l then ((l.idxOf x : Nat) : Int) else -1
theorem idxFrom_says (x : By) : ∀ (l : Ws) (i : Nat), Lib.idxFromS (l.map mkB) (mkB x) i = if x ∈ l then ((i + l.idxOf x : Nat) : Int) else -1
 | [], i => by simp [Lib.idxFromS]
 | y :: l, i => by
  rw [List.map_cons, Lib.idxFromS]
  by_cases h : y = x
  ·subst h; simp
  ·rw [if_neg (fun e => h (mkB_inj e)), idxFrom_says x l (i + 1)]
   have h' : ¬ x = y := fun e => h e.symm
   by_cases hm : x ∈ l
   ·rw [if_pos hm, if_pos (by simp [hm])]
    have hb : (y == x) = false := by simpa using h
    have e : (y :: l).idxOf x = l.idxOf x + 1 := by rw [List.idxOf_cons, hb]; rfl
    rw [e]; omega
   ·rw [if_neg hm, if_neg (by simp [h', hm])]
theorem lines_Index_says (l : Ws) (x : By) (hl : l.length ≤ 100000000) : lines_Index l x (idxN l x) := by
 refine ⟨_,⟨by omega, ?_⟩, rfl⟩
 have := idxFrom_says x l 0
 rw [Nat.zero_add] at this
 exact this.symm
theorem idxN_neg {l : Ws} {x : By} : idxN l x < 0 ↔ x ∉ l := by unfold idxN; split <;> rename_i h <;> simp [h] <;> omega
theorem idxN_at {l : Ws} {x : By} (h : x ∈ l) : idxN l x = ((l.idxOf x : Nat) : Int) ∧ l.idxOf x < l.length := ⟨if_pos h, List.idxOf_lt_length_of_mem h⟩
theorem model_twice_says (l : List TM) (hl : l.length ≤ 100000) : model_twice l (decide (¬ (l.map (·.1)).Nodup)) := by
 unfold model_twice
 have hd : ∀ k, (h : k < l.length) → (l.map (·.1))[k]'(by simpa using h) = l[k].1 := fun k h => by simp
 refine LoopP.intro (fun z : Int => ∃ k : Nat, z = k ∧ k ≤ l.length ∧ ((l.map (·.1)).take k).Nodup) (fun z => l.length - z.toNat) ⟨0, rfl, by omega, by simp⟩ ?_
 rintro X z ⟨k, rfl, hk, hn⟩ hX
 unfold model_twice_L1
 dsimp only
 refine IfB.dec (fun h => ?_) (fun h => ?_)
 ·have hkl : k < l.length := by omega
  have hkm : k < (l.map (·.1)).length := by simpa using hkl
  refine ⟨l[k].1, l[k].2.1, l[k].2.2.1, l[k].2.2.2, Idx.nat hkl, ⟨by omega, by omega, by omega⟩, ?_⟩
  have es : sub l 0 (k : Int) = l.take k := by unfold sub; simp
  have hlen : (l.take k).length = k := by rw [List.length_take]; omega
  rw [show model_twice_L2 l (k : Int) X l[k].1 (decide (¬ (l.map (·.1)).Nodup)) = model_twice_L2 l (k : Int) X l[k].1 (decide (¬ (l.map (·.1)).Nodup)) from rfl]
  refine LoopP.intro (fun y : Int => ∃ j : Nat, y = j ∧ j ≤ k ∧ ∀ i, (hi : i < j) → ∀ hil : i < l.length, l[i].1 ≠ l[k].1) (fun y => k - y.toNat) ⟨0, rfl, by omega, fun i hi => absurd hi (by omega)⟩ ?_
  rintro Y y ⟨j, rfl, hj, hne⟩ hY
  unfold model_twice_L2
  dsimp only
  rw [es, hlen]
  refine IfB.dec (fun h1 => ?_) (fun h1 => ?_)
  ·have hjk : j < k := by omega
   have hjl : j < l.length := by omega
   refine ⟨l[j].1, l[j].2.1, l[j].2.2.1, l[j].2.2.2, ⟨by omega, by simp [hjk, hjl]⟩, IfB.be (fun he => ?_) (fun he => ?_)⟩
   ·refine IfB.dec (fun _ => ?_) (fun h0 => absurd (by omega) h0)
    refine decide_eq_true fun hnd => ?_
    have := (nodup_succ hkm).1 (hnd.sublist (List.take_sublist _ _))
    apply this.2
    rw [hd k hkl, ← he, ← hd j hjl]
    exact List.mem_take_iff_getElem.2 ⟨j, by simp; omega, rfl⟩
   ·rw [wrap64' (by omega) (by omega)]
    refine hY _ ⟨j + 1, by omega, by omega, fun i hi hil => ?_⟩ (by omega)
    by_cases hij : i = j
    ·subst hij; exact he
    ·exact hne i (by omega) hil
  ·rw [wrap64' (by omega) (by omega)]
   refine hX _ ⟨k + 1, by omega, by omega, (nodup_succ hkm).2 ⟨hn, fun hm => ?_⟩⟩ (by omega)
   obtain ⟨i, hi, e⟩ := List.mem_take_iff_getElem.1 hm
   rw [hd k hkl] at e
   have hik : i < k := by simp at hi; omega
   have hil : i < l.length := by omega
   rw [hd i hil] at e
   exact hne i (by omega) hil e
 ·have e : k = l.length := by omega
  subst e
  rw [List.take_of_length_le (by simp)] at hn
  exact decide_eq_false fun hh => hh hn
def addN (vs : Ws) (ns : List By) : Ws := ns.foldl (fun vs n => if n ∈ vs then vs else vs ++ [n]) vs
theorem addN_len : ∀ (ns : List By) (vs : Ws), (addN vs ns).length ≤ vs.length + ns.length
 | [], vs => by simp [addN]
 | n :: ns, vs => by
  have e : addN vs (n :: ns) = addN (if n ∈ vs then vs else vs ++ [n]) ns := rfl
  rw [e]
  refine Nat.le_trans (addN_len ns _) ?_
  split <;> simp <;> omega
theorem addN_snoc (vs : Ws) (ns : List By) (n : By) : addN vs (ns ++ [n]) = if n ∈ addN vs ns then addN vs ns else addN vs ns ++ [n] := by unfold addN; rw [List.foldl_append]; rfl
theorem addLoop {ts : List TM} {vars : Ws} {E : Ws → Prop} (hv : vars.length ≤ 1000000) (ht : ts.length ≤ 100000) (hE : E (addN vars (ts.map (·.1)))) :
  LoopP (fun (X : Int × Ws → Prop) (s : Int × Ws) => match s with
   | (s200, s251) => IfB (decide (s200 < (ts.length : Int)))
    (∃ (x22 : List UInt8) (x23 : Bool) (x24 : List Int) (x25 : List Int), Idx ts s200 (x22, x23, x24, x25) ∧ ∃ (x27 : Int), lines_Index s251 x22 x27 ∧
     IfB (decide (x27 < (0 : Int))) (Fits (s251.length + [x22].length) 16 ∧ X ((IntKind.i64.wrap (s200 + 1)), (s251 ++ [x22]))) (X ((IntKind.i64.wrap (s200 + 1)), s251)))
    (E s251)) ((0 : Int), vars) := by
 refine LoopP.intro (fun z : Int × Ws => ∃ k : Nat, z.1 = k ∧ k ≤ ts.length ∧ z.2 = addN vars ((ts.map (·.1)).take k)) (fun z => ts.length - z.1.toNat) ⟨0, rfl, by omega, by simp [addN]⟩ ?_
 rintro X ⟨z1, z2⟩ ⟨k, h1, hk, h2⟩ hX
 simp only at h1 h2
 subst h1
 have hl2 : z2.length ≤ 1100000 := by have := addN_len ((ts.map (·.1)).take k) vars; rw [← h2, List.length_take, List.length_map] at this; omega
 refine IfB.dec (fun h => ?_) (fun h => ?_)
 ·have hkl : k < ts.length := by omega
  have hs : (ts.map (·.1)).take (k + 1) = (ts.map (·.1)).take k ++ [ts[k].1] := by rw [take_succ (by simpa using hkl)]; simp
  refine ⟨ts[k].1, ts[k].2.1, ts[k].2.2.1, ts[k].2.2.2, Idx.nat hkl, _,lines_Index_says z2 _ (by omega), IfB.dec (fun hn => ?_) (fun hn => ?_)⟩
  ·rw [wrap64' (by omega) (by omega)]
   refine ⟨by unfold Fits; simp; omega, hX _ ⟨k + 1, by dsimp only; omega, by omega, ?_⟩ (by dsimp only; omega)⟩
   dsimp only
   rw [hs, addN_snoc, ← h2, if_neg (idxN_neg.1 hn)]
  ·rw [wrap64' (by omega) (by omega)]
   refine hX _ ⟨k + 1, by dsimp only; omega, by omega, ?_⟩ (by dsimp only; omega)
   dsimp only
   rw [hs, addN_snoc, ← h2, if_pos (Classical.byContradiction fun e => hn (idxN_neg.2 e))]
 ·have e : k = ts.length := by omega
  subst e
  rw [List.take_of_length_le (by simp)] at h2
  rw [h2]; exact hE
end Go.Abs
namespace Go.Abs
open Go
open Classical
noncomputable def lineS (k : Nat) (ws : Ws) : Option Ln8 := if k = 0 then firstS ws else rowS ws
def dupT (ts : List Tm) : Prop := ¬ (ts.map (·.2.2)).Nodup
abbrev St8 := Ws × List Ln8
def nmsT (ts : List Tm) : List By := ts.map (·.2.2)
noncomputable def stepM (k : Nat) (st : St8) (ws : Ws) : Int ⊕ St8 :=
 match lineS k ws with
 | none => .inl 2
 | some x => if dupT x.2.1 ∨ (k ≠ 0 ∧ x.1 ∈ (st.2.drop 1).map (·.1)) then .inl 3 else
  if 60 < (addN st.1 (nmsT x.2.1)).length ∨ (k ≠ 0 ∧ 61 ≤ st.2.length) then .inl 4 else .inr (addN st.1 (nmsT x.2.1), st.2 ++ [x])
noncomputable def foldM (k : Nat) (st : St8) : Ls → (Int × Int) ⊕ St8
 | [] => .inr st
 | (a, ws) :: r => match stepM k st ws with | .inl e => .inl (a, e) | .inr st' => foldM (k + 1) st' r
def rowRec (x : Ln8) (c : List Fr) : By × List Fr × Int × Bool × List Int × List Int := (x.1, c, x.2.2.1, (numOf x.2.2.2).1, (numOf x.2.2.2).2.1, (numOf x.2.2.2).2.2)
def rowsM (l : List Ln8) : List (By × List Fr × Int × Bool × List Int × List Int) := (l.drop 1).map fun x => rowRec x []
def sumsM (l : List Ln8) : List (List TM) := l.map fun x => x.2.1.map tmM
theorem names_tmM (ts : List Tm) : (ts.map tmM).map (·.1) = nmsT ts := by simp [tmM, nmsT, Function.comp_def]
theorem sumW_len {l : Ws} {ts : List Tm} (h : sumW l = some ts) : ts.length ≤ l.length := by
 have key : ∀ (n : Nat) (first : Bool) (l : Ws) (ts : List Tm), l.length ≤ n → sumS first l = some ts → ts.length ≤ l.length := by
  intro n
  induction n with
  | zero =>
   intro first l ts hl h
   have : l = [] := List.length_eq_zero_iff.1 (by omega)
   subst this
   cases first with
   | false => rw [sumS_nil] at h; cases h; simp
   | true =>
    rw [sumS_step (.inl rfl)] at h
    cases h
  | succ n ih =>
   intro first l ts hl h
   by_cases hc : first = true ∨ l ≠ []
   ·rw [sumS_step hc] at h
    cases hs : stepS first l with
    | none => rw [hs] at h; cases h
    | some p =>
     obtain ⟨t, r⟩ := p
     rw [hs] at h
     have hlt := stepS_lt hs
     simp only [Option.map_eq_some_iff] at h
     obtain ⟨ts', h1, rfl⟩ := h
     have := ih false r ts' (by omega) h1
     simp; omega
   ·have e1 : first = false := by cases first <;> simp_all
    have e2 : l = [] := Classical.byContradiction fun h => hc (.inr h)
    subst e1 e2
    rw [sumS_nil] at h; cases h; simp
 unfold sumW at h
 split at h
 ·cases h; simp
 ·exact key l.length true l ts (Nat.le_refl _) h
theorem line_len {k : Nat} {ws : Ws} {x : Ln8} (h : lineS k ws = some x) : x.2.1.length ≤ ws.length := by
 unfold lineS at h
 split at h
 ·unfold firstS at h
  split at h
  ·simp only [Option.map_eq_some_iff] at h
   obtain ⟨ts, h1, rfl⟩ := h
   have := sumW_len h1; simp at this ⊢; omega
  ·cases h
 ·unfold rowS at h
  split at h
  ·simp only [Option.map_eq_some_iff] at h
   obtain ⟨ts, h1, rfl⟩ := h
   have := sumW_len h1
   unfold midW sub at this; simp at this ⊢; omega
  ·cases h
abbrev MR := Ws × List Fr × List (By × List Fr × Int × Bool × List Int × List Int) × Int × Int
abbrev MX := Int × Ws × List (By × List Fr × Int × Bool × List Int × List Int) × List (List TM)
def errM (a e : Int) : MR := ([], [], [], a, e)
theorem rowNames_loop {l : List Ln8} (hl : l.length ≤ 1000000) : LoopP (model_Parse_L3 (rowsM l) ((l.drop 1).map (·.1))) ((0 : Int), []) := by
 have hlen : (rowsM l).length = l.length - 1 := by simp [rowsM]
 refine LoopP.intro (fun z : Int × Ws => ∃ k : Nat, z.1 = k ∧ k ≤ l.length - 1 ∧ z.2 = ((l.drop 1).map (·.1)).take k) (fun z => l.length - 1 - z.1.toNat) ⟨0, rfl, by omega, by simp⟩ ?_
 rintro X ⟨z1, z2⟩ ⟨k, h1, hk, h2⟩ hX
 simp only at h1 h2
 subst h1 h2
 unfold model_Parse_L3
 dsimp only
 refine IfB.dec (fun h => ?_) (fun h => ?_)
 ·have hkl : k < l.length - 1 := by omega
  have hkd : k < (l.drop 1).length := by simp; omega
  refine ⟨_,_,_,_,_,_,⟨by omega, by unfold rowsM; rw [List.getElem?_map, Int.toNat_natCast, List.getElem?_eq_getElem hkd]; rfl⟩, by unfold Fits; simp; omega, ?_⟩
  rw [wrap64' (by omega) (by omega)]
  refine hX _ ⟨k + 1, by dsimp only; omega, by omega, ?_⟩ (by dsimp only; omega)
  dsimp only
  rw [take_succ (by simpa using hkl)]; simp [rowRec]
 ·have : k = l.length - 1 := by omega
  subst this
  rw [List.take_of_length_le (by simp)]
theorem model_line {x1 : Ls} {k : Nat} {a : Int} {ws : Ws} {st : St8} {r : MR} {X : MX → Prop} (hk : k < x1.length) (hx : x1[k] = (a, ws)) (hlen : x1.length ≤ 100000) (hws : wrdOK ws) (hne : ws ≠ [])
  (hst : st.2.length = k) (hv : st.1.length ≤ 60)
  (hE : ∀ e, stepM k st ws = .inl e → r = errM a e) (hX : ∀ st', stepM k st ws = .inr st' → X (((k + 1 : Nat) : Int), st'.1, rowsM st'.2, sumsM st'.2)) :
  model_Parse_L1 x1 r X ((k : Int), st.1, rowsM st.2, sumsM st.2) := by
 have hw1 : IntKind.i64.wrap ((k : Int) + 1) = ((k + 1 : Nat) : Int) := by rw [wrap64' (by omega) (by omega)]; rfl
 have hsl : (sumsM st.2).length = k := by unfold sumsM; rw [List.length_map, hst]
 unfold model_Parse_L1
 dsimp only
 refine IfB.dec (fun _ => ?_) (fun h => absurd (by omega) h)
 refine ⟨a, ws, ⟨by omega, by rw [Int.toNat_natCast, List.getElem?_eq_getElem hk, hx]⟩, IfB.eqi (fun h0 => ?_) (fun h0 => ?_)⟩
 ·have h0 : k = 0 := by omega
  have eL : lineS k ws = firstS ws := if_pos h0
  have hsay := model_first_says ws hws hne
  have hflag := firstM_flag ws
  have hsome := fun x => firstM_some (ws := ws) (x := x)
  generalize firstM ws = R at hsay hflag hsome
  obtain ⟨f1, f2, f3, f4, f5, f6, f7⟩ := R
  refine ⟨f1, f2, f3, f4, f5, f6, f7, hsay, ?_⟩
  dsimp only at hflag
  cases hf : firstS ws with
  | none =>
   rw [hf] at hflag
   rw [hflag]
   exact IfB_false.2 (hE 2 (by unfold stepM; rw [eL, hf]))
  | some x =>
   have hln := line_len (eL.trans hf)
   have := hws.1
   have hR := (hsome x hf).1
   simp only [Prod.mk.injEq] at hR
   obtain ⟨rfl, rfl, rfl, rfl, rfl, rfl, rfl⟩ := hR
   refine IfB_true.2 ⟨_,model_twice_says _ (by simp; omega), ?_⟩
   rw [names_tmM]
   refine IfB.dec (fun hd => ?_) (fun hd => ?_)
   ·exact hE 3 (by unfold stepM; rw [eL, hf]; exact if_pos (.inl hd))
   ·have hs3 : stepM k st ws = if 60 < (addN st.1 (nmsT x.2.1)).length ∨ (k ≠ 0 ∧ 61 ≤ st.2.length) then .inl 4 else .inr (addN st.1 (nmsT x.2.1), st.2 ++ [x]) := by
     unfold stepM; rw [eL, hf]; exact if_neg (fun h => h.elim hd fun h => h.1 h0)
    refine addLoop (ts := x.2.1.map tmM) (vars := st.1) (E := fun s251 => IfB (decide ((s251.length : Int) > (60 : Int))) (r = errM a 4) (Fits ((sumsM st.2).length + [x.2.1.map tmM].length) 24 ∧ X ((IntKind.i64.wrap ((k : Int) + 1)), s251, rowsM st.2, (sumsM st.2 ++ [x.2.1.map tmM])))) (by omega) (by simp; omega) ?_
    rw [names_tmM]
    refine IfB.dec (fun hm => ?_) (fun hm => ?_)
    ·exact hE 4 (by rw [hs3]; exact if_pos (.inl (by omega)))
    ·refine ⟨by unfold Fits; rw [hsl]; simp; omega, ?_⟩
     rw [hw1]
     have := hX _ (by rw [hs3]; exact if_neg (fun h => h.elim (fun h => hm (by omega)) fun h => h.1 h0))
     dsimp only at this
     have e1 : rowsM (st.2 ++ [x]) = rowsM st.2 := by
      have : st.2 = [] := List.length_eq_zero_iff.1 (by omega)
      rw [this]; rfl
     have e2 : sumsM (st.2 ++ [x]) = sumsM st.2 ++ [x.2.1.map tmM] := by simp [sumsM]
     rw [e1, e2] at this
     exact this
 ·have h0 : k ≠ 0 := by omega
  have eL : lineS k ws = rowS ws := if_neg h0
  have hsay := model_row_says ws hws
  have hflag := rowM_flag ws
  have hsome := fun x => rowM_some (ws := ws) (x := x)
  generalize rowM ws = R at hsay hflag hsome
  obtain ⟨f1, f2, f3, f4, f5, f6, f7⟩ := R
  refine ⟨f1, f2, f3, f4, f5, f6, f7, hsay, ?_⟩
  dsimp only at hflag
  cases hf : rowS ws with
  | none =>
   rw [hf] at hflag
   rw [hflag]
   exact IfB_false.2 (hE 2 (by unfold stepM; rw [eL, hf]))
  | some x =>
   have hln := line_len (eL.trans hf)
   have := hws.1
   have hR := (hsome x hf).1
   simp only [Prod.mk.injEq] at hR
   obtain ⟨rfl, rfl, rfl, rfl, rfl, rfl, rfl⟩ := hR
   refine IfB_true.2 (IfB.dec (fun _ => ?_) (fun h => absurd (by omega) h))
   refine ⟨_,model_twice_says _ (by simp; omega), ?_⟩
   rw [names_tmM]
   refine IfB.dec (fun hd => ?_) (fun hd => ?_)
   ·exact hE 3 (by unfold stepM; rw [eL, hf]; exact if_pos (.inl hd))
   ·refine ⟨_,rowNames_loop (l := st.2) (by omega), _,lines_Index_says _ x.1 (by simp; omega), IfB.dec (fun hi => ?_) (fun hi => ?_)⟩
    ·refine hE 3 (by unfold stepM; rw [eL, hf]; refine if_pos (.inr ⟨h0, Classical.byContradiction fun hh => ?_⟩); have := idxN_neg.2 hh; omega)
    ·have hnin : x.1 ∉ (st.2.drop 1).map (·.1) := idxN_neg.1 (by omega)
     have hs3 : stepM k st ws = if 60 < (addN st.1 (nmsT x.2.1)).length ∨ (k ≠ 0 ∧ 61 ≤ st.2.length) then .inl 4 else .inr (addN st.1 (nmsT x.2.1), st.2 ++ [x]) := by
      unfold stepM; rw [eL, hf]; exact if_neg (fun h => h.elim hd fun h => hnin h.2)
     have hrl : (rowsM st.2).length = k - 1 := by simp [rowsM, hst]
     refine addLoop (ts := x.2.1.map tmM) (vars := st.1) (E := fun s251 => IfB (decide ((s251.length : Int) > (60 : Int))) (r = errM a 4) (IfB (decide (((rowsM st.2).length : Int) ≥ (60 : Int))) (r = errM a 4) (Fits ((sumsM st.2).length + [x.2.1.map tmM].length) 24 ∧ Fits ((rowsM st.2).length + [rowRec x []].length) 104 ∧ X ((IntKind.i64.wrap ((k : Int) + 1)), s251, (rowsM st.2 ++ [rowRec x []]), (sumsM st.2 ++ [x.2.1.map tmM]))))) (by omega) (by simp; omega) ?_
     rw [names_tmM]
     refine IfB.dec (fun hm => ?_) (fun hm => ?_)
     ·exact hE 4 (by rw [hs3]; exact if_pos (.inl (by omega)))
     ·refine IfB.dec (fun hr => ?_) (fun hr => ?_)
      ·exact hE 4 (by rw [hs3]; exact if_pos (.inr ⟨h0, by omega⟩))
      ·refine ⟨by unfold Fits; rw [hsl]; simp; omega, by unfold Fits; rw [hrl]; simp; omega, ?_⟩
       rw [hw1]
       have := hX _ (by rw [hs3]; exact if_neg (fun h => h.elim (fun h => hm (by omega)) fun h => hr (by omega)))
       dsimp only at this
       have e1 : rowsM (st.2 ++ [x]) = rowsM st.2 ++ [rowRec x []] := by
        unfold rowsM
        rw [List.drop_append_of_le_length (by omega)]; simp
       have e2 : sumsM (st.2 ++ [x]) = sumsM st.2 ++ [x.2.1.map tmM] := by simp [sumsM]
       rw [e1, e2] at this
       exact this
end Go.Abs
namespace Go.Abs
open Go
open Classical
theorem nameS_facts {neg : Bool} {l : Ws} {t : Tm} {r : Ws} (h : nameS neg l = some (t, r)) : NameP t.2.2 ∧ ∀ w, t.2.1 = some w → isN w ∧ w ∈ l := by
 unfold nameS at h
 split at h
 ·cases h
 ·rename_i w r' e
  split at h
  ·rename_i hn
   cases h
   refine ⟨(nameB_iff _).1 hn, fun w' hw => ?_⟩
   unfold numS at hw
   split at hw
   ·cases hw
   ·rename_i w2 r2
    split at hw
    ·rename_i hu
     cases hw
     have h45 : (45 : UInt8) ∉ w' := fun h => by rw [numU_no45 h] at hu; cases hu
     rw [numU_isN' h45] at hu
     exact ⟨of_decide_eq_true hu, by simp⟩
    ·cases hw
  ·cases h
theorem stepS_facts {first : Bool} {l : Ws} {t : Tm} {r : Ws} (h : stepS first l = some (t, r)) : NameP t.2.2 ∧ ∀ w, t.2.1 = some w → isN w ∧ w ∈ l := by
 unfold stepS at h
 split at h
 ·cases h
 ·rename_i neg l1 e
  obtain ⟨a, b⟩ := nameS_facts h
  exact ⟨a, fun w hw => ⟨(b w hw).1, (signS_suf e).subset (b w hw).2⟩⟩
theorem sumS_facts : ∀ (n : Nat) (first : Bool) (l : Ws) (ts : List Tm), l.length ≤ n → sumS first l = some ts → ∀ t, t ∈ ts → NameP t.2.2 ∧ ∀ w, t.2.1 = some w → isN w ∧ w ∈ l := by
 intro n
 induction n with
 | zero =>
  intro first l ts hl h t ht
  have : l = [] := List.length_eq_zero_iff.1 (by omega)
  subst this
  cases first with
  | false => rw [sumS_nil] at h; cases h; cases ht
  | true => rw [sumS_step (.inl rfl)] at h; cases h
 | succ n ih =>
  intro first l ts hl h t ht
  by_cases hc : first = true ∨ l ≠ []
  ·rw [sumS_step hc] at h
   cases hs : stepS first l with
   | none => rw [hs] at h; cases h
   | some p =>
    obtain ⟨t1, r⟩ := p
    rw [hs] at h
    have hlt := stepS_lt hs
    simp only [Option.map_eq_some_iff] at h
    obtain ⟨ts', h1, rfl⟩ := h
    rcases List.mem_cons.1 ht with rfl | ht
    ·exact stepS_facts hs
    ·obtain ⟨a, b⟩ := ih false r ts' (by omega) h1 t ht
     exact ⟨a, fun w hw => ⟨(b w hw).1, (stepS_suf hs).subset (b w hw).2⟩⟩
  ·have e1 : first = false := by cases first <;> simp_all
   have e2 : l = [] := Classical.byContradiction fun h => hc (.inr h)
   subst e1 e2
   rw [sumS_nil] at h; cases h; cases ht
theorem sumW_facts {l : Ws} {ts : List Tm} (h : sumW l = some ts) : ∀ t, t ∈ ts → NameP t.2.2 ∧ ∀ w, t.2.1 = some w → isN w ∧ w ∈ l := by
 unfold sumW at h
 split at h
 ·cases h; intro t ht; cases ht
 ·exact sumS_facts l.length true l ts (Nat.le_refl _) h
theorem relOf_range (w : By) : -1 ≤ (relOf w).getD 0 ∧ (relOf w).getD 0 ≤ 1 := by
 unfold relOf
 split
 ·decide
 ·split
  ·decide
  ·split <;> decide
structure LnOK (ws : Ws) (x : Ln8) : Prop where
 names : ∀ t, t ∈ x.2.1 → NameP t.2.2 ∧ ∀ w, t.2.1 = some w → isN w ∧ w ∈ ws
structure RwOK (ws : Ws) (x : Ln8) : Prop where
 name : NameP x.1
 rel : -1 ≤ x.2.2.1 ∧ x.2.2.1 ≤ 1
 num : isN x.2.2.2
 mem : x.2.2.2 ∈ ws
theorem mid_mem {ws : Ws} {w : By} (h : w ∈ midW ws) : w ∈ ws := by unfold midW sub at h; exact List.mem_of_mem_drop (List.mem_of_mem_take h)
theorem rowS_ok {ws : Ws} {x : Ln8} (h : rowS ws = some x) : LnOK ws x ∧ RwOK ws x := by
 unfold rowS at h
 split at h
 ·rename_i hk
  simp only [Option.map_eq_some_iff] at h
  obtain ⟨ts, h1, rfl⟩ := h
  obtain ⟨h4, hc, hn, hr, hN⟩ := hk
  exact ⟨⟨fun t ht => ⟨(sumW_facts h1 t ht).1, fun w hw => ⟨((sumW_facts h1 t ht).2 w hw).1, mid_mem ((sumW_facts h1 t ht).2 w hw).2⟩⟩⟩, ⟨(nameB_iff _).1 hn, relOf_range _,hN, mem_wl h4⟩⟩
 ·cases h
theorem firstS_ok {ws : Ws} {x : Ln8} (h : firstS ws = some x) : LnOK ws x := by
 unfold firstS at h
 split at h
 ·simp only [Option.map_eq_some_iff] at h
  obtain ⟨ts, h1, rfl⟩ := h
  exact ⟨fun t ht => ⟨(sumW_facts h1 t ht).1, fun w hw => ⟨((sumW_facts h1 t ht).2 w hw).1, List.mem_of_mem_tail ((sumW_facts h1 t ht).2 w hw).2⟩⟩⟩
 ·cases h
theorem addN_mem (v : By) : ∀ (ns : List By) (vs : Ws), v ∈ addN vs ns ↔ v ∈ vs ∨ v ∈ ns
 | [], vs => by simp [addN]
 | n :: ns, vs => by
  show v ∈ addN (if n ∈ vs then vs else vs ++ [n]) ns ↔ _
  rw [addN_mem v ns]
  split
  ·rename_i h
   constructor
   ·rintro (h1 | h1)
    ·exact .inl h1
    ·exact .inr (by simp [h1])
   ·rintro (h1 | h1)
    ·exact .inl h1
    ·rcases List.mem_cons.1 h1 with rfl | h1
     ·exact .inl h
     ·exact .inr h1
  ·simp [or_assoc]
theorem addN_nodup : ∀ (ns : List By) (vs : Ws), vs.Nodup → (addN vs ns).Nodup
 | [], vs, h => h
 | n :: ns, vs, h => by
  show (addN (if n ∈ vs then vs else vs ++ [n]) ns).Nodup
  refine addN_nodup ns _ ?_
  split
  ·exact h
  ·rename_i hn
   rw [List.nodup_append]
   exact ⟨h, by simp, fun a ha b hb e => by simp at hb; subst hb; subst e; exact hn ha⟩
structure InvS (k : Nat) (st : St8) : Prop where
 len : st.2.length = k
 v60 : st.1.length ≤ 60
 r61 : k ≤ 61
 nd : st.1.Nodup
 nm : ∀ v, v ∈ st.1 → NameP v
 sub : ∀ x, x ∈ st.2 → ∀ t, t ∈ x.2.1 → t.2.2 ∈ st.1
 dup : ∀ x, x ∈ st.2 → ¬ dupT x.2.1
 rows : ((st.2.drop 1).map (·.1)).Nodup
 rok : ∀ x, x ∈ st.2.drop 1 → NameP x.1 ∧ (-1 ≤ x.2.2.1 ∧ x.2.2.1 ≤ 1) ∧ isN x.2.2.2
theorem InvS.zero : InvS 0 ([], []) := ⟨rfl, by simp, by omega, by simp, by simp, by simp, by simp, by simp, by simp⟩
theorem InvS.step {k : Nat} {st st' : St8} {ws : Ws} (h : InvS k st) (hs : stepM k st ws = .inr st') : InvS (k + 1) st' := by
 unfold stepM at hs
 split at hs
 ·cases hs
 ·rename_i x hx
  split at hs
  ·cases hs
  ·rename_i h1
   split at hs
   ·cases hs
   ·rename_i h2
    cases hs
    have hln : LnOK ws x := by
     unfold lineS at hx
     split at hx
     ·exact firstS_ok hx
     ·exact (rowS_ok hx).1
    refine ⟨by simp [h.len], ?_, ?_, addN_nodup _ _ h.nd, ?_, ?_, ?_, ?_, ?_⟩
    ·exact Nat.le_of_not_lt fun e => h2 (.inl e)
    ·by_cases hk : k = 0
     ·omega
     ·have := h.len
      have : ¬ 61 ≤ st.2.length := fun e => h2 (.inr ⟨hk, e⟩)
      omega
    ·intro v hv
     rcases (addN_mem v _ _).1 hv with hv | hv
     ·exact h.nm v hv
     ·obtain ⟨t, ht, rfl⟩ := List.mem_map.1 hv
      exact (hln.names t ht).1
    ·intro y hy t ht
     refine (addN_mem _ _ _).2 ?_
     rcases List.mem_append.1 hy with hy | hy
     ·exact .inl (h.sub y hy t ht)
     ·simp at hy; subst hy
      exact .inr (List.mem_map.2 ⟨t, ht, rfl⟩)
    ·intro y hy
     rcases List.mem_append.1 hy with hy | hy
     ·exact h.dup y hy
     ·simp at hy; subst hy
      exact fun e => h1 (.inl e)
    ·by_cases hk : k = 0
     ·have : st.2 = [] := List.length_eq_zero_iff.1 (by have := h.len; omega)
      rw [this]; simp
     ·rw [List.drop_append_of_le_length (by have := h.len; omega), List.map_append, List.nodup_append]
      refine ⟨h.rows, by simp, fun a ha b hb e => ?_⟩
      simp at hb
      subst hb; subst e
      exact h1 (.inr ⟨hk, ha⟩)
    ·intro y hy
     by_cases hk : k = 0
     ·have : st.2 = [] := List.length_eq_zero_iff.1 (by have := h.len; omega)
      rw [this] at hy; simp at hy
     ·rw [List.drop_append_of_le_length (by have := h.len; omega)] at hy
      rcases List.mem_append.1 hy with hy | hy
      ·exact h.rok y hy
      ·simp at hy; subst hy
       have hr : rowS ws = some y := by unfold lineS at hx; rwa [if_neg hk] at hx
       have := (rowS_ok hr).2
       exact ⟨this.name, this.rel, this.num⟩
def denseW (vars : Ws) (ts : List TM) (d : List Fr) : List Fr := ts.foldl (fun d t => d.set (vars.idxOf t.1) t.2) d
def denseF (vars : Ws) (ts : List TM) : List Fr := denseW vars ts (List.replicate vars.length zeroF)
theorem denseW_len (vars : Ws) : ∀ (ts : List TM) (d : List Fr), (denseW vars ts d).length = d.length
 | [], d => rfl
 | t :: ts, d => by
  show (denseW vars ts (d.set (vars.idxOf t.1) t.2)).length = _
  rw [denseW_len vars ts]; simp
theorem denseF_len (vars : Ws) (ts : List TM) : (denseF vars ts).length = vars.length := by unfold denseF; rw [denseW_len]; simp
theorem zeroLoop {n : Nat} {E : List Fr → Prop} (hn : n ≤ 1000) (hE : E (List.replicate n zeroF)) :
  LoopP (fun (X : Int × List Fr → Prop) (s : Int × List Fr) => match s with
   | (s600, s657) => IfB (decide (s600 < ((List.replicate (Int.toNat (n : Int)) (0 : Int)).length : Int)))
    (∃ (x92 : Int), Idx (List.replicate (Int.toNat (n : Int)) (0 : Int)) s600 x92 ∧ ∃ (x94 : Bool) (x95 : List Int) (x96 : List Int), rat_Int x92 (x94, x95, x96) ∧
     Fits (s657.length + [(x94, x95, x96)].length) 56 ∧ X ((IntKind.i64.wrap (s600 + 1)), (s657 ++ [(x94, x95, x96)])))
    (E s657)) ((0 : Int), []) := by
 refine LoopP.intro (fun z : Int × List Fr => ∃ k : Nat, z.1 = k ∧ k ≤ n ∧ z.2 = List.replicate k zeroF) (fun z => n - z.1.toNat) ⟨0, rfl, by omega, rfl⟩ ?_
 rintro X ⟨z1, z2⟩ ⟨k, h1, hk, h2⟩ hX
 simp only at h1 h2
 subst h1 h2
 refine IfB.dec (fun h => ?_) (fun h => ?_)
 ·have hkn : k < n := by simp at h; omega
  refine ⟨0, ⟨by omega, by simp [hkn]⟩, _,_,_,rat_Int0, by unfold Fits; simp; omega, ?_⟩
  rw [wrap64' (by omega) (by omega)]
  exact hX _ ⟨k + 1, by dsimp only; omega, by omega, by dsimp only; rw [List.replicate_succ']; rfl⟩ (by dsimp only; omega)
 ·have : k = n := by simp at h; omega
  subst this; exact hE
theorem writeLoop {vars : Ws} {ts : List TM} {d0 : List Fr} {E : List Fr → Prop} (hv : vars.length ≤ 1000) (hd : d0.length = vars.length) (hl : ts.length ≤ 100000) (hm : ∀ t, t ∈ ts → t.1 ∈ vars) (hE : E (denseW vars ts d0)) :
  LoopP (fun (X : Int × List Fr → Prop) (s : Int × List Fr) => match s with
   | (s700, s757) => IfB (decide (s700 < (ts.length : Int)))
    (∃ (x100 : List UInt8) (x101 : Bool) (x102 : List Int) (x103 : List Int), Idx ts s700 (x100, x101, x102, x103) ∧ ∃ (x105 : Int), lines_Index vars x100 x105 ∧
     ∃ (x107 : Bool) (x108 : List Int) (x109 : List Int), Idx s757 x105 (x107, x108, x109) ∧ X ((IntKind.i64.wrap (s700 + 1)), (s757.set (Int.toNat x105) (x101, x102, x103))))
    (E s757)) ((0 : Int), d0) := by
 refine LoopP.intro (fun z : Int × List Fr => ∃ k : Nat, z.1 = k ∧ k ≤ ts.length ∧ z.2 = denseW vars (ts.take k) d0) (fun z => ts.length - z.1.toNat) ⟨0, rfl, by omega, rfl⟩ ?_
 rintro X ⟨z1, z2⟩ ⟨k, h1, hk, h2⟩ hX
 simp only at h1 h2
 subst h1
 refine IfB.dec (fun h => ?_) (fun h => ?_)
 ·have hkn : k < ts.length := by omega
  have hmem := hm ts[k] (List.getElem_mem hkn)
  obtain ⟨i1, i2⟩ := idxN_at hmem
  have hz : z2.length = vars.length := by rw [h2, denseW_len, hd]
  refine ⟨ts[k].1, ts[k].2.1, ts[k].2.2.1, ts[k].2.2.2, Idx.nat hkn, _,lines_Index_says vars _ (by omega), ?_⟩
  rw [i1]
  refine ⟨_,_,_,Idx.nat (l := z2) (k := vars.idxOf ts[k].1) (by omega), ?_⟩
  rw [wrap64' (by omega) (by omega)]
  refine hX _ ⟨k + 1, by dsimp only; omega, by omega, ?_⟩ (by dsimp only; omega)
  dsimp only
  rw [take_succ hkn, h2]
  unfold denseW
  rw [List.foldl_append]; rfl
 ·have : k = ts.length := by omega
  subst this
  rw [List.take_length] at h2
  rw [h2]; exact hE
end Go.Abs
