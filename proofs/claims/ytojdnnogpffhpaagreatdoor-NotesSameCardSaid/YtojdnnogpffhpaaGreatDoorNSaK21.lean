/- Part of a proof, in few files: L8a L8b L8c L8d L8e L8f L8g L8h L8i L8j L8k LQ2 LQ3 LQ4 LM1b L9a L9b. -/
import Derived.Test.YtojdnnogpffhpaaGreatDoorNSaK15
import Derived.Test.YtojdnnogpffhpaaGreatDoorNSaK20

section
namespace Go.Abs
open Go
set_option linter.unusedVariables false
set_option linter.unusedSimpArgs false
set_option linter.unnecessarySimpa false
abbrev Tm := Bool × Option By × By
abbrev TM := By × Bool × List Int × List Int
noncomputable def nameB (w : By) : Bool := @decide (NameP w) (Classical.propDecidable _)
theorem nameB_iff (w : By) : nameB w = true ↔ NameP w := by unfold nameB; exact @decide_eq_true_iff _ (Classical.propDecidable _)
def signS (first : Bool) (l : Ws) : Option (Bool × Ws) :=
  match l with
  | [] => if first then some (false, []) else none
  | w :: r => if w = [45] then some (true, r) else if first then some (false, w :: r) else if w = [43] then some (false, r) else none
def numS (l : Ws) : Option By × Ws := match l with | [] => (none, []) | w :: r => if numU w then (some w, r) else (none, w :: r)
noncomputable def nameS (neg : Bool) (l : Ws) : Option (Tm × Ws) :=
  match (numS l).2 with | [] => none | w :: r => if nameB w then some ((neg, (numS l).1, w), r) else none
noncomputable def stepS (first : Bool) (l : Ws) : Option (Tm × Ws) := match signS first l with | none => none | some (neg, l1) => nameS neg l1
theorem numS_len (l : Ws) : (numS l).2.length ≤ l.length := by
  unfold numS; cases l with
  | nil => simp
  | cons w r => simp only; split <;> simp
theorem nameS_lt {neg : Bool} {l : Ws} {t : Tm} {r : Ws} (h : nameS neg l = some (t, r)) : r.length < l.length := by
  unfold nameS at h
  have := numS_len l
  split at h
  · cases h
  · rename_i w r' e
    rw [e] at this
    split at h
    · cases h; simp at this; omega
    · cases h
theorem signS_len {first : Bool} {l l1 : Ws} {neg : Bool} (h : signS first l = some (neg, l1)) : l1.length ≤ l.length := by
  unfold signS at h
  split at h
  · split at h <;> cases h; simp
  · split at h
    · cases h; simp
    · split at h
      · cases h; simp
      · split at h <;> cases h; simp
theorem stepS_lt {first : Bool} {l : Ws} {t : Tm} {r : Ws} (h : stepS first l = some (t, r)) : r.length < l.length := by
  unfold stepS at h
  split at h
  · cases h
  · rename_i neg l1 e
    have := signS_len e; have := nameS_lt h; omega
noncomputable def sumS (first : Bool) (l : Ws) : Option (List Tm) :=
  if first = false ∧ l = [] then some [] else
  match h : stepS first l with
  | none => none
  | some (t, r) => (sumS false r).map (t :: ·)
termination_by l.length
decreasing_by exact stepS_lt h
theorem sumS_nil : sumS false [] = some [] := by rw [sumS]; simp
theorem sumS_step {first : Bool} {l : Ws} (hl : first = true ∨ l ≠ []) : sumS first l = match stepS first l with | none => none | some (t, r) => (sumS false r).map (t :: ·) := by
  rw [sumS, if_neg (by rintro ⟨h1, h2⟩; rcases hl with h | h; · rw [h1] at h; cases h
                       · exact h h2)]
  split <;> rename_i h <;> rw [h]
noncomputable def sumW (l : Ws) : Option (List Tm) := if l = [[48]] then some [] else sumS true l
def sgF (neg : Bool) : Fr := (neg, words 1, words 1)
theorem sg1 (neg : Bool) : rat_Int (if neg then -1 else 1) (sgF neg) := by
  have w1 : (words 1).length ≤ 70000 := by rw [words_one (by omega) (by omega)]; simp
  have hm : whole_Make neg (words 1) (neg, words 1) := by
    have := whole_Make_says neg (words 1) (WS_words 1) (by omega)
    rw [val_words] at this
    simpa using this
  have hr : rat_Make neg (words 1) (words 1) (sgF neg) := by
    have := rat_Make_says neg (words 1) (words 1) (WS_words 1) (WS_words 1) w1 w1
    rw [val_words] at this
    have e : ratC neg 1 (den1 1) = sgF neg := by unfold ratC den1 sgF; simp
    rwa [e] at this
  have h1 := nat_Of_says 1 (by omega)
  unfold rat_Int whole_Of
  cases neg with
  | true => exact ⟨true, words 1, IfB_true.2 ⟨words 1, h1, true, words 1, hm, rfl⟩, words 1, h1, _, _, _, hr, rfl⟩
  | false => exact ⟨false, words 1, IfB_false.2 ⟨words 1, h1, false, words 1, hm, rfl⟩, words 1, h1, _, _, _, hr, rfl⟩
theorem sgF_ok (neg : Bool) : okX (sgF neg) 1 := ⟨WS_words 1, WS_words 1, by unfold sgF; rw [words_one (by omega) (by omega)]; simp, by unfold sgF; rw [words_one (by omega) (by omega)]; simp⟩
def numV : Option By → Fr | none => sgF false | some w => numOf w
theorem numOf_okX (w : By) : okX (numOf w) 10000 := ⟨(numOf_ok w).1, (numOf_ok w).2.1, (numOf_ok w).2.2.1, (numOf_ok w).2.2.2⟩
theorem numV_ok (o : Option By) : okX (numV o) 10000 := by
  cases o with
  | none => exact (sgF_ok false).mono (by omega)
  | some w => exact numOf_okX w
def tmV (t : Tm) : Fr := mulF (sgF t.1) (numV t.2.1)
theorem tmV_mul (neg : Bool) (o : Option By) (n : By) : rat_Mul (sgF neg).1 (sgF neg).2.1 (sgF neg).2.2 (numV o).1 (numV o).2.1 (numV o).2.2 (tmV (neg, o, n)) := (mulR (sgF_ok neg) (numV_ok o) (by omega) (by omega)).1
def tmM (t : Tm) : TM := (t.2.2, tmV t)
theorem first_at : ∀ {w : By} {c : UInt8}, c ∈ w → ∃ a b, w = a ++ c :: b ∧ ∀ x, x ∈ a → x ≠ c
  | [], c, h => by cases h
  | y :: l, c, h => by
    by_cases hy : y = c
    · exact ⟨[], l, by rw [hy]; rfl, by simp⟩
    · have hc : c ∈ l := by
        rcases List.mem_cons.1 h with e | e
        · exact absurd e.symm hy
        · exact e
      obtain ⟨a, b, e, ha⟩ := first_at hc
      refine ⟨y :: a, b, by rw [e]; rfl, fun x hx => ?_⟩
      rcases List.mem_cons.1 hx with rfl | hx
      · exact hy
      · exact ha x hx
theorem numU_no45 {w : By} (h : (45 : UInt8) ∈ w) : numU w = false := by
  have hd : ∀ s : By, (45 : UInt8) ∈ s → ¬ dgOK s := fun s hs hk => by have := hk.2.1 _ hs; unfold dg at this; revert this; decide
  unfold numU
  split
  · rename_i hc
    have hw : w = (Lib.cut w [47]).1 ++ 47 :: (Lib.cut w [47]).2.1 := by
      by_cases hs : (47 : UInt8) ∈ w
      · obtain ⟨a, b, rfl, ha⟩ := first_at hs; rw [cut_app ha]
      · rw [cut_no (fun x hx e => hs (by rw [← e]; exact hx))] at hc; cases hc
    rw [hw] at h
    rcases List.mem_append.1 h with h | h
    · rw [decide_eq_false (hd _ h)]; simp
    · rcases List.mem_cons.1 h with h | h
      · exact absurd h (by decide)
      · rw [decide_eq_false (hd _ h)]; simp
  · rw [decide_eq_false (hd _ h)]
theorem numU_isN' {w : By} (h : (45 : UInt8) ∉ w) : numU w = decide (isN w) := by
  have := numU_isN w
  cases w with
  | nil => exact this
  | cons b l =>
    rw [trimP_cons, if_neg (fun e => h (by rw [e]; simp))] at this
    exact this
end Go.Abs
end

section
namespace Go.Abs
open Go
set_option linter.unusedVariables false
set_option linter.unusedSimpArgs false
set_option linter.unnecessarySimpa false
theorem IfB.be {α : Type} [BEq α] [LawfulBEq α] {a b : α} {A B : Prop} (h1 : a = b → A) (h2 : a ≠ b → B) : IfB (a == b) A B := ⟨fun h => h1 (by simpa using h), fun h => h2 (by simpa using h)⟩
theorem IfB.nbe {α : Type} [BEq α] [LawfulBEq α] {a b : α} {A B : Prop} (h1 : a ≠ b → A) (h2 : a = b → B) : IfB (!(a == b)) A B := ⟨fun h => h1 (by simpa using h), fun h => h2 (by simpa using h)⟩
noncomputable def nameN (neg : Bool) (o : Option By) (l : Ws) : Option (Tm × Ws) := match l with | [] => none | w :: r => if nameB w then some ((neg, o, w), r) else none
abbrev SX := Ws × Bool × List TM
def KS (X : SX → Prop) (r : List TM × Bool) (out : List TM) : Option (Tm × Ws) → Prop
  | none => r = ([], false)
  | some (t, rest) => X (rest, false, out ++ [tmM t])
def NmC (sg v : Fr) (l : Ws) (out : List TM) (X : SX → Prop) (r : List TM × Bool) : Prop :=
  ∃ x25 : By, Idx l (0 : Int) x25 ∧ ∃ x27 : Bool, lines_Name x25 x27 ∧ IfB x27
    (∃ x29 : By, Idx l (0 : Int) x29 ∧ ∃ (x31 : Bool) (x32 : List Int) (x33 : List Int), rat_Mul sg.1 sg.2.1 sg.2.2 v.1 v.2.1 v.2.2 (x31, x32, x33) ∧
     Fits (out.length + [(x29, x31, x32, x33)].length) 72 ∧ SubOk l (1 : Int) (l.length : Int) ∧ X (sub l (1 : Int) (l.length : Int), false, out ++ [(x29, x31, x32, x33)]))
    (r = (([] : List TM), false))
theorem nmP {neg : Bool} {o : Option By} {l : Ws} {out : List TM} {X : SX → Prop} {r : List TM × Bool} (hl : l ≠ []) (ho : out.length ≤ 1000000) (h : KS X r out (nameN neg o l)) : NmC (sgF neg) (numV o) l out X r := by
  cases l with
  | nil => exact absurd rfl hl
  | cons w t =>
    refine ⟨w, idx0 w t, nameB w, lines_Name_says (nameB_iff w), IfB.bool (fun hn => ?_) (fun hn => ?_)⟩
    · simp only [nameN, hn, if_true, KS] at h
      refine ⟨w, idx0 w t, _, _, _, tmV_mul neg o w, by unfold Fits; simp; omega, subok_tail w t, ?_⟩
      rw [sub_tail]; exact h
    · simp only [nameN, hn, KS] at h
      exact h
theorem numS_suf (l : Ws) : (numS l).2 <:+ l := by
  unfold numS
  cases l with
  | nil => exact List.suffix_refl _
  | cons w l => simp only; split <;> first | exact List.suffix_cons _ _ | exact List.suffix_refl _
theorem nameS_suf {neg : Bool} {l : Ws} {t : Tm} {r : Ws} (h : nameS neg l = some (t, r)) : r <:+ l := by
  have hs := numS_suf l
  unfold nameS at h
  split at h
  · cases h
  · rename_i w r' e
    rw [e] at hs
    split at h
    · cases h; exact (List.suffix_cons _ _).trans hs
    · cases h
theorem signS_suf {first : Bool} {l l1 : Ws} {neg : Bool} (h : signS first l = some (neg, l1)) : l1 <:+ l := by
  unfold signS at h
  split at h
  · split at h <;> cases h; exact List.suffix_refl _
  · split at h
    · cases h; exact List.suffix_cons _ _
    · split at h
      · cases h; exact List.suffix_refl _
      · split at h <;> cases h; exact List.suffix_cons _ _
theorem stepS_suf {first : Bool} {l : Ws} {t : Tm} {r : Ws} (h : stepS first l = some (t, r)) : r <:+ l := by
  unfold stepS at h
  split at h
  · cases h
  · rename_i neg l1 e; exact (nameS_suf h).trans (signS_suf e)
end Go.Abs
end

section
namespace Go.Abs
open Go
set_option linter.unusedVariables false
set_option linter.unusedSimpArgs false
set_option linter.unnecessarySimpa false
end Go.Abs
end

section
namespace Go.Abs
open Go
open Classical
set_option linter.unusedVariables false
set_option linter.unusedSimpArgs false
set_option linter.unnecessarySimpa false
def colonB (w : By) : Bool := w.getLast? == some 58
theorem getD_at {α : Type} {l : List α} {k : Nat} {d : α} (h : k < l.length) : l.getD k d = l[k] := by simp [List.getD, h]
def relOf (w : By) : Option Int := if w = [60, 61] then some (-1) else if w = [61] then some 0 else if w = [62, 61] then some 1 else none
abbrev Ln8 := By × List Tm × Int × By
def midW (ws : Ws) : Ws := sub ws (1 : Int) (IntKind.i64.wrap ((ws.length : Int) - 2))
def w0W (ws : Ws) : By := ws.headD []
def wrW (ws : Ws) : By := ws.getD (ws.length - 2) []
def wlW (ws : Ws) : By := ws.getD (ws.length - 1) []
def rowOK (ws : Ws) : Prop := 4 ≤ ws.length ∧ colonB (w0W ws) = true ∧ nameB (w0W ws).dropLast = true ∧ (relOf (wrW ws)).isSome = true ∧ isN (wlW ws)
noncomputable def rowS (ws : Ws) : Option Ln8 := if rowOK ws then (sumW (midW ws)).map fun ts => ((w0W ws).dropLast, ts, (relOf (wrW ws)).getD 0, wlW ws) else none
def wrdOK (ws : Ws) : Prop := ws.length ≤ 100000 ∧ ∀ w, w ∈ ws → w.length ≤ 1000000
theorem mem_wl {ws : Ws} (h4 : 4 ≤ ws.length) : wlW ws ∈ ws := by unfold wlW; rw [getD_at (by omega)]; exact List.getElem_mem _
end Go.Abs
end

section
namespace Go.Abs
open Go
open Classical
set_option linter.unusedVariables false
set_option linter.unusedSimpArgs false
set_option linter.unnecessarySimpa false
def minB : By := [109, 105, 110]
noncomputable def firstS (ws : Ws) : Option Ln8 := if w0W ws = minB then (sumW ws.tail).map fun ts => ([], ts, 0, []) else none
end Go.Abs
end

section
namespace Go.Abs
open Go
open Classical
set_option linter.unusedVariables false
set_option linter.unusedSimpArgs false
set_option linter.unnecessarySimpa false
theorem take_succ {α : Type} {l : List α} {k : Nat} (h : k < l.length) : l.take (k + 1) = l.take k ++ [l[k]] := by rw [List.take_add_one, List.getElem?_eq_getElem h]; rfl
theorem nodup_succ {l : List By} {k : Nat} (h : k < l.length) : (l.take (k + 1)).Nodup ↔ (l.take k).Nodup ∧ l[k] ∉ l.take k := by
  rw [take_succ h, List.nodup_append]
  constructor
  · rintro ⟨a, _, c⟩
    exact ⟨a, fun hm => c _ hm _ (by simp) rfl⟩
  · rintro ⟨a, b⟩
    exact ⟨a, by simp, fun x hx y hy e => by simp at hy; subst hy; subst e; exact b hx⟩
def idxN (l : Ws) (x : By) : Int := if x ∈ l then ((l.idxOf x : Nat) : Int) else -1
theorem idxFrom_says (x : By) : ∀ (l : Ws) (i : Nat), Lib.idxFromS (l.map mkB) (mkB x) i = if x ∈ l then ((i + l.idxOf x : Nat) : Int) else -1
  | [], i => by simp [Lib.idxFromS]
  | y :: l, i => by
    rw [List.map_cons, Lib.idxFromS]
    by_cases h : y = x
    · subst h; simp
    · rw [if_neg (fun e => h (mkB_inj e)), idxFrom_says x l (i + 1)]
      have h' : ¬ x = y := fun e => h e.symm
      by_cases hm : x ∈ l
      · rw [if_pos hm, if_pos (by simp [hm])]
        have hb : (y == x) = false := by simpa using h
        have e : (y :: l).idxOf x = l.idxOf x + 1 := by rw [List.idxOf_cons, hb]; rfl
        rw [e]; omega
      · rw [if_neg hm, if_neg (by simp [h', hm])]
theorem lines_Index_says (l : Ws) (x : By) (hl : l.length ≤ 100000000) : lines_Index l x (idxN l x) := by
  refine ⟨_, ⟨by omega, ?_⟩, rfl⟩
  have := idxFrom_says x l 0
  rw [Nat.zero_add] at this
  exact this.symm
theorem idxN_neg {l : Ws} {x : By} : idxN l x < 0 ↔ x ∉ l := by unfold idxN; split <;> rename_i h <;> simp [h] <;> omega
theorem idxN_at {l : Ws} {x : By} (h : x ∈ l) : idxN l x = ((l.idxOf x : Nat) : Int) ∧ l.idxOf x < l.length := ⟨if_pos h, List.idxOf_lt_length_of_mem h⟩
def addN (vs : Ws) (ns : List By) : Ws := ns.foldl (fun vs n => if n ∈ vs then vs else vs ++ [n]) vs
end Go.Abs
end

section
namespace Go.Abs
open Go
open Classical
set_option linter.unusedVariables false
set_option linter.unusedSimpArgs false
set_option linter.unnecessarySimpa false
noncomputable def lineS (k : Nat) (ws : Ws) : Option Ln8 := if k = 0 then firstS ws else rowS ws
def dupT (ts : List Tm) : Prop := ¬ (ts.map (·.2.2)).Nodup
abbrev St8 := Ws × List Ln8
def nmsT (ts : List Tm) : List By := ts.map (·.2.2)
noncomputable def stepM (k : Nat) (st : St8) (ws : Ws) : Int ⊕ St8 :=
  match lineS k ws with
  | none => .inl 2
  | some x => if dupT x.2.1 ∨ (k ≠ 0 ∧ x.1 ∈ (st.2.drop 1).map (·.1)) then .inl 3 else
    if 60 < (addN st.1 (nmsT x.2.1)).length ∨ (k ≠ 0 ∧ 61 ≤ st.2.length) then .inl 4 else .inr (addN st.1 (nmsT x.2.1), st.2 ++ [x])
end Go.Abs
end

section
namespace Go.Abs
open Go
open Classical
set_option linter.unusedVariables false
set_option linter.unusedSimpArgs false
set_option linter.unnecessarySimpa false
theorem nameS_facts {neg : Bool} {l : Ws} {t : Tm} {r : Ws} (h : nameS neg l = some (t, r)) : NameP t.2.2 ∧ ∀ w, t.2.1 = some w → isN w ∧ w ∈ l := by
  unfold nameS at h
  split at h
  · cases h
  · rename_i w r' e
    split at h
    · rename_i hn
      cases h
      refine ⟨(nameB_iff _).1 hn, fun w' hw => ?_⟩
      unfold numS at hw
      split at hw
      · cases hw
      · rename_i w2 r2
        split at hw
        · rename_i hu
          cases hw
          have h45 : (45 : UInt8) ∉ w' := fun h => by rw [numU_no45 h] at hu; cases hu
          rw [numU_isN' h45] at hu
          exact ⟨of_decide_eq_true hu, by simp⟩
        · cases hw
    · cases h
theorem stepS_facts {first : Bool} {l : Ws} {t : Tm} {r : Ws} (h : stepS first l = some (t, r)) : NameP t.2.2 ∧ ∀ w, t.2.1 = some w → isN w ∧ w ∈ l := by
  unfold stepS at h
  split at h
  · cases h
  · rename_i neg l1 e
    obtain ⟨a, b⟩ := nameS_facts h
    exact ⟨a, fun w hw => ⟨(b w hw).1, (signS_suf e).subset (b w hw).2⟩⟩
theorem sumS_facts : ∀ (n : Nat) (first : Bool) (l : Ws) (ts : List Tm), l.length ≤ n → sumS first l = some ts → ∀ t, t ∈ ts → NameP t.2.2 ∧ ∀ w, t.2.1 = some w → isN w ∧ w ∈ l := by
  intro n
  induction n with
  | zero =>
    intro first l ts hl h t ht
    have : l = [] := List.length_eq_zero_iff.1 (by omega)
    subst this
    cases first with
    | false => rw [sumS_nil] at h; cases h; cases ht
    | true => rw [sumS_step (.inl rfl)] at h; cases h
  | succ n ih =>
    intro first l ts hl h t ht
    by_cases hc : first = true ∨ l ≠ []
    · rw [sumS_step hc] at h
      cases hs : stepS first l with
      | none => rw [hs] at h; cases h
      | some p =>
        obtain ⟨t1, r⟩ := p
        rw [hs] at h
        have hlt := stepS_lt hs
        simp only [Option.map_eq_some_iff] at h
        obtain ⟨ts', h1, rfl⟩ := h
        rcases List.mem_cons.1 ht with rfl | ht
        · exact stepS_facts hs
        · obtain ⟨a, b⟩ := ih false r ts' (by omega) h1 t ht
          exact ⟨a, fun w hw => ⟨(b w hw).1, (stepS_suf hs).subset (b w hw).2⟩⟩
    · have e1 : first = false := by cases first <;> simp_all
      have e2 : l = [] := Classical.byContradiction fun h => hc (.inr h)
      subst e1 e2
      rw [sumS_nil] at h; cases h; cases ht
theorem sumW_facts {l : Ws} {ts : List Tm} (h : sumW l = some ts) : ∀ t, t ∈ ts → NameP t.2.2 ∧ ∀ w, t.2.1 = some w → isN w ∧ w ∈ l := by
  unfold sumW at h
  split at h
  · cases h; intro t ht; cases ht
  · exact sumS_facts l.length true l ts (Nat.le_refl _) h
theorem relOf_range (w : By) : -1 ≤ (relOf w).getD 0 ∧ (relOf w).getD 0 ≤ 1 := by
  unfold relOf
  split
  · decide
  · split
    · decide
    · split <;> decide
structure LnOK (ws : Ws) (x : Ln8) : Prop where
  names : ∀ t, t ∈ x.2.1 → NameP t.2.2 ∧ ∀ w, t.2.1 = some w → isN w ∧ w ∈ ws
structure RwOK (ws : Ws) (x : Ln8) : Prop where
  name : NameP x.1
  rel : -1 ≤ x.2.2.1 ∧ x.2.2.1 ≤ 1
  num : isN x.2.2.2
  mem : x.2.2.2 ∈ ws
theorem mid_mem {ws : Ws} {w : By} (h : w ∈ midW ws) : w ∈ ws := by unfold midW sub at h; exact List.mem_of_mem_drop (List.mem_of_mem_take h)
theorem rowS_ok {ws : Ws} {x : Ln8} (h : rowS ws = some x) : LnOK ws x ∧ RwOK ws x := by
  unfold rowS at h
  split at h
  · rename_i hk
    simp only [Option.map_eq_some_iff] at h
    obtain ⟨ts, h1, rfl⟩ := h
    obtain ⟨h4, hc, hn, hr, hN⟩ := hk
    exact ⟨⟨fun t ht => ⟨(sumW_facts h1 t ht).1, fun w hw => ⟨((sumW_facts h1 t ht).2 w hw).1, mid_mem ((sumW_facts h1 t ht).2 w hw).2⟩⟩⟩, ⟨(nameB_iff _).1 hn, relOf_range _, hN, mem_wl h4⟩⟩
  · cases h
theorem firstS_ok {ws : Ws} {x : Ln8} (h : firstS ws = some x) : LnOK ws x := by
  unfold firstS at h
  split at h
  · simp only [Option.map_eq_some_iff] at h
    obtain ⟨ts, h1, rfl⟩ := h
    exact ⟨fun t ht => ⟨(sumW_facts h1 t ht).1, fun w hw => ⟨((sumW_facts h1 t ht).2 w hw).1, List.mem_of_mem_tail ((sumW_facts h1 t ht).2 w hw).2⟩⟩⟩
  · cases h
theorem addN_mem (v : By) : ∀ (ns : List By) (vs : Ws), v ∈ addN vs ns ↔ v ∈ vs ∨ v ∈ ns
  | [], vs => by simp [addN]
  | n :: ns, vs => by
    show v ∈ addN (if n ∈ vs then vs else vs ++ [n]) ns ↔ _
    rw [addN_mem v ns]
    split
    · rename_i h
      constructor
      · rintro (h1 | h1)
        · exact .inl h1
        · exact .inr (by simp [h1])
      · rintro (h1 | h1)
        · exact .inl h1
        · rcases List.mem_cons.1 h1 with rfl | h1
          · exact .inl h
          · exact .inr h1
    · simp [or_assoc]
theorem addN_nodup : ∀ (ns : List By) (vs : Ws), vs.Nodup → (addN vs ns).Nodup
  | [], vs, h => h
  | n :: ns, vs, h => by
    show (addN (if n ∈ vs then vs else vs ++ [n]) ns).Nodup
    refine addN_nodup ns _ ?_
    split
    · exact h
    · rename_i hn
      rw [List.nodup_append]
      exact ⟨h, by simp, fun a ha b hb e => by simp at hb; subst hb; subst e; exact hn ha⟩
structure InvS (k : Nat) (st : St8) : Prop where
  len : st.2.length = k
  v60 : st.1.length ≤ 60
  r61 : k ≤ 61
  nd : st.1.Nodup
  nm : ∀ v, v ∈ st.1 → NameP v
  sub : ∀ x, x ∈ st.2 → ∀ t, t ∈ x.2.1 → t.2.2 ∈ st.1
  dup : ∀ x, x ∈ st.2 → ¬ dupT x.2.1
  rows : ((st.2.drop 1).map (·.1)).Nodup
  rok : ∀ x, x ∈ st.2.drop 1 → NameP x.1 ∧ (-1 ≤ x.2.2.1 ∧ x.2.2.1 ≤ 1) ∧ isN x.2.2.2
theorem InvS.zero : InvS 0 ([], []) := ⟨rfl, by simp, by omega, by simp, by simp, by simp, by simp, by simp, by simp⟩
theorem InvS.step {k : Nat} {st st' : St8} {ws : Ws} (h : InvS k st) (hs : stepM k st ws = .inr st') : InvS (k + 1) st' := by
  unfold stepM at hs
  split at hs
  · cases hs
  · rename_i x hx
    split at hs
    · cases hs
    · rename_i h1
      split at hs
      · cases hs
      · rename_i h2
        cases hs
        have hln : LnOK ws x := by
          unfold lineS at hx
          split at hx
          · exact firstS_ok hx
          · exact (rowS_ok hx).1
        refine ⟨by simp [h.len], ?_, ?_, addN_nodup _ _ h.nd, ?_, ?_, ?_, ?_, ?_⟩
        · exact Nat.le_of_not_lt fun e => h2 (.inl e)
        · by_cases hk : k = 0
          · omega
          · have := h.len
            have : ¬ 61 ≤ st.2.length := fun e => h2 (.inr ⟨hk, e⟩)
            omega
        · intro v hv
          rcases (addN_mem v _ _).1 hv with hv | hv
          · exact h.nm v hv
          · obtain ⟨t, ht, rfl⟩ := List.mem_map.1 hv
            exact (hln.names t ht).1
        · intro y hy t ht
          refine (addN_mem _ _ _).2 ?_
          rcases List.mem_append.1 hy with hy | hy
          · exact .inl (h.sub y hy t ht)
          · simp at hy; subst hy
            exact .inr (List.mem_map.2 ⟨t, ht, rfl⟩)
        · intro y hy
          rcases List.mem_append.1 hy with hy | hy
          · exact h.dup y hy
          · simp at hy; subst hy
            exact fun e => h1 (.inl e)
        · by_cases hk : k = 0
          · have : st.2 = [] := List.length_eq_zero_iff.1 (by have := h.len; omega)
            rw [this]; simp
          · rw [List.drop_append_of_le_length (by have := h.len; omega), List.map_append, List.nodup_append]
            refine ⟨h.rows, by simp, fun a ha b hb e => ?_⟩
            simp at hb
            subst hb; subst e
            exact h1 (.inr ⟨hk, ha⟩)
        · intro y hy
          by_cases hk : k = 0
          · have : st.2 = [] := List.length_eq_zero_iff.1 (by have := h.len; omega)
            rw [this] at hy; simp at hy
          · rw [List.drop_append_of_le_length (by have := h.len; omega)] at hy
            rcases List.mem_append.1 hy with hy | hy
            · exact h.rok y hy
            · simp at hy; subst hy
              have hr : rowS ws = some y := by unfold lineS at hx; rwa [if_neg hk] at hx
              have := (rowS_ok hr).2
              exact ⟨this.name, this.rel, this.num⟩
end Go.Abs
end

section
namespace Go.Abs
open Go
open Classical
set_option linter.unusedVariables false
set_option linter.unusedSimpArgs false
set_option linter.unnecessarySimpa false
def LsOK (l : Ls) : Prop := l.length ≤ 100000 ∧ ∀ x, x ∈ l → wrdOK x.2 ∧ x.2 ≠ []
theorem wlen_mem8 : ∀ {l : Ws} {w : By}, w ∈ l → w.length + 1 ≤ wlen l
  | x :: l, w, h => by
    have e : wlen (x :: l) = x.length + 1 + wlen l := by simp [wlen]
    rw [e]
    rcases List.mem_cons.1 h with rfl | h
    · omega
    · have := wlen_mem8 h; omega
theorem allLs_ok {s : By} (hl : s.length ≤ 65536) : LsOK (allL s) := by
  constructor
  · have := linesFrom_length (splitC 10 s) 0
    have h2 : (splitC 10 s).length = s.count 10 + 1 := split_len
    have h3 : s.count 10 ≤ s.length := List.count_le_length
    unfold allL; omega
  · intro x hx
    have hw := all_wlen s x hx
    have h0 := wlen_len x.2
    refine ⟨⟨by omega, fun w hw' => ?_⟩, ?_⟩
    · have := wlen_mem8 hw'
      omega
    · have hr := linesFrom_rising (splitC 10 s) 0
      obtain ⟨i, hi, e⟩ := List.mem_iff_getElem.1 hx
      have := (hr.at (i := i) (x := x) (by unfold allL at hi e; rw [List.getElem?_eq_getElem hi, e])).1
      exact fun e => by rw [e] at this; simp at this
end Go.Abs
end

section
namespace Go.Abs
open Go
open Classical
set_option linter.unusedVariables false
set_option linter.unusedSimpArgs false
set_option linter.unnecessarySimpa false
end Go.Abs
end

section
namespace Go.Abs
open Go
open Classical
set_option linter.unusedVariables false
set_option linter.unusedSimpArgs false
set_option linter.unnecessarySimpa false
abbrev MRow := By × List Fr × Int × Bool × List Int × List Int
def NamesP (l : Ws) : Prop := l.Nodup ∧ ∀ v, v ∈ l → NameP v
theorem idx_take {l : Ws} {k : Nat} (hk : k < l.length) : l.idxOf l[k] = k ↔ l[k] ∉ l.take k := by
  have hlt : l.idxOf l[k] < l.length := List.idxOf_lt_length_of_mem (List.getElem_mem hk)
  have he : l[l.idxOf l[k]] = l[k] := List.getElem_idxOf hlt
  constructor
  · intro h hm
    obtain ⟨i, hi, e⟩ := List.mem_take_iff_getElem.1 hm
    have hik : i < k := by omega
    have hil : i < l.length := by omega
    have := List.not_of_lt_findIdx (p := (· == l[k])) (xs := l) (i := i) (by show i < l.idxOf l[k]; omega)
    rw [e] at this
    simp at this
  · intro h
    rcases Nat.lt_or_ge (l.idxOf l[k]) k with h1 | h1
    · exact absurd (List.mem_take_iff_getElem.2 ⟨l.idxOf l[k], by omega, he⟩) h
    · rcases Nat.lt_or_ge k (l.idxOf l[k]) with h2 | h2
      · have := List.not_of_lt_findIdx (p := (· == l[k])) (xs := l) (i := k) h2
        simp at this
      · omega
theorem idx_nodup {l : Ws} {k : Nat} (hk : k < l.length) (hn : l.Nodup) : l.idxOf l[k] = k := (idx_take hk).2 ((nodup_succ hk).1 (hn.sublist (List.take_sublist _ _))).2
theorem model_names_says (l : Ws) (hl : l.length ≤ 1000000) : model_names l (decide (NamesP l)) := by
  unfold model_names
  refine LoopP.intro (fun z : Int => ∃ k : Nat, z = k ∧ k ≤ l.length ∧ (l.take k).Nodup ∧ ∀ v, v ∈ l.take k → NameP v) (fun z => l.length - z.toNat) ⟨0, rfl, by omega, by simp, by simp⟩ ?_
  rintro X z ⟨k, rfl, hk, hn, hm⟩ hX
  unfold model_names_L1
  dsimp only
  refine IfB.dec (fun h => ?_) (fun h => ?_)
  · have hkl : k < l.length := by omega
    refine ⟨_, Idx.nat hkl, _, lines_Name_says (nameB_iff _), IfB.bool (fun hN => ?_) (fun hN => ?_)⟩
    · have hN := (nameB_iff _).1 hN
      refine ⟨_, lines_Index_says l _ (by omega), ?_⟩
      rw [(idxN_at (List.getElem_mem hkl)).1]
      refine IfB.nei (fun he => ?_) (fun he => ?_)
      · refine decide_eq_false fun hp => he ?_
        rw [idx_nodup hkl hp.1]
      · rw [wrap64' (by omega) (by omega)]
        have := (idx_take hkl).1 (by omega)
        refine hX _ ⟨k + 1, by omega, by omega, (nodup_succ hkl).2 ⟨hn, this⟩, fun v hv => ?_⟩ (by omega)
        rw [take_succ hkl, List.mem_append] at hv
        rcases hv with hv | hv
        · exact hm v hv
        · simp at hv; subst hv; exact hN
    · refine decide_eq_false fun hp => ?_
      rw [(nameB_iff _).2 (hp.2 _ (List.getElem_mem hkl))] at hN; cases hN
  · have e : k = l.length := by omega
    subst e
    rw [List.take_length] at hn hm
    exact decide_eq_true ⟨hn, hm⟩
def MayM (V : Ws) (C : List Fr) (R : List MRow) : Prop := V.length ≤ 60 ∧ C.length = V.length ∧ R.length ≤ 60 ∧ NamesP V ∧ NamesP (R.map (·.1)) ∧ ∀ r, r ∈ R → r.2.1.length = V.length ∧ -1 ≤ r.2.2.1 ∧ r.2.2.1 ≤ 1
theorem model_Right_says (V : Ws) (C : List Fr) (R : List MRow) : model_Right V C R (decide (MayM V C R)) := by
  unfold model_Right
  refine IfB.dec (fun h1 => ?_) (fun h1 => decide_eq_false fun h => h1 (by have := h.1; omega))
  refine IfB.eqi (fun h2 => ?_) (fun h2 => decide_eq_false fun h => h2 (by have := h.2.1; omega))
  refine IfB.dec (fun h3 => ?_) (fun h3 => decide_eq_false fun h => h3 (by have := h.2.2.1; omega))
  refine ⟨_, model_names_says V (by omega), IfB.dec (fun h4 => ?_) (fun h4 => decide_eq_false fun h => h4 h.2.2.2.1)⟩
  refine LoopP.intro (fun z : Int × Ws => ∃ k : Nat, z.1 = k ∧ k ≤ R.length ∧ z.2 = (R.map (·.1)).take k) (fun z => R.length - z.1.toNat) ⟨0, rfl, by omega, by simp⟩ ?_
  rintro X ⟨z1, z2⟩ ⟨k, e1, hk, e2⟩ hX
  simp only at e1 e2
  subst e1
  unfold model_Right_L1
  dsimp only
  refine IfB.dec (fun h => ?_) (fun h => ?_)
  · have hkl : k < R.length := by omega
    refine ⟨R[k].1, R[k].2.1, R[k].2.2.1, R[k].2.2.2.1, R[k].2.2.2.2.1, R[k].2.2.2.2.2, Idx.nat hkl, by unfold Fits; rw [e2]; simp; omega, ?_⟩
    rw [wrap64' (by omega) (by omega)]
    refine hX _ ⟨k + 1, by dsimp only; omega, by omega, ?_⟩ (by dsimp only; omega)
    dsimp only
    rw [take_succ (by simpa using hkl), e2]; simp
  · have e : k = R.length := by omega
    subst e
    rw [List.take_of_length_le (by simp)] at e2
    refine ⟨_, model_names_says z2 (by rw [e2]; simp; omega), ?_⟩
    rw [e2]
    refine IfB.dec (fun h5 => ?_) (fun h5 => decide_eq_false fun h => h5 h.2.2.2.2.1)
    refine LoopP.intro (fun z : Int => ∃ k : Nat, z = k ∧ k ≤ R.length ∧ ∀ r, r ∈ R.take k → r.2.1.length = V.length ∧ -1 ≤ r.2.2.1 ∧ r.2.2.1 ≤ 1) (fun z => R.length - z.toNat) ⟨0, rfl, by omega, by simp⟩ ?_
    rintro Y z ⟨k, rfl, hk, hm⟩ hY
    unfold model_Right_L2
    dsimp only
    refine IfB.dec (fun h => ?_) (fun h => ?_)
    · have hkl : k < R.length := by omega
      have hmem := List.getElem_mem hkl
      have no : ∀ p : Prop, p → ¬ (R[k].2.1.length = V.length ∧ -1 ≤ R[k].2.2.1 ∧ R[k].2.2.1 ≤ 1) → IfB (decide ((k : Int) ≥ 0)) (decide (MayM V C R) = false) (decide (MayM V C R) = true) := fun _ _ hno =>
        IfB.dec (fun _ => decide_eq_false fun h => hno (h.2.2.2.2.2 _ hmem)) (fun h => absurd (by omega) h)
      refine ⟨R[k].1, R[k].2.1, R[k].2.2.1, R[k].2.2.2.1, R[k].2.2.2.2.1, R[k].2.2.2.2.2, Idx.nat hkl, IfB.nei (fun a => no True trivial (fun h => a (by omega))) (fun a => IfB.dec (fun b => no True trivial (fun h => by omega)) (fun b => IfB.dec (fun c => no True trivial (fun h => by omega)) (fun c => ?_)))⟩
      rw [wrap64' (by omega) (by omega)]
      refine hY _ ⟨k + 1, by omega, by omega, fun r hr => ?_⟩ (by omega)
      rw [take_succ hkl, List.mem_append] at hr
      rcases hr with hr | hr
      · exact hm r hr
      · simp at hr; subst hr; exact ⟨by omega, by omega, by omega⟩
    · have e : k = R.length := by omega
      subst e
      rw [List.take_length] at hm
      exact decide_eq_true ⟨by omega, by omega, by omega, h4, h5, hm⟩
end Go.Abs
end

section
namespace Go.Abs
open Go
set_option linter.unusedVariables false
set_option linter.unusedSimpArgs false
set_option linter.unnecessarySimpa false
def okV (l : List Fr) (k : Nat) : Prop := l.length ≤ 8 ∧ ∀ x, x ∈ l → okX x k
end Go.Abs
end

section
namespace Go.Abs
open Go
open Classical
set_option linter.unusedVariables false
set_option linter.unusedSimpArgs false
set_option linter.unnecessarySimpa false
structure Sml (A : List (List Fr)) (B C : List Fr) (k : Nat) : Prop where
  rows : A.length ≤ 4
  row : ∀ r, r ∈ A → okV r k
  b : okV B k
  c : okV C k
theorem okV.mono {l : List Fr} {a b : Nat} (h : okV l a) (hab : a ≤ b) : okV l b := ⟨h.1, fun x hx => (h.2 x hx).mono hab⟩
theorem Sml.zero {A : List (List Fr)} {B C : List Fr} {k : Nat} (h : Sml A B C k) (hk : 1 ≤ k) : Sml A (List.replicate B.length zeroF) C k :=
  ⟨h.rows, h.row, ⟨by simp; exact h.b.1, fun x hx => by rw [List.eq_of_mem_replicate hx]; exact zeroR.2.2.mono hk⟩, h.c⟩
end Go.Abs
end

section
namespace Go.Abs
open Go
open Classical
set_option linter.unusedVariables false
set_option linter.unusedSimpArgs false
set_option linter.unnecessarySimpa false
theorem Sml.mono {A : List (List Fr)} {B C : List Fr} {a b : Nat} (h : Sml A B C a) (hab : a ≤ b) : Sml A B C b := ⟨h.rows, fun r hr => (h.row r hr).mono hab, h.b.mono hab, h.c.mono hab⟩
end Go.Abs
end

section
namespace Go.Abs
open Go
open Classical
set_option linter.unusedVariables false
set_option linter.unusedSimpArgs false
set_option linter.unnecessarySimpa false
end Go.Abs
end

section
namespace Go.Abs
open Go
open Classical
set_option linter.unusedVariables false
set_option linter.unusedSimpArgs false
set_option linter.unnecessarySimpa false
abbrev Bks := List (List Int)
theorem LoopP.nat {F : (Int → Prop) → Int → Prop} (n : Nat) (J : Nat → Prop) (h0 : J 0) (h : ∀ (X : Int → Prop) (k : Nat), k ≤ n → J k → (k < n → J (k + 1) → X ((k : Int) + 1)) → F X (k : Int)) : LoopP F (0 : Int) := by
  refine LoopP.intro (fun z : Int => ∃ k : Nat, z = k ∧ k ≤ n ∧ J k) (fun z => n - z.toNat) ⟨0, rfl, by omega, h0⟩ ?_
  rintro X z ⟨k, rfl, hk, hj⟩ hX
  refine h X k hk hj fun hlt hj' => hX _ ⟨k + 1, by omega, by omega, hj'⟩ (by omega)
theorem LoopP.natS {σ : Type} {F : (Int × σ → Prop) → Int × σ → Prop} {s0 : σ} (n : Nat) (J : Nat → σ → Prop) (h0 : J 0 s0) (h : ∀ (X : Int × σ → Prop) (k : Nat) (s : σ), k ≤ n → J k s → (∀ s', k < n → J (k + 1) s' → X ((k : Int) + 1, s')) → F X ((k : Int), s)) : LoopP F ((0 : Int), s0) := by
  refine LoopP.intro (fun z : Int × σ => ∃ k : Nat, z.1 = k ∧ k ≤ n ∧ J k z.2) (fun z => n - z.1.toNat) ⟨0, rfl, by omega, h0⟩ ?_
  rintro X ⟨z, s⟩ ⟨k, e, hk, hj⟩ hX
  dsimp only at e hj
  subst e
  refine h X k s hk hj fun s' hlt hj' => hX _ ⟨k + 1, by simp, by omega, hj'⟩ (by dsimp only; omega)
theorem LoopP.nat2 {τ : Type} {F : (τ × Int → Prop) → τ × Int → Prop} {t0 : τ} (n : Nat) (J : Nat → τ → Prop) (h0 : J 0 t0) (h : ∀ (X : τ × Int → Prop) (k : Nat) (t : τ), k ≤ n → J k t → (∀ t', k < n → J (k + 1) t' → X (t', (k : Int) + 1)) → F X (t, (k : Int))) : LoopP F (t0, (0 : Int)) := by
  refine LoopP.intro (fun z : τ × Int => ∃ k : Nat, z.2 = k ∧ k ≤ n ∧ J k z.1) (fun z => n - z.2.toNat) ⟨0, rfl, by omega, h0⟩ ?_
  rintro X ⟨t, z⟩ ⟨k, e, hk, hj⟩ hX
  dsimp only at e hj
  subst e
  refine h X k t hk hj fun t' hlt hj' => hX _ ⟨k + 1, by simp, by omega, hj'⟩ (by dsimp only; omega)
def FewB (B : Bks) : Prop := B.length ≤ 10 ∧ ∀ l, l ∈ B → l.length ≤ 10
theorem few9_says (B : Bks) : offcutlaw09_few B (decide (FewB B)) := by
  unfold offcutlaw09_few
  refine LoopP.nat (min B.length 11) (fun k => ∀ i (h : i < B.length), i < k → B[i].length ≤ 10) (fun i _ h => by omega) ?_
  intro X k hk hj hX
  unfold offcutlaw09_few_L1
  dsimp only
  refine IfB.dc (fun h => IfB.dc (fun h10 => ?_) (fun h10 => IfB.dc (fun h2 => by omega) (fun h2 => decide_eq_false fun hf => h2 (by have := hf.1; omega)))) (fun h => ?_)
  · have hkl : k < B.length := by omega
    refine ⟨_, Idx.nat hkl, IfB.dc (fun hg => decide_eq_false fun hf => by have := hf.2 _ (List.getElem_mem hkl); omega) (fun hg => ?_)⟩
    rw [wrap64' (by omega) (by omega)]
    refine hX (by omega) fun i hi hik => ?_
    by_cases e : i = k
    · subst e; omega
    · exact hj i hi (by omega)
  · refine IfB.dc (fun h2 => decide_eq_true ⟨by omega, fun l hl => ?_⟩) (fun h2 => decide_eq_false fun hf => h2 (by have := hf.1; omega))
    obtain ⟨i, hi, rfl⟩ := List.getElem_of_mem hl
    exact hj i hi (by omega)
theorem same9_says {A B : Bks} (hA : FewB A) : offcutlaw09_same A B (decide (A = B)) := by
  unfold offcutlaw09_same
  obtain ⟨h1, h2⟩ := hA
  refine IfB.neI (fun hne => decide_eq_false fun e => hne (by rw [e])) (fun hl => ?_)
  have hl : A.length = B.length := by omega
  refine LoopP.nat A.length (fun k => A.take k = B.take k) (by simp) ?_
  intro X k hk hj hX
  unfold offcutlaw09_same_L1
  dsimp only
  refine IfB.dc (fun h => ?_) (fun h => decide_eq_true ?_)
  · have hka : k < A.length := by omega
    have hkb : k < B.length := by omega
    refine ⟨_, Idx.nat hka, _, Idx.nat hkb, IfB.neI (fun hne => decide_eq_false fun e => hne (by subst e; rfl)) (fun hll => ⟨_, Idx.nat hka, ?_⟩)⟩
    have hla := h2 _ (List.getElem_mem hka)
    refine LoopP.nat A[k].length (fun j => A[k].take j = B[k].take j) (by simp) ?_
    intro Y j hjl hjj hY
    unfold offcutlaw09_same_L2
    dsimp only
    refine IfB.dc (fun h => ?_) (fun h => ?_)
    · have ha : j < A[k].length := by omega
      have hb : j < B[k].length := by omega
      refine ⟨_, Idx.nat hka, _, Idx.nat ha, _, Idx.nat hkb, _, Idx.nat hb, IfB.neI (fun hne => decide_eq_false fun e => hne (by subst e; rfl)) (fun he => ?_)⟩
      rw [wrap64' (by omega) (by omega)]
      refine hY ha ?_
      rw [take_succ ha, take_succ hb, hjj, he]
    · rw [wrap64' (by omega) (by omega)]
      refine hX hka ?_
      rw [take_succ hka, take_succ hkb, hj]
      have e1 : j = A[k].length := by omega
      subst e1
      rw [List.take_length, List.take_of_length_le (by omega)] at hjj
      rw [hjj]
  · have e1 : k = A.length := by omega
    subst e1
    rw [List.take_length, List.take_of_length_le (by omega)] at hj
    exact hj
theorem Equal9_says {a b : List Int} (ha : a.length ≤ 1000) : slices_Equal_int_int a b (decide (a = b)) := by
  unfold slices_Equal_int_int
  refine IfB.neI (fun hne => decide_eq_false fun e => hne (by rw [e])) (fun hl => ?_)
  refine LoopP.nat a.length (fun k => a.take k = b.take k) (by simp) ?_
  intro X k hk hj hX
  unfold slices_Equal_int_int_L1
  dsimp only
  refine IfB.dc (fun h => ?_) (fun h => decide_eq_true ?_)
  · have h1 : k < a.length := by omega
    have h2 : k < b.length := by omega
    refine ⟨_, Idx.nat h1, _, Idx.nat h2, IfB.neI (fun hne => decide_eq_false fun e => hne (by subst e; rfl)) (fun he => ?_)⟩
    rw [wrap64' (by omega) (by omega)]
    refine hX h1 ?_
    rw [take_succ h1, take_succ h2, hj, he]
  · rw [List.take_of_length_le (by omega), List.take_of_length_le (by omega)] at hj
    exact hj
theorem Same9_says {A B : Bks} (hA : FewB A) : notes_Same A B (decide (A = B)) := by
  unfold notes_Same
  obtain ⟨h1, h2⟩ := hA
  refine IfB.neI (fun hne => decide_eq_false fun e => hne (by rw [e])) (fun hl => ?_)
  refine LoopP.nat A.length (fun k => A.take k = B.take k) (by simp) ?_
  intro X k hk hj hX
  unfold notes_Same_L1
  dsimp only
  refine IfB.dc (fun h => ?_) (fun h => decide_eq_true ?_)
  · have ha : k < A.length := by omega
    have hb : k < B.length := by omega
    refine ⟨_, Idx.nat ha, _, Idx.nat hb, _, Equal9_says (by have := h2 _ (List.getElem_mem ha); omega), IfB.dc (fun he => ?_) (fun hne => decide_eq_false fun e => hne (by subst e; rfl))⟩
    rw [wrap64' (by omega) (by omega)]
    refine hX ha ?_
    rw [take_succ ha, take_succ hb, hj, he]
  · rw [List.take_of_length_le (by omega), List.take_of_length_le (by omega)] at hj
    exact hj
theorem awk9 {A B : Prop} (h : A) : ∃ x : Bool, offcutlaw09_awake x ∧ IfB x A B := ⟨true, rfl, IfB_true.2 h⟩
theorem law_nsame (A B : Bks) : offcutlaw09_NotesSame A B true := by
  unfold offcutlaw09_NotesSame
  refine ⟨_, few9_says A, IfB.dc (fun hA => ?_) (fun _ => awk9 rfl)⟩
  refine ⟨_, few9_says B, IfB.dc (fun hB => ?_) (fun _ => awk9 rfl)⟩
  have hr : notes_Same A A true := by have := Same9_says (B := A) hA; rwa [decide_eq_true rfl] at this
  refine ⟨_, Same9_says hA, IfB.dc (fun he => ⟨_, same9_says hA, IfB.dc (fun _ => ⟨_, hr, IfB_true.2 (awk9 rfl)⟩) (fun hn => absurd he hn)⟩) (fun hn => ⟨_, same9_says hA, IfB.dc (fun he => absurd he hn) (fun _ => ⟨_, hr, IfB_true.2 (awk9 rfl)⟩)⟩)⟩
end Go.Abs
end

section
namespace Go.Abs
open Go
open Classical
set_option linter.unusedVariables false
set_option linter.unusedSimpArgs false
set_option linter.unnecessarySimpa false
theorem pair_last {r : Int → Int → Prop} {l : List Int} {a b : Int} (ht : ∀ x y z, r x y → r y z → r x z) (h : (l ++ [a]).Pairwise r) (hab : r a b) : (l ++ [a] ++ [b]).Pairwise r := by
  rw [List.pairwise_append]
  refine ⟨h, by simp, fun x hx y hy => ?_⟩
  simp at hy; subst hy
  rcases List.mem_append.1 hx with hx | hx
  · rw [List.pairwise_append] at h
    exact ht _ _ _ (h.2.2 x hx a (by simp)) hab
  · simp at hx; subst hx; exact hab
theorem pair_step {r : Int → Int → Prop} {l : List Int} {k : Nat} (ht : ∀ x y z, r x y → r y z → r x z) (hk : k < l.length) (h0 : 0 < k) (h : (l.take k).Pairwise r) (hab : r (l[k - 1]'(by omega)) l[k]) : (l.take (k + 1)).Pairwise r := by
  obtain ⟨j, rfl⟩ : ∃ j, k = j + 1 := ⟨k - 1, by omega⟩
  have hj : j < l.length := by omega
  rw [take_succ hk]
  rw [take_succ hj] at h ⊢
  exact pair_last ht h hab
theorem pair_two {r : Int → Int → Prop} {l : List Int} {k : Nat} (hk : k < l.length) (h0 : 0 < k) (h : l.Pairwise r) : r (l[k - 1]'(by omega)) l[k] := List.pairwise_iff_getElem.1 h (k - 1) k (by omega) hk (by omega)
theorem Less_says (a b : Int) : cmp_Less_int a b (decide (a < b)) := by
  unfold cmp_Less_int
  refine ⟨false, ?_, IfB_false.2 (IfB.dc (fun h => decide_eq_true h) (fun h => decide_eq_false h))⟩
  unfold cmp_isNaN_int
  exact IfB.neI (fun h => absurd rfl h) (fun _ => rfl)
theorem IsSorted_says {l : List Int} (hl : l.length ≤ 1000) : slices_IsSorted_int_int l (decide (l.Pairwise (· ≤ ·))) := by
  unfold slices_IsSorted_int_int
  rw [wrap64' (by omega) (by omega)]
  refine LoopP.intro (fun z : Int => z < l.length ∧ -1 ≤ z ∧ ∀ (i : Nat) (h : i < l.length), z < i → 0 < i → (l[i - 1]'(by omega)) ≤ l[i]) (fun z => (z + 1).toNat) ⟨by omega, by omega, fun i h hz => by omega⟩ ?_
  rintro X z ⟨h1, h2, hj⟩ hX
  unfold slices_IsSorted_int_int_L1
  dsimp only
  refine IfB.dc (fun h => ?_) (fun h => decide_eq_true ?_)
  · obtain ⟨k, rfl⟩ : ∃ k : Nat, z = k := ⟨z.toNat, by omega⟩
    have hk : k < l.length := by omega
    have e : ((k : Int) - 1) = ((k - 1 : Nat) : Int) := by omega
    rw [wrap64' (by omega) (by omega), e]
    refine ⟨_, Idx.nat hk, _, Idx.nat (by omega : k - 1 < l.length), _, Less_says _ _, IfB.dc (fun hlt => decide_eq_false fun hp => ?_) (fun hge => ?_)⟩
    · have := pair_two hk (by omega) hp
      omega
    · refine hX _ ⟨by omega, by omega, fun i hi hz h0 => ?_⟩ (by omega)
      by_cases e2 : i = k
      · subst e2; omega
      · exact hj i hi (by omega) h0
  · have : ∀ k, k ≤ l.length → (l.take k).Pairwise (· ≤ ·) := by
      intro k
      induction k with
      | zero => simp
      | succ k ih =>
        intro hk
        by_cases h0 : k = 0
        · subst h0; rw [take_succ (by omega)]; simp
        · exact pair_step (fun _ _ _ => Int.le_trans) (by omega) (by omega) (ih (by omega)) (hj k (by omega) (by omega) (by omega))
    have := this l.length (Nat.le_refl _)
    rwa [List.take_length] at this
def HomeP (n : Nat) (B : Bks) : Prop := (∀ k, k ∈ B.flatten → 0 ≤ k ∧ k < n) ∧ B.flatten.Nodup
def heads (B : Bks) : List Int := B.map fun l => l.headD 0
def HeadP (B : Bks) : Prop := (∀ l, l ∈ B → l ≠ [] ∧ l.Pairwise (· ≤ ·)) ∧ (-1 :: heads B).Pairwise (· < ·)
def okBs (n : Nat) (B : Bks) : Prop := HomeP n B ∧ HeadP B
theorem headD_at {l : List Int} (h : 0 < l.length) : l.headD 0 = l[0] := by cases l with | nil => simp at h | cons a l => rfl
theorem HomeP.take {n : Nat} {B : Bks} (h : HomeP n B) (k : Nat) : HomeP n (B.take k) := by
  have : B.flatten = (B.take k).flatten ++ (B.drop k).flatten := by rw [← List.flatten_append, List.take_append_drop]
  refine ⟨fun x hx => h.1 x (by rw [this]; simp [hx]), ?_⟩
  have h2 := h.2
  rw [this, List.nodup_append] at h2
  exact h2.1
theorem heads_take (B : Bks) (k : Nat) : heads (B.take k) = (heads B).take k := by simp [heads, List.map_take]
theorem heads_succ {B : Bks} {k : Nat} (hk : k < B.length) : heads (B.take (k + 1)) = heads (B.take k) ++ [B[k].headD 0] := by rw [take_succ hk, heads, List.map_append]; rfl
theorem HeadP.take {B : Bks} (h : HeadP B) (k : Nat) : HeadP (B.take k) := by
  refine ⟨fun l hl => h.1 l (List.mem_of_mem_take hl), ?_⟩
  rw [heads_take]
  exact h.2.sublist (List.Sublist.cons_cons _ (List.take_sublist _ _))
def JHead (B : Bks) (k : Nat) (last : Int) : Prop := HeadP (B.take k) ∧ last = (-1 :: heads (B.take k)).getLastD 0
theorem JHead.zero (B : Bks) : JHead B 0 (-1) := ⟨⟨by simp, by simp [heads]⟩, by simp [heads]⟩
theorem last_app (a b : Int) (l : List Int) : (a :: (l ++ [b])).getLastD 0 = b := by
  rw [← List.cons_append, List.getLastD_eq_getLast?, List.getLast?_concat]; rfl
theorem pair_snoc {l : List Int} {a b : Int} (h : (a :: l).Pairwise (· < ·)) : (a :: (l ++ [b])).Pairwise (· < ·) ↔ (a :: l).getLastD 0 < b := by
  rw [← List.cons_append, List.pairwise_append]
  constructor
  · rintro ⟨_, _, h3⟩
    refine h3 _ ?_ b (by simp)
    rw [List.getLastD_eq_getLast?]
    cases hl : (a :: l).getLast? with
    | none => simp at hl
    | some x => exact List.mem_of_getLast? hl
  · intro hlt
    refine ⟨h, by simp, fun x hx y hy => ?_⟩
    simp at hy; subst hy
    refine Int.lt_of_le_of_lt ?_ hlt
    clear hlt
    induction l generalizing a with
    | nil => simp at hx; subst hx; simp
    | cons c l ih =>
      rw [List.pairwise_cons] at h
      have e : (a :: c :: l).getLastD 0 = (c :: l).getLastD 0 := by simp [List.getLastD]
      rw [e]
      rcases List.mem_cons.1 hx with rfl | hx
      · refine Int.le_of_lt (h.1 _ ?_)
        rw [List.getLastD_eq_getLast?]
        cases hl : (c :: l).getLast? with
        | none => simp at hl
        | some x => exact List.mem_of_getLast? hl
      · exact ih h.2 hx
theorem JHead.step {B : Bks} {k : Nat} {last : Int} (h : JHead B k last) (hk : k < B.length) (hne : B[k] ≠ []) (hp : B[k].Pairwise (· ≤ ·)) (hl : last < B[k].headD 0) : JHead B (k + 1) (B[k].headD 0) := by
  refine ⟨⟨fun l hl => ?_, ?_⟩, ?_⟩
  · rw [take_succ hk] at hl
    rcases List.mem_append.1 hl with hl | hl
    · exact h.1.1 l hl
    · simp at hl; subst hl; exact ⟨hne, hp⟩
  · rw [heads_succ hk]
    refine (pair_snoc h.1.2).2 ?_
    rw [← h.2]; exact hl
  · rw [heads_succ hk, last_app]
theorem JHead.no {B : Bks} {k : Nat} {last : Int} (h : JHead B k last) (hk : k < B.length) (hn : ¬ last < B[k].headD 0) : ¬ HeadP B := by
  intro hB
  have := (hB.take (k + 1)).2
  rw [heads_succ hk] at this
  have := (pair_snoc h.1.2).1 this
  rw [← h.2] at this
  exact hn this
theorem tail_false {B : Bks} (hB : FewB B) : LoopP (notes_Right_L3 B false) ((-1 : Int), (0 : Int)) := by
  refine LoopP.nat2 B.length (JHead B) (JHead.zero B) ?_
  intro X k last hk hj hX
  unfold notes_Right_L3
  dsimp only
  refine IfB.dc (fun h => ?_) (fun h => rfl)
  have hkl : k < B.length := by omega
  refine ⟨_, Idx.nat hkl, IfB.eqI (fun _ => rfl) (fun h0 => ?_)⟩
  have h0' : 0 < B[k].length := by omega
  have hb := hB.2 _ (List.getElem_mem hkl)
  refine ⟨_, Idx.nat h0', IfB.dc (fun _ => rfl) (fun hgt => ⟨_, IsSorted_says (by omega), IfB.dc (fun hs => ⟨_, Idx.nat h0', ?_⟩) (fun _ => rfl)⟩)⟩
  rw [wrap64' (by have := hB.1; omega) (by have := hB.1; omega), ← headD_at h0']
  exact hX _ hkl (hj.step hkl (by intro e; rw [e] at h0'; simp at h0') hs (by rw [headD_at h0']; omega))
theorem tail_says {V : List By} {C : List Fr} {R : List MRow} {B : Bks} (hB : FewB B) : LoopP (notes_Right_L8 V C R B (decide (HeadP B ∧ MayM V C R))) ((-1 : Int), (0 : Int)) := by
  refine LoopP.nat2 B.length (JHead B) (JHead.zero B) ?_
  intro X k last hk hj hX
  unfold notes_Right_L8
  dsimp only
  refine IfB.dc (fun h => ?_) (fun h => ?_)
  · have hkl : k < B.length := by omega
    refine ⟨_, Idx.nat hkl, IfB.eqI (fun h0 => decide_eq_false fun hp => ?_) (fun h0 => ?_)⟩
    · exact (hp.1.1 _ (List.getElem_mem hkl)).1 (List.eq_nil_of_length_eq_zero (by omega))
    have h0' : 0 < B[k].length := by omega
    have hb := hB.2 _ (List.getElem_mem hkl)
    refine ⟨_, Idx.nat h0', IfB.dc (fun hle => decide_eq_false fun hp => hj.no hkl (by rw [headD_at h0']; omega) hp.1) (fun hgt => ⟨_, IsSorted_says (by omega), IfB.dc (fun hs => ⟨_, Idx.nat h0', ?_⟩) (fun hs => decide_eq_false fun hp => hs (hp.1.1 _ (List.getElem_mem hkl)).2)⟩)⟩
    rw [wrap64' (by have := hB.1; omega) (by have := hB.1; omega), ← headD_at h0']
    exact hX _ hkl (hj.step hkl (by intro e; rw [e] at h0'; simp at h0') hs (by rw [headD_at h0']; omega))
  · have e : k = B.length := by omega
    subst e
    have hH := hj.1
    rw [List.take_length] at hH
    refine ⟨_, model_Right_says V C R, IfB.dc (fun hm => decide_eq_true ⟨hH, hm⟩) (fun hm => decide_eq_false fun hp => hm hp.2)⟩
def entL (b : Int) (l : List Int) : List (Int × Int) := l.map fun k => (k, b)
def entB : Nat → Bks → List (Int × Int)
  | _, [] => []
  | b, l :: B => entL (b : Int) l ++ entB (b + 1) B
theorem entB_app : ∀ (B : Bks) (b : Nat) (l : List Int), entB b (B ++ [l]) = entB b B ++ entL ((b + B.length : Nat) : Int) l
  | [], b, l => by simp [entB]
  | m :: B, b, l => by rw [List.cons_append, entB, entB_app B (b + 1) l, entB, List.append_assoc, List.length_cons, show b + 1 + B.length = b + (B.length + 1) by omega]
theorem entB_succ {B : Bks} {k : Nat} (hk : k < B.length) : entB 0 (B.take (k + 1)) = entB 0 (B.take k) ++ entL (k : Int) B[k] := by
  rw [take_succ hk, entB_app]
  have : (B.take k).length = k := by simp; omega
  rw [this, Nat.zero_add]
theorem entB_keys : ∀ (B : Bks) (b : Nat), (entB b B).map (·.1) = B.flatten
  | [], b => rfl
  | l :: B, b => by
    rw [entB, List.map_append, entB_keys B (b + 1)]
    simp [entL, Function.comp_def]
theorem mGet_none {e : List (Int × Int)} {k : Int} (h : k ∉ e.map (·.1)) : mGet e k = (0, false) := by
  unfold mGet
  have : e.find? (fun p => p.1 == k) = none := by
    rw [List.find?_eq_none]
    intro p hp hk
    exact h (List.mem_map.2 ⟨p, hp, by simpa using hk⟩)
  rw [this]
theorem mGet_some {e : List (Int × Int)} {k : Int} (h : k ∈ e.map (·.1)) : ∃ v, mGet e k = (v, true) ∧ (k, v) ∈ e := by
  unfold mGet
  cases hf : e.find? (fun p => p.1 == k) with
  | none =>
    rw [List.find?_eq_none] at hf
    obtain ⟨p, hp, hk⟩ := List.mem_map.1 h
    exact absurd (by simpa using hk) (hf p hp)
  | some p =>
    have h1 := List.mem_of_find?_eq_some hf
    have h2 : p.1 = k := by simpa using List.find?_some hf
    exact ⟨p.2, rfl, by rw [← h2]; exact h1⟩
def JIn (n : Nat) (B : Bks) (k j : Nat) (e : List (Int × Int)) : Prop := ∃ h : k < B.length, e = entB 0 (B.take k) ++ entL (k : Int) (B[k].take j) ∧ HomeP n (B.take k ++ [B[k].take j])
theorem JIn.zero {n : Nat} {B : Bks} {k : Nat} (hk : k < B.length) (h : HomeP n (B.take k)) : JIn n B k 0 (entB 0 (B.take k)) := ⟨hk, by simp [entL], by simpa [HomeP] using h⟩
theorem JIn.keys {n : Nat} {B : Bks} {k j : Nat} {e : List (Int × Int)} (h : JIn n B k j e) : e.map (·.1) = (B.take k ++ [B[k]'h.1 |>.take j]).flatten := by
  obtain ⟨hk, rfl, _⟩ := h
  rw [List.map_append, entB_keys]
  simp [entL, Function.comp_def]
theorem flat_in {n : Nat} {B : Bks} {k j : Nat} (hk : k < B.length) (hj : j < B[k].length) : (B.take k ++ [B[k].take (j + 1)]).flatten = (B.take k ++ [B[k].take j]).flatten ++ [B[k][j]] := by
  rw [take_succ hj]; simp
theorem JIn.step {n : Nat} {B : Bks} {k j : Nat} {e : List (Int × Int)} (h : JIn n B k j e) (hk : k < B.length) (hj : j < B[k].length) (hx : B[k][j] ∉ e.map (·.1)) (h1 : 0 ≤ B[k][j]) (h2 : B[k][j] < n) : JIn n B k (j + 1) (e ++ [(B[k][j], (k : Int))]) := by
  rw [h.keys] at hx
  obtain ⟨_, rfl, hH⟩ := h
  refine ⟨hk, ?_, ?_⟩
  · rw [take_succ hj, entL, entL, List.map_append, List.append_assoc]; rfl
  · unfold HomeP
    rw [flat_in (n := n) hk hj]
    refine ⟨fun x hx => ?_, ?_⟩
    · rcases List.mem_append.1 hx with hx | hx
      · exact hH.1 x hx
      · simp at hx; subst hx; exact ⟨h1, h2⟩
    · rw [List.nodup_append]
      exact ⟨hH.2, by simp, fun a ha b hb => by simp at hb; subst hb; exact fun e => hx (e ▸ ha)⟩
theorem JIn.done {n : Nat} {B : Bks} {k : Nat} {e : List (Int × Int)} (hk : k < B.length) (h : JIn n B k B[k].length e) : e = entB 0 (B.take (k + 1)) ∧ HomeP n (B.take (k + 1)) := by
  obtain ⟨_, rfl, hH⟩ := h
  rw [List.take_length] at hH ⊢
  exact ⟨(entB_succ hk).symm, by rw [take_succ hk]; exact hH⟩
theorem HomeP.at {n : Nat} {B : Bks} (h : HomeP n B) {k j : Nat} (hk : k < B.length) (hj : j < B[k].length) : 0 ≤ B[k][j] ∧ B[k][j] < n ∧ B[k][j] ∉ (B.take k ++ [B[k].take j]).flatten := by
  have hm : B[k][j] ∈ B.flatten := List.mem_flatten.2 ⟨_, List.getElem_mem hk, List.getElem_mem hj⟩
  obtain ⟨a, b⟩ := h.1 _ hm
  refine ⟨a, b, fun hx => ?_⟩
  have h2 := (h.take (k + 1)).2
  rw [take_succ hk, List.flatten_append, List.nodup_append] at h2
  rw [List.flatten_append] at hx
  have e : ([B[k]] : Bks).flatten = B[k] := by simp
  rw [e] at h2
  rcases List.mem_append.1 hx with hx | hx
  · exact h2.2.2 _ hx _ (List.getElem_mem hj) rfl
  · have hx : B[k][j] ∈ B[k].take j := by simpa using hx
    obtain ⟨i, hi, hi2⟩ := List.mem_take_iff_getElem.1 hx
    have := (List.getElem_inj h2.2.1).1 hi2
    omega
theorem Right9_says (V : List By) (C : List Fr) (R : List MRow) {B : Bks} (hB : FewB B) (hV : V.length ≤ 1000) : notes_Right V C R B (decide (okBs V.length B ∧ MayM V C R)) := by
  unfold notes_Right
  refine LoopP.natS B.length (fun k e => e = entB 0 (B.take k) ∧ HomeP V.length (B.take k)) ⟨by simp [entB], by simp [HomeP]⟩ ?_
  rintro X k e hk ⟨rfl, hH⟩ hX
  unfold notes_Right_L1
  dsimp only
  have b1 := hB.1
  refine IfB.dc (fun h => ?_) (fun h => ?_)
  · have hkl : k < B.length := by omega
    have b2 := hB.2 _ (List.getElem_mem hkl)
    refine ⟨_, Idx.nat hkl, ?_⟩
    refine LoopP.natS B[k].length (JIn V.length B k) (JIn.zero hkl hH) ?_
    intro Y j e hjl hj hY
    unfold notes_Right_L2
    dsimp only
    refine IfB.dc (fun h => ?_) (fun h => ?_)
    · have hjk : j < B[k].length := by omega
      have no : ∀ {r : Bool}, ¬ (0 ≤ B[k][j] ∧ B[k][j] < (V.length : Nat) ∧ B[k][j] ∉ (B.take k ++ [B[k].take j]).flatten) → r = false → decide (okBs V.length B ∧ MayM V C R) = r := fun hn hr => by
        rw [hr]; exact decide_eq_false fun hp => hn (hp.1.1.at hkl hjk)
      by_cases hin : B[k][j] ∈ e.map (·.1)
      · obtain ⟨v, hv, _⟩ := mGet_some hin
        rw [no (r := false) (fun hp => hp.2.2 (by rw [hj.keys] at hin; exact hin)) rfl]
        refine ⟨_, Idx.nat hjk, _, _, hv, IfB_true.2 (IfB.dc (fun _ => tail_false hB) (fun _ => IfB.dc (fun _ => tail_false hB) (fun _ => tail_false hB)))⟩
      · refine ⟨_, Idx.nat hjk, _, _, mGet_none hin, IfB_false.2 (IfB.dc (fun h0 => ?_) (fun h0 => IfB.dc (fun h1 => ?_) (fun h1 => ⟨by rw [mGet_none hin], ?_⟩)))⟩
        · rw [no (r := false) (fun hp => by omega) rfl]; exact tail_false hB
        · rw [no (r := false) (fun hp => by omega) rfl]; exact tail_false hB
        · rw [wrap64' (by omega) (by omega)]
          exact hY _ hjk (hj.step hkl hjk hin (by omega) (by omega))
    · have ej : j = B[k].length := by omega
      subst ej
      obtain ⟨rfl, h2⟩ := hj.done hkl
      rw [wrap64' (by omega) (by omega)]
      exact hX _ hkl ⟨rfl, h2⟩
  · have e : k = B.length := by omega
    subst e
    rw [List.take_length] at hH
    have : (okBs V.length B ∧ MayM V C R) = (HeadP B ∧ MayM V C R) := propext ⟨fun h => ⟨h.1.2, h.2⟩, fun h => ⟨⟨hH, h.1⟩, h.2⟩⟩
    rw [show decide (okBs V.length B ∧ MayM V C R) = decide (HeadP B ∧ MayM V C R) by rw [decide_eq_decide]; exact ⟨fun h => ⟨h.1.2, h.2⟩, fun h => ⟨⟨hH, h.1⟩, h.2⟩⟩]
    exact tail_says hB
end Go.Abs
end
