/- Chapter 07, plain: blanks at both ends and what stands behind a # change nothing. -/
import Derived.Test.YtibeobmcanaedaaDoorL07a
import Derived.Test.YtibeobmcanaedaaDoorG07bD
namespace Go.Abs
set_option linter.unusedVariables false
set_option linter.unusedSimpArgs false
set_option linter.unnecessarySimpa false

theorem index_any_iff (chars : List UInt8) : ∀ s : List UInt8, 0 ≤ Lib.indexAny s chars ↔ ∃ b, b ∈ s ∧ b ∈ chars
  | [] => by simp [Lib.indexAny]
  | b :: l => by
    have ih := index_any_iff chars l
    have hg := Lib.indexAny_ge chars l
    unfold Lib.indexAny
    split
    · rename_i h
      simp only [List.contains_eq_mem, decide_eq_true_eq] at h
      exact ⟨fun _ => ⟨b, by simp, h⟩, fun _ => by omega⟩
    · rename_i h
      simp only [List.contains_eq_mem, decide_eq_true_eq] at h
      have e : (∃ c, c ∈ b :: l ∧ c ∈ chars) ↔ ∃ c, c ∈ l ∧ c ∈ chars := by
        constructor
        · rintro ⟨c, hc, h2⟩
          rcases List.mem_cons.1 hc with rfl | hc
          · exact absurd h2 h
          · exact ⟨c, hc, h2⟩
        · rintro ⟨c, hc, h2⟩; exact ⟨c, by simp [hc], h2⟩
      rw [e, ← ih]
      split
      · rename_i h1; have h1 := beq_iff_eq.1 h1; constructor <;> intro <;> omega
      · rename_i h1; have h1 : Lib.indexAny l chars ≠ -1 := fun e => h1 (beq_iff_eq.2 e); constructor <;> intro <;> omega

theorem contains_any_false {s chars : List UInt8} (h : Lib.containsAny s chars = false) : ∀ b, b ∈ s → b ∈ chars → False := fun b h1 h2 => by
  have := (index_any_iff chars s).2 ⟨b, h1, h2⟩
  simp [Lib.containsAny] at h
  omega

theorem split_none {c : UInt8} : ∀ {s : List UInt8}, (∀ b, b ∈ s → b ≠ c) → splitC c s = [s]
  | [], _ => rfl
  | b :: l, h => by
    unfold splitC
    rw [if_neg (h b (by simp)), split_none fun b hb => h b (by simp [hb])]

theorem head_none {s : List UInt8} (h : ∀ b, b ∈ s → b ≠ 35) : head35 s = s := by
  unfold head35
  rw [cut_one]
  induction s with
  | nil => rfl
  | cons b l ih =>
    rw [List.takeWhile_cons_of_pos (by simpa using h b (by simp)), ih fun c hc => h c (by simp [hc])]
theorem head_app {a b : List UInt8} (h : ∀ c, c ∈ a → c ≠ 35) : head35 (a ++ 35 :: b) = a := by
  unfold head35
  rw [cut_one, List.takeWhile_append_of_pos (by simpa using h)]
  simp

def blanks (n : Nat) : List UInt8 := List.replicate n 32
theorem repeat_blank (n : Nat) : Lib.repeatL [32] n = blanks n := by
  induction n with
  | zero => rfl
  | succ n ih => rw [Lib.repeatL, ih]; rfl
theorem sp32 : Lib.isSp 32 = true := rfl
theorem fields_lead (n : Nat) (s : List UInt8) : Lib.fieldsGo [] (blanks n ++ s) = Lib.fieldsGo [] s := by
  induction n with
  | zero => rfl
  | succ n ih =>
    rw [blanks, List.replicate_succ, List.cons_append, Lib.fieldsGo, if_pos sp32]
    exact ih
theorem fields_blank (n : Nat) : ∀ cur : List UInt8, Lib.fieldsGo cur (blanks n) = Lib.fieldsGo cur [] := by
  induction n with
  | zero => intro cur; rfl
  | succ n ih =>
    intro cur
    have e : Lib.fieldsGo cur (blanks (n + 1)) = if cur.isEmpty then Lib.fieldsGo [] (blanks n) else cur :: Lib.fieldsGo [] (blanks n) := by
      rw [blanks, List.replicate_succ]
      show (if Lib.isSp 32 = true then _ else _) = _
      rw [if_pos sp32]
      rfl
    rw [e, ih []]
    cases cur <;> simp [Lib.fieldsGo]
theorem fields_trail (n : Nat) : ∀ (s cur : List UInt8), Lib.fieldsGo cur (s ++ blanks n) = Lib.fieldsGo cur s
  | [], cur => fields_blank n cur
  | b :: l, cur => by
    rw [List.cons_append, Lib.fieldsGo, Lib.fieldsGo, fields_trail n l, fields_trail n l]
theorem fields_pad (n : Nat) (s : List UInt8) : Lib.fields (blanks n ++ s ++ blanks n ++ [32]) = Lib.fields s := by
  have e : blanks n ++ s ++ blanks n ++ [32] = blanks n ++ (s ++ blanks (n + 1)) := by
    rw [show blanks (n + 1) = blanks n ++ [32] from List.replicate_succ']
    simp
  unfold Lib.fields
  rw [e, fields_lead, fields_trail]

/-! ### how long words are, joined -/
def wlen (l : List (List UInt8)) : Nat := (l.map fun x => x.length + 1).sum
theorem fields_wlen : ∀ (l cur : List UInt8), wlen (Lib.fieldsGo cur l) ≤ cur.length + l.length + 1
  | [], cur => by cases cur <;> simp [Lib.fieldsGo, wlen]
  | b :: l, cur => by
    have i1 := fields_wlen l []
    have i2 := fields_wlen l (cur ++ [b])
    unfold Lib.fieldsGo
    split
    · cases cur with
      | nil => simp at i1 ⊢; omega
      | cons c t => simp [wlen] at i1 ⊢; omega
    · simp at i2 ⊢; omega
theorem wlen_len (l : List (List UInt8)) : l.length ≤ wlen l := by
  induction l with
  | nil => simp [wlen]
  | cons x l ih => simp [wlen] at ih ⊢; omega
theorem tail_len (c : UInt8) (l : List (List UInt8)) : (Lib.joinTail [c] l).length = wlen l := by
  induction l with
  | nil => rfl
  | cons x l ih =>
    simp only [Lib.joinTail, wlen, List.map_cons, List.flatten_cons, List.length_append, List.length_cons, List.length_nil, List.sum_cons] at ih ⊢
    omega
theorem join_len (c : UInt8) (l : List (List UInt8)) : (Lib.join l [c]).length ≤ wlen l := by
  cases l with
  | nil => rw [Lib.join_nil]; exact Nat.zero_le _
  | cons x l =>
    rw [Lib.join_cons, List.length_append, tail_len]
    simp [wlen]

theorem f13_says {l : List (List UInt8)} {c : UInt8} (h : wlen l ≤ 1000000) : f13 l [c] (Lib.join l [c]) :=
  ⟨by have := wlen_len l; omega, by have := join_len c l; omega, rfl⟩

theorem law_blank (s : List UInt8) (more : Int) (note : List UInt8) (h0 : 0 ≤ more) (h1 : more ≤ 255) : f8 s more note true := by
  unfold f8
  refine IfB.dec (fun _ => ⟨true, rfl, by simp⟩) (fun hl => IfB.dec (fun _ => ⟨true, rfl, by simp⟩) (fun hn => ⟨by unfold Fits; omega, ?_⟩))
  have hlen : (s ++ note).length ≤ 600 := by simp; omega
  by_cases hr : RightP (s ++ note)
  · refine ⟨true, f11_says (by omega) (by simp [hr]), IfB_true.2 ⟨by unfold Fits; omega, Lib.containsAny (s ++ note) [10, 35], ⟨by unfold Short; omega, by unfold Short; simp, fun b hb => ?_, fun b hb => ?_, rfl⟩, ?_⟩⟩
    · have := hr.mem hb; unfold mayB at this; omega
    · simp at hb; rcases hb with rfl | rfl <;> decide
    refine IfB.bool (fun _ => ⟨true, rfl, by simp⟩) (fun hc => ?_)
    have hno := contains_any_false hc
    have n10 : ∀ b, b ∈ s ++ note → b ≠ 10 := fun b hb e => hno b hb (by simp [e])
    have n35 : ∀ b, b ∈ s ++ note → b ≠ 35 := fun b hb e => hno b hb (by simp [e])
    obtain ⟨n, en, hn20⟩ : ∃ n : Nat, Int.tmod (IntKind.i64.wrap more) (20 : Int) = n ∧ n < 20 := by
      rw [wrap64 (by constructor <;> omega), Int.tmod_eq_emod_of_nonneg h0]
      exact ⟨(more % 20).toNat, by omega, by omega⟩
    rw [en]
    refine ⟨blanks n, ⟨n, rfl, by omega, by simp; omega, (repeat_blank n).symm⟩, ?_⟩
    have hbl : (blanks n).length = n := by simp [blanks]
    have hs10 : ∀ b, b ∈ s → b ≠ 10 := fun b hb => n10 b (by simp [hb])
    have hs35 : ∀ b, b ∈ s → b ≠ 35 := fun b hb => n35 b (by simp [hb])
    have hrs : ∀ b, b ∈ s → mayB b := fun b hb => hr.mem (by simp [hb])
    have hrn : ∀ b, b ∈ note → mayB b := fun b hb => hr.mem (by simp [hb])
    have mem_blank : ∀ b, b ∈ blanks n → b = 32 := fun b hb => (List.mem_replicate.1 hb).2
    have toP : ∀ t : List UInt8, (∀ b, b ∈ t → mayB b) → RightP t := fun t h i b _ hb => h b (List.mem_of_getElem? hb)
    have e1 : allL s = linesFrom 0 [s] := by unfold allL; rw [split_none hs10]
    have w1 : wordsOf s = Lib.fields s := by unfold wordsOf; rw [head_none hs35]
    generalize ht : (((blanks n ++ s) ++ blanks n) ++ ([32, 35] : List UInt8)) ++ note = t
    have et : t = (blanks n ++ s ++ blanks n ++ [32]) ++ 35 :: note := by rw [← ht]; simp
    have mem_t : ∀ b, b ∈ t → b = 32 ∨ b = 35 ∨ b ∈ s ∨ b ∈ note := fun b hb => by
      rw [et] at hb
      simp only [List.mem_append, List.mem_cons, List.not_mem_nil, or_false] at hb
      rcases hb with (((h | h) | h) | h) | h | h
      · exact .inl (mem_blank b h)
      · exact .inr (.inr (.inl h))
      · exact .inl (mem_blank b h)
      · exact .inl h
      · exact .inr (.inl h)
      · exact .inr (.inr (.inr h))
    have ht10 : ∀ b, b ∈ t → b ≠ 10 := fun b hb => by
      rcases mem_t b hb with rfl | rfl | h | h
      · decide
      · decide
      · exact hs10 b h
      · exact n10 b (by simp [h])
    have htm : ∀ b, b ∈ t → mayB b := fun b hb => by
      rcases mem_t b hb with rfl | rfl | h | h
      · exact .inr (by decide)
      · exact .inr (by decide)
      · exact hrs b h
      · exact hrn b h
    have e2 : allL t = linesFrom 0 [t] := by unfold allL; rw [split_none ht10]
    have w2 : wordsOf t = Lib.fields s := by
      unfold wordsOf
      rw [et, head_app, fields_pad]
      intro c hc
      simp only [List.mem_append, List.mem_cons, List.not_mem_nil, or_false] at hc
      rcases hc with ((h | h) | h) | h
      · rw [mem_blank c h]; decide
      · exact hs35 c h
      · rw [mem_blank c h]; decide
      · rw [h]; decide
    have htl : t.length ≤ 700 := by rw [← ht]; simp [hbl]; omega
    have hall : allL t = allL s := by rw [e1, e2]; simp only [linesFrom, w1, w2]
    refine ⟨allL s, 0, f10_says (by omega) (toP s hrs), by unfold Fits; omega, by unfold Fits; simp [hbl]; omega, by unfold Fits; simp [hbl]; omega, by unfold Fits; simp [hbl]; omega, allL t, 0, f10_says (by omega) (toP t htm), ?_⟩
    rw [hall]
    have hL : (allL s).length ≤ 1 := by rw [e1]; exact linesFrom_length [s] 0
    have hw : wlen (Lib.fields s) ≤ 1000000 := by have := fields_wlen s []; unfold Lib.fields; simp at this; omega
    refine IfB.nei (fun h => absurd rfl h) (fun _ => IfB.nei (fun h => absurd rfl h) (fun _ => IfB.nei (fun h => absurd rfl h) (fun _ => IfB.dec (fun h => by omega) (fun _ => IfB.eqi (fun _ => ⟨true, rfl, by simp⟩) (fun hne => ?_)))))
    have hx : allL s = [((0 : Int) + 1, Lib.fields s)] := by
      rw [e1] at hne ⊢
      simp only [linesFrom, w1] at hne ⊢
      split
      · rfl
      · rename_i h; rw [if_neg h] at hne; exact absurd rfl hne
    rw [hx]
    exact ⟨_, _, ⟨by omega, rfl⟩, _, f13_says hw, _, _, ⟨by omega, rfl⟩, _, f13_says hw, IfB.bool (fun _ => ⟨true, rfl, by simp⟩) (fun h => by simp at h)⟩
  · exact ⟨false, f11_says (by omega) (by simp [hr]), IfB_false.2 ⟨true, rfl, by simp⟩⟩

end Go.Abs
