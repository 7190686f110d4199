/- Chapter 07, plain: the lines by the library's searches are those found byte by byte. -/
import Derived.Test.YtibeobmcanaedaaDoorL07c
import Derived.Test.YtibeobmcanaedaaDoorG07cD
import Derived.Test.YtibeobmcanaedaaDoorG07dD
namespace Go.Abs
set_option linter.unusedVariables false
set_option linter.unusedSimpArgs false
set_option linter.unnecessarySimpa false

abbrev Ws := List (List UInt8)
abbrev Ls := List (Int × Ws)
def flushW (ws : Ws) (w : List UInt8) : Ws := if w = [] then ws else ws ++ [w]
def emitL (n : Int) (ws : Ws) : Ls := if 0 < ws.length then [(n, ws)] else []
/-- The lines, byte by byte. -/
def goL (word : List UInt8) (off : Bool) (n : Int) (ws : Ws) : List UInt8 → Ls
  | [] => emitL n (flushW ws word)
  | b :: l => if b.toNat = 10 then emitL n (flushW ws word) ++ goL [] false (n + 1) [] l else if off = true ∨ b.toNat = 35 then goL [] true n (flushW ws word) l
    else if b.toNat = 32 then goL [] false n (flushW ws word) l else goL (word ++ [b]) off n ws l

theorem flush_fields (ws : Ws) (w : List UInt8) : flushW ws w = ws ++ Lib.fieldsGo w [] := by
  unfold flushW
  cases w <;> simp [Lib.fieldsGo]

theorem u8 {b : UInt8} {c : Nat} (hc : c < 256) : b.toNat = c ↔ b = c.toUInt8 := by
  constructor
  · intro h; subst h; simp
  · rintro rfl; simp; omega

theorem goL_eq : ∀ (l word : List UInt8) (off : Bool) (n : Int) (ws : Ws), (∀ b, b ∈ l → mayB b) → (off = true → word = []) → ∃ x r, splitC 10 l = x :: r ∧ goL word off n ws l = emitL n (if off = true then ws else ws ++ Lib.fieldsGo word (head35 x)) ++ linesFrom n r
  | [], word, off, n, ws, _, ho => by
    refine ⟨[], [], rfl, ?_⟩
    have h0 : head35 [] = [] := by unfold head35; rw [cut_one]; rfl
    rw [h0]
    simp only [goL, linesFrom, List.append_nil]
    cases off with
    | true => rw [ho rfl]; simp [flushW]
    | false => rw [flush_fields]; simp
  | b :: l, word, off, n, ws, hm, ho => by
    have hm' : ∀ c, c ∈ l → mayB c := fun c hc => hm c (by simp [hc])
    have hb := hm b (by simp)
    by_cases h10 : b.toNat = 10
    · have e10 : b = 10 := (u8 (by decide)).1 h10
      obtain ⟨x, r, e1, e2⟩ := goL_eq l [] false (n + 1) [] hm' (by simp)
      refine ⟨[], splitC 10 l, by rw [splitC, if_pos e10], ?_⟩
      rw [goL, if_pos h10, e2, e1]
      have h0 : head35 [] = [] := by unfold head35; rw [cut_one]; rfl
      have e3 : linesFrom n (x :: r) = emitL (n + 1) (wordsOf x) ++ linesFrom (n + 1) r := by
        rw [linesFrom]; unfold emitL
        split <;> simp
      rw [e3, h0]
      have e4 : emitL n (flushW ws word) = emitL n (if off = true then ws else ws ++ Lib.fieldsGo word []) := by
        cases off with
        | true => rw [ho rfl]; simp [flushW]
        | false => rw [flush_fields]; simp
      rw [e4]
      simp [wordsOf, Lib.fields]
    · have e10 : ¬ b = 10 := fun e => h10 ((u8 (by decide)).2 e)
      have sp : ∀ x r, splitC 10 l = x :: r → splitC 10 (b :: l) = (b :: x) :: r := fun x r e => by rw [splitC, if_neg e10, e]
      rw [goL, if_neg h10]
      by_cases h35 : off = true ∨ b.toNat = 35
      · rw [if_pos h35]
        obtain ⟨x, r, e1, e2⟩ := goL_eq l [] true n (flushW ws word) hm' (by simp)
        refine ⟨b :: x, r, sp x r e1, ?_⟩
        rw [e2]
        cases off with
        | true => rw [ho rfl]; simp [flushW]
        | false =>
          have hb35 : b = 35 := (u8 (by decide)).1 (h35.resolve_left (by simp))
          have h0 : head35 (b :: x) = [] := by unfold head35; rw [cut_one, hb35]; simp
          rw [h0, flush_fields]; simp
      · rw [if_neg h35]
        have hoff : off = false := by cases off <;> simp at h35 ⊢
        subst hoff
        have n35 : b ≠ 35 := fun e => h35 (.inr ((u8 (by decide)).2 e))
        have hh : ∀ x, head35 (b :: x) = b :: head35 x := fun x => by
          unfold head35; rw [cut_one, cut_one, List.takeWhile_cons_of_pos (by simpa using n35)]
        by_cases h32 : b.toNat = 32
        · rw [if_pos h32]
          obtain ⟨x, r, e1, e2⟩ := goL_eq l [] false n (flushW ws word) hm' (by simp)
          refine ⟨b :: x, r, sp x r e1, ?_⟩
          have hb32 : b = 32 := (u8 (by decide)).1 h32
          have e3 : Lib.fieldsGo word (b :: head35 x) = if word.isEmpty then Lib.fieldsGo [] (head35 x) else word :: Lib.fieldsGo [] (head35 x) := by
            subst hb32; rfl
          rw [e2, hh, e3]
          cases word <;> simp [flushW]
        · rw [if_neg h32]
          obtain ⟨x, r, e1, e2⟩ := goL_eq l (word ++ [b]) false n ws hm' (by simp)
          refine ⟨b :: x, r, sp x r e1, ?_⟩
          have hns : Lib.isSp b = false := by
            unfold mayB at hb
            have k : ∀ c : Nat, c < 256 → b.toNat ≠ c → (b == c.toUInt8) = false := fun c hc h => by
              rw [beq_eq_false_iff_ne]; exact fun e => h ((u8 hc).2 e)
            have h9 := k 9 (by decide) (by omega); have h10' := k 10 (by decide) h10; have h11 := k 11 (by decide) (by omega); have h12 := k 12 (by decide) (by omega); have h13 := k 13 (by decide) (by omega); have h32' := k 32 (by decide) h32
            unfold Lib.isSp
            simp at h9 h10' h11 h12 h13 h32' ⊢
            exact ⟨⟨⟨⟨⟨h9, h10'⟩, h11⟩, h12⟩, h13⟩, h32'⟩
          have e3 : Lib.fieldsGo word (b :: head35 x) = Lib.fieldsGo (word ++ [b]) (head35 x) := by
            rw [Lib.fieldsGo, if_neg (by rw [hns]; simp)]
          rw [e2, hh, e3]

theorem goL_all {s : List UInt8} (hr : RightP s) : goL [] false 1 [] s = allL s := by
  obtain ⟨x, r, e1, e2⟩ := goL_eq s [] false 1 [] (fun b hb => hr.mem hb) (by simp)
  rw [e2]
  unfold allL
  rw [e1, linesFrom]
  unfold emitL
  simp only [Bool.false_eq_true, if_false, List.nil_append]
  show (if 0 < (wordsOf x).length then _ else _) ++ _ = _
  split <;> simp [wordsOf, Lib.fields]

def J12 (s : List UInt8) (G : Ls) : (List UInt8) × Bool × Int × Int × Ls × Ws → Prop
  | (word, off, z, n, out, ws) => ∃ i : Nat, z = i ∧ i ≤ s.length + 1 ∧ 0 ≤ n ∧ n ≤ i + 1 ∧ word.length ≤ i ∧ out.length ≤ i ∧ ws.length ≤ i ∧ (off = true → word = []) ∧ (i ≤ s.length → out ++ goL word off n ws (s.drop i) = G) ∧ (i = s.length + 1 → out = G)

theorem f12_says {s : List UInt8} (hs : s.length ≤ 100000) : f12 s (goL [] false 1 [] s) := by
  unfold f12
  generalize hG : goL [] false 1 [] s = G
  refine LoopP.intro (J12 s G) (fun z => s.length + 1 - z.2.2.1.toNat) ⟨0, rfl, Nat.zero_le _, by omega, by omega, Nat.le_refl _, Nat.le_refl _, Nat.le_refl _, fun _ => rfl, fun _ => hG, fun h => by omega⟩ ?_
  rintro X ⟨word, off, z, n, out, ws⟩ ⟨i, rfl, hi, hn0, hn1, hw, ho, hws, hoff, hgo, hend⟩ hX
  have eI : i ≤ s.length → IntKind.i64.wrap ((i : Int) + 1) = ((i + 1 : Nat) : Int) := fun _ => by rw [wrap64 (by constructor <;> omega)]; simp
  have eN : IntKind.i64.wrap (n + 1) = n + 1 := wrap64 (by constructor <;> omega)
  have hflen : (flushW ws word).length ≤ i + 1 := by
    unfold flushW
    split
    · omega
    · rw [List.length_append, List.length_singleton]; omega
  have fl0 : (!(word == ([] : List UInt8))) = false → flushW ws word = ws := fun h => by
    have : word = [] := by simpa using h
    simp [flushW, this]
  have fl1 : (!(word == ([] : List UInt8))) = true → flushW ws word = ws ++ [word] := fun h => by
    have : ¬ word = [] := by simpa using h
    simp [flushW, this]
  -- a line's end, or the text's
  have fin : ∀ ws', flushW ws word = ws' → i ≤ s.length → (∀ b, s[i]? = some b → b.toNat = 10) →
      IfB (decide ((ws'.length : Int) > (0 : Int))) (Fits (out.length + [(n, ws')].length) 32 ∧ X (([] : List UInt8), false, (IntKind.i64.wrap ((i : Int) + 1)), (IntKind.i64.wrap (n + 1)), (out ++ [(n, ws')]), ([] : Ws)))
        (X (([] : List UInt8), false, (IntKind.i64.wrap ((i : Int) + 1)), (IntKind.i64.wrap (n + 1)), out, ([] : Ws))) := by
    intro ws' hf hle hb
    rw [eI hle, eN]
    have key : ∀ out', out ++ emitL n ws' = out' → (i + 1 ≤ s.length → out' ++ goL [] false (n + 1) [] (s.drop (i + 1)) = G) ∧ (i + 1 = s.length + 1 → out' = G) := by
      rintro out' rfl
      have hg := hgo hle
      refine ⟨fun h => ?_, fun h => ?_⟩
      · have hlt : i < s.length := h
        have h10 := hb _ (List.getElem?_eq_getElem hlt)
        rw [List.drop_eq_getElem_cons hlt, goL, if_pos h10, hf] at hg
        rw [List.append_assoc]; exact hg
      · rw [List.drop_of_length_le (by omega), goL, hf] at hg
        exact hg
    refine IfB.dec (fun hp => ⟨by unfold Fits; simp; omega, ?_⟩) (fun hp => ?_)
    · obtain ⟨k1, k2⟩ := key (out ++ [(n, ws')]) (by unfold emitL; rw [if_pos (by omega)])
      exact hX _ ⟨i + 1, rfl, by omega, by omega, by omega, by simp, by simp; omega, by simp, by simp, k1, k2⟩ (by simp; omega)
    · obtain ⟨k1, k2⟩ := key out (by unfold emitL; rw [if_neg (by omega)]; simp)
      exact hX _ ⟨i + 1, rfl, by omega, by omega, by omega, by simp, by omega, by simp, by simp, k1, k2⟩ (by simp; omega)
  have fin2 : i ≤ s.length → (∀ b, s[i]? = some b → b.toNat = 10) → IfB (!(word == ([] : List UInt8))) (Fits (ws.length + [word].length) 16 ∧ IfB (decide (((ws ++ [word]).length : Int) > (0 : Int))) (Fits (out.length + [(n, (ws ++ [word]))].length) 32 ∧ X (([] : List UInt8), false, (IntKind.i64.wrap ((i : Int) + 1)), (IntKind.i64.wrap (n + 1)), (out ++ [(n, (ws ++ [word]))]), ([] : Ws)))
        (X (([] : List UInt8), false, (IntKind.i64.wrap ((i : Int) + 1)), (IntKind.i64.wrap (n + 1)), out, ([] : Ws))))
      (IfB (decide ((ws.length : Int) > (0 : Int))) (Fits (out.length + [(n, ws)].length) 32 ∧ X (([] : List UInt8), false, (IntKind.i64.wrap ((i : Int) + 1)), (IntKind.i64.wrap (n + 1)), (out ++ [(n, ws)]), ([] : Ws)))
        (X (([] : List UInt8), false, (IntKind.i64.wrap ((i : Int) + 1)), (IntKind.i64.wrap (n + 1)), out, ([] : Ws)))) := fun h1 h2 =>
    IfB.bool (fun h => ⟨by unfold Fits; simp; omega, fin _ (fl1 h) h1 h2⟩) (fun h => fin _ (fl0 h) h1 h2)
  -- a word's end
  have blank : ∀ (b : UInt8) (off' : Bool), s[i]? = some b → b.toNat ≠ 10 → ((off' = true ∧ (off = true ∨ b.toNat = 35)) ∨ (off' = false ∧ off = false ∧ b.toNat = 32)) →
      IfB (!(word == ([] : List UInt8))) (Fits (ws.length + [word].length) 16 ∧ X (([] : List UInt8), off', (IntKind.i64.wrap ((i : Int) + 1)), n, out, (ws ++ [word]))) (X (([] : List UInt8), off', (IntKind.i64.wrap ((i : Int) + 1)), n, out, ws)) := by
    intro b off' hb h10 hk
    obtain ⟨hlt, hbe⟩ := List.getElem?_eq_some_iff.1 hb
    have hle : i ≤ s.length := by omega
    have hg := hgo hle
    rw [List.drop_eq_getElem_cons hlt, hbe, goL, if_neg h10] at hg
    have hg2 : out ++ goL [] off' n (flushW ws word) (s.drop (i + 1)) = G := by
      rcases hk with ⟨rfl, hk⟩ | ⟨rfl, hf, h32⟩
      · rw [if_pos hk] at hg; exact hg
      · rw [if_neg (by rw [hf]; simp; omega), if_pos h32] at hg; exact hg
    rw [eI hle]
    have go : ∀ ws', flushW ws word = ws' → X (([] : List UInt8), off', ((i + 1 : Nat) : Int), n, out, ws') := by
      rintro ws' rfl
      exact hX _ ⟨i + 1, rfl, by omega, hn0, by omega, by simp, by omega, hflen, by simp, fun _ => hg2, fun h => by omega⟩ (by simp; omega)
    exact IfB.bool (fun h => ⟨by unfold Fits; simp; omega, go _ (fl1 h)⟩) (fun h => go _ (fl0 h))
  unfold f12_L1
  have hbyte : ∀ A : UInt8 → Prop, i < s.length → (∀ b, s[i]? = some b → A b) → ∃ c, Idx s (i : Int) c ∧ A c := fun A hlt h => by
    have hb := List.getElem?_eq_getElem hlt
    exact ⟨_, ⟨Int.natCast_nonneg _, by simpa using hb⟩, h _ hb⟩
  cases off with
  | true =>
    refine IfB_true.2 (IfB.dec (fun hle => IfB.eqi (fun he => ?_) (fun hne => ?_)) (fun hgt => (hend (by omega)).symm ▸ rfl))
    · exact fin2 (by omega) (fun b hb => by have := (List.getElem?_eq_some_iff.1 hb).1; omega)
    · refine hbyte _ (by omega) fun b hb => IfB.eqi (fun h => fin2 (by omega) (fun b' hb' => by rw [hb] at hb'; cases hb'; omega)) (fun h10 => ?_)
      refine hbyte _ (by omega) fun b' hb' => ?_
      rw [hb] at hb'; cases hb'
      exact IfB.eqi (fun _ => blank b true hb (by omega) (.inl ⟨rfl, .inl rfl⟩)) (fun _ => blank b true hb (by omega) (.inl ⟨rfl, .inl rfl⟩))
  | false =>
    refine IfB_false.2 (IfB.dec (fun hle => IfB.eqi (fun he => ?_) (fun hne => ?_)) (fun hgt => (hend (by omega)).symm ▸ rfl))
    · exact fin2 (by omega) (fun b hb => by have := (List.getElem?_eq_some_iff.1 hb).1; omega)
    · refine hbyte _ (by omega) fun b hb => IfB.eqi (fun h => fin2 (by omega) (fun b' hb' => by rw [hb] at hb'; cases hb'; omega)) (fun h10 => ?_)
      refine hbyte _ (by omega) fun b' hb' => ?_
      rw [hb] at hb'; cases hb'
      refine IfB.eqi (fun h35 => blank b true hb (by omega) (.inl ⟨rfl, .inr (by omega)⟩)) (fun h35 => ?_)
      refine hbyte _ (by omega) fun b' hb' => ?_
      rw [hb] at hb'; cases hb'
      refine IfB.eqi (fun h32 => blank b false hb (by omega) (.inr ⟨rfl, rfl, by omega⟩)) (fun h32 => ?_)
      obtain ⟨hlt, hbe⟩ := List.getElem?_eq_some_iff.1 hb
      have hsub : sub s (i : Int) (IntKind.i64.wrap ((i : Int) + 1)) = [b] := by
        rw [eI (by omega)]
        unfold sub
        simp only [Int.toNat_natCast]
        rw [List.drop_eq_getElem_cons hlt, hbe, show i + 1 - i = 1 by omega]
        rfl
      rw [hsub, eI (by omega)]
      refine ⟨⟨by omega, by omega, by omega⟩, by unfold Fits; simp; omega, hX _ ⟨i + 1, rfl, by omega, hn0, by omega, by simp; omega, by omega, by omega, by simp, fun _ => ?_, fun h => by omega⟩ (by simp; omega)⟩
      have hg := hgo (by omega)
      rw [List.drop_eq_getElem_cons hlt, hbe, goL, if_neg (by omega), if_neg (by simp; omega), if_neg (by omega)] at hg
      exact hg

theorem f10_many {s : List UInt8} (h : 65536 < s.length) : f10 s ([], 4) := by
  unfold f10
  exact IfB.dec (fun _ => rfl) (fun h' => by omega)

theorem f10_form {s : List UInt8} (hl : s.length ≤ 65536) (hr : ¬ RightP s) : f10 s ([], 2) := by
  unfold f10
  refine IfB.dec (fun h => by omega) (fun _ => ?_)
  refine LoopP.intro (fun k => k ≤ s.length ∧ RightTo s k) (fun k => s.length - k) ⟨Nat.zero_le _, fun i b h => by omega⟩ ?_
  rintro X k ⟨hk, hn⟩ hX
  unfold f10_L1
  refine IfB.dec (fun hlt => ?_) (fun hge => ?_)
  · obtain ⟨b, hb⟩ : ∃ b, s[k]? = some b := ⟨_, List.getElem?_eq_getElem hlt⟩
    by_cases hm : mayB b
    · have hm' := hm
      unfold mayB at hm'
      rcases rune_at hb with ⟨h1, h2, h3⟩ | ⟨h1, h2, h3⟩
      · refine ⟨true, f27_says (by rw [h2]; simp; omega), IfB_true.2 ?_⟩
        rw [h3]
        exact hX _ ⟨hlt, hn.next hb hm⟩ (by omega)
      · omega
    · have hm' := hm
      unfold mayB at hm'
      refine ⟨false, f27_says ?_, IfB_false.2 rfl⟩
      rcases rune_at hb with ⟨h1, h2, h3⟩ | ⟨h1, h2, h3⟩
      · rw [h2]; simp; omega
      · simp; omega
  · exfalso
    have e : k = s.length := by omega
    subst e
    exact hr hn

/-- Words of a text are short, joined. -/
theorem all_wlen (s : List UInt8) : ∀ x, x ∈ allL s → wlen x.2 ≤ s.length + 1 := by
  have key : ∀ (l : List (List UInt8)) (k : Int), (∀ y, y ∈ l → y.length ≤ s.length) → ∀ x, x ∈ linesFrom k l → wlen x.2 ≤ s.length + 1 := by
    intro l
    induction l with
    | nil => intro k _ x hx; simp [linesFrom] at hx
    | cons y l ih =>
      intro k hy x hx
      have hx' : x ∈ (if 0 < (wordsOf y).length then (k + 1, wordsOf y) :: linesFrom (k + 1) l else linesFrom (k + 1) l) := hx
      have one : wlen (wordsOf y) ≤ s.length + 1 := by
        have h1 := fields_wlen (head35 y) []
        have h2 := (head_mem (s := y)).2
        have h3 := hy y (by simp)
        unfold wordsOf Lib.fields
        simp at h1
        omega
      split at hx'
      · rcases List.mem_cons.1 hx' with rfl | hx'
        · exact one
        · exact ih _ (fun z hz => hy z (by simp [hz])) x hx'
      · exact ih _ (fun z hz => hy z (by simp [hz])) x hx'
  exact key _ 0 fun y hy => (split_mem hy).2

theorem law_loop {L : Ls} {F : (Int → Prop) → Int → Prop} (hL : L.length ≤ 100000) (hw : ∀ x, x ∈ L → wlen x.2 ≤ 1000000)
    (h1 : ∀ (X : Int → Prop) (k : Nat), k < L.length → X (IntKind.i64.wrap ((k : Int) + 1)) → ∀ x, Idx L (k : Int) x → (∃ y, f13 x.2 [32] y) → F X k) (h2 : ∀ (X : Int → Prop), F X (L.length : Int)) : LoopP F (0 : Int) := by
  refine LoopP.intro (fun z : Int => ∃ k : Nat, z = k ∧ k ≤ L.length) (fun z => L.length - z.toNat) ⟨0, rfl, Nat.zero_le _⟩ ?_
  rintro X _ ⟨k, rfl, hk⟩ hX
  by_cases h : k < L.length
  · have hx := List.getElem?_eq_getElem h
    refine h1 X k h ?_ L[k] ⟨Int.natCast_nonneg _, by simpa using hx⟩ ⟨_, f13_says (hw _ (List.getElem_mem h))⟩
    rw [wrap64 (by constructor <;> omega)]
    exact hX _ ⟨k + 1, by simp, h⟩ (by omega)
  · have : k = L.length := by omega
    subst this
    exact h2 X

theorem law_all (s : List UInt8) : f3 s true := by
  unfold f3
  refine IfB.dec (fun h1 => IfB.dec (fun h2 => ⟨true, rfl, by simp⟩) (fun h2 => ?_)) (fun h1 => ?_)
  · refine ⟨[], 4, f10_many (by omega), IfB.dec (fun _ => IfB.eqi (fun _ => IfB.eqi (fun _ => ⟨true, rfl, by simp⟩) (fun h => absurd rfl h)) (fun h => absurd rfl h)) (fun h => by omega)⟩
  · by_cases hr : RightP s
    · refine ⟨allL s, 0, f10_says (by omega) hr, IfB.dec (fun h => by omega) (fun _ => ⟨true, f11_says (by omega) (by simp [hr]), IfB_true.2 ⟨allL s, goL_all hr ▸ f12_says (by omega), IfB.nei (fun h => absurd rfl h) (fun _ => IfB.nei (fun h => absurd rfl h) (fun _ => ?_))⟩⟩)⟩
      have hL : (allL s).length ≤ 100000 := by
        have h1 := linesFrom_length (splitC 10 s) 0
        rw [split_len, show linesFrom 0 (splitC 10 s) = allL s from rfl] at h1
        have h2 := List.count_le_length (a := (10 : UInt8)) (l := s)
        omega
      refine law_loop hL (fun x hx => by have := all_wlen s x hx; omega) (fun X k hk hX x hx hy => ?_) (fun X => ?_)
      · obtain ⟨y, hy⟩ := hy
        unfold f3_L2
        refine IfB.dec (fun _ => ?_) (fun h => by omega)
        refine ⟨x.1, x.2, hx, x.1, x.2, hx, IfB.nei (fun h => absurd rfl h) (fun _ => ⟨x.1, x.2, hx, y, hy, x.1, x.2, hx, y, hy, IfB.bool (fun h => by simp at h) (fun _ => ⟨x.1, x.2, hx, x.1, x.2, hx, IfB.nei (fun h => absurd rfl h) (fun _ => hX)⟩)⟩)⟩
      · unfold f3_L2
        exact IfB.dec (fun h => by omega) (fun _ => ⟨true, rfl, by simp⟩)
    · exact ⟨[], 2, f10_form (by omega) hr, IfB.dec (fun h => by omega) (fun _ => ⟨false, f11_says (by omega) (by simp [hr]), IfB_false.2 (IfB.eqi (fun _ => IfB.eqi (fun _ => ⟨true, rfl, by simp⟩) (fun h => absurd rfl h)) (fun h => absurd rfl h))⟩)⟩
end Go.Abs
