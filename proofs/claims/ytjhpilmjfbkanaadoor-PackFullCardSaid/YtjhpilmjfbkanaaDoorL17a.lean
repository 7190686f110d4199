/- Chapter 17, plain: the order of the items is by width, the widest first, and of equals the first. -/
import Derived.Test.YtjhpilmjfbkanaaDoorG17aD
import Derived.Test.YtjhpilmjfbkanaaDoorP17i
namespace Go.Abs
set_option linter.unusedVariables false
set_option linter.unusedSimpArgs false
set_option linter.unnecessarySimpa false

theorem IfB.dec {p : Prop} [Decidable p] {A B : Prop} (h1 : p → A) (h2 : ¬ p → B) : IfB (decide p) A B := ⟨fun h => h1 (of_decide_eq_true h), fun h => h2 (of_decide_eq_false h)⟩

def Wd (ws : List Int) (i : Nat) : Int := ws.getD i 0
/-- i comes ahead of j. -/
def Rb (ws : List Int) (i j : Nat) : Prop := Wd ws i > Wd ws j ∨ (Wd ws i = Wd ws j ∧ i < j)

theorem Rb.trans {ws : List Int} {i j k : Nat} (h1 : Rb ws i j) (h2 : Rb ws j k) : Rb ws i k := by
  unfold Rb at *; omega
theorem Rb.irrefl {ws : List Int} {i : Nat} (h : Rb ws i i) : False := by unfold Rb at h; omega
theorem Rb.asymm {ws : List Int} {i j : Nat} (h1 : Rb ws i j) (h2 : Rb ws j i) : False := (h1.trans h2).irrefl
theorem Rb.total {ws : List Int} {i j : Nat} (h : i ≠ j) : Rb ws i j ∨ Rb ws j i := by unfold Rb; omega

def ofN (l : List Nat) : List Int := l.map Int.ofNat
@[simp] theorem ofN_length (l : List Nat) : (ofN l).length = l.length := by simp [ofN]
theorem ofN_idx {l : List Nat} {z : Int} {x : Nat} (h0 : 0 ≤ z) (h : l[z.toNat]? = some x) : Idx (ofN l) z (x : Int) := ⟨h0, by simp [ofN, h]⟩
theorem ofN_set (l : List Nat) (i x : Nat) : (ofN l).set i (x : Int) = ofN (l.set i x) := by simp [ofN, List.map_set]

theorem mid_set1 {A B : List Nat} {y x : Nat} {j : Nat} (hj : A.length + 1 = j) : (A ++ y :: x :: B).set j y = A ++ y :: y :: B := by
  subst hj
  rw [List.set_append_right _ _ (by omega)]
  simp
theorem mid_set2 {A B : List Nat} {y x : Nat} : (A ++ y :: y :: B).set A.length x = A ++ x :: y :: B := by
  rw [List.set_append_right _ _ (by omega)]; simp
theorem mid_get1 {A B : List Nat} {y x : Nat} {j : Nat} (hj : A.length + 1 = j) : (A ++ y :: x :: B)[j]? = some x := by
  subst hj
  rw [List.getElem?_append_right (by omega)]; simp
theorem mid_get2 {A B : List Nat} {y : Nat} {j : Nat} (hj : A.length = j) : (A ++ y :: B)[j]? = some y := by
  subst hj
  rw [List.getElem?_append_right (by omega)]; simp

theorem wd_in {ws : List Int} (hw : ∀ w, w ∈ ws → 0 ≤ w ∧ w ≤ 1048576) (i : Nat) : 0 ≤ Wd ws i ∧ Wd ws i ≤ 1048576 := by
  unfold Wd
  rw [List.getD_eq_getElem?_getD]
  cases h : ws[i]? with
  | none => simp
  | some w => exact hw w (List.mem_of_getElem? h)
theorem wd_idx {ws : List Int} {z : Int} {i : Nat} (hz : z = (i : Int)) (h : i < ws.length) : Idx ws z (Wd ws i) := by
  subst hz
  exact ⟨Int.natCast_nonneg _, by simp [Wd, List.getD_eq_getElem?_getD, h]⟩

/-- Where one more is put. -/
def Sorted (ws : List Int) (A : List Nat) : Prop := A.Pairwise (Rb ws)

/-- The inner loop puts item i where it belongs. -/
theorem insert_ok {ws : List Int} (hw : ∀ w, w ∈ ws → 0 ≤ w ∧ w ≤ 1048576) (hn : ws.length ≤ 12) {i : Nat} (hi : i < ws.length) {A B : List Nat} (hA : Sorted ws A) (hp : A.Perm (List.range i)) (X5 : (Int × List Int) → Prop)
    (hX : ∀ A', Sorted ws A' → A'.Perm (List.range (i + 1)) → X5 (((i + 1 : Nat) : Int), ofN (A' ++ B))) : LoopP (f18_L6 ws 0 (i : Int) X5) ((i : Int), ofN (A ++ i :: B)) := by
  have lenA : A.length = i := by simpa using hp.length_eq
  refine LoopP.intro (fun s => ∃ (j : Nat) (A1 A2 : List Nat), s.1 = (j : Int) ∧ A1.length = j ∧ A1 ++ A2 = A ∧ s.2 = ofN (A1 ++ i :: (A2 ++ B)) ∧ ∀ y, y ∈ A2 → Rb ws i y) (fun s => s.1.toNat) ⟨i, A, [], rfl, lenA, by simp, rfl, by simp⟩ ?_
  rintro X ⟨a, l⟩ ⟨j, A1, A2, rfl, hj, hAA, rfl, hR⟩ hX'
  simp only at hX'
  have hlen : j ≤ i := by have := congrArg List.length hAA; simp at this; omega
  have done : (∀ y, y ∈ A1 → Rb ws y i) → X5 (IntKind.i64.wrap ((i : Int) + 1), ofN (A1 ++ i :: (A2 ++ B))) := by
    intro h
    rw [wrap64 (by constructor <;> omega)]
    have := hX (A1 ++ i :: A2) ?_ ?_
    · simpa using this
    · unfold Sorted at *
      rw [← hAA] at hA
      rw [List.pairwise_append] at hA ⊢
      refine ⟨hA.1, List.pairwise_cons.2 ⟨hR, hA.2.1⟩, ?_⟩
      intro x hx y hy
      rcases List.mem_cons.1 hy with rfl | hy
      · exact h x hx
      · exact hA.2.2 x hx y hy
    · rw [List.range_succ]
      refine (List.perm_middle.trans ?_).trans List.perm_append_comm.symm
      rw [hAA]; exact List.Perm.cons i hp
  unfold f18_L6
  simp only
  refine IfB.dec (fun h => ?_) (fun h => ?_)
  · -- there is one ahead
    obtain ⟨A0, y, rfl⟩ : ∃ A0 y, A1 = A0 ++ [y] := by
      rcases List.eq_nil_or_concat A1 with rfl | ⟨A0, y, rfl⟩
      · simp at hj; omega
      · exact ⟨A0, y, by simp⟩
    have hj0 : A0.length + 1 = j := by simpa using hj
    have ej : IntKind.i64.wrap ((j : Int) - 1) = (A0.length : Int) := by rw [wrap64 (by constructor <;> omega)]; omega
    have el : A0 ++ [y] ++ i :: (A2 ++ B) = A0 ++ y :: i :: (A2 ++ B) := by simp
    have hyA : y ∈ A := by rw [← hAA]; simp
    have hyi : y < i := by have := hp.mem_iff.1 hyA; simpa using this
    have g1 : Idx (ofN (A0 ++ y :: i :: (A2 ++ B))) (j : Int) (i : Int) := ofN_idx (by omega) (by simpa using mid_get1 hj0)
    have g2 : Idx (ofN (A0 ++ y :: i :: (A2 ++ B))) (A0.length : Int) (y : Int) := ofN_idx (by omega) (by simp)
    have wi := wd_in hw i
    have wy := wd_in hw y
    have s1 : (ofN (A0 ++ y :: i :: (A2 ++ B))).set (j : Int).toNat (y : Int) = ofN (A0 ++ y :: y :: (A2 ++ B)) := by
      rw [ofN_set]; congr 1; exact mid_set1 (by simpa using hj0)
    rw [el, ej]
    refine ⟨_, g1, _, g2, _, ⟨_, wd_idx rfl (by omega), _, wd_idx rfl hi, rfl⟩, ?_⟩
    refine IfB.dec (fun hc => ?_) (fun hc => ?_)
    · rw [wrap64 (by constructor <;> omega)] at hc
      refine ⟨_, g2, _, g1, _, g1, (y : Int), ?_, ?_⟩
      · rw [s1]; exact ofN_idx (by omega) (by simp)
      · rw [s1]
        have s2 : (ofN (A0 ++ y :: y :: (A2 ++ B))).set (A0.length : Int).toNat (i : Int) = ofN (A0 ++ i :: (y :: A2 ++ B)) := by
          rw [ofN_set]; congr 1; exact mid_set2
        rw [s2]
        refine hX' _ ⟨A0.length, A0, y :: A2, rfl, rfl, by rw [← hAA]; simp, rfl, ?_⟩ (by simp; omega)
        intro z hz
        rcases List.mem_cons.1 hz with rfl | hz
        · left; omega
        · exact hR z hz
    · rw [wrap64 (by constructor <;> omega)] at hc
      have hyi' : Rb ws y i := by unfold Rb; omega
      have := done (fun z hz => ?_)
      · rw [el] at this; exact this
      · rw [List.mem_append] at hz
        rcases hz with hz | hz
        · refine Rb.trans ?_ hyi'
          unfold Sorted at hA
          rw [← hAA, List.append_assoc, List.pairwise_append] at hA
          exact hA.2.2 z hz y (by simp)
        · simp at hz; subst hz; exact hyi'
  · have : A1 = [] := by
      cases A1 with
      | nil => rfl
      | cons x l => simp at hj; omega
    subst this
    exact done (by simp)

theorem order_ok {ws : List Int} (hw : ∀ w, w ∈ ws → 0 ≤ w ∧ w ≤ 1048576) (hn : ws.length ≤ 12) : ∃ A, Sorted ws A ∧ A.Perm (List.range ws.length) ∧ f18 ws (ofN A) := by
  obtain ⟨A, h1, h2, h3⟩ : ∃ A, Sorted ws A ∧ A.Perm (List.range ws.length) ∧ ∀ r, r = ofN A → f18 ws r := by
    -- the answer is unique, but it must be told ahead: it is what sorting comes to
    have ex : ∀ n, n ≤ ws.length → ∃ A, Sorted ws A ∧ A.Perm (List.range n) := by
      intro n
      induction n with
      | zero => intro _; exact ⟨[], List.Pairwise.nil, List.Perm.refl _⟩
      | succ n ih =>
        intro hle
        obtain ⟨A, hA, hp⟩ := ih (by omega)
        have key : ∀ A : List Nat, Sorted ws A → n ∉ A → ∃ A', Sorted ws A' ∧ A'.Perm (n :: A) := by
          intro A
          induction A with
          | nil => intro _ _; exact ⟨[n], List.pairwise_singleton _ _, List.Perm.refl _⟩
          | cons x A ihA =>
            intro hs hm
            have hne : n ≠ x := fun e => hm (by simp [e])
            rcases Rb.total (ws := ws) hne with h | h
            · refine ⟨n :: x :: A, List.pairwise_cons.2 ⟨?_, hs⟩, List.Perm.refl _⟩
              intro y hy
              rcases List.mem_cons.1 hy with rfl | hy
              · exact h
              · exact h.trans ((List.pairwise_cons.1 hs).1 y hy)
            · obtain ⟨A', h1, h2⟩ := ihA (List.pairwise_cons.1 hs).2 (fun e => hm (by simp [e]))
              refine ⟨x :: A', List.pairwise_cons.2 ⟨?_, h1⟩, (List.Perm.cons x h2).trans (List.Perm.swap n x A)⟩
              intro y hy
              rcases List.mem_cons.1 (h2.mem_iff.1 hy) with rfl | hy
              · exact h
              · exact (List.pairwise_cons.1 hs).1 y hy
        obtain ⟨A', h1, h2⟩ := key A hA (fun e => by have := hp.mem_iff.1 e; simp at this)
        refine ⟨A', h1, h2.trans ?_⟩
        rw [List.range_succ]
        exact (List.Perm.cons n hp).trans (List.perm_append_singleton n _).symm
    obtain ⟨A, hA, hp⟩ := ex ws.length (Nat.le_refl _)
    refine ⟨A, hA, hp, ?_⟩
    rintro r rfl
    -- two sorted rows of the same items are one
    have uniq : ∀ A' : List Nat, Sorted ws A' → A'.Perm (List.range ws.length) → A' = A := fun A' h1 h2 =>
      (h2.trans hp.symm).eq_of_pairwise (fun a b _ _ h1 h2 => (h1.asymm h2).elim) h1 hA
    unfold f18
    refine LoopP.intro (fun s => ∃ i : Nat, i ≤ ws.length ∧ s = ((i : Int), ofN (List.range i))) (fun s => ws.length - s.1.toNat) ⟨0, by omega, rfl⟩ ?_
    rintro X ⟨a, l⟩ ⟨i, hi, he⟩ hX
    cases he
    simp only at hX
    unfold f18_L1
    simp only
    refine IfB.dec (fun h => ?_) (fun h => ?_)
    · refine ⟨by simp [Fits]; omega, hX _ ⟨i + 1, by omega, ?_⟩ ?_⟩
      · rw [wrap64 (by constructor <;> omega), List.range_succ]; simp [ofN]
      · rw [wrap64 (by constructor <;> omega)]; omega
    · obtain rfl : i = ws.length := by omega
      refine LoopP.intro (fun s => s = ((0 : Int), (20 : Int), ofN (List.range ws.length))) (fun _ => 0) rfl ?_
      rintro X2 _ rfl _
      unfold f18_L2
      simp only [ofN_length, List.length_range]
      refine IfB.dec (fun h => by omega) (fun _ => ?_)
      refine LoopP.intro (fun s => ∃ (i : Nat) (A : List Nat), 1 ≤ i ∧ s.1 = (i : Int) ∧ Sorted ws A ∧ A.Perm (List.range (min i ws.length)) ∧ s.2 = ofN (A ++ (List.range' (min i ws.length) (ws.length - min i ws.length)))) (fun s => ws.length + 1 - s.1.toNat) ?_ ?_
      · refine ⟨1, List.range (min 1 ws.length), by omega, rfl, ?_, List.Perm.refl _, ?_⟩
        · rcases Nat.eq_zero_or_pos ws.length with h0 | h0
          · rw [h0]; exact List.Pairwise.nil
          · rw [Nat.min_eq_left h0]; exact List.pairwise_singleton _ _
        · show ofN (List.range ws.length) = ofN _
          congr 1
          have e := List.range'_append_1 (s := 0) (m := min 1 ws.length) (n := ws.length - min 1 ws.length)
          have e2 : min 1 ws.length + (ws.length - min 1 ws.length) = ws.length := by omega
          rw [e2, Nat.zero_add] at e
          rw [List.range_eq_range', List.range_eq_range', e]
      · rintro X5 ⟨a, l⟩ ⟨i, A5, h1, rfl, hA5, hp5, rfl⟩ hX5
        simp only at hX5
        unfold f18_L5
        simp only [ofN_length, List.length_range]
        refine IfB.dec (fun hlt => ?_) (fun hge => ?_)
        · have hlt' : i < ws.length := by omega
          rw [Nat.min_eq_left (by omega)] at hp5 ⊢
          have er : List.range' i (ws.length - i) = i :: List.range' (i + 1) (ws.length - (i + 1)) := by
            have : ws.length - i = (ws.length - (i + 1)) + 1 := by omega
            rw [this, List.range'_succ]
          rw [er]
          refine insert_ok hw hn hlt' hA5 hp5 X5 (fun A' hs hpp => ?_)
          · refine hX5 _ ⟨i + 1, A', by omega, rfl, hs, ?_, ?_⟩ (by simp; omega)
            · rw [Nat.min_eq_left (by omega)]; exact hpp
            · rw [Nat.min_eq_left (by omega)]
        · have hm : min i ws.length = ws.length := by omega
          rw [hm] at hp5 ⊢
          refine LoopP.intro (fun s => s = 20) (fun _ => 0) rfl ?_
          rintro X7 _ rfl _
          unfold f18_L7
          simp only [ofN_length, List.length_range]
          refine IfB.dec (fun h => by omega) (fun _ => ?_)
          rw [uniq A5 hA5 hp5]; simp
  exact ⟨A, h1, h2, h3 _ rfl⟩

end Go.Abs
