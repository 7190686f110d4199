/- Part of a proof, in few files: L9a L9b L9c L9e L9f L8m L8n. -/
import Derived.Test.YtojdnnogpffhpaaGreatDoorNPaK23
import Derived.Test.YtojdnnogpffhpaaGreatDoorNPaK15

section
namespace Go.Abs
open Go
open Classical
set_option linter.unusedVariables false
set_option linter.unusedSimpArgs false
set_option linter.unnecessarySimpa false
abbrev Bks := List (List Int)
theorem LoopP.nat {F : (Int → Prop) → Int → Prop} (n : Nat) (J : Nat → Prop) (h0 : J 0) (h : ∀ (X : Int → Prop) (k : Nat), k ≤ n → J k → (k < n → J (k + 1) → X ((k : Int) + 1)) → F X (k : Int)) : LoopP F (0 : Int) := by
  refine LoopP.intro (fun z : Int => ∃ k : Nat, z = k ∧ k ≤ n ∧ J k) (fun z => n - z.toNat) ⟨0, rfl, by omega, h0⟩ ?_
  rintro X z ⟨k, rfl, hk, hj⟩ hX
  refine h X k hk hj fun hlt hj' => hX _ ⟨k + 1, by omega, by omega, hj'⟩ (by omega)
theorem LoopP.natS {σ : Type} {F : (Int × σ → Prop) → Int × σ → Prop} {s0 : σ} (n : Nat) (J : Nat → σ → Prop) (h0 : J 0 s0) (h : ∀ (X : Int × σ → Prop) (k : Nat) (s : σ), k ≤ n → J k s → (∀ s', k < n → J (k + 1) s' → X ((k : Int) + 1, s')) → F X ((k : Int), s)) : LoopP F ((0 : Int), s0) := by
  refine LoopP.intro (fun z : Int × σ => ∃ k : Nat, z.1 = k ∧ k ≤ n ∧ J k z.2) (fun z => n - z.1.toNat) ⟨0, rfl, by omega, h0⟩ ?_
  rintro X ⟨z, s⟩ ⟨k, e, hk, hj⟩ hX
  dsimp only at e hj
  subst e
  refine h X k s hk hj fun s' hlt hj' => hX _ ⟨k + 1, by simp, by omega, hj'⟩ (by dsimp only; omega)
theorem LoopP.nat2 {τ : Type} {F : (τ × Int → Prop) → τ × Int → Prop} {t0 : τ} (n : Nat) (J : Nat → τ → Prop) (h0 : J 0 t0) (h : ∀ (X : τ × Int → Prop) (k : Nat) (t : τ), k ≤ n → J k t → (∀ t', k < n → J (k + 1) t' → X (t', (k : Int) + 1)) → F X (t, (k : Int))) : LoopP F (t0, (0 : Int)) := by
  refine LoopP.intro (fun z : τ × Int => ∃ k : Nat, z.2 = k ∧ k ≤ n ∧ J k z.1) (fun z => n - z.2.toNat) ⟨0, rfl, by omega, h0⟩ ?_
  rintro X ⟨t, z⟩ ⟨k, e, hk, hj⟩ hX
  dsimp only at e hj
  subst e
  refine h X k t hk hj fun t' hlt hj' => hX _ ⟨k + 1, by simp, by omega, hj'⟩ (by dsimp only; omega)
def FewB (B : Bks) : Prop := B.length ≤ 10 ∧ ∀ l, l ∈ B → l.length ≤ 10
theorem same9_says {A B : Bks} (hA : FewB A) : offcutlaw09_same A B (decide (A = B)) := by
  unfold offcutlaw09_same
  obtain ⟨h1, h2⟩ := hA
  refine IfB.neI (fun hne => decide_eq_false fun e => hne (by rw [e])) (fun hl => ?_)
  have hl : A.length = B.length := by omega
  refine LoopP.nat A.length (fun k => A.take k = B.take k) (by simp) ?_
  intro X k hk hj hX
  unfold offcutlaw09_same_L1
  dsimp only
  refine IfB.dc (fun h => ?_) (fun h => decide_eq_true ?_)
  · have hka : k < A.length := by omega
    have hkb : k < B.length := by omega
    refine ⟨_, Idx.nat hka, _, Idx.nat hkb, IfB.neI (fun hne => decide_eq_false fun e => hne (by subst e; rfl)) (fun hll => ⟨_, Idx.nat hka, ?_⟩)⟩
    have hla := h2 _ (List.getElem_mem hka)
    refine LoopP.nat A[k].length (fun j => A[k].take j = B[k].take j) (by simp) ?_
    intro Y j hjl hjj hY
    unfold offcutlaw09_same_L2
    dsimp only
    refine IfB.dc (fun h => ?_) (fun h => ?_)
    · have ha : j < A[k].length := by omega
      have hb : j < B[k].length := by omega
      refine ⟨_, Idx.nat hka, _, Idx.nat ha, _, Idx.nat hkb, _, Idx.nat hb, IfB.neI (fun hne => decide_eq_false fun e => hne (by subst e; rfl)) (fun he => ?_)⟩
      rw [wrap64' (by omega) (by omega)]
      refine hY ha ?_
      rw [take_succ ha, take_succ hb, hjj, he]
    · rw [wrap64' (by omega) (by omega)]
      refine hX hka ?_
      rw [take_succ hka, take_succ hkb, hj]
      have e1 : j = A[k].length := by omega
      subst e1
      rw [List.take_length, List.take_of_length_le (by omega)] at hjj
      rw [hjj]
  · have e1 : k = A.length := by omega
    subst e1
    rw [List.take_length, List.take_of_length_le (by omega)] at hj
    exact hj
theorem awk9 {A B : Prop} (h : A) : ∃ x : Bool, offcutlaw09_awake x ∧ IfB x A B := ⟨true, rfl, IfB_true.2 h⟩
end Go.Abs
end

section
namespace Go.Abs
open Go
open Classical
set_option linter.unusedVariables false
set_option linter.unusedSimpArgs false
set_option linter.unnecessarySimpa false
theorem pair_last {r : Int → Int → Prop} {l : List Int} {a b : Int} (ht : ∀ x y z, r x y → r y z → r x z) (h : (l ++ [a]).Pairwise r) (hab : r a b) : (l ++ [a] ++ [b]).Pairwise r := by
  rw [List.pairwise_append]
  refine ⟨h, by simp, fun x hx y hy => ?_⟩
  simp at hy; subst hy
  rcases List.mem_append.1 hx with hx | hx
  · rw [List.pairwise_append] at h
    exact ht _ _ _ (h.2.2 x hx a (by simp)) hab
  · simp at hx; subst hx; exact hab
theorem pair_step {r : Int → Int → Prop} {l : List Int} {k : Nat} (ht : ∀ x y z, r x y → r y z → r x z) (hk : k < l.length) (h0 : 0 < k) (h : (l.take k).Pairwise r) (hab : r (l[k - 1]'(by omega)) l[k]) : (l.take (k + 1)).Pairwise r := by
  obtain ⟨j, rfl⟩ : ∃ j, k = j + 1 := ⟨k - 1, by omega⟩
  have hj : j < l.length := by omega
  rw [take_succ hk]
  rw [take_succ hj] at h ⊢
  exact pair_last ht h hab
theorem pair_two {r : Int → Int → Prop} {l : List Int} {k : Nat} (hk : k < l.length) (h0 : 0 < k) (h : l.Pairwise r) : r (l[k - 1]'(by omega)) l[k] := List.pairwise_iff_getElem.1 h (k - 1) k (by omega) hk (by omega)
theorem Less_says (a b : Int) : cmp_Less_int a b (decide (a < b)) := by
  unfold cmp_Less_int
  refine ⟨false, ?_, IfB_false.2 (IfB.dc (fun h => decide_eq_true h) (fun h => decide_eq_false h))⟩
  unfold cmp_isNaN_int
  exact IfB.neI (fun h => absurd rfl h) (fun _ => rfl)
theorem IsSorted_says {l : List Int} (hl : l.length ≤ 1000) : slices_IsSorted_int_int l (decide (l.Pairwise (· ≤ ·))) := by
  unfold slices_IsSorted_int_int
  rw [wrap64' (by omega) (by omega)]
  refine LoopP.intro (fun z : Int => z < l.length ∧ -1 ≤ z ∧ ∀ (i : Nat) (h : i < l.length), z < i → 0 < i → (l[i - 1]'(by omega)) ≤ l[i]) (fun z => (z + 1).toNat) ⟨by omega, by omega, fun i h hz => by omega⟩ ?_
  rintro X z ⟨h1, h2, hj⟩ hX
  unfold slices_IsSorted_int_int_L1
  dsimp only
  refine IfB.dc (fun h => ?_) (fun h => decide_eq_true ?_)
  · obtain ⟨k, rfl⟩ : ∃ k : Nat, z = k := ⟨z.toNat, by omega⟩
    have hk : k < l.length := by omega
    have e : ((k : Int) - 1) = ((k - 1 : Nat) : Int) := by omega
    rw [wrap64' (by omega) (by omega), e]
    refine ⟨_, Idx.nat hk, _, Idx.nat (by omega : k - 1 < l.length), _, Less_says _ _, IfB.dc (fun hlt => decide_eq_false fun hp => ?_) (fun hge => ?_)⟩
    · have := pair_two hk (by omega) hp
      omega
    · refine hX _ ⟨by omega, by omega, fun i hi hz h0 => ?_⟩ (by omega)
      by_cases e2 : i = k
      · subst e2; omega
      · exact hj i hi (by omega) h0
  · have : ∀ k, k ≤ l.length → (l.take k).Pairwise (· ≤ ·) := by
      intro k
      induction k with
      | zero => simp
      | succ k ih =>
        intro hk
        by_cases h0 : k = 0
        · subst h0; rw [take_succ (by omega)]; simp
        · exact pair_step (fun _ _ _ => Int.le_trans) (by omega) (by omega) (ih (by omega)) (hj k (by omega) (by omega) (by omega))
    have := this l.length (Nat.le_refl _)
    rwa [List.take_length] at this
def HomeP (n : Nat) (B : Bks) : Prop := (∀ k, k ∈ B.flatten → 0 ≤ k ∧ k < n) ∧ B.flatten.Nodup
def heads (B : Bks) : List Int := B.map fun l => l.headD 0
def HeadP (B : Bks) : Prop := (∀ l, l ∈ B → l ≠ [] ∧ l.Pairwise (· ≤ ·)) ∧ (-1 :: heads B).Pairwise (· < ·)
def okBs (n : Nat) (B : Bks) : Prop := HomeP n B ∧ HeadP B
theorem headD_at {l : List Int} (h : 0 < l.length) : l.headD 0 = l[0] := by cases l with | nil => simp at h | cons a l => rfl
theorem HomeP.take {n : Nat} {B : Bks} (h : HomeP n B) (k : Nat) : HomeP n (B.take k) := by
  have : B.flatten = (B.take k).flatten ++ (B.drop k).flatten := by rw [← List.flatten_append, List.take_append_drop]
  refine ⟨fun x hx => h.1 x (by rw [this]; simp [hx]), ?_⟩
  have h2 := h.2
  rw [this, List.nodup_append] at h2
  exact h2.1
theorem heads_take (B : Bks) (k : Nat) : heads (B.take k) = (heads B).take k := by simp [heads, List.map_take]
theorem heads_succ {B : Bks} {k : Nat} (hk : k < B.length) : heads (B.take (k + 1)) = heads (B.take k) ++ [B[k].headD 0] := by rw [take_succ hk, heads, List.map_append]; rfl
theorem HeadP.take {B : Bks} (h : HeadP B) (k : Nat) : HeadP (B.take k) := by
  refine ⟨fun l hl => h.1 l (List.mem_of_mem_take hl), ?_⟩
  rw [heads_take]
  exact h.2.sublist (List.Sublist.cons_cons _ (List.take_sublist _ _))
def JHead (B : Bks) (k : Nat) (last : Int) : Prop := HeadP (B.take k) ∧ last = (-1 :: heads (B.take k)).getLastD 0
theorem JHead.zero (B : Bks) : JHead B 0 (-1) := ⟨⟨by simp, by simp [heads]⟩, by simp [heads]⟩
theorem last_app (a b : Int) (l : List Int) : (a :: (l ++ [b])).getLastD 0 = b := by
  rw [← List.cons_append, List.getLastD_eq_getLast?, List.getLast?_concat]; rfl
theorem pair_snoc {l : List Int} {a b : Int} (h : (a :: l).Pairwise (· < ·)) : (a :: (l ++ [b])).Pairwise (· < ·) ↔ (a :: l).getLastD 0 < b := by
  rw [← List.cons_append, List.pairwise_append]
  constructor
  · rintro ⟨_, _, h3⟩
    refine h3 _ ?_ b (by simp)
    rw [List.getLastD_eq_getLast?]
    cases hl : (a :: l).getLast? with
    | none => simp at hl
    | some x => exact List.mem_of_getLast? hl
  · intro hlt
    refine ⟨h, by simp, fun x hx y hy => ?_⟩
    simp at hy; subst hy
    refine Int.lt_of_le_of_lt ?_ hlt
    clear hlt
    induction l generalizing a with
    | nil => simp at hx; subst hx; simp
    | cons c l ih =>
      rw [List.pairwise_cons] at h
      have e : (a :: c :: l).getLastD 0 = (c :: l).getLastD 0 := by simp [List.getLastD]
      rw [e]
      rcases List.mem_cons.1 hx with rfl | hx
      · refine Int.le_of_lt (h.1 _ ?_)
        rw [List.getLastD_eq_getLast?]
        cases hl : (c :: l).getLast? with
        | none => simp at hl
        | some x => exact List.mem_of_getLast? hl
      · exact ih h.2 hx
theorem JHead.step {B : Bks} {k : Nat} {last : Int} (h : JHead B k last) (hk : k < B.length) (hne : B[k] ≠ []) (hp : B[k].Pairwise (· ≤ ·)) (hl : last < B[k].headD 0) : JHead B (k + 1) (B[k].headD 0) := by
  refine ⟨⟨fun l hl => ?_, ?_⟩, ?_⟩
  · rw [take_succ hk] at hl
    rcases List.mem_append.1 hl with hl | hl
    · exact h.1.1 l hl
    · simp at hl; subst hl; exact ⟨hne, hp⟩
  · rw [heads_succ hk]
    refine (pair_snoc h.1.2).2 ?_
    rw [← h.2]; exact hl
  · rw [heads_succ hk, last_app]
theorem JHead.no {B : Bks} {k : Nat} {last : Int} (h : JHead B k last) (hk : k < B.length) (hn : ¬ last < B[k].headD 0) : ¬ HeadP B := by
  intro hB
  have := (hB.take (k + 1)).2
  rw [heads_succ hk] at this
  have := (pair_snoc h.1.2).1 this
  rw [← h.2] at this
  exact hn this
theorem tail_false {B : Bks} (hB : FewB B) : LoopP (notes_Right_L3 B false) ((-1 : Int), (0 : Int)) := by
  refine LoopP.nat2 B.length (JHead B) (JHead.zero B) ?_
  intro X k last hk hj hX
  unfold notes_Right_L3
  dsimp only
  refine IfB.dc (fun h => ?_) (fun h => rfl)
  have hkl : k < B.length := by omega
  refine ⟨_, Idx.nat hkl, IfB.eqI (fun _ => rfl) (fun h0 => ?_)⟩
  have h0' : 0 < B[k].length := by omega
  have hb := hB.2 _ (List.getElem_mem hkl)
  refine ⟨_, Idx.nat h0', IfB.dc (fun _ => rfl) (fun hgt => ⟨_, IsSorted_says (by omega), IfB.dc (fun hs => ⟨_, Idx.nat h0', ?_⟩) (fun _ => rfl)⟩)⟩
  rw [wrap64' (by have := hB.1; omega) (by have := hB.1; omega), ← headD_at h0']
  exact hX _ hkl (hj.step hkl (by intro e; rw [e] at h0'; simp at h0') hs (by rw [headD_at h0']; omega))
theorem tail_says {V : List By} {C : List Fr} {R : List MRow} {B : Bks} (hB : FewB B) : LoopP (notes_Right_L8 V C R B (decide (HeadP B ∧ MayM V C R))) ((-1 : Int), (0 : Int)) := by
  refine LoopP.nat2 B.length (JHead B) (JHead.zero B) ?_
  intro X k last hk hj hX
  unfold notes_Right_L8
  dsimp only
  refine IfB.dc (fun h => ?_) (fun h => ?_)
  · have hkl : k < B.length := by omega
    refine ⟨_, Idx.nat hkl, IfB.eqI (fun h0 => decide_eq_false fun hp => ?_) (fun h0 => ?_)⟩
    · exact (hp.1.1 _ (List.getElem_mem hkl)).1 (List.eq_nil_of_length_eq_zero (by omega))
    have h0' : 0 < B[k].length := by omega
    have hb := hB.2 _ (List.getElem_mem hkl)
    refine ⟨_, Idx.nat h0', IfB.dc (fun hle => decide_eq_false fun hp => hj.no hkl (by rw [headD_at h0']; omega) hp.1) (fun hgt => ⟨_, IsSorted_says (by omega), IfB.dc (fun hs => ⟨_, Idx.nat h0', ?_⟩) (fun hs => decide_eq_false fun hp => hs (hp.1.1 _ (List.getElem_mem hkl)).2)⟩)⟩
    rw [wrap64' (by have := hB.1; omega) (by have := hB.1; omega), ← headD_at h0']
    exact hX _ hkl (hj.step hkl (by intro e; rw [e] at h0'; simp at h0') hs (by rw [headD_at h0']; omega))
  · have e : k = B.length := by omega
    subst e
    have hH := hj.1
    rw [List.take_length] at hH
    refine ⟨_, model_Right_says V C R, IfB.dc (fun hm => decide_eq_true ⟨hH, hm⟩) (fun hm => decide_eq_false fun hp => hm hp.2)⟩
def entL (b : Int) (l : List Int) : List (Int × Int) := l.map fun k => (k, b)
def entB : Nat → Bks → List (Int × Int)
  | _, [] => []
  | b, l :: B => entL (b : Int) l ++ entB (b + 1) B
theorem entB_app : ∀ (B : Bks) (b : Nat) (l : List Int), entB b (B ++ [l]) = entB b B ++ entL ((b + B.length : Nat) : Int) l
  | [], b, l => by simp [entB]
  | m :: B, b, l => by rw [List.cons_append, entB, entB_app B (b + 1) l, entB, List.append_assoc, List.length_cons, show b + 1 + B.length = b + (B.length + 1) by omega]
theorem entB_succ {B : Bks} {k : Nat} (hk : k < B.length) : entB 0 (B.take (k + 1)) = entB 0 (B.take k) ++ entL (k : Int) B[k] := by
  rw [take_succ hk, entB_app]
  have : (B.take k).length = k := by simp; omega
  rw [this, Nat.zero_add]
theorem entB_keys : ∀ (B : Bks) (b : Nat), (entB b B).map (·.1) = B.flatten
  | [], b => rfl
  | l :: B, b => by
    rw [entB, List.map_append, entB_keys B (b + 1)]
    simp [entL, Function.comp_def]
theorem mGet_none {e : List (Int × Int)} {k : Int} (h : k ∉ e.map (·.1)) : mGet e k = (0, false) := by
  unfold mGet
  have : e.find? (fun p => p.1 == k) = none := by
    rw [List.find?_eq_none]
    intro p hp hk
    exact h (List.mem_map.2 ⟨p, hp, by simpa using hk⟩)
  rw [this]
theorem mGet_some {e : List (Int × Int)} {k : Int} (h : k ∈ e.map (·.1)) : ∃ v, mGet e k = (v, true) ∧ (k, v) ∈ e := by
  unfold mGet
  cases hf : e.find? (fun p => p.1 == k) with
  | none =>
    rw [List.find?_eq_none] at hf
    obtain ⟨p, hp, hk⟩ := List.mem_map.1 h
    exact absurd (by simpa using hk) (hf p hp)
  | some p =>
    have h1 := List.mem_of_find?_eq_some hf
    have h2 : p.1 = k := by simpa using List.find?_some hf
    exact ⟨p.2, rfl, by rw [← h2]; exact h1⟩
def JIn (n : Nat) (B : Bks) (k j : Nat) (e : List (Int × Int)) : Prop := ∃ h : k < B.length, e = entB 0 (B.take k) ++ entL (k : Int) (B[k].take j) ∧ HomeP n (B.take k ++ [B[k].take j])
theorem JIn.zero {n : Nat} {B : Bks} {k : Nat} (hk : k < B.length) (h : HomeP n (B.take k)) : JIn n B k 0 (entB 0 (B.take k)) := ⟨hk, by simp [entL], by simpa [HomeP] using h⟩
theorem JIn.keys {n : Nat} {B : Bks} {k j : Nat} {e : List (Int × Int)} (h : JIn n B k j e) : e.map (·.1) = (B.take k ++ [B[k]'h.1 |>.take j]).flatten := by
  obtain ⟨hk, rfl, _⟩ := h
  rw [List.map_append, entB_keys]
  simp [entL, Function.comp_def]
theorem flat_in {n : Nat} {B : Bks} {k j : Nat} (hk : k < B.length) (hj : j < B[k].length) : (B.take k ++ [B[k].take (j + 1)]).flatten = (B.take k ++ [B[k].take j]).flatten ++ [B[k][j]] := by
  rw [take_succ hj]; simp
theorem JIn.step {n : Nat} {B : Bks} {k j : Nat} {e : List (Int × Int)} (h : JIn n B k j e) (hk : k < B.length) (hj : j < B[k].length) (hx : B[k][j] ∉ e.map (·.1)) (h1 : 0 ≤ B[k][j]) (h2 : B[k][j] < n) : JIn n B k (j + 1) (e ++ [(B[k][j], (k : Int))]) := by
  rw [h.keys] at hx
  obtain ⟨_, rfl, hH⟩ := h
  refine ⟨hk, ?_, ?_⟩
  · rw [take_succ hj, entL, entL, List.map_append, List.append_assoc]; rfl
  · unfold HomeP
    rw [flat_in (n := n) hk hj]
    refine ⟨fun x hx => ?_, ?_⟩
    · rcases List.mem_append.1 hx with hx | hx
      · exact hH.1 x hx
      · simp at hx; subst hx; exact ⟨h1, h2⟩
    · rw [List.nodup_append]
      exact ⟨hH.2, by simp, fun a ha b hb => by simp at hb; subst hb; exact fun e => hx (e ▸ ha)⟩
theorem JIn.done {n : Nat} {B : Bks} {k : Nat} {e : List (Int × Int)} (hk : k < B.length) (h : JIn n B k B[k].length e) : e = entB 0 (B.take (k + 1)) ∧ HomeP n (B.take (k + 1)) := by
  obtain ⟨_, rfl, hH⟩ := h
  rw [List.take_length] at hH ⊢
  exact ⟨(entB_succ hk).symm, by rw [take_succ hk]; exact hH⟩
theorem HomeP.at {n : Nat} {B : Bks} (h : HomeP n B) {k j : Nat} (hk : k < B.length) (hj : j < B[k].length) : 0 ≤ B[k][j] ∧ B[k][j] < n ∧ B[k][j] ∉ (B.take k ++ [B[k].take j]).flatten := by
  have hm : B[k][j] ∈ B.flatten := List.mem_flatten.2 ⟨_, List.getElem_mem hk, List.getElem_mem hj⟩
  obtain ⟨a, b⟩ := h.1 _ hm
  refine ⟨a, b, fun hx => ?_⟩
  have h2 := (h.take (k + 1)).2
  rw [take_succ hk, List.flatten_append, List.nodup_append] at h2
  rw [List.flatten_append] at hx
  have e : ([B[k]] : Bks).flatten = B[k] := by simp
  rw [e] at h2
  rcases List.mem_append.1 hx with hx | hx
  · exact h2.2.2 _ hx _ (List.getElem_mem hj) rfl
  · have hx : B[k][j] ∈ B[k].take j := by simpa using hx
    obtain ⟨i, hi, hi2⟩ := List.mem_take_iff_getElem.1 hx
    have := (List.getElem_inj h2.2.1).1 hi2
    omega
theorem Right9_says (V : List By) (C : List Fr) (R : List MRow) {B : Bks} (hB : FewB B) (hV : V.length ≤ 1000) : notes_Right V C R B (decide (okBs V.length B ∧ MayM V C R)) := by
  unfold notes_Right
  refine LoopP.natS B.length (fun k e => e = entB 0 (B.take k) ∧ HomeP V.length (B.take k)) ⟨by simp [entB], by simp [HomeP]⟩ ?_
  rintro X k e hk ⟨rfl, hH⟩ hX
  unfold notes_Right_L1
  dsimp only
  have b1 := hB.1
  refine IfB.dc (fun h => ?_) (fun h => ?_)
  · have hkl : k < B.length := by omega
    have b2 := hB.2 _ (List.getElem_mem hkl)
    refine ⟨_, Idx.nat hkl, ?_⟩
    refine LoopP.natS B[k].length (JIn V.length B k) (JIn.zero hkl hH) ?_
    intro Y j e hjl hj hY
    unfold notes_Right_L2
    dsimp only
    refine IfB.dc (fun h => ?_) (fun h => ?_)
    · have hjk : j < B[k].length := by omega
      have no : ∀ {r : Bool}, ¬ (0 ≤ B[k][j] ∧ B[k][j] < (V.length : Nat) ∧ B[k][j] ∉ (B.take k ++ [B[k].take j]).flatten) → r = false → decide (okBs V.length B ∧ MayM V C R) = r := fun hn hr => by
        rw [hr]; exact decide_eq_false fun hp => hn (hp.1.1.at hkl hjk)
      by_cases hin : B[k][j] ∈ e.map (·.1)
      · obtain ⟨v, hv, _⟩ := mGet_some hin
        rw [no (r := false) (fun hp => hp.2.2 (by rw [hj.keys] at hin; exact hin)) rfl]
        refine ⟨_, Idx.nat hjk, _, _, hv, IfB_true.2 (IfB.dc (fun _ => tail_false hB) (fun _ => IfB.dc (fun _ => tail_false hB) (fun _ => tail_false hB)))⟩
      · refine ⟨_, Idx.nat hjk, _, _, mGet_none hin, IfB_false.2 (IfB.dc (fun h0 => ?_) (fun h0 => IfB.dc (fun h1 => ?_) (fun h1 => ⟨by rw [mGet_none hin], ?_⟩)))⟩
        · rw [no (r := false) (fun hp => by omega) rfl]; exact tail_false hB
        · rw [no (r := false) (fun hp => by omega) rfl]; exact tail_false hB
        · rw [wrap64' (by omega) (by omega)]
          exact hY _ hjk (hj.step hkl hjk hin (by omega) (by omega))
    · have ej : j = B[k].length := by omega
      subst ej
      obtain ⟨rfl, h2⟩ := hj.done hkl
      rw [wrap64' (by omega) (by omega)]
      exact hX _ hkl ⟨rfl, h2⟩
  · have e : k = B.length := by omega
    subst e
    rw [List.take_length] at hH
    have : (okBs V.length B ∧ MayM V C R) = (HeadP B ∧ MayM V C R) := propext ⟨fun h => ⟨h.1.2, h.2⟩, fun h => ⟨⟨hH, h.1⟩, h.2⟩⟩
    rw [show decide (okBs V.length B ∧ MayM V C R) = decide (HeadP B ∧ MayM V C R) by rw [decide_eq_decide]; exact ⟨fun h => ⟨h.1.2, h.2⟩, fun h => ⟨⟨hH, h.1⟩, h.2⟩⟩]
    exact tail_says hB
end Go.Abs
end

section
namespace Go.Abs
open Go
open Classical
set_option linter.unusedVariables false
set_option linter.unusedSimpArgs false
set_option linter.unnecessarySimpa false
def homeOf (B : Bks) (i : Nat) : Int := match (entB 0 B).find? (fun p => p.1 == (i : Int)) with | some p => p.2 | none => -1
def homeL (n : Nat) (B : Bks) : List Int := (List.range n).map (homeOf B)
theorem homeL_len (n : Nat) (B : Bks) : (homeL n B).length = n := by simp [homeL]
theorem find_key {e : List (Int × Int)} (hn : (e.map (·.1)).Nodup) {k v : Int} (h : (k, v) ∈ e) : e.find? (fun p => p.1 == k) = some (k, v) := by
  induction e with
  | nil => cases h
  | cons p e ih =>
    rw [List.map_cons, List.nodup_cons] at hn
    rw [List.find?_cons]
    rcases List.mem_cons.1 h with rfl | h
    · simp
    · have : ¬ p.1 = k := fun e' => hn.1 (List.mem_map.2 ⟨_, h, e'.symm⟩)
      have h2 : (p.1 == k) = false := by simpa using this
      rw [h2]; exact ih hn.2 h
theorem mul1 : ((List.range 61).all fun n => decide ((IntKind.u64.wrap (([(-1 : Int)] : List Int).length : Int)) = 1) && (let p0 : Int := 1; let p1 : Int := IntKind.u64.wrap (n : Int); ((IntKind.u64.wrap ((IntKind.u64.wrap ((IntKind.u64.wrap ((Int.fdiv p0 (2 ^ (min (Int.toNat (32 : Int)) (IntKind.bits .u64)))) * (Int.fdiv p1 (2 ^ (min (Int.toNat (32 : Int)) (IntKind.bits .u64)))))) + (Int.fdiv (IntKind.u64.wrap ((IntKind.u64.wrap ((Int.fdiv p0 (2 ^ (min (Int.toNat (32 : Int)) (IntKind.bits .u64)))) * (bitA .u64 p1 4294967295))) + (Int.fdiv (IntKind.u64.wrap ((bitA .u64 p0 4294967295) * (bitA .u64 p1 4294967295))) (2 ^ (min (Int.toNat (32 : Int)) (IntKind.bits .u64)))))) (2 ^ (min (Int.toNat (32 : Int)) (IntKind.bits .u64)))))) + (Int.fdiv (IntKind.u64.wrap ((bitA .u64 (IntKind.u64.wrap ((IntKind.u64.wrap ((Int.fdiv p0 (2 ^ (min (Int.toNat (32 : Int)) (IntKind.bits .u64)))) * (bitA .u64 p1 4294967295))) + (Int.fdiv (IntKind.u64.wrap ((bitA .u64 p0 4294967295) * (bitA .u64 p1 4294967295))) (2 ^ (min (Int.toNat (32 : Int)) (IntKind.bits .u64)))))) 4294967295) + (IntKind.u64.wrap ((bitA .u64 p0 4294967295) * (Int.fdiv p1 (2 ^ (min (Int.toNat (32 : Int)) (IntKind.bits .u64)))))))) (2 ^ (min (Int.toNat (32 : Int)) (IntKind.bits .u64)))))), (IntKind.u64.wrap (p0 * p1))) == ((0 : Int), (n : Int)))) = true := by kernel_rfl
theorem Mul_says {n : Nat} (h : n ≤ 60) : math_bits_Mul (IntKind.u64.wrap (([(-1 : Int)] : List Int).length : Int)) (IntKind.u64.wrap (n : Int)) (0, (n : Int)) := by
  have := List.all_eq_true.1 mul1 n (by simp; omega)
  rw [Bool.and_eq_true, decide_eq_true_eq, beq_iff_eq] at this
  refine ⟨0, n, ?_, rfl⟩
  unfold math_bits_Mul64
  rw [this.1]
  exact this.2.symm
def ones (n k : Nat) : List Int := List.replicate k (-1) ++ List.replicate (n - k) 0
theorem ones_len {n k : Nat} (h : k ≤ n) : (ones n k).length = n := by simp [ones]; omega
theorem ones_take {n k : Nat} (h : k ≤ n) : (ones n k).take k = List.replicate k (-1) := by simp [ones]
theorem ones_step {n k : Nat} (h : k ≤ n) : (ones n k).take k ++ ((ones n k).take k).take (Nat.min ((ones n k).take k).length (n - k)) ++ (ones n k).drop (k + Nat.min ((ones n k).take k).length (n - k)) = ones n (k + Nat.min k (n - k)) := by
  rw [ones_take h, List.length_replicate]
  have h1 : Nat.min k (n - k) ≤ k := Nat.min_le_left ..
  have h2 : Nat.min k (n - k) ≤ n - k := Nat.min_le_right ..
  generalize Nat.min k (n - k) = m at *
  have e1 : (List.replicate k (-1 : Int)).take m = List.replicate m (-1) := by rw [List.take_replicate]; congr 1; omega
  have e2 : (ones n k).drop (k + m) = List.replicate (n - (k + m)) 0 := by
    unfold ones
    rw [List.drop_append, List.length_replicate, List.drop_replicate, List.drop_replicate, show k - (k + m) = 0 by omega, show n - k - (k + m - k) = n - (k + m) by omega]; rfl
  rw [e1, e2]; unfold ones; rw [show k + m = k + m from rfl, List.replicate_append_replicate]
def JF (n : Nat) (e : List (Int × Int)) (seen : List Nat) (out : List Int) : Prop := out.length = n ∧ (∀ j, j ∈ seen → ∀ q v, e[j]? = some (q, v) → out[q.toNat]? = some v) ∧ ∀ i, i < n → (∀ j, j ∈ seen → ∀ q v, e[j]? = some (q, v) → q ≠ (i : Int)) → out[i]? = some (-1)
theorem Home9_says (V : List By) (C : List Fr) (R : List MRow) {B : Bks} (hB : FewB B) (hV : V.length ≤ 1000) : notes_Home V C R B (if okBs V.length B ∧ MayM V C R then homeL V.length B else []) := by
  unfold notes_Home
  have b1 := hB.1
  refine ⟨_, Right9_says V C R hB hV, IfB.dc (fun hok => ?_) (fun hno => by rw [if_neg hno])⟩
  rw [if_pos hok]
  obtain ⟨⟨hH, hP⟩, hm⟩ := hok
  have v60 := hm.1
  refine IfB.dc (fun h => by omega) (fun _ => ⟨0, V.length, Mul_says v60, IfB.dc (fun h => by omega) (fun _ => IfB.dc (fun h => by omega) (fun _ => ?_))⟩)
  rw [wrap64' (by omega) (by omega), Int.toNat_natCast]
  refine ⟨⟨by omega, by unfold Fits; omega, by unfold Fits; omega⟩, ?_⟩
  generalize hn : V.length = n at *
  rw [List.length_replicate]
  have h0 : ([(-1 : Int)].take (Nat.min [(-1 : Int)].length n) ++ (List.replicate n (0 : Int)).drop (Nat.min [(-1 : Int)].length n)) = ones n (Nat.min 1 n) := by
    have h1 : Nat.min 1 n ≤ 1 := Nat.min_le_left ..
    show [(-1 : Int)].take (Nat.min 1 n) ++ (List.replicate n (0 : Int)).drop (Nat.min 1 n) = _
    generalize Nat.min 1 n = m at *
    unfold ones
    rw [List.drop_replicate]
    congr 1
    match m, h1 with
    | 0, _ => rfl
    | 1, _ => rfl
  rw [h0]
  refine LoopP.intro (fun z : Int × List Int => ∃ k : Nat, z.1 = k ∧ k ≤ n ∧ (1 ≤ k ∨ n = 0) ∧ z.2 = ones n k) (fun z => n - z.1.toNat) ⟨Nat.min 1 n, rfl, Nat.min_le_right .., by
    rcases Nat.eq_zero_or_pos n with h | h
    · exact .inr h
    · left; show 1 ≤ Nat.min 1 n; exact Nat.le_min.2 ⟨Nat.le_refl _, h⟩, rfl⟩ ?_
  rintro X ⟨z, s⟩ ⟨k, e1, hk, hk1, e2⟩ hX
  dsimp only at e1 e2
  subst e1 e2
  unfold notes_Home_L1
  dsimp only
  rw [ones_len hk, Int.toNat_natCast]
  refine IfB.dc (fun hlt => ?_) (fun hge => ?_)
  · refine ⟨⟨by omega, by omega⟩, ⟨by omega, by omega⟩, ?_⟩
    have hs := ones_step (n := n) hk
    rw [hs]
    have hl : ((ones n k).take k).length = k := by rw [ones_take hk]; simp
    rw [hl]
    have m1 : Nat.min k (n - k) ≤ n - k := Nat.min_le_right ..
    have m2 : 1 ≤ Nat.min k (n - k) := Nat.le_min.2 ⟨by omega, by omega⟩
    generalize Nat.min k (n - k) = m at *
    rw [wrap64' (by omega) (by omega)]
    exact hX _ ⟨k + m, by simp, by omega, .inl (by omega), rfl⟩ (by dsimp only; omega)
  · have ek : k = n := by omega
    subst ek
    refine LoopP.natS B.length (fun i e => e = entB 0 (B.take i)) (by simp [entB]) ?_
    rintro Y i e hi rfl hY
    unfold notes_Home_L2
    dsimp only
    refine IfB.dc (fun h => ?_) (fun h => ?_)
    · have hil : i < B.length := by omega
      have b2 := hB.2 _ (List.getElem_mem hil)
      refine ⟨_, Idx.nat hil, ?_⟩
      refine LoopP.natS B[i].length (JIn k B i) (JIn.zero hil (hH.take i)) ?_
      intro Z j e hjl hj hZ
      unfold notes_Home_L3
      dsimp only
      rw [hn]
      refine IfB.dc (fun h => ?_) (fun h => ?_)
      · have hjk : j < B[i].length := by omega
        obtain ⟨a1, a2, a3⟩ := hH.at hil hjk
        have hin : B[i][j] ∉ e.map (·.1) := by rw [hj.keys]; exact a3
        refine ⟨_, Idx.nat hjk, _, _, mGet_none hin, IfB_false.2 (IfB.dc (fun h => by omega) (fun _ => IfB.dc (fun h => by omega) (fun _ => ⟨by rw [mGet_none hin], ?_⟩)))⟩
        rw [wrap64' (by omega) (by omega)]
        exact hZ _ hjk (hj.step hil hjk hin a1 a2)
      · have ej : j = B[i].length := by omega
        subst ej
        obtain ⟨rfl, _⟩ := hj.done hil
        rw [wrap64' (by omega) (by omega)]
        exact hY _ hil rfl
    · have ei : i = B.length := by omega
      subst ei
      rw [List.take_length]
      have hkeys : ((entB 0 B).map (·.1)).Nodup := by rw [entB_keys]; exact hH.2
      have hrange : ∀ (j : Nat) (q v : Int), (entB 0 B)[j]? = some (q, v) → 0 ≤ q ∧ q < k := fun j q v hj => by
        refine hH.1 q ?_
        rw [← entB_keys B 0]
        exact List.mem_map.2 ⟨_, List.mem_of_getElem? hj, rfl⟩
      generalize hE : entB 0 B = E at hkeys hrange
      have uniq : ∀ (i j : Nat) (q v w : Int), E[i]? = some (q, v) → E[j]? = some (q, w) → i = j := fun i j q v w hi hj => by
        obtain ⟨h1, e1⟩ := List.getElem?_eq_some_iff.1 hi
        obtain ⟨h2, e2⟩ := List.getElem?_eq_some_iff.1 hj
        have g1 : (E.map (·.1))[i]'(by simpa using h1) = q := by simp [e1]
        have g2 : (E.map (·.1))[j]'(by simpa using h2) = q := by simp [e2]
        exact (List.getElem_inj hkeys).1 (g1.trans g2.symm)
      refine LoopP.intro (fun z : List Nat × List Int => JF k E z.1 z.2) (fun z => left E.length fun i => z.1.contains i) ⟨by simp [ones], by simp, fun i hi _ => by simp [ones, hi]⟩ ?_
      rintro W ⟨seen, out⟩ ⟨f1, f2, f3⟩ hW
      dsimp only at f1 f2 f3
      unfold notes_Home_L4
      dsimp only
      refine ⟨fun j q v hjs hj => ?_, fun hall => ?_⟩
      · obtain ⟨q0, q1⟩ := hrange j q v hj
        have hq : q.toNat < out.length := by omega
        refine ⟨_, ⟨q0, List.getElem?_eq_getElem hq⟩, ?_⟩
        refine hW _ ⟨by simp [f1], fun j' hj' q' v' he' => ?_, fun i hi hno => ?_⟩ ?_
        · dsimp only
          rw [List.getElem?_set]
          rcases List.mem_append.1 hj' with hj' | hj'
          · have hne : ¬ q.toNat = q'.toNat := fun e => by
              obtain ⟨q0', _⟩ := hrange j' q' v' he'
              have : q = q' := by omega
              subst this
              have := uniq j j' q v v' hj he'
              subst this; exact hjs hj'
            rw [if_neg hne]; exact f2 j' hj' q' v' he'
          · simp at hj'; subst hj'
            rw [hj] at he'; cases he'
            rw [if_pos rfl, if_pos hq]
        · dsimp only at hno ⊢
          have hne : ¬ q.toNat = i := fun e => hno j (by simp) q v hj (by omega)
          rw [List.getElem?_set, if_neg hne]
          exact f3 i hi fun j' hj' q' v' he' => hno j' (by simp [hj']) q' v' he'
        · dsimp only
          have hjl := (List.getElem?_eq_some_iff.1 hj).1
          have := left_add (n := E.length) (i := j) (E := fun i => seen.contains i) hjl (by simpa using hjs)
          have e : (fun i => (seen ++ [j]).contains i) = addE (fun i => seen.contains i) j := by
            funext i
            unfold addE
            by_cases hij : i = j
            · subst hij; simp
            · simp [hij]
          rw [e]; omega
      · apply List.ext_getElem?
        intro i
        by_cases hi : i < k
        · have : (homeL k B)[i]? = some (homeOf B i) := by simp [homeL, hi]
          rw [this]
          unfold homeOf
          rw [hE]
          cases hf : E.find? (fun p => p.1 == (i : Int)) with
          | none =>
            refine (f3 i hi fun j hj q v he hq => ?_).symm
            rw [List.find?_eq_none] at hf
            exact hf (q, v) (List.mem_of_getElem? he) (by simpa using hq)
          | some p =>
            have hm := List.mem_of_find?_eq_some hf
            have hp : p.1 = (i : Int) := by simpa using List.find?_some hf
            obtain ⟨j, hj, e⟩ := List.getElem_of_mem hm
            have he : E[j]? = some (p.1, p.2) := by rw [List.getElem?_eq_getElem hj, e]
            have := f2 j (hall j hj) p.1 p.2 he
            rw [hp] at this
            simpa using this.symm
        · rw [List.getElem?_eq_none (by rw [homeL_len]; omega), List.getElem?_eq_none (by omega)]
end Go.Abs
end

section
namespace Go.Abs
open Go
open Classical
set_option linter.unusedVariables false
set_option linter.unusedSimpArgs false
set_option linter.unnecessarySimpa false
section ins
variable {α : Type} (key : α → Int)
def SrtK (l : List α) : Prop := l.Pairwise fun a b => key a ≤ key b
def JI (A : List α) (x : α) (B : List α) (j : Nat) (d : List α) : Prop := ∃ A1 A2, A1.length = j ∧ A1 ++ A2 = A ∧ d = A1 ++ x :: (A2 ++ B) ∧ ∀ y, y ∈ A2 → key x < key y
variable {key}
theorem JI.zero (A : List α) (x : α) (B : List α) : JI key A x B A.length (A ++ x :: B) := ⟨A, [], rfl, by simp, by simp, by simp⟩
theorem JI.at {A : List α} {x : α} {B : List α} {j : Nat} {d : List α} (h : JI key A x B (j + 1) d) : ∃ y, d[j + 1]? = some x ∧ d[j]? = some y ∧ (key x < key y → JI key A x B j ((d.set (j + 1) y).set j x)) ∧ (SrtK key A → ¬ key x < key y → ∃ A', d = A' ++ B ∧ SrtK key A' ∧ A'.Perm (A ++ [x])) := by
  obtain ⟨A1, A2, h1, h2, rfl, h3⟩ := h
  obtain ⟨A0, y, rfl⟩ : ∃ A0 y, A1 = A0 ++ [y] := ⟨A1.dropLast, A1.getLast (by intro e; rw [e] at h1; simp at h1), (List.dropLast_concat_getLast _).symm⟩
  have h0 : A0.length = j := by simpa using h1
  refine ⟨y, ?_, ?_, fun hlt => ⟨A0, y :: A2, h0, by rw [← h2]; simp, ?_, fun z hz => ?_⟩, fun hs hn => ?_⟩
  · rw [List.getElem?_append_right (by omega), h1]; simp
  · rw [List.append_assoc, List.getElem?_append_right (by omega), h0]; simp
  · have e1 : (A0 ++ [y] ++ x :: (A2 ++ B)).set (j + 1) y = A0 ++ [y] ++ y :: (A2 ++ B) := by rw [List.set_append_right _ _ (by omega), h1]; simp
    rw [e1, List.append_assoc, List.set_append_right _ _ (by omega), h0]; simp
  · rcases List.mem_cons.1 hz with rfl | hz
    · exact hlt
    · exact h3 z hz
  · refine ⟨A0 ++ [y] ++ x :: A2, by simp, ?_, ?_⟩
    · unfold SrtK at hs ⊢
      rw [← h2, List.pairwise_append] at hs
      rw [List.pairwise_append]
      refine ⟨hs.1, ?_, fun a ha b hb => ?_⟩
      · rw [List.pairwise_cons]
        exact ⟨fun b hb => by have := h3 b hb; omega, hs.2.1⟩
      · rcases List.mem_cons.1 hb with rfl | hb
        · rcases List.mem_append.1 ha with ha | ha
          · have := hs.1
            rw [List.pairwise_append] at this
            have := this.2.2 a ha y (by simp)
            omega
          · simp at ha; subst ha; omega
        · exact hs.2.2 a ha b hb
    · rw [← h2]
      have : (A0 ++ [y] ++ x :: A2).Perm (A0 ++ [y] ++ (A2 ++ [x])) := List.Perm.append_left _ (List.perm_append_comm (l₁ := [x]) (l₂ := A2))
      simpa using this
theorem JI.end {A : List α} {x : α} {B : List α} {d : List α} (h : JI key A x B 0 d) (hs : SrtK key A) : ∃ A', d = A' ++ B ∧ SrtK key A' ∧ A'.Perm (A ++ [x]) := by
  obtain ⟨A1, A2, h1, h2, rfl, h3⟩ := h
  obtain rfl := List.length_eq_zero_iff.1 h1
  simp at h2
  subst h2
  refine ⟨x :: A2, by simp, ?_, List.perm_append_comm (l₁ := [x]) (l₂ := A2)⟩
  unfold SrtK
  rw [List.pairwise_cons]
  exact ⟨fun b hb => by have := h3 b hb; omega, hs⟩
def JO (l : List α) (i : Nat) (d : List α) : Prop := ∃ A, d = A ++ l.drop i ∧ SrtK key A ∧ A.Perm (l.take i)
theorem JO.one (l : List α) : JO (key := key) l 1 l := by
  refine ⟨l.take 1, (List.take_append_drop 1 l).symm, ?_, List.Perm.refl _⟩
  cases l with
  | nil => simp [SrtK]
  | cons a l => simp [SrtK]
theorem JO.zero (l : List α) : JO (key := key) l 0 l := ⟨[], by simp, by simp [SrtK], by simp⟩
theorem JO.len {l : List α} {i : Nat} {d : List α} (h : JO (key := key) l i d) : d.length = l.length := by
  obtain ⟨A, rfl, _, hp⟩ := h
  have := hp.length_eq
  simp at this ⊢
  omega
theorem JO.in {l : List α} {i : Nat} {d : List α} (h : JO (key := key) l i d) (hi : i < l.length) : ∃ A x B, JI key A x B i d ∧ SrtK key A ∧ ∀ A', SrtK key A' → A'.Perm (A ++ [x]) → JO (key := key) l (i + 1) (A' ++ B) := by
  obtain ⟨A, rfl, hs, hp⟩ := h
  have hl : A.length = i := by have := hp.length_eq; simp at this; omega
  refine ⟨A, l[i], l.drop (i + 1), ?_, hs, fun A' h1 h2 => ⟨A', rfl, h1, ?_⟩⟩
  · have := JI.zero (key := key) A l[i] (l.drop (i + 1))
    rw [hl] at this
    rwa [List.drop_eq_getElem_cons hi]
  · rw [take_succ hi]
    exact h2.trans (List.Perm.append_right _ hp)
theorem JO.all {l d : List α} {i : Nat} (h : JO (key := key) l i d) (hi : l.length ≤ i) : SrtK key d ∧ d.Perm l := by
  obtain ⟨A, rfl, hs, hp⟩ := h
  rw [List.drop_of_length_le hi, List.append_nil]
  rw [List.take_of_length_le hi] at hp
  exact ⟨hs, hp⟩
end ins
theorem ex_skip {p : Prop} [Decidable p] (hn : ¬ p) {A B : Int → Prop} (h : ∃ x, A x) : ∃ x, IfB (decide p) (B x) (A x) := let ⟨x, h⟩ := h; ⟨x, IfB.dc (fun hp => absurd hp hn) fun _ => h⟩
set_option maxRecDepth 20000 in
theorem Len_says {n : Nat} (h : n ≤ 200) : ∃ x, math_bits_Len (IntKind.u64.wrap (n : Int)) x := by
  have e : IntKind.u64.wrap (n : Int) = n := wrapu64 (by omega) (by omega)
  have e2 : IntKind.u8.wrap (n : Int) = n := by
    have : ((List.range 201).all fun n => decide (IntKind.u8.wrap (n : Int) = n)) = true := by kernel_rfl
    have := List.all_eq_true.1 this n (by simp; omega)
    simpa using this
  rw [e]
  suffices ∃ x, math_bits_Len64 (n : Int) x from let ⟨x, hx⟩ := this; ⟨x, x, hx, rfl⟩
  unfold math_bits_Len64
  refine ex_skip (by omega) (ex_skip (by omega) (ex_skip (by omega) ?_))
  rw [e2]
  exact ⟨_, _, Idx.nat (by show n < 256; omega), rfl⟩
end Go.Abs
end

section
namespace Go.Abs
open Go
open Classical
set_option linter.unusedVariables false
set_option linter.unusedSimpArgs false
set_option linter.unnecessarySimpa false
def bkW : By := [98, 108, 111, 99, 107]
def sortI (l : List Int) : List Int := l.mergeSort fun a b => decide (a ≤ b)
def hdK (l : List Int) : Int := l.headD 0
def sortB (B : Bks) : Bks := B.mergeSort fun a b => decide (hdK a ≤ hdK b)
theorem sortI_perm (l : List Int) : (sortI l).Perm l := List.mergeSort_perm _ _
theorem sortB_perm (l : Bks) : (sortB l).Perm l := List.mergeSort_perm _ _
theorem sortI_srt (l : List Int) : SrtK id (sortI l) := by
  have := List.pairwise_mergeSort (le := fun a b : Int => decide (a ≤ b)) (fun a b c h1 h2 => by simp at *; omega) (fun a b => by simp; omega) l
  exact this.imp fun h => by simpa using h
theorem sortB_srt (l : Bks) : SrtK hdK (sortB l) := by
  have := List.pairwise_mergeSort (le := fun a b : List Int => decide (hdK a ≤ hdK b)) (fun a b c h1 h2 => by simp at *; omega) (fun a b => by simp; omega) l
  exact this.imp fun h => by simpa using h
theorem sortI_eq {l d : List Int} (h : SrtK id d) (hp : d.Perm l) : d = sortI l :=
  List.Perm.eq_of_pairwise (le := fun a b : Int => a ≤ b) (fun a b _ _ h1 h2 => by omega) h (sortI_srt l) (hp.trans (sortI_perm l).symm)
theorem head_inj {B : Bks} (hn : B.flatten.Nodup) (hne : ∀ l, l ∈ B → l ≠ []) {a b : List Int} (ha : a ∈ B) (hb : b ∈ B) (h : hdK a = hdK b) : a = b := by
  have ma : hdK a ∈ a := by cases a with | nil => exact absurd rfl (hne _ ha) | cons x a => simp [hdK]
  have mb : hdK b ∈ b := by cases b with | nil => exact absurd rfl (hne _ hb) | cons x b => simp [hdK]
  obtain ⟨l1, l2, rfl⟩ := List.append_of_mem ha
  rw [List.flatten_append, List.flatten_cons, List.nodup_append, List.nodup_append] at hn
  rcases List.mem_append.1 hb with hb | hb
  · exact absurd h.symm (hn.2.2 (hdK b) (List.mem_flatten.2 ⟨b, hb, mb⟩) (hdK a) (by simp [ma]))
  · rcases List.mem_cons.1 hb with rfl | hb
    · rfl
    · exact absurd h (hn.2.1.2.2 (hdK a) ma (hdK b) (List.mem_flatten.2 ⟨b, hb, mb⟩))
theorem sortB_eq {B d : Bks} (hn : B.flatten.Nodup) (hne : ∀ l, l ∈ B → l ≠ []) (h : SrtK hdK d) (hp : d.Perm B) : d = sortB B :=
  List.Perm.eq_of_pairwise (le := fun a b : List Int => hdK a ≤ hdK b) (fun a b ha hb h1 h2 => head_inj hn hne (hp.mem_iff.1 ha) ((sortB_perm B).mem_iff.1 hb) (by omega)) h (sortB_srt B) (hp.trans (sortB_perm B).symm)
def plS (V : Ws) : List Int → Ws → Option (List Int)
  | _, [] => some []
  | had, w :: ws => if w ∈ V ∧ idxN V w ∉ had then (plS V (had ++ [idxN V w]) ws).map (idxN V w :: ·) else none
def entE (had : List Int) : List (Int × Int) := had.map fun k => (k, 1)
theorem entE_keys (had : List Int) : (entE had).map (·.1) = had := by simp [entE, Function.comp_def]
theorem entE_in {had : List Int} {k : Int} (h : k ∈ had) : mGet (entE had) k = (1, true) := by
  obtain ⟨v, h1, h2⟩ := mGet_some (e := entE had) (k := k) (by rw [entE_keys]; exact h)
  obtain ⟨_, _, e⟩ := List.mem_map.1 h2
  cases e
  exact h1
theorem entE_out {had : List Int} {k : Int} (h : k ∉ had) : mGet (entE had) k = (0, false) := mGet_none (by rw [entE_keys]; exact h)
theorem plS_ok {V : Ws} : ∀ (ws : Ws) (had ks : List Int), plS V had ws = some ks → had.Nodup → (had ++ ks).Nodup ∧ (∀ k, k ∈ ks → 0 ≤ k ∧ k < V.length) ∧ ks.length = ws.length
  | [], had, ks, h, hn => by
    simp [plS] at h; subst h; simpa using hn
  | w :: ws, had, ks, h, hn => by
    unfold plS at h
    split at h
    · rename_i hc
      rw [Option.map_eq_some_iff] at h
      obtain ⟨ks', h1, rfl⟩ := h
      have hn2 : (had ++ [idxN V w]).Nodup := by rw [List.nodup_append]; exact ⟨hn, by simp, fun a ha b hb => by simp at hb; subst hb; exact fun e => hc.2 (e ▸ ha)⟩
      obtain ⟨a1, a2, a3⟩ := plS_ok ws _ _ h1 hn2
      have hi := idxN_at hc.1
      refine ⟨by simpa using a1, fun k hk => ?_, by simp [a3]⟩
      rcases List.mem_cons.1 hk with rfl | hk
      · rw [hi.1]; omega
      · exact a2 k hk
    · cases h
theorem nodup_int {n : Nat} {l : List Int} (hn : l.Nodup) (h : ∀ k, k ∈ l → 0 ≤ k ∧ k < n) : l.length ≤ n := by
  have h1 : (l.map Int.toNat).Nodup := by
    refine List.pairwise_map.2 (List.Pairwise.imp_of_mem (fun {a b} ha hb hab e => hab ?_) hn)
    have := h a ha; have := h b hb; omega
  have := h1.length_le_of_subset (l₂ := List.range n) (fun x hx => by
    obtain ⟨k, hk, rfl⟩ := List.mem_map.1 hx
    have := h k hk
    simp; omega)
  simpa using this
def foldN (V : Ws) : List Int → Bks → Ls → (Int × Int) ⊕ Bks
  | _, out, [] => .inr out
  | had, out, p :: r => if p.2.headD [] ≠ bkW ∨ p.2.length < 2 then .inl (p.1, 2) else match plS V had p.2.tail with | none => .inl (p.1, 3) | some ks => foldN V (had ++ ks) (out ++ [sortI ks]) r
def resN : (Int × Int) ⊕ Bks → Bks × Int × Int
  | .inl (a, e) => ([], a, e)
  | .inr out => (sortB out, 0, 0)
theorem sort4 {k : Nat} {out : Bks} {ks : List Int} {X : Int × List (Int × Int) × Bks → Prop} {e : List (Int × Int)} (hk : ks.length ≤ 60) (ho : out.length ≤ 60) (hX : X ((k : Int) + 1, e, out ++ [sortI ks])) (hkk : k ≤ 100000) :
    LoopP (notes_Parse_L4 (k : Int) out X e ks) ((1 : Int), ks) := by
  refine LoopP.intro (fun z : Int × List Int => ∃ i : Nat, z.1 = i ∧ 1 ≤ i ∧ JO (key := id) ks i z.2) (fun z => ks.length - z.1.toNat) ⟨1, rfl, Nat.le_refl _, JO.one ks⟩ ?_
  rintro Y ⟨z, d⟩ ⟨i, e1, hi, hJ⟩ hY
  dsimp only at e1 hJ
  subst e1
  unfold notes_Parse_L4
  dsimp only
  refine IfB.dc (fun hlt => ?_) (fun hge => ?_)
  · have hil : i < ks.length := by omega
    have hl := hJ.len
    obtain ⟨A, x, B, hI, hs, hdone⟩ := hJ.in hil
    refine LoopP.intro (fun z : Int × List Int => ∃ j : Nat, z.1 = j ∧ j ≤ i ∧ JI id A x B j z.2 ∧ z.2.length = ks.length) (fun z => z.1.toNat) ⟨i, rfl, Nat.le_refl _, hI, hl⟩ ?_
    rintro Z ⟨z, d⟩ ⟨j, e1, hj, hI, hl⟩ hZ
    dsimp only at e1 hI hl
    subst e1
    unfold notes_Parse_L5
    dsimp only
    have ew : IntKind.i64.wrap ((i : Int) + 1) = ((i + 1 : Nat) : Int) := by rw [wrap64' (by omega) (by omega)]; omega
    refine IfB.dc (fun h0 => ?_) (fun h0 => ?_)
    · obtain ⟨j', rfl⟩ : ∃ j', j = j' + 1 := ⟨j - 1, by omega⟩
      obtain ⟨y, g1, g2, g3, g4⟩ := hI.at
      have hj1 : j' + 1 < d.length := by omega
      have ej : IntKind.i64.wrap (((j' + 1 : Nat) : Int) - 1) = (j' : Int) := by rw [wrap64' (by omega) (by omega)]; omega
      have i1 : Idx d ((j' + 1 : Nat) : Int) x := ⟨by omega, by simpa using g1⟩
      have i2 : Idx d (j' : Int) y := ⟨by omega, by simpa using g2⟩
      have i3 : Idx (d.set (j' + 1) y) (j' : Int) y := ⟨by omega, by rw [Int.toNat_natCast, List.getElem?_set_ne (by omega)]; exact g2⟩
      rw [ej]
      refine ⟨_, i1, _, i2, _, Less_says _ _, IfB.dc (fun hlt => ⟨_, i2, _, i1, _, i1, _, by simpa using i3, ?_⟩) (fun hge => ?_)⟩
      · rw [Int.toNat_natCast, Int.toNat_natCast]
        exact hZ _ ⟨j', rfl, by omega, g3 hlt, by simp [hl]⟩ (by dsimp only; omega)
      · obtain ⟨A', rfl, a1, a2⟩ := g4 hs hge
        rw [ew]
        exact hY _ ⟨i + 1, rfl, by omega, hdone A' a1 a2⟩ (by dsimp only; omega)
    · have : j = 0 := by omega
      subst this
      obtain ⟨A', rfl, a1, a2⟩ := hI.end hs
      rw [ew]
      exact hY _ ⟨i + 1, rfl, by omega, hdone A' a1 a2⟩ (by dsimp only; omega)
  · obtain ⟨h1, h2⟩ := hJ.all (by omega)
    obtain rfl := sortI_eq h1 h2
    refine ⟨by unfold Fits; simp; omega, ?_⟩
    rw [wrap64' (by omega) (by omega)]
    exact hX
theorem sort7 {out : Bks} (hn : out.flatten.Nodup) (hne : ∀ l, l ∈ out → l ≠ []) (hr : ∀ k, k ∈ out.flatten → 0 ≤ k ∧ k < 1000) (ho : out.length ≤ 60) :
    LoopP (notes_Parse_L7 out (sortB out, 0, 0)) ((1 : Int), out) := by
  have good : ∀ d : Bks, (∀ l, l ∈ d → l ∈ out) → ∀ l, l ∈ d → 0 < l.length ∧ 0 ≤ hdK l ∧ hdK l < 1000 ∧ Idx l (0 : Int) (hdK l) := fun d hd l hl => by
    have h1 := hne l (hd l hl)
    have h2 : 0 < l.length := List.length_pos_iff.2 h1
    have h3 : hdK l = l[0] := headD_at h2
    have h4 := hr (hdK l) (List.mem_flatten.2 ⟨l, hd l hl, by rw [h3]; exact List.getElem_mem h2⟩)
    exact ⟨h2, h4.1, h4.2, by rw [h3]; exact Idx.nat h2⟩
  refine LoopP.intro (fun z : Int × Bks => ∃ i : Nat, z.1 = i ∧ 1 ≤ i ∧ JO (key := hdK) out i z.2 ∧ ∀ l, l ∈ z.2 → l ∈ out) (fun z => out.length - z.1.toNat) ⟨1, rfl, Nat.le_refl _, JO.one out, fun l h => h⟩ ?_
  rintro Y ⟨z, d⟩ ⟨i, e1, hi, hJ, hm⟩ hY
  dsimp only at e1 hJ hm
  subst e1
  unfold notes_Parse_L7
  dsimp only
  refine IfB.dc (fun hlt => ?_) (fun hge => ?_)
  · have hil : i < out.length := by omega
    have hl := hJ.len
    obtain ⟨A, x, B, hI, hs, hdone⟩ := hJ.in hil
    refine LoopP.intro (fun z : Int × Bks => ∃ j : Nat, z.1 = j ∧ j ≤ i ∧ JI hdK A x B j z.2 ∧ z.2.length = out.length ∧ ∀ l, l ∈ z.2 → l ∈ out) (fun z => z.1.toNat) ⟨i, rfl, Nat.le_refl _, hI, hl, hm⟩ ?_
    rintro Z ⟨z, d⟩ ⟨j, e1, hj, hI, hl, hm⟩ hZ
    dsimp only at e1 hI hl hm
    subst e1
    unfold notes_Parse_L8
    dsimp only
    have ew : IntKind.i64.wrap ((i : Int) + 1) = ((i + 1 : Nat) : Int) := by rw [wrap64' (by omega) (by omega)]; omega
    refine IfB.dc (fun h0 => ?_) (fun h0 => ?_)
    · obtain ⟨j', rfl⟩ : ∃ j', j = j' + 1 := ⟨j - 1, by omega⟩
      obtain ⟨y, g1, g2, g3, g4⟩ := hI.at
      have hj1 : j' + 1 < d.length := by omega
      have ej : IntKind.i64.wrap (((j' + 1 : Nat) : Int) - 1) = (j' : Int) := by rw [wrap64' (by omega) (by omega)]; omega
      have i1 : Idx d ((j' + 1 : Nat) : Int) x := ⟨by omega, by simpa using g1⟩
      have i2 : Idx d (j' : Int) y := ⟨by omega, by simpa using g2⟩
      have i3 : Idx (d.set (j' + 1) y) (j' : Int) y := ⟨by omega, by rw [Int.toNat_natCast, List.getElem?_set_ne (by omega)]; exact g2⟩
      have mx : x ∈ d := List.mem_of_getElem? g1
      have my : y ∈ d := List.mem_of_getElem? g2
      obtain ⟨_, x1, x2, x3⟩ := good d hm x mx
      obtain ⟨_, y1, y2, y3⟩ := good d hm y my
      rw [ej]
      refine ⟨_, i1, _, i2, _, ⟨_, x3, _, y3, rfl⟩, ?_⟩
      rw [wrap64' (by omega) (by omega)]
      refine IfB.dc (fun hlt => ⟨_, i2, _, i1, _, i1, _, by simpa using i3, ?_⟩) (fun hge => ?_)
      · rw [Int.toNat_natCast, Int.toNat_natCast]
        refine hZ _ ⟨j', rfl, by omega, g3 (by omega), by simp [hl], fun l hl => ?_⟩ (by dsimp only; omega)
        rcases List.mem_or_eq_of_mem_set hl with hl | rfl
        · rcases List.mem_or_eq_of_mem_set hl with hl | rfl
          · exact hm l hl
          · exact hm _ my
        · exact hm _ mx
      · obtain ⟨A', rfl, a1, a2⟩ := g4 hs (by omega)
        rw [ew]
        exact hY _ ⟨i + 1, rfl, by omega, hdone A' a1 a2, hm⟩ (by dsimp only; omega)
    · have : j = 0 := by omega
      subst this
      obtain ⟨A', rfl, a1, a2⟩ := hI.end hs
      rw [ew]
      exact hY _ ⟨i + 1, rfl, by omega, hdone A' a1 a2, hm⟩ (by dsimp only; omega)
  · obtain ⟨h1, h2⟩ := hJ.all (by omega)
    rw [← sortB_eq hn hne h1 h2]
end Go.Abs
end

section
namespace Go.Abs
open Go
open Classical
set_option linter.unusedVariables false
set_option linter.unusedSimpArgs false
set_option linter.unnecessarySimpa false
end Go.Abs
end

section
namespace Go.Abs
open Go
open Classical
set_option linter.unusedVariables false
set_option linter.unusedSimpArgs false
set_option linter.unnecessarySimpa false
abbrev QRow := By × List Rat × Int × Rat
theorem linesT_app : ∀ (a b : List Ws), linesT (a ++ b) = linesT a ++ linesT b
  | [], b => rfl
  | ws :: a, b => by rw [List.cons_append, linesT, linesT, linesT_app a b, List.append_assoc]; rfl
end Go.Abs
end
