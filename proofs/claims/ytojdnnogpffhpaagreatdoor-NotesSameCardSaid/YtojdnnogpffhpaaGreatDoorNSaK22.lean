/- Part of a proof, in few files: L9c L9e L9f L8m L8n L9g L8l L8o L8p L9h M09a G09lW. -/
import Derived.Test.YtojdnnogpffhpaaGreatDoorNSaK21
import Derived.Test.YtojdnnogpffhpaaGreatDoorNSaK18
import Derived.Test.YtojdnnogpffhpaaGreatDoorNSaK19
import Derived.Test.YtojdnnogpffhpaaGreatDoorNSaK14
import Derived.Test.YtojdnnogpffhpaaGreatDoorNSaK15

section
namespace Go.Abs
open Go
open Classical
set_option linter.unusedVariables false
set_option linter.unusedSimpArgs false
set_option linter.unnecessarySimpa false
def homeOf (B : Bks) (i : Nat) : Int := match (entB 0 B).find? (fun p => p.1 == (i : Int)) with | some p => p.2 | none => -1
def homeL (n : Nat) (B : Bks) : List Int := (List.range n).map (homeOf B)
theorem homeL_len (n : Nat) (B : Bks) : (homeL n B).length = n := by simp [homeL]
theorem mul1 : ((List.range 61).all fun n => decide ((IntKind.u64.wrap (([(-1 : Int)] : List Int).length : Int)) = 1) && (let p0 : Int := 1; let p1 : Int := IntKind.u64.wrap (n : Int); ((IntKind.u64.wrap ((IntKind.u64.wrap ((IntKind.u64.wrap ((Int.fdiv p0 (2 ^ (min (Int.toNat (32 : Int)) (IntKind.bits .u64)))) * (Int.fdiv p1 (2 ^ (min (Int.toNat (32 : Int)) (IntKind.bits .u64)))))) + (Int.fdiv (IntKind.u64.wrap ((IntKind.u64.wrap ((Int.fdiv p0 (2 ^ (min (Int.toNat (32 : Int)) (IntKind.bits .u64)))) * (bitA .u64 p1 4294967295))) + (Int.fdiv (IntKind.u64.wrap ((bitA .u64 p0 4294967295) * (bitA .u64 p1 4294967295))) (2 ^ (min (Int.toNat (32 : Int)) (IntKind.bits .u64)))))) (2 ^ (min (Int.toNat (32 : Int)) (IntKind.bits .u64)))))) + (Int.fdiv (IntKind.u64.wrap ((bitA .u64 (IntKind.u64.wrap ((IntKind.u64.wrap ((Int.fdiv p0 (2 ^ (min (Int.toNat (32 : Int)) (IntKind.bits .u64)))) * (bitA .u64 p1 4294967295))) + (Int.fdiv (IntKind.u64.wrap ((bitA .u64 p0 4294967295) * (bitA .u64 p1 4294967295))) (2 ^ (min (Int.toNat (32 : Int)) (IntKind.bits .u64)))))) 4294967295) + (IntKind.u64.wrap ((bitA .u64 p0 4294967295) * (Int.fdiv p1 (2 ^ (min (Int.toNat (32 : Int)) (IntKind.bits .u64)))))))) (2 ^ (min (Int.toNat (32 : Int)) (IntKind.bits .u64)))))), (IntKind.u64.wrap (p0 * p1))) == ((0 : Int), (n : Int)))) = true := by kernel_rfl
theorem Mul_says {n : Nat} (h : n ≤ 60) : math_bits_Mul (IntKind.u64.wrap (([(-1 : Int)] : List Int).length : Int)) (IntKind.u64.wrap (n : Int)) (0, (n : Int)) := by
  have := List.all_eq_true.1 mul1 n (by simp; omega)
  rw [Bool.and_eq_true, decide_eq_true_eq, beq_iff_eq] at this
  refine ⟨0, n, ?_, rfl⟩
  unfold math_bits_Mul64
  rw [this.1]
  exact this.2.symm
def ones (n k : Nat) : List Int := List.replicate k (-1) ++ List.replicate (n - k) 0
theorem ones_len {n k : Nat} (h : k ≤ n) : (ones n k).length = n := by simp [ones]; omega
theorem ones_take {n k : Nat} (h : k ≤ n) : (ones n k).take k = List.replicate k (-1) := by simp [ones]
theorem ones_step {n k : Nat} (h : k ≤ n) : (ones n k).take k ++ ((ones n k).take k).take (Nat.min ((ones n k).take k).length (n - k)) ++ (ones n k).drop (k + Nat.min ((ones n k).take k).length (n - k)) = ones n (k + Nat.min k (n - k)) := by
  rw [ones_take h, List.length_replicate]
  have h1 : Nat.min k (n - k) ≤ k := Nat.min_le_left ..
  have h2 : Nat.min k (n - k) ≤ n - k := Nat.min_le_right ..
  generalize Nat.min k (n - k) = m at *
  have e1 : (List.replicate k (-1 : Int)).take m = List.replicate m (-1) := by rw [List.take_replicate]; congr 1; omega
  have e2 : (ones n k).drop (k + m) = List.replicate (n - (k + m)) 0 := by
    unfold ones
    rw [List.drop_append, List.length_replicate, List.drop_replicate, List.drop_replicate, show k - (k + m) = 0 by omega, show n - k - (k + m - k) = n - (k + m) by omega]; rfl
  rw [e1, e2]; unfold ones; rw [show k + m = k + m from rfl, List.replicate_append_replicate]
def JF (n : Nat) (e : List (Int × Int)) (seen : List Nat) (out : List Int) : Prop := out.length = n ∧ (∀ j, j ∈ seen → ∀ q v, e[j]? = some (q, v) → out[q.toNat]? = some v) ∧ ∀ i, i < n → (∀ j, j ∈ seen → ∀ q v, e[j]? = some (q, v) → q ≠ (i : Int)) → out[i]? = some (-1)
theorem Home9_says (V : List By) (C : List Fr) (R : List MRow) {B : Bks} (hB : FewB B) (hV : V.length ≤ 1000) : notes_Home V C R B (if okBs V.length B ∧ MayM V C R then homeL V.length B else []) := by
  unfold notes_Home
  have b1 := hB.1
  refine ⟨_, Right9_says V C R hB hV, IfB.dc (fun hok => ?_) (fun hno => by rw [if_neg hno])⟩
  rw [if_pos hok]
  obtain ⟨⟨hH, hP⟩, hm⟩ := hok
  have v60 := hm.1
  refine IfB.dc (fun h => by omega) (fun _ => ⟨0, V.length, Mul_says v60, IfB.dc (fun h => by omega) (fun _ => IfB.dc (fun h => by omega) (fun _ => ?_))⟩)
  rw [wrap64' (by omega) (by omega), Int.toNat_natCast]
  refine ⟨⟨by omega, by unfold Fits; omega, by unfold Fits; omega⟩, ?_⟩
  generalize hn : V.length = n at *
  rw [List.length_replicate]
  have h0 : ([(-1 : Int)].take (Nat.min [(-1 : Int)].length n) ++ (List.replicate n (0 : Int)).drop (Nat.min [(-1 : Int)].length n)) = ones n (Nat.min 1 n) := by
    have h1 : Nat.min 1 n ≤ 1 := Nat.min_le_left ..
    show [(-1 : Int)].take (Nat.min 1 n) ++ (List.replicate n (0 : Int)).drop (Nat.min 1 n) = _
    generalize Nat.min 1 n = m at *
    unfold ones
    rw [List.drop_replicate]
    congr 1
    match m, h1 with
    | 0, _ => rfl
    | 1, _ => rfl
  rw [h0]
  refine LoopP.intro (fun z : Int × List Int => ∃ k : Nat, z.1 = k ∧ k ≤ n ∧ (1 ≤ k ∨ n = 0) ∧ z.2 = ones n k) (fun z => n - z.1.toNat) ⟨Nat.min 1 n, rfl, Nat.min_le_right .., by
    rcases Nat.eq_zero_or_pos n with h | h
    · exact .inr h
    · left; show 1 ≤ Nat.min 1 n; exact Nat.le_min.2 ⟨Nat.le_refl _, h⟩, rfl⟩ ?_
  rintro X ⟨z, s⟩ ⟨k, e1, hk, hk1, e2⟩ hX
  dsimp only at e1 e2
  subst e1 e2
  unfold notes_Home_L1
  dsimp only
  rw [ones_len hk, Int.toNat_natCast]
  refine IfB.dc (fun hlt => ?_) (fun hge => ?_)
  · refine ⟨⟨by omega, by omega⟩, ⟨by omega, by omega⟩, ?_⟩
    have hs := ones_step (n := n) hk
    rw [hs]
    have hl : ((ones n k).take k).length = k := by rw [ones_take hk]; simp
    rw [hl]
    have m1 : Nat.min k (n - k) ≤ n - k := Nat.min_le_right ..
    have m2 : 1 ≤ Nat.min k (n - k) := Nat.le_min.2 ⟨by omega, by omega⟩
    generalize Nat.min k (n - k) = m at *
    rw [wrap64' (by omega) (by omega)]
    exact hX _ ⟨k + m, by simp, by omega, .inl (by omega), rfl⟩ (by dsimp only; omega)
  · have ek : k = n := by omega
    subst ek
    refine LoopP.natS B.length (fun i e => e = entB 0 (B.take i)) (by simp [entB]) ?_
    rintro Y i e hi rfl hY
    unfold notes_Home_L2
    dsimp only
    refine IfB.dc (fun h => ?_) (fun h => ?_)
    · have hil : i < B.length := by omega
      have b2 := hB.2 _ (List.getElem_mem hil)
      refine ⟨_, Idx.nat hil, ?_⟩
      refine LoopP.natS B[i].length (JIn k B i) (JIn.zero hil (hH.take i)) ?_
      intro Z j e hjl hj hZ
      unfold notes_Home_L3
      dsimp only
      rw [hn]
      refine IfB.dc (fun h => ?_) (fun h => ?_)
      · have hjk : j < B[i].length := by omega
        obtain ⟨a1, a2, a3⟩ := hH.at hil hjk
        have hin : B[i][j] ∉ e.map (·.1) := by rw [hj.keys]; exact a3
        refine ⟨_, Idx.nat hjk, _, _, mGet_none hin, IfB_false.2 (IfB.dc (fun h => by omega) (fun _ => IfB.dc (fun h => by omega) (fun _ => ⟨by rw [mGet_none hin], ?_⟩)))⟩
        rw [wrap64' (by omega) (by omega)]
        exact hZ _ hjk (hj.step hil hjk hin a1 a2)
      · have ej : j = B[i].length := by omega
        subst ej
        obtain ⟨rfl, _⟩ := hj.done hil
        rw [wrap64' (by omega) (by omega)]
        exact hY _ hil rfl
    · have ei : i = B.length := by omega
      subst ei
      rw [List.take_length]
      have hkeys : ((entB 0 B).map (·.1)).Nodup := by rw [entB_keys]; exact hH.2
      have hrange : ∀ (j : Nat) (q v : Int), (entB 0 B)[j]? = some (q, v) → 0 ≤ q ∧ q < k := fun j q v hj => by
        refine hH.1 q ?_
        rw [← entB_keys B 0]
        exact List.mem_map.2 ⟨_, List.mem_of_getElem? hj, rfl⟩
      generalize hE : entB 0 B = E at hkeys hrange
      have uniq : ∀ (i j : Nat) (q v w : Int), E[i]? = some (q, v) → E[j]? = some (q, w) → i = j := fun i j q v w hi hj => by
        obtain ⟨h1, e1⟩ := List.getElem?_eq_some_iff.1 hi
        obtain ⟨h2, e2⟩ := List.getElem?_eq_some_iff.1 hj
        have g1 : (E.map (·.1))[i]'(by simpa using h1) = q := by simp [e1]
        have g2 : (E.map (·.1))[j]'(by simpa using h2) = q := by simp [e2]
        exact (List.getElem_inj hkeys).1 (g1.trans g2.symm)
      refine LoopP.intro (fun z : List Nat × List Int => JF k E z.1 z.2) (fun z => left E.length fun i => z.1.contains i) ⟨by simp [ones], by simp, fun i hi _ => by simp [ones, hi]⟩ ?_
      rintro W ⟨seen, out⟩ ⟨f1, f2, f3⟩ hW
      dsimp only at f1 f2 f3
      unfold notes_Home_L4
      dsimp only
      refine ⟨fun j q v hjs hj => ?_, fun hall => ?_⟩
      · obtain ⟨q0, q1⟩ := hrange j q v hj
        have hq : q.toNat < out.length := by omega
        refine ⟨_, ⟨q0, List.getElem?_eq_getElem hq⟩, ?_⟩
        refine hW _ ⟨by simp [f1], fun j' hj' q' v' he' => ?_, fun i hi hno => ?_⟩ ?_
        · dsimp only
          rw [List.getElem?_set]
          rcases List.mem_append.1 hj' with hj' | hj'
          · have hne : ¬ q.toNat = q'.toNat := fun e => by
              obtain ⟨q0', _⟩ := hrange j' q' v' he'
              have : q = q' := by omega
              subst this
              have := uniq j j' q v v' hj he'
              subst this; exact hjs hj'
            rw [if_neg hne]; exact f2 j' hj' q' v' he'
          · simp at hj'; subst hj'
            rw [hj] at he'; cases he'
            rw [if_pos rfl, if_pos hq]
        · dsimp only at hno ⊢
          have hne : ¬ q.toNat = i := fun e => hno j (by simp) q v hj (by omega)
          rw [List.getElem?_set, if_neg hne]
          exact f3 i hi fun j' hj' q' v' he' => hno j' (by simp [hj']) q' v' he'
        · dsimp only
          have hjl := (List.getElem?_eq_some_iff.1 hj).1
          have := left_add (n := E.length) (i := j) (E := fun i => seen.contains i) hjl (by simpa using hjs)
          have e : (fun i => (seen ++ [j]).contains i) = addE (fun i => seen.contains i) j := by
            funext i
            unfold addE
            by_cases hij : i = j
            · subst hij; simp
            · simp [hij]
          rw [e]; omega
      · apply List.ext_getElem?
        intro i
        by_cases hi : i < k
        · have : (homeL k B)[i]? = some (homeOf B i) := by simp [homeL, hi]
          rw [this]
          unfold homeOf
          rw [hE]
          cases hf : E.find? (fun p => p.1 == (i : Int)) with
          | none =>
            refine (f3 i hi fun j hj q v he hq => ?_).symm
            rw [List.find?_eq_none] at hf
            exact hf (q, v) (List.mem_of_getElem? he) (by simpa using hq)
          | some p =>
            have hm := List.mem_of_find?_eq_some hf
            have hp : p.1 = (i : Int) := by simpa using List.find?_some hf
            obtain ⟨j, hj, e⟩ := List.getElem_of_mem hm
            have he : E[j]? = some (p.1, p.2) := by rw [List.getElem?_eq_getElem hj, e]
            have := f2 j (hall j hj) p.1 p.2 he
            rw [hp] at this
            simpa using this.symm
        · rw [List.getElem?_eq_none (by rw [homeL_len]; omega), List.getElem?_eq_none (by omega)]
end Go.Abs
end

section
namespace Go.Abs
open Go
open Classical
set_option linter.unusedVariables false
set_option linter.unusedSimpArgs false
set_option linter.unnecessarySimpa false
section ins
variable {α : Type} (key : α → Int)
def SrtK (l : List α) : Prop := l.Pairwise fun a b => key a ≤ key b
def JI (A : List α) (x : α) (B : List α) (j : Nat) (d : List α) : Prop := ∃ A1 A2, A1.length = j ∧ A1 ++ A2 = A ∧ d = A1 ++ x :: (A2 ++ B) ∧ ∀ y, y ∈ A2 → key x < key y
variable {key}
theorem JI.zero (A : List α) (x : α) (B : List α) : JI key A x B A.length (A ++ x :: B) := ⟨A, [], rfl, by simp, by simp, by simp⟩
theorem JI.at {A : List α} {x : α} {B : List α} {j : Nat} {d : List α} (h : JI key A x B (j + 1) d) : ∃ y, d[j + 1]? = some x ∧ d[j]? = some y ∧ (key x < key y → JI key A x B j ((d.set (j + 1) y).set j x)) ∧ (SrtK key A → ¬ key x < key y → ∃ A', d = A' ++ B ∧ SrtK key A' ∧ A'.Perm (A ++ [x])) := by
  obtain ⟨A1, A2, h1, h2, rfl, h3⟩ := h
  obtain ⟨A0, y, rfl⟩ : ∃ A0 y, A1 = A0 ++ [y] := ⟨A1.dropLast, A1.getLast (by intro e; rw [e] at h1; simp at h1), (List.dropLast_concat_getLast _).symm⟩
  have h0 : A0.length = j := by simpa using h1
  refine ⟨y, ?_, ?_, fun hlt => ⟨A0, y :: A2, h0, by rw [← h2]; simp, ?_, fun z hz => ?_⟩, fun hs hn => ?_⟩
  · rw [List.getElem?_append_right (by omega), h1]; simp
  · rw [List.append_assoc, List.getElem?_append_right (by omega), h0]; simp
  · have e1 : (A0 ++ [y] ++ x :: (A2 ++ B)).set (j + 1) y = A0 ++ [y] ++ y :: (A2 ++ B) := by rw [List.set_append_right _ _ (by omega), h1]; simp
    rw [e1, List.append_assoc, List.set_append_right _ _ (by omega), h0]; simp
  · rcases List.mem_cons.1 hz with rfl | hz
    · exact hlt
    · exact h3 z hz
  · refine ⟨A0 ++ [y] ++ x :: A2, by simp, ?_, ?_⟩
    · unfold SrtK at hs ⊢
      rw [← h2, List.pairwise_append] at hs
      rw [List.pairwise_append]
      refine ⟨hs.1, ?_, fun a ha b hb => ?_⟩
      · rw [List.pairwise_cons]
        exact ⟨fun b hb => by have := h3 b hb; omega, hs.2.1⟩
      · rcases List.mem_cons.1 hb with rfl | hb
        · rcases List.mem_append.1 ha with ha | ha
          · have := hs.1
            rw [List.pairwise_append] at this
            have := this.2.2 a ha y (by simp)
            omega
          · simp at ha; subst ha; omega
        · exact hs.2.2 a ha b hb
    · rw [← h2]
      have : (A0 ++ [y] ++ x :: A2).Perm (A0 ++ [y] ++ (A2 ++ [x])) := List.Perm.append_left _ (List.perm_append_comm (l₁ := [x]) (l₂ := A2))
      simpa using this
theorem JI.end {A : List α} {x : α} {B : List α} {d : List α} (h : JI key A x B 0 d) (hs : SrtK key A) : ∃ A', d = A' ++ B ∧ SrtK key A' ∧ A'.Perm (A ++ [x]) := by
  obtain ⟨A1, A2, h1, h2, rfl, h3⟩ := h
  obtain rfl := List.length_eq_zero_iff.1 h1
  simp at h2
  subst h2
  refine ⟨x :: A2, by simp, ?_, List.perm_append_comm (l₁ := [x]) (l₂ := A2)⟩
  unfold SrtK
  rw [List.pairwise_cons]
  exact ⟨fun b hb => by have := h3 b hb; omega, hs⟩
def JO (l : List α) (i : Nat) (d : List α) : Prop := ∃ A, d = A ++ l.drop i ∧ SrtK key A ∧ A.Perm (l.take i)
theorem JO.one (l : List α) : JO (key := key) l 1 l := by
  refine ⟨l.take 1, (List.take_append_drop 1 l).symm, ?_, List.Perm.refl _⟩
  cases l with
  | nil => simp [SrtK]
  | cons a l => simp [SrtK]
theorem JO.zero (l : List α) : JO (key := key) l 0 l := ⟨[], by simp, by simp [SrtK], by simp⟩
theorem JO.len {l : List α} {i : Nat} {d : List α} (h : JO (key := key) l i d) : d.length = l.length := by
  obtain ⟨A, rfl, _, hp⟩ := h
  have := hp.length_eq
  simp at this ⊢
  omega
theorem JO.in {l : List α} {i : Nat} {d : List α} (h : JO (key := key) l i d) (hi : i < l.length) : ∃ A x B, JI key A x B i d ∧ SrtK key A ∧ ∀ A', SrtK key A' → A'.Perm (A ++ [x]) → JO (key := key) l (i + 1) (A' ++ B) := by
  obtain ⟨A, rfl, hs, hp⟩ := h
  have hl : A.length = i := by have := hp.length_eq; simp at this; omega
  refine ⟨A, l[i], l.drop (i + 1), ?_, hs, fun A' h1 h2 => ⟨A', rfl, h1, ?_⟩⟩
  · have := JI.zero (key := key) A l[i] (l.drop (i + 1))
    rw [hl] at this
    rwa [List.drop_eq_getElem_cons hi]
  · rw [take_succ hi]
    exact h2.trans (List.Perm.append_right _ hp)
theorem JO.all {l d : List α} {i : Nat} (h : JO (key := key) l i d) (hi : l.length ≤ i) : SrtK key d ∧ d.Perm l := by
  obtain ⟨A, rfl, hs, hp⟩ := h
  rw [List.drop_of_length_le hi, List.append_nil]
  rw [List.take_of_length_le hi] at hp
  exact ⟨hs, hp⟩
end ins
theorem ex_skip {p : Prop} [Decidable p] (hn : ¬ p) {A B : Int → Prop} (h : ∃ x, A x) : ∃ x, IfB (decide p) (B x) (A x) := let ⟨x, h⟩ := h; ⟨x, IfB.dc (fun hp => absurd hp hn) fun _ => h⟩
set_option maxRecDepth 20000 in
theorem Len_says {n : Nat} (h : n ≤ 200) : ∃ x, math_bits_Len (IntKind.u64.wrap (n : Int)) x := by
  have e : IntKind.u64.wrap (n : Int) = n := wrapu64 (by omega) (by omega)
  have e2 : IntKind.u8.wrap (n : Int) = n := by
    have : ((List.range 201).all fun n => decide (IntKind.u8.wrap (n : Int) = n)) = true := by kernel_rfl
    have := List.all_eq_true.1 this n (by simp; omega)
    simpa using this
  rw [e]
  suffices ∃ x, math_bits_Len64 (n : Int) x from let ⟨x, hx⟩ := this; ⟨x, x, hx, rfl⟩
  unfold math_bits_Len64
  refine ex_skip (by omega) (ex_skip (by omega) (ex_skip (by omega) ?_))
  rw [e2]
  exact ⟨_, _, Idx.nat (by show n < 256; omega), rfl⟩
end Go.Abs
end

section
namespace Go.Abs
open Go
open Classical
set_option linter.unusedVariables false
set_option linter.unusedSimpArgs false
set_option linter.unnecessarySimpa false
def bkW : By := [98, 108, 111, 99, 107]
def sortI (l : List Int) : List Int := l.mergeSort fun a b => decide (a ≤ b)
def hdK (l : List Int) : Int := l.headD 0
def sortB (B : Bks) : Bks := B.mergeSort fun a b => decide (hdK a ≤ hdK b)
theorem sortI_perm (l : List Int) : (sortI l).Perm l := List.mergeSort_perm _ _
theorem sortB_perm (l : Bks) : (sortB l).Perm l := List.mergeSort_perm _ _
theorem sortI_srt (l : List Int) : SrtK id (sortI l) := by
  have := List.pairwise_mergeSort (le := fun a b : Int => decide (a ≤ b)) (fun a b c h1 h2 => by simp at *; omega) (fun a b => by simp; omega) l
  exact this.imp fun h => by simpa using h
theorem sortB_srt (l : Bks) : SrtK hdK (sortB l) := by
  have := List.pairwise_mergeSort (le := fun a b : List Int => decide (hdK a ≤ hdK b)) (fun a b c h1 h2 => by simp at *; omega) (fun a b => by simp; omega) l
  exact this.imp fun h => by simpa using h
theorem sortI_eq {l d : List Int} (h : SrtK id d) (hp : d.Perm l) : d = sortI l :=
  List.Perm.eq_of_pairwise (le := fun a b : Int => a ≤ b) (fun a b _ _ h1 h2 => by omega) h (sortI_srt l) (hp.trans (sortI_perm l).symm)
theorem head_inj {B : Bks} (hn : B.flatten.Nodup) (hne : ∀ l, l ∈ B → l ≠ []) {a b : List Int} (ha : a ∈ B) (hb : b ∈ B) (h : hdK a = hdK b) : a = b := by
  have ma : hdK a ∈ a := by cases a with | nil => exact absurd rfl (hne _ ha) | cons x a => simp [hdK]
  have mb : hdK b ∈ b := by cases b with | nil => exact absurd rfl (hne _ hb) | cons x b => simp [hdK]
  obtain ⟨l1, l2, rfl⟩ := List.append_of_mem ha
  rw [List.flatten_append, List.flatten_cons, List.nodup_append, List.nodup_append] at hn
  rcases List.mem_append.1 hb with hb | hb
  · exact absurd h.symm (hn.2.2 (hdK b) (List.mem_flatten.2 ⟨b, hb, mb⟩) (hdK a) (by simp [ma]))
  · rcases List.mem_cons.1 hb with rfl | hb
    · rfl
    · exact absurd h (hn.2.1.2.2 (hdK a) ma (hdK b) (List.mem_flatten.2 ⟨b, hb, mb⟩))
theorem sortB_eq {B d : Bks} (hn : B.flatten.Nodup) (hne : ∀ l, l ∈ B → l ≠ []) (h : SrtK hdK d) (hp : d.Perm B) : d = sortB B :=
  List.Perm.eq_of_pairwise (le := fun a b : List Int => hdK a ≤ hdK b) (fun a b ha hb h1 h2 => head_inj hn hne (hp.mem_iff.1 ha) ((sortB_perm B).mem_iff.1 hb) (by omega)) h (sortB_srt B) (hp.trans (sortB_perm B).symm)
def plS (V : Ws) : List Int → Ws → Option (List Int)
  | _, [] => some []
  | had, w :: ws => if w ∈ V ∧ idxN V w ∉ had then (plS V (had ++ [idxN V w]) ws).map (idxN V w :: ·) else none
def entE (had : List Int) : List (Int × Int) := had.map fun k => (k, 1)
theorem entE_keys (had : List Int) : (entE had).map (·.1) = had := by simp [entE, Function.comp_def]
theorem entE_in {had : List Int} {k : Int} (h : k ∈ had) : mGet (entE had) k = (1, true) := by
  obtain ⟨v, h1, h2⟩ := mGet_some (e := entE had) (k := k) (by rw [entE_keys]; exact h)
  obtain ⟨_, _, e⟩ := List.mem_map.1 h2
  cases e
  exact h1
theorem entE_out {had : List Int} {k : Int} (h : k ∉ had) : mGet (entE had) k = (0, false) := mGet_none (by rw [entE_keys]; exact h)
theorem plS_ok {V : Ws} : ∀ (ws : Ws) (had ks : List Int), plS V had ws = some ks → had.Nodup → (had ++ ks).Nodup ∧ (∀ k, k ∈ ks → 0 ≤ k ∧ k < V.length) ∧ ks.length = ws.length
  | [], had, ks, h, hn => by
    simp [plS] at h; subst h; simpa using hn
  | w :: ws, had, ks, h, hn => by
    unfold plS at h
    split at h
    · rename_i hc
      rw [Option.map_eq_some_iff] at h
      obtain ⟨ks', h1, rfl⟩ := h
      have hn2 : (had ++ [idxN V w]).Nodup := by rw [List.nodup_append]; exact ⟨hn, by simp, fun a ha b hb => by simp at hb; subst hb; exact fun e => hc.2 (e ▸ ha)⟩
      obtain ⟨a1, a2, a3⟩ := plS_ok ws _ _ h1 hn2
      have hi := idxN_at hc.1
      refine ⟨by simpa using a1, fun k hk => ?_, by simp [a3]⟩
      rcases List.mem_cons.1 hk with rfl | hk
      · rw [hi.1]; omega
      · exact a2 k hk
    · cases h
theorem nodup_int {n : Nat} {l : List Int} (hn : l.Nodup) (h : ∀ k, k ∈ l → 0 ≤ k ∧ k < n) : l.length ≤ n := by
  have h1 : (l.map Int.toNat).Nodup := by
    refine List.pairwise_map.2 (List.Pairwise.imp_of_mem (fun {a b} ha hb hab e => hab ?_) hn)
    have := h a ha; have := h b hb; omega
  have := h1.length_le_of_subset (l₂ := List.range n) (fun x hx => by
    obtain ⟨k, hk, rfl⟩ := List.mem_map.1 hx
    have := h k hk
    simp; omega)
  simpa using this
def foldN (V : Ws) : List Int → Bks → Ls → (Int × Int) ⊕ Bks
  | _, out, [] => .inr out
  | had, out, p :: r => if p.2.headD [] ≠ bkW ∨ p.2.length < 2 then .inl (p.1, 2) else match plS V had p.2.tail with | none => .inl (p.1, 3) | some ks => foldN V (had ++ ks) (out ++ [sortI ks]) r
def resN : (Int × Int) ⊕ Bks → Bks × Int × Int
  | .inl (a, e) => ([], a, e)
  | .inr out => (sortB out, 0, 0)
theorem sort4 {k : Nat} {out : Bks} {ks : List Int} {X : Int × List (Int × Int) × Bks → Prop} {e : List (Int × Int)} (hk : ks.length ≤ 60) (ho : out.length ≤ 60) (hX : X ((k : Int) + 1, e, out ++ [sortI ks])) (hkk : k ≤ 100000) :
    LoopP (notes_Parse_L4 (k : Int) out X e ks) ((1 : Int), ks) := by
  refine LoopP.intro (fun z : Int × List Int => ∃ i : Nat, z.1 = i ∧ 1 ≤ i ∧ JO (key := id) ks i z.2) (fun z => ks.length - z.1.toNat) ⟨1, rfl, Nat.le_refl _, JO.one ks⟩ ?_
  rintro Y ⟨z, d⟩ ⟨i, e1, hi, hJ⟩ hY
  dsimp only at e1 hJ
  subst e1
  unfold notes_Parse_L4
  dsimp only
  refine IfB.dc (fun hlt => ?_) (fun hge => ?_)
  · have hil : i < ks.length := by omega
    have hl := hJ.len
    obtain ⟨A, x, B, hI, hs, hdone⟩ := hJ.in hil
    refine LoopP.intro (fun z : Int × List Int => ∃ j : Nat, z.1 = j ∧ j ≤ i ∧ JI id A x B j z.2 ∧ z.2.length = ks.length) (fun z => z.1.toNat) ⟨i, rfl, Nat.le_refl _, hI, hl⟩ ?_
    rintro Z ⟨z, d⟩ ⟨j, e1, hj, hI, hl⟩ hZ
    dsimp only at e1 hI hl
    subst e1
    unfold notes_Parse_L5
    dsimp only
    have ew : IntKind.i64.wrap ((i : Int) + 1) = ((i + 1 : Nat) : Int) := by rw [wrap64' (by omega) (by omega)]; omega
    refine IfB.dc (fun h0 => ?_) (fun h0 => ?_)
    · obtain ⟨j', rfl⟩ : ∃ j', j = j' + 1 := ⟨j - 1, by omega⟩
      obtain ⟨y, g1, g2, g3, g4⟩ := hI.at
      have hj1 : j' + 1 < d.length := by omega
      have ej : IntKind.i64.wrap (((j' + 1 : Nat) : Int) - 1) = (j' : Int) := by rw [wrap64' (by omega) (by omega)]; omega
      have i1 : Idx d ((j' + 1 : Nat) : Int) x := ⟨by omega, by simpa using g1⟩
      have i2 : Idx d (j' : Int) y := ⟨by omega, by simpa using g2⟩
      have i3 : Idx (d.set (j' + 1) y) (j' : Int) y := ⟨by omega, by rw [Int.toNat_natCast, List.getElem?_set_ne (by omega)]; exact g2⟩
      rw [ej]
      refine ⟨_, i1, _, i2, _, Less_says _ _, IfB.dc (fun hlt => ⟨_, i2, _, i1, _, i1, _, by simpa using i3, ?_⟩) (fun hge => ?_)⟩
      · rw [Int.toNat_natCast, Int.toNat_natCast]
        exact hZ _ ⟨j', rfl, by omega, g3 hlt, by simp [hl]⟩ (by dsimp only; omega)
      · obtain ⟨A', rfl, a1, a2⟩ := g4 hs hge
        rw [ew]
        exact hY _ ⟨i + 1, rfl, by omega, hdone A' a1 a2⟩ (by dsimp only; omega)
    · have : j = 0 := by omega
      subst this
      obtain ⟨A', rfl, a1, a2⟩ := hI.end hs
      rw [ew]
      exact hY _ ⟨i + 1, rfl, by omega, hdone A' a1 a2⟩ (by dsimp only; omega)
  · obtain ⟨h1, h2⟩ := hJ.all (by omega)
    obtain rfl := sortI_eq h1 h2
    refine ⟨by unfold Fits; simp; omega, ?_⟩
    rw [wrap64' (by omega) (by omega)]
    exact hX
theorem sort7 {out : Bks} (hn : out.flatten.Nodup) (hne : ∀ l, l ∈ out → l ≠ []) (hr : ∀ k, k ∈ out.flatten → 0 ≤ k ∧ k < 1000) (ho : out.length ≤ 60) :
    LoopP (notes_Parse_L7 out (sortB out, 0, 0)) ((1 : Int), out) := by
  have good : ∀ d : Bks, (∀ l, l ∈ d → l ∈ out) → ∀ l, l ∈ d → 0 < l.length ∧ 0 ≤ hdK l ∧ hdK l < 1000 ∧ Idx l (0 : Int) (hdK l) := fun d hd l hl => by
    have h1 := hne l (hd l hl)
    have h2 : 0 < l.length := List.length_pos_iff.2 h1
    have h3 : hdK l = l[0] := headD_at h2
    have h4 := hr (hdK l) (List.mem_flatten.2 ⟨l, hd l hl, by rw [h3]; exact List.getElem_mem h2⟩)
    exact ⟨h2, h4.1, h4.2, by rw [h3]; exact Idx.nat h2⟩
  refine LoopP.intro (fun z : Int × Bks => ∃ i : Nat, z.1 = i ∧ 1 ≤ i ∧ JO (key := hdK) out i z.2 ∧ ∀ l, l ∈ z.2 → l ∈ out) (fun z => out.length - z.1.toNat) ⟨1, rfl, Nat.le_refl _, JO.one out, fun l h => h⟩ ?_
  rintro Y ⟨z, d⟩ ⟨i, e1, hi, hJ, hm⟩ hY
  dsimp only at e1 hJ hm
  subst e1
  unfold notes_Parse_L7
  dsimp only
  refine IfB.dc (fun hlt => ?_) (fun hge => ?_)
  · have hil : i < out.length := by omega
    have hl := hJ.len
    obtain ⟨A, x, B, hI, hs, hdone⟩ := hJ.in hil
    refine LoopP.intro (fun z : Int × Bks => ∃ j : Nat, z.1 = j ∧ j ≤ i ∧ JI hdK A x B j z.2 ∧ z.2.length = out.length ∧ ∀ l, l ∈ z.2 → l ∈ out) (fun z => z.1.toNat) ⟨i, rfl, Nat.le_refl _, hI, hl, hm⟩ ?_
    rintro Z ⟨z, d⟩ ⟨j, e1, hj, hI, hl, hm⟩ hZ
    dsimp only at e1 hI hl hm
    subst e1
    unfold notes_Parse_L8
    dsimp only
    have ew : IntKind.i64.wrap ((i : Int) + 1) = ((i + 1 : Nat) : Int) := by rw [wrap64' (by omega) (by omega)]; omega
    refine IfB.dc (fun h0 => ?_) (fun h0 => ?_)
    · obtain ⟨j', rfl⟩ : ∃ j', j = j' + 1 := ⟨j - 1, by omega⟩
      obtain ⟨y, g1, g2, g3, g4⟩ := hI.at
      have hj1 : j' + 1 < d.length := by omega
      have ej : IntKind.i64.wrap (((j' + 1 : Nat) : Int) - 1) = (j' : Int) := by rw [wrap64' (by omega) (by omega)]; omega
      have i1 : Idx d ((j' + 1 : Nat) : Int) x := ⟨by omega, by simpa using g1⟩
      have i2 : Idx d (j' : Int) y := ⟨by omega, by simpa using g2⟩
      have i3 : Idx (d.set (j' + 1) y) (j' : Int) y := ⟨by omega, by rw [Int.toNat_natCast, List.getElem?_set_ne (by omega)]; exact g2⟩
      have mx : x ∈ d := List.mem_of_getElem? g1
      have my : y ∈ d := List.mem_of_getElem? g2
      obtain ⟨_, x1, x2, x3⟩ := good d hm x mx
      obtain ⟨_, y1, y2, y3⟩ := good d hm y my
      rw [ej]
      refine ⟨_, i1, _, i2, _, ⟨_, x3, _, y3, rfl⟩, ?_⟩
      rw [wrap64' (by omega) (by omega)]
      refine IfB.dc (fun hlt => ⟨_, i2, _, i1, _, i1, _, by simpa using i3, ?_⟩) (fun hge => ?_)
      · rw [Int.toNat_natCast, Int.toNat_natCast]
        refine hZ _ ⟨j', rfl, by omega, g3 (by omega), by simp [hl], fun l hl => ?_⟩ (by dsimp only; omega)
        rcases List.mem_or_eq_of_mem_set hl with hl | rfl
        · rcases List.mem_or_eq_of_mem_set hl with hl | rfl
          · exact hm l hl
          · exact hm _ my
        · exact hm _ mx
      · obtain ⟨A', rfl, a1, a2⟩ := g4 hs (by omega)
        rw [ew]
        exact hY _ ⟨i + 1, rfl, by omega, hdone A' a1 a2, hm⟩ (by dsimp only; omega)
    · have : j = 0 := by omega
      subst this
      obtain ⟨A', rfl, a1, a2⟩ := hI.end hs
      rw [ew]
      exact hY _ ⟨i + 1, rfl, by omega, hdone A' a1 a2, hm⟩ (by dsimp only; omega)
  · obtain ⟨h1, h2⟩ := hJ.all (by omega)
    rw [← sortB_eq hn hne h1 h2]
end Go.Abs
end

section
namespace Go.Abs
open Go
open Classical
set_option linter.unusedVariables false
set_option linter.unusedSimpArgs false
set_option linter.unnecessarySimpa false
end Go.Abs
end

section
namespace Go.Abs
open Go
open Classical
set_option linter.unusedVariables false
set_option linter.unusedSimpArgs false
set_option linter.unnecessarySimpa false
abbrev QRow := By × List Rat × Int × Rat
theorem linesT_app : ∀ (a b : List Ws), linesT (a ++ b) = linesT a ++ linesT b
  | [], b => rfl
  | ws :: a, b => by rw [List.cons_append, linesT, linesT, linesT_app a b, List.append_assoc]; rfl
end Go.Abs
end

section
namespace Go.Abs
open Go
open Classical
set_option linter.unusedVariables false
set_option linter.unusedSimpArgs false
set_option linter.unnecessarySimpa false
structure JP (V : Ws) (had : List Int) (out : Bks) : Prop where
  nd : had.Nodup
  rng : ∀ k, k ∈ had → 0 ≤ k ∧ k < V.length
  perm : out.flatten.Perm had
  ne : ∀ l, l ∈ out → l ≠ []
theorem JP.zero (V : Ws) : JP V [] [] := ⟨by simp, by simp, by simp, by simp⟩
theorem JP.step {V : Ws} {had : List Int} {out : Bks} (h : JP V had out) {ws : Ws} {ks : List Int} (hp : plS V had ws = some ks) (hw : 1 ≤ ws.length) : JP V (had ++ ks) (out ++ [sortI ks]) := by
  obtain ⟨a1, a2, a3⟩ := plS_ok ws had ks hp h.nd
  refine ⟨a1, fun k hk => ?_, ?_, fun l hl => ?_⟩
  · rcases List.mem_append.1 hk with hk | hk
    · exact h.rng k hk
    · exact a2 k hk
  · rw [List.flatten_append, List.flatten_cons, List.flatten_nil, List.append_nil]
    exact List.Perm.append h.perm (sortI_perm ks)
  · rcases List.mem_append.1 hl with hl | hl
    · exact h.ne l hl
    · simp at hl; subst hl
      intro e
      have := (sortI_perm ks).length_eq
      rw [e] at this
      simp at this; omega
theorem flat_len : ∀ (B : Bks), (∀ l, l ∈ B → l ≠ []) → B.length ≤ B.flatten.length
  | [], _ => by simp
  | l :: B, h => by
    have h1 := flat_len B fun m hm => h m (by simp [hm])
    have h2 : 1 ≤ l.length := List.length_pos_iff.2 (h l (by simp))
    rw [List.flatten_cons, List.length_append, List.length_cons]; omega
theorem JP.len {V : Ws} {had : List Int} {out : Bks} (h : JP V had out) : had.length ≤ V.length ∧ out.length ≤ V.length := by
  have h1 := nodup_int h.nd h.rng
  have h2 := flat_len out h.ne
  have h3 := h.perm.length_eq
  omega
theorem head_at0 {l : Ws} (h : 0 < l.length) : l.headD [] = l[0] := by cases l with | nil => simp at h | cons a l => rfl
theorem Parse9_loop {V : Ws} (hV : V.length ≤ 12) (L : Ls) (hL : LsOK L) : LoopP (notes_Parse_L1 V L (resN (foldN V [] [] L))) ((0 : Int), [], []) := by
  have hl1 := hL.1
  refine LoopP.natS (σ := List (Int × Int) × Bks) L.length (fun k z => ∃ had, z.1 = entE had ∧ JP V had z.2 ∧ foldN V [] [] L = foldN V had z.2 (L.drop k)) ⟨[], rfl, JP.zero V, by simp⟩ ?_
  rintro X k ⟨e, out⟩ hk ⟨had, e1, hJ, hF⟩ hX
  dsimp only at e1 hJ hF
  subst e1
  unfold notes_Parse_L1
  dsimp only
  obtain ⟨n1, n2⟩ := hJ.len
  refine IfB.dc (fun h => ?_) (fun h => ?_)
  · have hkl : k < L.length := by omega
    obtain ⟨hw, hne⟩ := hL.2 _ (List.getElem_mem hkl)
    rw [List.drop_eq_getElem_cons hkl] at hF
    have h0 : 0 < L[k].2.length := List.length_pos_iff.2 hne
    have hh : L[k].2.headD [] = L[k].2[0] := head_at0 h0
    refine ⟨L[k].1, L[k].2, Idx.nat hkl, _, Idx.nat h0, IfB.nbe (fun hb => ?_) (fun hb => IfB.dc (fun h2 => ?_) (fun h2 => ?_))⟩
    · rw [hF, foldN, if_pos (.inl (by rw [hh]; exact hb))]; rfl
    · rw [hF, foldN, if_pos (.inr (by omega))]; rfl
    · have hn : ¬ (L[k].2.headD [] ≠ bkW ∨ L[k].2.length < 2) := by
        rintro (h | h)
        · rw [hh] at h; exact h hb
        · omega
      rw [foldN, if_neg hn] at hF
      refine ⟨⟨by omega, by omega, by omega⟩, ?_⟩
      have es : sub L[k].2 (1 : Int) (L[k].2.length : Int) = L[k].2.tail := by
        cases hL2 : L[k].2 with
        | nil => exact absurd hL2 hne
        | cons a l => exact sub_tail a l
      have ht : 1 ≤ L[k].2.tail.length := by simp; omega
      have hwl := hw.1
      generalize hws : L[k].2.tail = ws at hF es ht
      have hwsl : ws.length ≤ 100000 := by rw [← hws]; simp; omega
      refine LoopP.natS (σ := List (Int × Int) × List Int) ws.length (fun j z => z.1 = entE (had ++ z.2) ∧ (had ++ z.2).Nodup ∧ (∀ k, k ∈ z.2 → 0 ≤ k ∧ k < V.length) ∧ plS V had ws = (plS V (had ++ z.2) (ws.drop j)).map (z.2 ++ ·)) ⟨by simp, by simpa using hJ.nd, by simp, by simp⟩ ?_
      rintro Y j ⟨e, ks⟩ hj ⟨e1, hnd, hrg, hpl⟩ hY
      dsimp only at e1 hnd hrg hpl
      subst e1
      unfold notes_Parse_L2
      dsimp only
      rw [es]
      have hkl2 : ks.length ≤ V.length := by
        refine nodup_int (List.nodup_append.1 hnd).2.1 hrg
      refine IfB.dc (fun h => ?_) (fun h => ?_)
      · have hjk : j < ws.length := by omega
        rw [List.drop_eq_getElem_cons hjk, plS] at hpl
        refine ⟨_, Idx.nat hjk, _, lines_Index_says V _ (by omega), IfB.dc (fun hneg => ?_) (fun hpos => ?_)⟩
        · rw [if_neg (fun hc => (idxN_neg.1 hneg) hc.1)] at hpl
          rw [hF, hpl]; rfl
        · have hin : ws[j] ∈ V := Decidable.byContradiction fun hn => hpos (idxN_neg.2 hn)
          by_cases hd : idxN V ws[j] ∈ had ++ ks
          · rw [if_neg (fun hc => hc.2 hd)] at hpl
            refine ⟨1, true, true, ⟨entE_in hd, rfl⟩, IfB_true.2 ?_⟩
            rw [hF, hpl]; rfl
          · rw [if_pos ⟨hin, hd⟩] at hpl
            refine ⟨0, false, false, ⟨entE_out hd, rfl⟩, IfB_false.2 ⟨by rw [entE_out hd], by unfold Fits; simp; omega, ?_⟩⟩
            rw [wrap64' (by omega) (by omega)]
            have hi := idxN_at hin
            refine hY _ hjk ⟨by simp [entE], ?_, fun q hq => ?_, ?_⟩
            · dsimp only
              rw [← List.append_assoc, List.nodup_append]
              exact ⟨hnd, by simp, fun a ha b hb => by simp at hb; subst hb; exact fun e => hd (e ▸ ha)⟩
            · dsimp only at hq
              rcases List.mem_append.1 hq with hq | hq
              · exact hrg q hq
              · simp at hq; subst hq; rw [hi.1]; omega
            · dsimp only
              rw [hpl, ← List.append_assoc, Option.map_map]
              congr 1
              funext z
              simp
      · have ej : j = ws.length := by omega
        subst ej
        rw [List.drop_length, plS] at hpl
        simp only [Option.map_some, List.append_nil] at hpl
        rw [hpl] at hF
        obtain ⟨x, hx⟩ := Len_says (n := ks.length) (by omega)
        refine ⟨x, hx, LoopP.once fun Z hZ => ?_⟩
        unfold notes_Parse_L3
        rw [wrap64' (by omega) (by omega)]
        refine IfB.dc (fun _ => ?_) (fun h => by omega)
        refine sort4 (by omega) (by omega) ?_ (by omega)
        exact hX _ hkl ⟨had ++ ks, rfl, hJ.step hpl ht, hF⟩
  · have ek : k = L.length := by omega
    subst ek
    rw [List.drop_length, foldN] at hF
    rw [hF]
    obtain ⟨x, hx⟩ := Len_says (n := out.length) (by omega)
    refine ⟨x, hx, LoopP.once fun Z hZ => ?_⟩
    unfold notes_Parse_L6
    rw [wrap64' (by omega) (by omega)]
    refine IfB.dc (fun _ => ?_) (fun h => by omega)
    refine sort7 (hJ.perm.nodup_iff.2 hJ.nd) hJ.ne (fun k hk => ?_) (by omega)
    have := hJ.rng k (hJ.perm.mem_iff.1 hk)
    omega
theorem Parse9_says {V : Ws} {C : List Fr} {R : List MRow} {s : By} (hm : MayM V C R) (hV : V.length ≤ 12) (hl : s.length ≤ 65536) (hr : RightP s) : notes_Parse V C R s (resN (foldN V [] [] (allL s))) := by
  unfold notes_Parse
  have h1 := model_Right_says V C R
  rw [decide_eq_true hm] at h1
  exact ⟨_, h1, IfB_true.2 ⟨_, _, lines_All_says hl hr, IfB.neI (fun h => absurd rfl h) (fun _ => Parse9_loop hV _ (allLs_ok hl))⟩⟩
def wdsB (V : Ws) (l : List Int) : Ws := bkW :: l.map fun k => V.getD k.toNat []
def printB (V : Ws) (B : Bks) : List Ws := B.map (wdsB V)
theorem name_len {v : By} (h : NameP v) : v.length ≤ 16 := h.2.1
theorem wdsB_wlen {V : Ws} (hV : ∀ v, v ∈ V → v.length ≤ 16) : ∀ (l : List Int), wlen (wdsB V l) ≤ 6 + 17 * l.length := by
  intro l
  unfold wdsB
  have : ∀ l : List Int, wlen (l.map fun k => V.getD k.toNat []) ≤ 17 * l.length := by
    intro l
    induction l with
    | nil => simp [wlen]
    | cons k l ih =>
      have h1 : (V.getD k.toNat []).length ≤ 16 := by
        by_cases h : k.toNat < V.length
        · rw [List.getD_eq_getElem?_getD, List.getElem?_eq_getElem h]; exact hV _ (List.getElem_mem h)
        · rw [List.getD_eq_getElem?_getD, List.getElem?_eq_none (by omega)]; simp
      simp only [List.map_cons, wlen, List.map_cons, List.sum_cons, List.length_cons] at ih ⊢
      omega
  have h2 := this l
  simp only [wlen, List.map_cons, List.sum_cons] at h2 ⊢
  have : bkW.length = 5 := rfl
  omega
theorem Print9_says {V : Ws} {C : List Fr} {R : List MRow} {B : Bks} (hB : FewB B) (hok : okBs V.length B) (hm : MayM V C R) : notes_Print V C R B (linesT (printB V B), 0) := by
  unfold notes_Print
  have hR := Right9_says V C R hB (by have := hm.1; omega)
  rw [decide_eq_true ⟨hok, hm⟩] at hR
  refine ⟨_, hR, IfB_true.2 ?_⟩
  have b1 := hB.1
  have nm : ∀ v, v ∈ V → v.length ≤ 16 := fun v hv => name_len (hm.2.2.2.1.2 v hv)
  have ll : ∀ ws, ws ∈ printB V B → wlen ws + 1 ≤ 200 := fun ws hw => by
    obtain ⟨l, hl, rfl⟩ := List.mem_map.1 hw
    have := wdsB_wlen nm l
    have := hB.2 l hl
    omega
  have tk : ∀ k, k ≤ B.length → (linesT ((printB V B).take k)).length ≤ 2000 := fun k hk => by
    have := linesT_len ((printB V B).take k) 200 fun ws hw => ll ws (List.mem_of_mem_take hw)
    have h2 : ((printB V B).take k).length ≤ 10 := by simp [printB]; omega
    omega
  refine LoopP.nat2 B.length (fun k s => s = linesT ((printB V B).take k)) (by simp [linesT]) ?_
  rintro X k s hk rfl hX
  unfold notes_Print_L1
  dsimp only
  refine IfB.dc (fun h => ?_) (fun h => ?_)
  · have hkl : k < B.length := by omega
    have b2 := hB.2 _ (List.getElem_mem hkl)
    refine ⟨_, Idx.nat hkl, ?_⟩
    refine LoopP.natS B[k].length (fun j ws => ws = bkW :: (B[k].take j).map fun k => V.getD k.toNat []) (by simp; rfl) ?_
    rintro Y j ws hj rfl hY
    unfold notes_Print_L2
    dsimp only
    refine IfB.dc (fun h => ?_) (fun h => ?_)
    · have hjk : j < B[k].length := by omega
      obtain ⟨a1, a2, _⟩ := hok.1.at hkl hjk
      have hlt : B[k][j].toNat < V.length := by omega
      refine ⟨_, Idx.nat hjk, V.getD B[k][j].toNat [], ⟨a1, by rw [List.getD_eq_getElem?_getD, List.getElem?_eq_getElem hlt]; rfl⟩, by unfold Fits; simp; omega, ?_⟩
      rw [wrap64' (by omega) (by omega)]
      refine hY _ hjk ?_
      rw [take_succ hjk, List.map_append]; rfl
    · have ej : j = B[k].length := by omega
      subst ej
      rw [List.take_length]
      have e : (bkW :: B[k].map fun k => V.getD k.toNat []) = wdsB V B[k] := rfl
      have hkp : k < (printB V B).length := by simp [printB]; omega
      have hw := wdsB_wlen nm B[k]
      have hlt := lineT_len (wdsB V B[k])
      have e2 : (printB V B)[k] = wdsB V B[k] := by simp [printB]
      have t1 := tk k hk
      rw [e]
      refine ⟨_, lines_Join_says (by omega), by unfold Fits; simp; omega, by unfold Fits; simp; omega, ?_⟩
      rw [wrap64' (by omega) (by omega)]
      refine hX _ hkl ?_
      rw [take_succ hkp, linesT_app, e2]
      simp [linesT]
  · have ek : k = B.length := by omega
    subst ek
    rw [List.take_of_length_le (by simp [printB])]
end Go.Abs
end

section
namespace Go.Abs
open Go
open Classical
set_option linter.unusedVariables false
set_option linter.unusedSimpArgs false
set_option linter.unnecessarySimpa false
end Go.Abs
end

section
namespace Go.Abs
open Go
open Classical
set_option linter.unusedVariables false
set_option linter.unusedSimpArgs false
set_option linter.unnecessarySimpa false
def Short10 (q : Rat) : Prop := (decT q.num.natAbs).length ≤ 400 ∧ (decT q.den).length ≤ 400
end Go.Abs
end

section
namespace Go.Abs
open Go
open Classical
set_option linter.unusedVariables false
set_option linter.unusedSimpArgs false
set_option linter.unnecessarySimpa false
structure QMay (V : Ws) (C : List Rat) (R : List QRow) : Prop where
  v60 : V.length ≤ 60
  cl : C.length = V.length
  r60 : R.length ≤ 60
  nv : NamesP V
  nr : NamesP (R.map (·.1))
  rows : ∀ r, r ∈ R → r.2.1.length = V.length ∧ -1 ≤ r.2.2.1 ∧ r.2.2.1 ≤ 1
  sc : ∀ q, q ∈ C → Short10 q
  sr : ∀ r, r ∈ R → (∀ q, q ∈ r.2.1 → Short10 q) ∧ Short10 r.2.2.2
theorem name_wd {v : By} (h : NameP v) : wdOK v := by
  refine ⟨fun e => by have := h.1; rw [e] at this; simp at this, fun b hb => ?_⟩
  obtain ⟨i, hi, rfl⟩ := List.mem_iff_getElem.1 hb
  have := h.2.2 i v[i] hi (List.getElem?_eq_getElem hi)
  unfold nmOk at this
  omega
end Go.Abs
end

section
namespace Go.Abs
open Go
open Classical
set_option linter.unusedVariables false
set_option linter.unusedSimpArgs false
set_option linter.unnecessarySimpa false
theorem idxN_nd {V : Ws} (hn : V.Nodup) {k : Int} (h0 : 0 ≤ k) (h1 : k < V.length) : V.getD k.toNat [] ∈ V ∧ idxN V (V.getD k.toNat []) = k := by
  have hk : k.toNat < V.length := by omega
  have e : V.getD k.toNat [] = V[k.toNat] := by rw [List.getD_eq_getElem?_getD, List.getElem?_eq_getElem hk]; rfl
  rw [e]
  have hm := List.getElem_mem hk
  refine ⟨hm, ?_⟩
  rw [(idxN_at hm).1, idx_nodup hk hn]; omega
theorem plS_back {V : Ws} (hn : V.Nodup) : ∀ (l had : List Int), (had ++ l).Nodup → (∀ k, k ∈ l → 0 ≤ k ∧ k < V.length) → plS V had (l.map fun k => V.getD k.toNat []) = some l
  | [], had, _, _ => rfl
  | k :: l, had, hd, hr => by
    obtain ⟨h1, h2⟩ := hr k (by simp)
    obtain ⟨a, b⟩ := idxN_nd hn h1 h2
    have hk : k ∉ had := fun hh => by
      rw [List.nodup_append] at hd
      exact hd.2.2 k hh k (by simp) rfl
    rw [List.map_cons, plS, b, if_pos ⟨a, hk⟩, plS_back hn l (had ++ [k]) (by simpa using hd) (fun q hq => hr q (by simp [hq]))]
    rfl
theorem fold_back {V : Ws} (hn : V.Nodup) : ∀ (P : Bks) (had : List Int) (out : Bks) (n : Int), (had ++ P.flatten).Nodup → (∀ k, k ∈ P.flatten → 0 ≤ k ∧ k < V.length) → (∀ l, l ∈ P → l ≠ []) → foldN V had out (linesN n (P.map (wdsB V))) = .inr (out ++ P.map sortI)
  | [], had, out, n, _, _, _ => by simp [linesN, foldN]
  | l :: P, had, out, n, hd, hr, hne => by
    have h1 : 1 ≤ l.length := List.length_pos_iff.2 (hne l (by simp))
    rw [List.flatten_cons] at hd hr
    rw [← List.append_assoc] at hd
    rw [List.map_cons, linesN, foldN, if_neg]
    · have hp : plS V had (wdsB V l).tail = some l := plS_back hn l had (List.nodup_append.1 hd).1 (fun k hk => hr k (by simp [hk]))
      simp only [hp]
      rw [fold_back hn P _ _ _ hd (fun k hk => hr k (by simp [hk])) (fun m hm => hne m (by simp [hm]))]
      simp
    · rintro (h | h)
      · exact h rfl
      · simp [wdsB] at h; omega
theorem wdsB_ok {V : Ws} (hV : ∀ v, v ∈ V → NameP v) {l : List Int} (hr : ∀ k, k ∈ l → 0 ≤ k ∧ k < V.length) : wdsB V l ≠ [] ∧ ∀ w, w ∈ wdsB V l → wdOK w := by
  refine ⟨by simp [wdsB], fun w hw => ?_⟩
  rcases List.mem_cons.1 hw with rfl | hw
  · exact ⟨by simp [bkW], fun b hb => by simp [bkW] at hb; rcases hb with rfl | rfl | rfl | rfl | rfl <;> decide⟩
  · obtain ⟨k, hk, rfl⟩ := List.mem_map.1 hw
    obtain ⟨h1, h2⟩ := hr k hk
    have hk : k.toNat < V.length := by omega
    rw [List.getD_eq_getElem?_getD, List.getElem?_eq_getElem hk]
    exact name_wd (hV _ (List.getElem_mem hk))
theorem texts_len {V : Ws} (nm : ∀ v, v ∈ V → v.length ≤ 16) {P : Bks} (hP : FewB P) (k : Nat) : (linesT ((P.map (wdsB V)).take k)).length ≤ 2000 := by
  have := linesT_len ((P.map (wdsB V)).take k) 200 fun ws hw => by
    obtain ⟨l, hl, rfl⟩ := List.mem_map.1 (List.mem_of_mem_take hw)
    have := wdsB_wlen nm l
    have := hP.2 l hl
    omega
  have h2 : ((P.map (wdsB V)).take k).length ≤ 10 := by have := hP.1; simp; omega
  omega
theorem parse_back9 {V : Ws} {C : List Fr} {R : List MRow} {B P : Bks} (hm : MayM V C R) (hV : V.length ≤ 12) (hB : okBs V.length B) (hP : FewB P) (hp : (P.map sortI).Perm B) : notes_Parse V C R (linesT (P.map (wdsB V))) (B, 0, 0) := by
  have hne : ∀ l, l ∈ B → l ≠ [] := fun l hl => (hB.2.1 l hl).1
  have fl : P.flatten.Perm B.flatten := by
    have h1 : ∀ P : Bks, P.flatten.Perm (P.map sortI).flatten := by
      intro P
      induction P with
      | nil => exact List.Perm.refl _
      | cons l P ih => rw [List.map_cons, List.flatten_cons, List.flatten_cons]; exact List.Perm.append (sortI_perm l).symm ih
    exact (h1 P).trans hp.flatten
  have hnd : P.flatten.Nodup := fl.nodup_iff.2 hB.1.2
  have hr : ∀ k, k ∈ P.flatten → 0 ≤ k ∧ k < V.length := fun k hk => hB.1.1 k (fl.mem_iff.1 hk)
  have hneP : ∀ l, l ∈ P → l ≠ [] := fun l hl e => by
    have := hne (sortI l) (hp.mem_iff.1 (List.mem_map.2 ⟨l, hl, rfl⟩))
    subst e
    exact this (by simp [sortI])
  have nmP : ∀ v, v ∈ V → NameP v := hm.2.2.2.1.2
  have hw : ∀ ws, ws ∈ P.map (wdsB V) → ws ≠ [] ∧ ∀ w, w ∈ ws → wdOK w := fun ws hw => by
    obtain ⟨l, hl, rfl⟩ := List.mem_map.1 hw
    exact wdsB_ok nmP fun k hk => hr k (List.mem_flatten.2 ⟨l, hl, hk⟩)
  have hl := texts_len (V := V) (fun v hv => name_len (nmP v hv)) hP (P.map (wdsB V)).length
  rw [List.take_length] at hl
  have := Parse9_says (s := linesT (P.map (wdsB V))) hm hV (by omega) (linesT_rightP hw)
  rw [allL_T hw, fold_back hm.2.2.2.1.1 P [] [] 0 (by simpa using hnd) hr hneP] at this
  have e : sortB ([] ++ P.map sortI) = B := by
    rw [List.nil_append]
    have h1 : B.flatten.Nodup := hB.1.2
    refine (sortB_eq (B := P.map sortI) (d := B) ?_ ?_ ?_ hp.symm).symm
    · exact hp.flatten.nodup_iff.2 h1
    · exact fun l hl => hne l (hp.mem_iff.1 hl)
    · have := hB.2.2
      rw [List.pairwise_cons] at this
      have h2 := List.pairwise_map.1 this.2
      exact h2.imp fun h => Int.le_of_lt h
  rw [resN, e] at this
  exact this
end Go.Abs
end

section
namespace Go.Abs
open Go.RowKit Go.Proofs
set_option maxRecDepth 100000
set_option linter.unusedVariables false
set_option linter.unusedSimpArgs false
def V9 : Ws := [[120], [121], [122]]
def q9 : Fr := (false, [1], [1])
def C9 : List Fr := [q9, q9, q9]
def B9 : Bks := [[0, 1], [2]]
def P9 : Bks := [[2], [1, 0]]
def t9 : By := [98, 108, 111, 99, 107, 32, 122, 10, 98, 108, 111, 99, 107, 32, 121, 32, 120, 10]
def u9 : By := [98, 108, 111, 99, 107, 32, 120, 32, 121, 10, 98, 108, 111, 99, 107, 32, 122, 10]
theorem name1 {c : UInt8} (h1 : 97 ≤ c.toNat) (h2 : c.toNat ≤ 122) : NameP [c] := ⟨by simp, by simp, fun i b hi hb => by
  have : i = 0 := by simpa using hi
  subst this
  simp at hb; subst hb
  exact .inl ⟨h1, h2⟩⟩
theorem may9 : MayM V9 C9 [] := by
  refine ⟨by decide, by decide, by decide, ⟨by decide, fun v hv => ?_⟩, ⟨by decide, fun v hv => by simp at hv⟩, fun r hr => by simp at hr⟩
  simp [V9] at hv
  rcases hv with rfl | rfl | rfl <;> exact name1 (by decide) (by decide)
theorem okB9 : okBs V9.length B9 := by
  refine ⟨⟨by decide, by decide⟩, fun l hl => ?_, by decide⟩
  simp [B9] at hl
  rcases hl with rfl | rfl <;> decide
theorem perm9 : (P9.map sortI).Perm B9 := by
  have h1 : sortI [2] = [2] := (sortI_eq (l := [2]) (d := [2]) (by simp [SrtK]) (List.Perm.refl _)).symm
  have h2 : sortI [1, 0] = [0, 1] := (sortI_eq (l := [1, 0]) (d := [0, 1]) (by simp [SrtK]) (List.Perm.swap _ _ _)).symm
  show [sortI [2], sortI [1, 0]].Perm [[0, 1], [2]]
  rw [h1, h2]
  exact List.Perm.swap _ _ _
theorem fewP9 : FewB P9 := ⟨by decide, fun l hl => by
  simp [P9] at hl
  rcases hl with rfl | rfl <;> decide⟩
theorem fewB9 : FewB B9 := ⟨by decide, fun l hl => by
  simp [B9] at hl
  rcases hl with rfl | rfl <;> decide⟩
theorem parse9 : notes_Parse V9 C9 [] t9 (B9, 0, 0) := parse_back9 may9 (by decide) okB9 fewP9 perm9
theorem print9 : notes_Print V9 C9 [] B9 (u9, 0) := Print9_says fewB9 okB9 may9
theorem home9 : notes_Home V9 C9 [] B9 [0, 0, 1] := by
  have h := Home9_says V9 C9 [] fewB9 (by decide)
  rw [if_pos ⟨okB9, may9⟩] at h
  exact h
theorem int9 : rat_Int 1 q9 := by
  have h := sg1 false
  unfold sgF at h
  rw [words_one (by omega) (by omega)] at h
  exact h
def m9 : AV := .agg [.pd (.sl (V9.map elS)), .pd (.sl (C9.map elABLU32LU32Z)), .pd (.sl [])]
def n9 : AV := .agg [.pd (.sl (B9.map elQ2))]
def tab9 : List (FuncId × List AV × AV) := [(43, [.pd (.int .i64 1)], .agg [.pd (.bool false), .pd (.sl [.int .u32 1]), .pd (.sl [.int .u32 1])]), (10, [m9, .pd (.str t9)], .tup [n9, .pd (.int .i64 0), .pd (.int .i64 0)]), (22, [m9, n9], .tup [.pd (.str u9), .pd (.int .i64 0)]), (19, [m9, n9], .pd (.sl [.int .i64 0, .int .i64 0, .int .i64 1]))]
theorem tab9_ok (m : Tp) : TabOK Tryz.prog (gtT m) tab9 :=
  .cons (rat_Int_ok m 1 int9) (hasT 43 (by kernel_rfl)) rfl (.cons (notes_Parse_ok m V9 C9 [] t9 parse9) (hasT 10 (by kernel_rfl)) rfl (.cons (notes_Print_ok m V9 C9 [] B9 print9) (hasT 22 (by kernel_rfl)) rfl (.cons (notes_Home_ok m V9 C9 [] B9 home9) (hasT 19 (by kernel_rfl)) rfl .nil)))
def orc0 (g : FuncId) (args : List AV) (M : Mem) : Option (AV × Mem × Bool) := none
theorem orc0_ok (m : Tp) (f : FuncId) (args : List AV) (M : Mem) (z : AV × Mem × Bool) (h : orc0 f args M = some z) : CallOK Tryz.prog (gtT m) f args M z := by cases h
theorem awake_runs09 (m : Tp) : saysTrue Tryz.prog (gtT m) (orcT tab9 orc0) (fun _ => false) 400 9 [] = true := by kernel_rfl
theorem offcutlaw09_awake_ok (m : Tp) {r : Bool} (h : offcutlaw09_awake r) : ASpec Tryz.prog (gtT m) 9 [] (· = .pd (.bool r)) := by
  obtain rfl := h
  exact saysTrue_ok mixedT namesT (orcT_ok (tab9_ok m) (orc0_ok m)) (awake_runs09 m)
end Go.Abs
end

section
namespace Go.Abs
open Go.Proofs
set_option maxHeartbeats 4000000
set_option maxRecDepth 20000
set_option linter.unusedVariables false
set_option linter.unusedSimpArgs false
set_option linter.unnecessarySimpa false
theorem offcutlaw09_NotesSame_ok (m : Tp) (p0 : List (List Int)) (p1 : List (List Int)) {r : Bool} (h : offcutlaw09_NotesSame p0 p1 r) : ASpec Tryz.prog (gtT m) 5 [.agg [.pd (.sl (p0.map elQ2))], .agg [.pd (.sl (p1.map elQ2))]] (· = .pd (.bool r)) := by
 refine ASpec_tree Tryz.f5 mixedT (askZ [9, 10, 11] false [29] [26]) (by kernel_rfl) ?_
 unfold offcutlaw09_NotesSame at h
 refine QK 3 ?_
 obtain ⟨x1, hx2, h⟩ := h
 refine QV (offcutlaw09_few_ok m _ hx2) ?_
 cases x1
 ·replace h := h.f rfl
  obtain ⟨x21, hx22, h⟩ := h
  refine QV (offcutlaw09_awake_ok m  hx22) ?_
  cases x21
  ·replace h := h.f rfl
   subst r; exact QE .ret
  replace h := h.t rfl
  subst r; exact QE .ret
 replace h := h.t rfl
 refine QK 1 ?_
 obtain ⟨x3, hx4, h⟩ := h
 refine QV (offcutlaw09_few_ok m _ hx4) ?_
 cases x3
 ·replace h := h.f rfl
  obtain ⟨x19, hx20, h⟩ := h
  refine QV (offcutlaw09_awake_ok m  hx20) ?_
  cases x19
  ·replace h := h.f rfl
   subst r; exact QE .ret
  replace h := h.t rfl
  subst r; exact QE .ret
 replace h := h.t rfl
 refine QD ?_
 refine QK 2 ?_
 obtain ⟨x5, hx6, h⟩ := h
 refine QVd (notes_Same_ok m _ _ hx6) ?_
 cases x5
 ·replace h := h.f rfl
  refine QK 4 ?_
  obtain ⟨x13, hx14, h⟩ := h
  refine QVd (offcutlaw09_same_ok m _ _ hx14) ?_
  cases x13
  ·replace h := h.f rfl
   refine QP true (fun _ => ?_) (fun hc => by cases hc)
   refine QK 2 ?_
   obtain ⟨x15, hx16, h⟩ := h
   refine QVd (notes_Same_ok m _ _ hx16) ?_
   cases x15
   ·replace h := h.f rfl
    subst r; exact QE .ret
   replace h := h.t rfl
   obtain ⟨x17, hx18, h⟩ := h
   refine QVd (offcutlaw09_awake_ok m  hx18) ?_
   cases x17
   ·replace h := h.f rfl
    subst r; exact QE .ret
   replace h := h.t rfl
   subst r; exact QE .ret
  replace h := h.t rfl
  refine QP false (fun hc => by cases hc) (fun _ => ?_)
  subst r; exact QE .ret
 replace h := h.t rfl
 refine QK 4 ?_
 obtain ⟨x7, hx8, h⟩ := h
 refine QVd (offcutlaw09_same_ok m _ _ hx8) ?_
 cases x7
 ·replace h := h.f rfl
  refine QP false (fun hc => by cases hc) (fun _ => ?_)
  subst r; exact QE .ret
 replace h := h.t rfl
 refine QP true (fun _ => ?_) (fun hc => by cases hc)
 refine QK 2 ?_
 obtain ⟨x9, hx10, h⟩ := h
 refine QVd (notes_Same_ok m _ _ hx10) ?_
 cases x9
 ·replace h := h.f rfl
  subst r; exact QE .ret
 replace h := h.t rfl
 obtain ⟨x11, hx12, h⟩ := h
 refine QVd (offcutlaw09_awake_ok m  hx12) ?_
 cases x11
 ·replace h := h.f rfl
  subst r; exact QE .ret
 replace h := h.t rfl
 subst r; exact QE .ret
end Go.Abs
end
