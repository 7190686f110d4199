/- Part of a proof, in few files: L9i. -/
import Derived.Test.YtojdnnogpffhpaaGreatDoorNHqK24

section
namespace Go.Abs
open Go
open Classical
set_option linter.unusedVariables false
set_option linter.unusedSimpArgs false
set_option linter.unnecessarySimpa false
def sgX (x : Fr) : Int := sgn x.1 (val x.2.1)
def sgOK (c : List Fr) : Prop := ∀ x, x ∈ c → WS x.2.1 ∧ x.2.1.length ≤ 1000
theorem sign9 {x : Fr} (h : WS x.2.1 ∧ x.2.1.length ≤ 1000) : rat_Sign x.1 x.2.1 x.2.2 (sgX x) := ⟨_, whole_Sign_says x.1 x.2.1 h.1 (by omega), rfl⟩
def nzH : List Int → List Fr → List Int
  | a :: h, x :: c => (if sgX x = 0 then [] else [a]) ++ nzH h c
  | _, _ => []
theorem nzH_snoc : ∀ (h : List Int) (c : List Fr) (a : Int) (x : Fr), h.length = c.length → nzH (h ++ [a]) (c ++ [x]) = nzH h c ++ (if sgX x = 0 then [] else [a])
  | [], [], a, x, _ => by simp [nzH]
  | b :: h, y :: c, a, x, e => by
    rw [List.cons_append, List.cons_append, nzH, nzH_snoc h c a x (by simpa using e), nzH, List.append_assoc]
theorem nzH_step {h : List Int} {c : List Fr} {k : Nat} (h1 : k < h.length) (h2 : k < c.length) : nzH (h.take (k + 1)) (c.take (k + 1)) = nzH (h.take k) (c.take k) ++ (if sgX c[k] = 0 then [] else [h[k]]) := by
  rw [take_succ h1, take_succ h2, nzH_snoc _ _ _ _ (by simp; omega)]
theorem nzH_mem : ∀ {h : List Int} {c : List Fr} {a : Int}, a ∈ nzH h c → a ∈ h
  | [], _, a, hm => by simp [nzH] at hm
  | b :: h, [], a, hm => by simp [nzH] at hm
  | b :: h, x :: c, a, hm => by
    rw [nzH] at hm
    rcases List.mem_append.1 hm with hm | hm
    · split at hm
      · cases hm
      · simp at hm; simp [hm]
    · exact List.mem_cons_of_mem _ (nzH_mem hm)
def oneB (l : List Int) : Prop := ∀ a, a ∈ l → ∀ b, b ∈ l → a = b
noncomputable def rowOf (l : List Int) : Int := if oneB l then l.getLastD (-1) else -1
theorem last_snoc (l : List Int) (a : Int) : (l ++ [a]).getLastD (-1) = a := by rw [List.getLastD_eq_getLast?, List.getLast?_concat]; rfl
theorem last_mem {l : List Int} (h : l ≠ []) : l.getLastD (-1) ∈ l := by
  rw [List.getLastD_eq_getLast?]
  cases hl : l.getLast? with
  | none => exact absurd (List.getLast?_eq_none_iff.1 hl) h
  | some x => exact List.mem_of_getLast? hl
theorem oneB_snoc {l : List Int} {a : Int} (h : l ≠ []) : oneB (l ++ [a]) ↔ oneB l ∧ a = l.getLastD (-1) := by
  constructor
  · intro h1
    exact ⟨fun x hx y hy => h1 x (List.mem_append_left _ hx) y (List.mem_append_left _ hy), h1 a (List.mem_append_right _ (List.mem_singleton.2 rfl)) _ (List.mem_append_left _ (last_mem h))⟩
  · rintro ⟨h1, rfl⟩ x hx y hy
    rcases List.mem_append.1 hx with hx | hx <;> rcases List.mem_append.1 hy with hy | hy
    · exact h1 x hx y hy
    · rw [List.mem_singleton.1 hy]; exact h1 x hx _ (last_mem h)
    · rw [List.mem_singleton.1 hx]; exact h1 _ (last_mem h) y hy
    · rw [List.mem_singleton.1 hx, List.mem_singleton.1 hy]
theorem Rows9_says (V : List By) (C : List Fr) (R : List MRow) {B : Bks} (hB : FewB B) (hV : V.length ≤ 1000) (hok : okBs V.length B ∧ MayM V C R) (hs : ∀ r, r ∈ R → sgOK r.2.1) : notes_Rows V C R B (R.map fun r => rowOf (nzH (homeL V.length B) r.2.1)) := by
  unfold notes_Rows
  have h1 := Home9_says V C R hB hV
  rw [if_pos hok] at h1
  have h2 := Right9_says V C R hB hV
  rw [decide_eq_true hok] at h2
  obtain ⟨_, hm⟩ := hok
  have r60 := hm.2.2.1
  refine ⟨_, h1, _, h2, IfB_true.2 ?_⟩
  have hHl := homeL_len V.length B
  generalize homeL V.length B = H at *
  refine LoopP.natS R.length (fun k out => out = (R.take k).map fun r => rowOf (nzH H r.2.1)) (by simp) ?_
  rintro X k out hk rfl hX
  unfold notes_Rows_L1
  dsimp only
  refine IfB.dc (fun h => ?_) (fun h => ?_)
  · have hkl : k < R.length := by omega
    have hmem := List.getElem_mem hkl
    have hlen := (hm.2.2.2.2.2 _ hmem).1
    have hsg := hs _ hmem
    refine ⟨R[k].1, R[k].2.1, R[k].2.2.1, R[k].2.2.2.1, R[k].2.2.2.2.1, R[k].2.2.2.2.2, Idx.nat hkl, ?_⟩
    have hdone : ∀ v, v = rowOf (nzH H R[k].2.1) → X ((k : Int) + 1, ((R.take k).map fun r => rowOf (nzH H r.2.1)) ++ [v]) := fun v hv => by
      refine hX _ hkl ?_
      rw [take_succ hkl, List.map_append, hv]; rfl
    generalize R[k].2.1 = c at *
    have hcl : c.length = H.length := by omega
    have fit : ∀ v : Int, Fits (((R.take k).map fun r => rowOf (nzH H r.2.1)).length + [v].length) 8 := fun v => by unfold Fits; simp; omega
    refine LoopP.intro (fun z : Int × Bool × Bool × Int => ∃ j : Nat, z.2.2.2 = j ∧ j ≤ c.length ∧ z.1 = (nzH (H.take j) (c.take j)).getLastD (-1) ∧ z.2.1 = decide (nzH (H.take j) (c.take j) ≠ []) ∧ z.2.2.1 = decide (oneB (nzH (H.take j) (c.take j)))) (fun z => c.length - z.2.2.2.toNat) ⟨0, rfl, by omega, by simp [nzH], by simp [nzH], by simp [nzH, oneB]⟩ ?_
    rintro Y ⟨b, some, one, z⟩ ⟨j, e1, hj, e2, e3, e4⟩ hY
    dsimp only at e1 e2 e3 e4
    subst e1
    have step : ∀ (hjl : j < c.length) b' s' o', (sgX c[j] = 0 → b' = b ∧ s' = some ∧ o' = one) → (sgX c[j] ≠ 0 → b' = H[j]'(by omega) ∧ s' = true ∧ (some = false → o' = true) ∧ (some = true → o' = (one && decide (H[j]'(by omega) = b)))) → Y (b', s', o', (j : Int) + 1) := by
      intro hjl b' s' o' h0 hn
      have hjH : j < H.length := by omega
      refine hY _ ⟨j + 1, by simp, by omega, ?_⟩ (by dsimp only; omega)
      dsimp only
      rw [nzH_step hjH hjl]
      by_cases hz : sgX c[j] = 0
      · obtain ⟨rfl, rfl, rfl⟩ := h0 hz
        rw [if_pos hz, List.append_nil]
        exact ⟨e2, e3, e4⟩
      · obtain ⟨rfl, rfl, n1, n2⟩ := hn hz
        rw [if_neg hz]
        generalize nzH (H.take j) (c.take j) = L at *
        refine ⟨(last_snoc _ _).symm, (decide_eq_true (by simp)).symm, ?_⟩
        by_cases hL : L = []
        · subst hL
          rw [n1 (by simpa using e3)]
          exact (decide_eq_true (by simp [oneB])).symm
        · rw [n2 (by rw [e3]; exact decide_eq_true hL), e4, e2]
          rw [Bool.eq_iff_iff, Bool.and_eq_true, decide_eq_true_eq, decide_eq_true_eq, decide_eq_true_eq, oneB_snoc hL]
    have fin : ¬ ((j : Int) < c.length) → nzH (H.take j) (c.take j) = nzH H c := fun h => by
      rw [List.take_of_length_le (by omega), List.take_of_length_le (by omega)]
    unfold notes_Rows_L2
    dsimp only
    have ewk : IntKind.i64.wrap ((k : Int) + 1) = (k : Int) + 1 := wrap64' (by omega) (by omega)
    have ewj : (j : Int) < c.length → IntKind.i64.wrap ((j : Int) + 1) = (j : Int) + 1 := fun h => wrap64' (by omega) (by have := hm.1; omega)
    refine IfB.intro (fun hs1 => IfB.intro (fun ho1 => ?_) (fun ho0 => ?_)) (fun hs0 => IfB.intro (fun ho1 => ?_) (fun ho0 => ?_))
    · refine IfB.dc (fun h => ?_) (fun h => ⟨fit _, ?_⟩)
      · have hjl : j < c.length := by omega
        have hjH : j < H.length := by omega
        rw [ewj h]
        refine ⟨c[j].1, c[j].2.1, c[j].2.2, Idx.nat hjl, _, sign9 (hsg _ (List.getElem_mem hjl)), IfB.eqI (fun hz => step hjl _ _ _ (fun _ => ⟨rfl, hs1.symm, ho1.symm⟩) (fun h => absurd hz h)) (fun hz => ⟨_, Idx.nat hjH, IfB.eqI (fun he => ⟨_, Idx.nat hjH, step hjl _ _ _ (fun h => absurd h hz) (fun _ => ⟨rfl, rfl, fun _ => rfl, fun _ => by rw [ho1, decide_eq_true he]; rfl⟩)⟩) (fun hne => ⟨_, Idx.nat hjH, step hjl _ _ _ (fun h => absurd h hz) (fun _ => ⟨rfl, rfl, fun h => (by rw [hs1] at h; cases h), fun _ => (by rw [decide_eq_false hne, Bool.and_false])⟩)⟩)⟩)⟩
      · rw [ewk]
        refine hdone _ ?_
        rw [fin h] at e2 e4
        rw [rowOf, if_pos (of_decide_eq_true (e4.symm.trans ho1)), e2]
    · refine IfB.dc (fun h => ?_) (fun h => ⟨fit _, ?_⟩)
      · have hjl : j < c.length := by omega
        have hjH : j < H.length := by omega
        rw [ewj h]
        refine ⟨c[j].1, c[j].2.1, c[j].2.2, Idx.nat hjl, _, sign9 (hsg _ (List.getElem_mem hjl)), IfB.eqI (fun hz => step hjl _ _ _ (fun _ => ⟨rfl, hs1.symm, ho0.symm⟩) (fun h => absurd hz h)) (fun hz => ⟨_, Idx.nat hjH, step hjl _ _ _ (fun h => absurd h hz) (fun _ => ⟨rfl, rfl, fun h => (by rw [hs1] at h; cases h), fun _ => (by rw [ho0, Bool.false_and])⟩)⟩)⟩
      · rw [ewk]
        refine hdone _ ?_
        rw [fin h] at e4
        rw [rowOf, if_neg (of_decide_eq_false (e4.symm.trans ho0))]
    · refine IfB.dc (fun h => ?_) (fun h => ⟨fit _, ?_⟩)
      · have hjl : j < c.length := by omega
        have hjH : j < H.length := by omega
        rw [ewj h]
        refine ⟨c[j].1, c[j].2.1, c[j].2.2, Idx.nat hjl, _, sign9 (hsg _ (List.getElem_mem hjl)), IfB.eqI (fun hz => step hjl _ _ _ (fun _ => ⟨rfl, hs0.symm, ho1.symm⟩) (fun h => absurd hz h)) (fun hz => ⟨_, Idx.nat hjH, step hjl _ _ _ (fun h => absurd h hz) (fun _ => ⟨rfl, rfl, fun _ => rfl, fun h => by rw [hs0] at h; cases h⟩)⟩)⟩
      · rw [ewk]
        refine hdone _ ?_
        rw [fin h] at e2 e4
        rw [rowOf, if_pos (of_decide_eq_true (e4.symm.trans ho1)), e2]
    · exfalso
      rw [hs0] at e3
      have : nzH (H.take j) (c.take j) = [] := by simpa using e3
      rw [this, ho0] at e4
      have : oneB [] := by simp [oneB]
      rw [decide_eq_true this] at e4
      cases e4
  · have ek : k = R.length := by omega
    subst ek
    rw [List.take_length]
theorem ent_mem : ∀ (B : Bks) (n j : Nat) (hj : j < B.length) {x : Int}, x ∈ B[j] → (x, ((n + j : Nat) : Int)) ∈ entB n B
  | l :: B, n, 0, _, x, h => by rw [entB]; exact List.mem_append_left _ (List.mem_map.2 ⟨x, h, rfl⟩)
  | l :: B, n, j + 1, hj, x, h => by
    rw [entB]
    have := ent_mem B (n + 1) j (by simpa using hj) (x := x) h
    rw [show n + 1 + j = n + (j + 1) by omega] at this
    exact List.mem_append_right _ this
theorem mem_ent : ∀ (B : Bks) (n : Nat) {x v : Int}, (x, v) ∈ entB n B → ∃ (j : Nat) (hj : j < B.length), v = ((n + j : Nat) : Int) ∧ x ∈ B[j]
  | [], n, x, v, h => by cases h
  | l :: B, n, x, v, h => by
    rw [entB] at h
    rcases List.mem_append.1 h with h | h
    · obtain ⟨y, hy, e⟩ := List.mem_map.1 h
      cases e
      exact ⟨0, by simp, by simp, hy⟩
    · obtain ⟨j, hj, e, hx⟩ := mem_ent B (n + 1) h
      exact ⟨j + 1, by simp; omega, by rw [e]; omega, hx⟩
theorem homeOf_in {n : Nat} {B : Bks} (hok : okBs n B) {i j : Nat} (hj : j < B.length) (h : (i : Int) ∈ B[j]) : homeOf B i = j := by
  have h1 := ent_mem B 0 j hj h
  rw [Nat.zero_add] at h1
  have h2 : ((entB 0 B).map (·.1)).Nodup := by rw [entB_keys]; exact hok.1.2
  unfold homeOf
  rw [find_key h2 h1]
theorem homeOf_out {B : Bks} {i : Nat} (h : ∀ l, l ∈ B → (i : Int) ∉ l) : homeOf B i = -1 := by
  unfold homeOf
  cases hf : (entB 0 B).find? (fun p => p.1 == (i : Int)) with
  | none => rfl
  | some p =>
    have h1 := List.mem_of_find?_eq_some hf
    have h2 : p.1 = (i : Int) := by simpa using List.find?_some hf
    obtain ⟨j, hj, _, hx⟩ := mem_ent B 0 (x := p.1) (v := p.2) h1
    rw [h2] at hx
    exact absurd hx (h _ (List.getElem_mem hj))
theorem homeOf_rng (B : Bks) (i : Nat) : homeOf B i = -1 ∨ ∃ j, j < B.length ∧ homeOf B i = (j : Int) := by
  unfold homeOf
  cases hf : (entB 0 B).find? (fun p => p.1 == (i : Int)) with
  | none => exact .inl rfl
  | some p =>
    obtain ⟨j, hj, e, _⟩ := mem_ent B 0 (x := p.1) (v := p.2) (List.mem_of_find?_eq_some hf)
    exact .inr ⟨j, hj, by show p.2 = (j : Int); rw [e]; simp⟩
theorem law_nhomes (V : List By) (C : List Fr) (R : List MRow) (B : Bks) (wR : ∀ r, r ∈ R → wsR r) : offcutlaw09_NotesHomes V C R B true := by
  unfold offcutlaw09_NotesHomes
  refine ⟨_, Few8_says V C R, IfB.dc (fun hF => ?_) (fun _ => awk9 rfl)⟩
  refine ⟨_, few9_says B, IfB.dc (fun hB => ?_) (fun _ => awk9 rfl)⟩
  have v8 := hF.1
  refine ⟨_, right9_says V C R hB (by omega), IfB.dc (fun hok => ?_) (fun _ => awk9 rfl)⟩
  have hsg : ∀ r, r ∈ R → sgOK r.2.1 := fun r hr x hx => by
    have h1 := (wR r hr).1 x hx
    have h2 := (hF.2.2.2.1 r hr).2.1.2 x hx
    exact ⟨h1.1, by have := h2.1; omega⟩
  have hH := Home9_says V C R hB (by omega)
  rw [if_pos hok] at hH
  refine ⟨_, hH, _, Rows9_says V C R hB (by omega) hok hsg, IfB.neI (fun h => absurd (by rw [homeL_len]) h) (fun _ => IfB.neI (fun h => absurd (by simp) h) (fun _ => ?_))⟩
  obtain ⟨hok, hm⟩ := hok
  have b1 := hB.1
  have hHl := homeL_len V.length B
  refine LoopP.nat V.length (fun _ => True) trivial ?_
  intro X k hk _ hX
  unfold offcutlaw09_NotesHomes_L1
  dsimp only
  rw [hHl]
  refine IfB.dc (fun h => ?_) (fun h => ?_)
  · have hkl : k < V.length := by omega
    have hkH : k < (homeL V.length B).length := by omega
    refine LoopP.nat2 B.length (fun b want => (∀ b' (h : b' < B.length), b' < b → (k : Int) ∈ B[b'] → want = b') ∧ ((∀ b' (h : b' < B.length), b' < b → (k : Int) ∉ B[b']) → want = -1)) ⟨fun b' h h0 => by omega, fun _ => rfl⟩ ?_
    rintro Y b want hb ⟨j1, j2⟩ hY
    unfold offcutlaw09_NotesHomes_L2
    dsimp only
    refine IfB.dc (fun h => ?_) (fun h => ?_)
    · have hbl : b < B.length := by omega
      have b2 := hB.2 _ (List.getElem_mem hbl)
      refine ⟨_, Idx.nat hbl, ?_⟩
      refine LoopP.nat2 B[b].length (fun j w => w = if (k : Int) ∈ B[b].take j then (b : Int) else want) (by simp) ?_
      rintro Z j w hj rfl hZ
      unfold offcutlaw09_NotesHomes_L3
      dsimp only
      refine IfB.dc (fun h => ?_) (fun h => ?_)
      · have hjl : j < B[b].length := by omega
        refine ⟨_, Idx.nat hjl, ?_⟩
        rw [wrap64' (by omega) (by omega)]
        refine IfB.eqI (fun he => hZ _ hjl ?_) (fun hne => hZ _ hjl ?_)
        · rw [take_succ hjl, if_pos (by rw [he]; simp)]
        · rw [take_succ hjl]
          by_cases hin : (k : Int) ∈ B[b].take j
          · rw [if_pos hin, if_pos (List.mem_append_left _ hin)]
          · rw [if_neg hin, if_neg]
            intro hh
            rcases List.mem_append.1 hh with hh | hh
            · exact hin hh
            · simp at hh; exact hne hh.symm
      · rw [List.take_of_length_le (by omega), wrap64' (by omega) (by omega)]
        refine hY _ hbl ⟨fun b' h hlt hin => ?_, fun hno => ?_⟩
        · by_cases e : b' = b
          · subst e; rw [if_pos hin]
          · have := j1 b' h (by omega) hin
            by_cases hin2 : (k : Int) ∈ B[b]
            · exfalso
              have a1 := homeOf_in hok h hin
              have a2 := homeOf_in hok hbl hin2
              omega
            · rw [if_neg hin2]; exact this
        · rw [if_neg (hno b hbl (by omega))]
          exact j2 fun b' h hlt => hno b' h (by omega)
    · have eb : b = B.length := by omega
      subst eb
      have hat : (homeL V.length B)[k] = homeOf B k := by simp [homeL]
      refine ⟨_, Idx.nat hkH, ?_⟩
      rw [hat]
      have : homeOf B k = want := by
        by_cases hex : ∃ b', ∃ h : b' < B.length, (k : Int) ∈ B[b']
        · obtain ⟨b', h, hin⟩ := hex
          rw [homeOf_in hok h hin, j1 b' h h hin]
        · have hno : ∀ b' (h : b' < B.length), (k : Int) ∉ B[b'] := fun b' h hin => hex ⟨b', h, hin⟩
          rw [j2 fun b' h _ => hno b' h]
          refine homeOf_out fun l hl => ?_
          obtain ⟨b', h, rfl⟩ := List.getElem_of_mem hl
          exact hno b' h
      refine IfB.neI (fun hne => absurd this hne) (fun _ => ?_)
      rw [wrap64' (by omega) (by omega)]
      exact hX hkl trivial
  · refine LoopP.nat R.length (fun _ => True) trivial ?_
    intro X i hi _ hX
    unfold offcutlaw09_NotesHomes_L4
    dsimp only
    refine IfB.dc (fun h => ?_) (fun h => awk9 rfl)
    have hil : i < R.length := by omega
    have hmem := List.getElem_mem hil
    have hlen := (hm.2.2.2.2.2 _ hmem).1
    have hsg := hsg _ hmem
    have r60 := hm.2.2.1
    refine ⟨R[i].1, R[i].2.1, R[i].2.2.1, R[i].2.2.2.1, R[i].2.2.2.2.1, R[i].2.2.2.2.2, Idx.nat hil, ?_⟩
    have hrow : (R.map fun r => rowOf (nzH (homeL V.length B) r.2.1))[i]? = some (rowOf (nzH (homeL V.length B) R[i].2.1)) := by rw [List.getElem?_map, List.getElem?_eq_getElem hil]; rfl
    have hrng : ∀ a, a ∈ homeL V.length B → a = -1 ∨ ∃ j, j < B.length ∧ a = (j : Int) := fun a ha => by
      obtain ⟨q, _, rfl⟩ := List.mem_map.1 ha
      exact homeOf_rng B q
    generalize (R.map fun r => rowOf (nzH (homeL V.length B) r.2.1)) = RR at *
    generalize R[i].2.1 = c at *
    generalize homeL V.length B = H at *
    have hcl : c.length = H.length := by omega
    refine LoopP.nat2 B.length (fun b want => (∀ b' : Nat, b' < b → nzH H c ≠ [] → (∀ a, a ∈ nzH H c → a = (b' : Int)) → want = b') ∧ ((∀ b' : Nat, b' < b → ¬ (nzH H c ≠ [] ∧ ∀ a, a ∈ nzH H c → a = (b' : Int))) → want = -1)) ⟨fun b' h => by omega, fun _ => rfl⟩ ?_
    rintro Y b want hb ⟨j1, j2⟩ hY
    unfold offcutlaw09_NotesHomes_L5
    dsimp only
    refine IfB.dc (fun h => ?_) (fun h => ?_)
    · have hbl : b < B.length := by omega
      refine LoopP.intro (fun z : Bool × Bool × Int => ∃ j : Nat, z.2.2 = j ∧ j ≤ c.length ∧ z.1 = decide (nzH (H.take j) (c.take j) ≠ []) ∧ z.2.1 = decide (∀ a, a ∈ nzH (H.take j) (c.take j) → a = (b : Int))) (fun z => c.length - z.2.2.toNat) ⟨0, rfl, by omega, by simp [nzH], by simp [nzH]⟩ ?_
      rintro Z ⟨some, all, z⟩ ⟨j, e1, hj, e3, e4⟩ hZ
      dsimp only at e1 e3 e4
      subst e1
      have step : ∀ (hjl : j < c.length) s' o', (sgX c[j] = 0 → s' = some ∧ o' = all) → (sgX c[j] ≠ 0 → s' = true ∧ o' = (all && decide (H[j]'(by omega) = (b : Int)))) → Z (s', o', (j : Int) + 1) := by
        intro hjl s' o' h0 hn
        have hjH : j < H.length := by omega
        refine hZ _ ⟨j + 1, by simp, by omega, ?_⟩ (by dsimp only; omega)
        dsimp only
        rw [nzH_step hjH hjl]
        by_cases hz : sgX c[j] = 0
        · obtain ⟨rfl, rfl⟩ := h0 hz
          rw [if_pos hz, List.append_nil]
          exact ⟨e3, e4⟩
        · obtain ⟨rfl, rfl⟩ := hn hz
          rw [if_neg hz]
          refine ⟨(decide_eq_true (by simp)).symm, ?_⟩
          rw [e4, Bool.eq_iff_iff, Bool.and_eq_true, decide_eq_true_eq, decide_eq_true_eq, decide_eq_true_eq]
          constructor
          · rintro ⟨a1, a2⟩ a ha
            rcases List.mem_append.1 ha with ha | ha
            · exact a1 a ha
            · simp at ha; subst ha; exact a2
          · intro hh
            exact ⟨fun a ha => hh a (by simp [ha]), hh _ (by simp)⟩
      have fin : ¬ ((j : Int) < c.length) → nzH (H.take j) (c.take j) = nzH H c := fun h => by
        rw [List.take_of_length_le (by omega), List.take_of_length_le (by omega)]
      have ewj : (j : Int) < c.length → IntKind.i64.wrap ((j : Int) + 1) = (j : Int) + 1 := fun h => wrap64' (by omega) (by omega)
      have ewb : IntKind.i64.wrap ((b : Int) + 1) = (b : Int) + 1 := wrap64' (by omega) (by omega)
      unfold offcutlaw09_NotesHomes_L6
      dsimp only
      have no : ¬ (some = true ∧ all = true) → ¬ ((j : Int) < c.length) → Y (want, (b : Int) + 1) := fun hn h => by
        rw [fin h] at e3 e4
        refine hY _ hbl ⟨fun b' hlt h1 h2 => ?_, fun hno => j2 fun b' hlt => hno b' (by omega)⟩
        by_cases e : b' = b
        · subst e
          exact absurd ⟨by rw [e3]; exact decide_eq_true h1, by rw [e4]; exact decide_eq_true h2⟩ hn
        · exact j1 b' (by omega) h1 h2
      refine IfB.intro (fun hs1 => IfB.intro (fun ho1 => ?_) (fun ho0 => ?_)) (fun hs0 => IfB.intro (fun ho1 => ?_) (fun ho0 => ?_))
      · refine IfB.dc (fun h => ?_) (fun h => ?_)
        · have hjl : j < c.length := by omega
          have hjH : j < H.length := by omega
          rw [ewj h]
          refine ⟨c[j].1, c[j].2.1, c[j].2.2, Idx.nat hjl, _, sign9 (hsg _ (List.getElem_mem hjl)), IfB.neI (fun hz => ⟨_, Idx.nat hjH, IfB.eqI (fun he => step hjl _ _ (fun h => absurd h hz) (fun _ => ⟨rfl, by rw [ho1, decide_eq_true he]; rfl⟩)) (fun hne => step hjl _ _ (fun h => absurd h hz) (fun _ => ⟨rfl, by rw [decide_eq_false hne, Bool.and_false]⟩))⟩) (fun hz => step hjl _ _ (fun _ => ⟨hs1.symm, ho1.symm⟩) (fun h => absurd hz h))⟩
        · rw [ewb]
          have e3' := fin h ▸ e3
          have e4' := fin h ▸ e4
          have q1 : nzH H c ≠ [] := of_decide_eq_true (e3'.symm.trans hs1)
          have q2 : ∀ a, a ∈ nzH H c → a = (b : Int) := of_decide_eq_true (e4'.symm.trans ho1)
          refine hY _ hbl ⟨fun b' hlt h1 h2 => ?_, fun hno => absurd ⟨q1, q2⟩ (hno b (by omega))⟩
          obtain ⟨a, ha⟩ := List.exists_mem_of_ne_nil _ q1
          rw [← q2 a ha, h2 a ha]
      · refine IfB.dc (fun h => ?_) (fun h => ?_)
        · have hjl : j < c.length := by omega
          rw [ewj h]
          refine ⟨c[j].1, c[j].2.1, c[j].2.2, Idx.nat hjl, _, sign9 (hsg _ (List.getElem_mem hjl)), IfB.neI (fun hz => step hjl _ _ (fun h => absurd h hz) (fun _ => ⟨rfl, by rw [ho0, Bool.false_and]⟩)) (fun hz => step hjl _ _ (fun _ => ⟨hs1.symm, ho0.symm⟩) (fun h => absurd hz h))⟩
        · rw [ewb]; exact no (fun hh => by rw [ho0] at hh; cases hh.2) h
      · refine IfB.dc (fun h => ?_) (fun h => ?_)
        · have hjl : j < c.length := by omega
          have hjH : j < H.length := by omega
          rw [ewj h]
          refine ⟨c[j].1, c[j].2.1, c[j].2.2, Idx.nat hjl, _, sign9 (hsg _ (List.getElem_mem hjl)), IfB.neI (fun hz => ⟨_, Idx.nat hjH, IfB.eqI (fun he => step hjl _ _ (fun h => absurd h hz) (fun _ => ⟨rfl, by rw [ho1, decide_eq_true he]; rfl⟩)) (fun hne => step hjl _ _ (fun h => absurd h hz) (fun _ => ⟨rfl, by rw [decide_eq_false hne, Bool.and_false]⟩))⟩) (fun hz => step hjl _ _ (fun _ => ⟨hs0.symm, ho1.symm⟩) (fun h => absurd hz h))⟩
        · rw [ewb]; exact no (fun hh => by rw [hs0] at hh; cases hh.1) h
      · refine IfB.dc (fun h => ?_) (fun h => ?_)
        · have hjl : j < c.length := by omega
          rw [ewj h]
          refine ⟨c[j].1, c[j].2.1, c[j].2.2, Idx.nat hjl, _, sign9 (hsg _ (List.getElem_mem hjl)), IfB.neI (fun hz => step hjl _ _ (fun h => absurd h hz) (fun _ => ⟨rfl, by rw [ho0, Bool.false_and]⟩)) (fun hz => step hjl _ _ (fun _ => ⟨hs0.symm, ho0.symm⟩) (fun h => absurd hz h))⟩
        · rw [ewb]; exact no (fun hh => by rw [hs0] at hh; cases hh.1) h
    · have eb : b = B.length := by omega
      subst eb
      refine ⟨_, ⟨by omega, by rw [Int.toNat_natCast]; exact hrow⟩, ?_⟩
      have : rowOf (nzH H c) = want := by
        unfold rowOf
        by_cases hone : oneB (nzH H c)
        · rw [if_pos hone]
          by_cases hne : nzH H c = []
          · rw [hne] at j2 ⊢
            exact (j2 fun b' _ h => h.1 rfl).symm
          · have hl := last_mem hne
            rcases hrng _ (nzH_mem hl) with e | ⟨j, hj, e⟩
            · rw [e]
              refine (j2 fun b' _ h => ?_).symm
              have := h.2 _ hl
              omega
            · rw [e]
              refine (j1 j hj hne fun a ha => ?_).symm
              rw [hone a ha _ hl, e]
        · rw [if_neg hone]
          refine (j2 fun b' _ h => hone fun a ha a' ha' => ?_).symm
          rw [h.2 a ha, h.2 a' ha']
      refine IfB.neI (fun hne => absurd this hne) (fun _ => ?_)
      rw [wrap64' (by omega) (by omega)]
      exact hX hil trivial
end Go.Abs
end
