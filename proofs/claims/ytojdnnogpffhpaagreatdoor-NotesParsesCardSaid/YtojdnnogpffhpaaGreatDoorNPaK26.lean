/- Part of a proof, in few files: L9j L9k. -/
import Derived.Test.YtojdnnogpffhpaaGreatDoorNPaK25
import Derived.Test.YtojdnnogpffhpaaGreatDoorNPaK15

section
namespace Go.Abs
open Go
open Classical
set_option linter.unusedVariables false
set_option linter.unusedSimpArgs false
set_option linter.unnecessarySimpa false
noncomputable def blk (out : Bks) (k : Nat) (i : Int) : List Int := ((List.range k).filter fun v => decide (homeOf out v = i)).map fun (v : Nat) => (v : Int)
theorem blk_succ (out : Bks) (k : Nat) (i : Int) : blk out (k + 1) i = blk out k i ++ (if homeOf out k = i then [(k : Int)] else []) := by
  unfold blk
  rw [List.range_succ, List.filter_append, List.map_append]
  congr 1
  by_cases h : homeOf out k = i <;> simp [h]
theorem mem_blk {out : Bks} {k : Nat} {i x : Int} : x ∈ blk out k i ↔ ∃ v : Nat, v < k ∧ homeOf out v = i ∧ x = (v : Int) := by
  unfold blk
  simp only [List.mem_map, List.mem_filter, List.mem_range, decide_eq_true_eq]
  constructor
  · rintro ⟨v, ⟨h1, h2⟩, rfl⟩; exact ⟨v, h1, h2, rfl⟩
  · rintro ⟨v, h1, h2, rfl⟩; exact ⟨v, ⟨h1, h2⟩, rfl⟩
theorem blk_len (out : Bks) (k : Nat) (i : Int) : (blk out k i).length ≤ k := by
  unfold blk
  rw [List.length_map]
  have := List.length_filter_le (fun v => decide (homeOf out v = i)) (List.range k)
  simpa using this
theorem blk_srt (out : Bks) (k : Nat) (i : Int) : (blk out k i).Pairwise (· < ·) := by
  unfold blk
  refine List.pairwise_map.2 (List.Pairwise.filter _ ?_)
  exact List.pairwise_lt_range.imp fun h => by omega
theorem hd_app {l : List Int} (h : l ≠ []) (m : List Int) : hdK (l ++ m) = hdK l := by cases l with | nil => exact absurd rfl h | cons a l => rfl
theorem blk_hd {out : Bks} {k : Nat} {i : Int} (h : ∀ v, v < k → homeOf out v ≠ i) (hk : homeOf out k = i) : ∀ n, k < n → hdK (blk out n i) = (k : Int)
  | 0, hn => by omega
  | n + 1, hn => by
    rw [blk_succ]
    by_cases e : n = k
    · subst e
      have : blk out n i = [] := List.eq_nil_iff_forall_not_mem.2 fun x hx => by
        obtain ⟨v, h1, h2, _⟩ := mem_blk.1 hx
        exact h v h1 h2
      rw [this, if_pos hk]; rfl
    · rw [hd_app, blk_hd h hk n (by omega)]
      intro e0
      have : (k : Int) ∈ blk out n i := mem_blk.2 ⟨k, by omega, hk, rfl⟩
      rw [e0] at this; cases this
structure JB (out : Bks) (n k : Nat) (seen : List Int) (res : Bks) : Prop where
  nd : seen.Nodup
  mem : ∀ i, i ∈ seen ↔ 0 ≤ i ∧ ∃ v, v < k ∧ homeOf out v = i
  res : res = seen.map (blk out k)
  hd : ∀ i, i ∈ seen → hdK (blk out n i) < k
  srt : seen.Pairwise fun a b => hdK (blk out n a) ≤ hdK (blk out n b)
theorem JB.zero (out : Bks) (n : Nat) : JB out n 0 [] [] := ⟨by simp, by simp, by simp, by simp, by simp⟩
theorem JB.skip {out : Bks} {n k : Nat} {seen : List Int} {res : Bks} (h : JB out n k seen res) (hk : homeOf out k < 0) : JB out n (k + 1) seen res := by
  refine ⟨h.nd, fun i => ?_, ?_, fun i hi => by have := h.hd i hi; omega, h.srt⟩
  · rw [h.mem]
    constructor
    · rintro ⟨h0, v, hv, e⟩; exact ⟨h0, v, by omega, e⟩
    · rintro ⟨h0, v, hv, e⟩
      by_cases ev : v = k
      · subst ev; omega
      · exact ⟨h0, v, by omega, e⟩
  · rw [h.res]
    refine List.map_congr_left fun i hi => ?_
    rw [blk_succ, if_neg (by have := ((h.mem i).1 hi).1; omega), List.append_nil]
theorem JB.new {out : Bks} {n k : Nat} {seen : List Int} {res : Bks} (h : JB out n k seen res) (hkn : k < n) (hk : 0 ≤ homeOf out k) (hs : homeOf out k ∉ seen) : JB out n (k + 1) (seen ++ [homeOf out k]) (res ++ [[(k : Int)]]) := by
  have hno : ∀ v, v < k → homeOf out v ≠ homeOf out k := fun v hv e => hs ((h.mem _).2 ⟨hk, v, hv, e⟩)
  have hh := blk_hd hno rfl n hkn
  refine ⟨?_, fun i => ?_, ?_, fun i hi => ?_, ?_⟩
  · rw [List.nodup_append]
    exact ⟨h.nd, by simp, fun a ha b hb e => by rw [List.mem_singleton.1 hb] at e; subst e; exact hs ha⟩
  · rw [List.mem_append, h.mem, List.mem_singleton]
    constructor
    · rintro (⟨h0, v, hv, e⟩ | rfl)
      · exact ⟨h0, v, by omega, e⟩
      · exact ⟨hk, k, by omega, rfl⟩
    · rintro ⟨h0, v, hv, e⟩
      by_cases ev : v = k
      · subst ev; exact .inr e.symm
      · exact .inl ⟨h0, v, by omega, e⟩
  · rw [List.map_append, h.res]
    congr 1
    · refine List.map_congr_left fun i hi => ?_
      rw [blk_succ, if_neg (fun e => hs (by rw [e]; exact hi)), List.append_nil]
    · have : blk out k (homeOf out k) = [] := List.eq_nil_iff_forall_not_mem.2 fun x hx => by
        obtain ⟨v, h1, h2, _⟩ := mem_blk.1 hx
        exact hno v h1 h2
      rw [List.map_cons, List.map_nil, blk_succ, if_pos rfl, this]; rfl
  · rcases List.mem_append.1 hi with hi | hi
    · have := h.hd i hi; omega
    · rw [List.mem_singleton.1 hi, hh]; omega
  · rw [List.pairwise_append]
    refine ⟨h.srt, by simp, fun a ha b hb => ?_⟩
    rw [List.mem_singleton.1 hb, hh]
    have := h.hd a ha; omega
theorem JB.old {out : Bks} {n k a : Nat} {seen : List Int} {res : Bks} (h : JB out n k seen res) (ha : seen[a]? = some (homeOf out k)) : JB out n (k + 1) seen (res.set a (blk out k (homeOf out k) ++ [(k : Int)])) := by
  have hin := List.mem_of_getElem? ha
  have hk := ((h.mem _).1 hin).1
  obtain ⟨hal, hav⟩ := List.getElem?_eq_some_iff.1 ha
  refine ⟨h.nd, fun i => ?_, ?_, fun i hi => by have := h.hd i hi; omega, h.srt⟩
  · rw [h.mem]
    constructor
    · rintro ⟨h0, v, hv, e⟩; exact ⟨h0, v, by omega, e⟩
    · rintro ⟨h0, v, hv, e⟩
      by_cases ev : v = k
      · subst ev; rw [← e]; exact (h.mem _).1 hin
      · exact ⟨h0, v, by omega, e⟩
  · rw [h.res]
    apply List.ext_getElem (by simp)
    intro j h1 h2
    have hj : j < seen.length := by simpa using h2
    rw [List.getElem_set, List.getElem_map, List.getElem_map, blk_succ]
    by_cases e : a = j
    · subst e
      rw [if_pos rfl, hav, if_pos rfl]
    · rw [if_neg e, if_neg, List.append_nil]
      intro e2
      rw [← hav] at e2
      rcases Nat.lt_trichotomy a j with hl | hl | hl
      · exact List.pairwise_iff_getElem.1 h.nd a j hal hj hl e2
      · exact e hl
      · exact List.pairwise_iff_getElem.1 h.nd j a hj hal hl e2.symm
theorem JB.len {out : Bks} {n k : Nat} {seen : List Int} {res : Bks} (h : JB out n k seen res) : seen.length ≤ out.length := nodup_int h.nd fun i hi => by
  obtain ⟨h0, v, _, e⟩ := (h.mem i).1 hi
  rcases homeOf_rng out v with e1 | ⟨j, hj, e1⟩ <;> omega
theorem Blocks_says {out : Bks} {n : Nat} {r : Bks} (hn : n ≤ 1000) (ho : out.length ≤ 1000) (hE : ∀ seen res, JB out n n seen res → res = r) : offcutref09_Blocks (homeL n out) r := by
  unfold offcutref09_Blocks
  refine LoopP.natS (σ := Bks × List Int) n (fun k z => JB out n k z.2 z.1) (JB.zero out n) ?_
  rintro X k ⟨res, seen⟩ hk hJ hX
  dsimp only at hJ
  unfold offcutref09_Blocks_L1
  dsimp only
  rw [homeL_len]
  have hl := hJ.len
  have hrl : res.length = seen.length := by rw [hJ.res]; simp
  refine IfB.dc (fun h => ?_) (fun h => ?_)
  · have hkn : k < n := by omega
    have hat : Idx (homeL n out) (k : Int) (homeOf out k) := ⟨by omega, by simp [homeL, hkn]⟩
    rw [wrap64' (by omega) (by omega)]
    refine ⟨_, hat, IfB.dc (fun h0 => hX _ hkn (hJ.skip h0)) (fun h0 => ?_)⟩
    refine LoopP.nat2 seen.length (fun j w => (w = -1 ∧ homeOf out k ∉ seen.take j) ∨ ∃ a : Nat, w = a ∧ seen[a]? = some (homeOf out k)) (.inl ⟨rfl, by simp⟩) ?_
    rintro Y j w hj hw hY
    unfold offcutref09_Blocks_L2
    dsimp only
    refine IfB.dc (fun h => ?_) (fun h => ?_)
    · have hjl : j < seen.length := by omega
      rw [wrap64' (by omega) (by omega)]
      refine ⟨_, Idx.nat hjl, _, hat, IfB.eqI (fun he => hY _ hjl (.inr ⟨j, rfl, by rw [List.getElem?_eq_getElem hjl, he]⟩)) (fun hne => hY _ hjl ?_)⟩
      rcases hw with ⟨e, hno⟩ | hw
      · refine .inl ⟨e, fun hin => ?_⟩
        rw [take_succ hjl] at hin
        rcases List.mem_append.1 hin with hin | hin
        · exact hno hin
        · exact hne (List.mem_singleton.1 hin).symm
      · exact .inr hw
    · rw [List.take_of_length_le (by omega)] at hw
      refine IfB.dc (fun hneg => ?_) (fun hpos => ?_)
      · rcases hw with ⟨_, hno⟩ | ⟨a, e, _⟩
        · refine ⟨_, hat, by unfold Fits; simp; omega, by unfold Fits; simp; omega, ?_⟩
          rw [wrap64' (by omega) (by omega)]
          exact hX (_, _) hkn (hJ.new hkn (by omega) hno)
        · omega
      · rcases hw with ⟨e, _⟩ | ⟨a, rfl, ha⟩
        · omega
        · have hra : res[a]? = some (blk out k (homeOf out k)) := by rw [hJ.res, List.getElem?_map, ha]; rfl
          have hbl := blk_len out k (homeOf out k)
          refine ⟨_, ⟨by omega, by rw [Int.toNat_natCast]; exact hra⟩, by unfold Fits; simp; omega, ?_⟩
          rw [Int.toNat_natCast, wrap64' (by omega) (by omega)]
          exact hX (_, _) hkn (hJ.old ha)
  · have ek : k = n := by omega
    subst ek
    exact (hE _ _ hJ).symm
theorem blk_all {V : Ws} {had : List Int} {out : Bks} (h : JP V had out) (hs : ∀ l, l ∈ out → SrtK id l) {i : Nat} (hi : i < out.length) : blk out V.length (i : Int) = out[i] := by
  have hnd : out.flatten.Nodup := h.perm.nodup_iff.2 h.nd
  have hok : HomeP V.length out := ⟨fun k hk => h.rng k (h.perm.mem_iff.1 hk), hnd⟩
  have hin : ∀ (j v : Nat) (hj : j < out.length), (v : Int) ∈ out[j] → homeOf out v = j := fun j v hj hv => by
    have h1 := ent_mem out 0 j hj hv
    rw [Nat.zero_add] at h1
    have h2 : ((entB 0 out).map (·.1)).Nodup := by rw [entB_keys]; exact hnd
    unfold homeOf
    rw [find_key h2 h1]
  have hndi : (out[i]).Nodup := (List.pairwise_flatten.1 hnd).1 _ (List.getElem_mem hi)
  have hm : ∀ x, x ∈ blk out V.length (i : Int) ↔ x ∈ out[i] := fun x => by
    rw [mem_blk]
    constructor
    · rintro ⟨v, hv, e, rfl⟩
      unfold homeOf at e
      cases hf : (entB 0 out).find? (fun p => p.1 == (v : Int)) with
      | none => rw [hf] at e; simp at e
      | some p =>
        rw [hf] at e
        have h1 := List.mem_of_find?_eq_some hf
        have h2 : p.1 = (v : Int) := by simpa using List.find?_some hf
        obtain ⟨j, hj, e3, hx⟩ := mem_ent out 0 (x := p.1) (v := p.2) h1
        have e : p.2 = (i : Int) := e
        have : j = i := by omega
        subst this
        rw [← h2]; exact hx
    · intro hx
      have h1 := hok.1 x (List.mem_flatten.2 ⟨_, List.getElem_mem hi, hx⟩)
      refine ⟨x.toNat, by omega, hin i _ hi (by rw [Int.toNat_of_nonneg h1.1]; exact hx), by omega⟩
  have hp : (blk out V.length (i : Int)).Perm out[i] := (List.perm_ext_iff_of_nodup ((blk_srt out _ _).imp fun h => by omega) hndi).2 hm
  exact List.Perm.eq_of_pairwise (le := fun a b : Int => a ≤ b) (fun a b _ _ h1 h2 => by omega) ((blk_srt out _ _).imp fun h => by omega) (hs _ (List.getElem_mem hi)) hp
theorem JB.end {V : Ws} {had : List Int} {out : Bks} (h : JP V had out) (hs : ∀ l, l ∈ out → SrtK id l) {seen : List Int} {res : Bks} (hJ : JB out V.length V.length seen res) : res = sortB out := by
  have hnd : out.flatten.Nodup := h.perm.nodup_iff.2 h.nd
  have hrg : ∀ i, i ∈ seen → ∃ j : Nat, ∃ hj : j < out.length, i = j := fun i hi => by
    obtain ⟨h0, v, _, e⟩ := (hJ.mem i).1 hi
    rcases homeOf_rng out v with e1 | ⟨j, hj, e1⟩
    · omega
    · exact ⟨j, hj, by omega⟩
  have hp : seen.Perm ((List.range out.length).map fun (j : Nat) => (j : Int)) := by
    refine (List.perm_ext_iff_of_nodup hJ.nd ?_).2 fun i => ?_
    · exact List.pairwise_map.2 (List.pairwise_lt_range.imp fun h => by omega)
    · rw [List.mem_map]
      constructor
      · intro hi
        obtain ⟨j, hj, e⟩ := hrg i hi
        exact ⟨j, List.mem_range.2 hj, e.symm⟩
      · rintro ⟨j, hj, rfl⟩
        have hj := List.mem_range.1 hj
        have hne := h.ne _ (List.getElem_mem hj)
        obtain ⟨x, hx⟩ := List.exists_mem_of_ne_nil _ hne
        have hb := blk_all h hs hj
        rw [← hb] at hx
        obtain ⟨v, h1, h2, _⟩ := mem_blk.1 hx
        exact (hJ.mem _).2 ⟨by omega, v, h1, h2⟩
  have e1 : ((List.range out.length).map fun (j : Nat) => (j : Int)).map (blk out V.length) = out := by
    apply List.ext_getElem (by simp)
    intro j h1 h2
    rw [List.getElem_map, List.getElem_map, List.getElem_range]
    exact blk_all h hs h2
  refine sortB_eq hnd h.ne ?_ ?_
  · rw [hJ.res]
    exact List.pairwise_map.2 hJ.srt
  · rw [hJ.res]
    have := hp.map (blk out V.length)
    rwa [e1] at this
end Go.Abs
end

section
namespace Go.Abs
open Go
open Classical
set_option linter.unusedVariables false
set_option linter.unusedSimpArgs false
set_option linter.unnecessarySimpa false
theorem Find9_says (V : Ws) (w : By) (hV : V.length ≤ 1000) : offcutref09_Find V w (idxN V w) := by
  unfold offcutref09_Find
  refine LoopP.nat V.length (fun k => w ∉ V.take k) (by simp) ?_
  intro X k hk hno hX
  unfold offcutref09_Find_L1
  dsimp only
  refine IfB.dc (fun h => ?_) (fun h => ?_)
  · have hkl : k < V.length := by omega
    refine ⟨_, Idx.nat hkl, IfB.be (fun he => ?_) (fun hne => ?_)⟩
    · have hm : w ∈ V := by rw [← he]; exact List.getElem_mem hkl
      rw [(idxN_at hm).1]
      have h1 : V.idxOf w ≤ k := by
        refine Decidable.byContradiction fun hh => ?_
        have := List.not_of_lt_findIdx (p := (· == w)) (xs := V) (i := k) (by show k < V.idxOf w; omega)
        simp [he] at this
      have h2 : ¬ V.idxOf w < k := fun hl => by
        refine hno ?_
        have hlt := (idxN_at hm).2
        have hg : V[V.idxOf w] = w := List.getElem_idxOf hlt
        exact List.mem_iff_getElem.2 ⟨V.idxOf w, by simp; omega, by simp [hg]⟩
      omega
    · rw [wrap64' (by omega) (by omega)]
      refine hX hkl fun hin => ?_
      rw [take_succ hkl] at hin
      rcases List.mem_append.1 hin with hin | hin
      · exact hno hin
      · exact hne (List.mem_singleton.1 hin).symm
  · have : k = V.length := by omega
    subst this
    rw [List.take_length] at hno
    unfold idxN
    rw [if_neg hno]
theorem homeOf_at {B : Bks} (hnd : B.flatten.Nodup) {v j : Nat} (hj : j < B.length) (hv : (v : Int) ∈ B[j]) : homeOf B v = j := by
  have h1 := ent_mem B 0 j hj hv
  rw [Nat.zero_add] at h1
  have h2 : ((entB 0 B).map (·.1)).Nodup := by rw [entB_keys]; exact hnd
  unfold homeOf
  rw [find_key h2 h1]
theorem home_ge {B : Bks} (hnd : B.flatten.Nodup) {v : Nat} : 0 ≤ homeOf B v ↔ (v : Int) ∈ B.flatten := by
  constructor
  · intro h
    refine Decidable.byContradiction fun hn => ?_
    have := homeOf_out (B := B) (i := v) fun l hl hv => hn (List.mem_flatten.2 ⟨l, hl, hv⟩)
    omega
  · intro h
    obtain ⟨l, hl, hv⟩ := List.mem_flatten.1 h
    obtain ⟨j, hj, rfl⟩ := List.getElem_of_mem hl
    rw [homeOf_at hnd hj hv]; omega
theorem homeL_at {n : Nat} {B : Bks} {q : Int} (h0 : 0 ≤ q) (h1 : q < n) : Idx (homeL n B) q (homeOf B q.toNat) := ⟨h0, by
  have : q.toNat < n := by omega
  simp [homeL, this]⟩
theorem homeL_nil (n : Nat) (out : Bks) : homeL n (out ++ [[]]) = homeL n out := by
  have : entB 0 (out ++ [[]]) = entB 0 out := by rw [entB_app]; simp [entL]
  unfold homeL homeOf
  rw [this]
theorem homeL_add {n : Nat} {out : Bks} {ks : List Int} {q : Int} (h0 : 0 ≤ q) (h1 : q < n) (hq : q ∉ (out ++ [ks]).flatten) : (homeL n (out ++ [ks])).set q.toNat (out.length : Int) = homeL n (out ++ [ks ++ [q]]) := by
  have e : entB 0 (out ++ [ks ++ [q]]) = entB 0 (out ++ [ks]) ++ [(q, (out.length : Int))] := by
    rw [entB_app, entB_app, List.append_assoc]
    congr 1
    simp [entL]
  have hk : ∀ v : Nat, homeOf (out ++ [ks ++ [q]]) v = if q.toNat = v then (out.length : Int) else homeOf (out ++ [ks]) v := fun v => by
    unfold homeOf
    rw [e, List.find?_append]
    by_cases hv : q.toNat = v
    · rw [if_pos hv]
      have hqv : q = (v : Int) := by omega
      have : (entB 0 (out ++ [ks])).find? (fun p => p.1 == (v : Int)) = none := by
        rw [List.find?_eq_none]
        intro p hp hpe
        have hpe : p.1 = (v : Int) := by simpa using hpe
        refine hq ?_
        rw [← entB_keys (out ++ [ks]) 0, hqv, ← hpe]
        exact List.mem_map_of_mem hp
      rw [this, Option.none_or]
      simp [hqv]
    · rw [if_neg hv]
      have : [(q, (out.length : Int))].find? (fun p => p.1 == (v : Int)) = none := by
        have : ¬ q = (v : Int) := by omega
        simp [this]
      rw [this, Option.or_none]
  apply List.ext_getElem (by simp [homeL])
  intro i h2 h3
  rw [List.getElem_set]
  have hi : i < n := by simpa [homeL] using h3
  have a1 : (homeL n (out ++ [ks ++ [q]]))[i] = homeOf (out ++ [ks ++ [q]]) i := by simp [homeL]
  rw [a1, hk i]
  split
  · rfl
  · simp [homeL]
theorem homeL_srt {n : Nat} {out : Bks} {ks : List Int} (hnd : (out ++ [ks]).flatten.Nodup) : homeL n (out ++ [ks]) = homeL n (out ++ [sortI ks]) := by
  have hp : (out ++ [sortI ks]).flatten.Perm (out ++ [ks]).flatten := by
    simp only [List.flatten_append, List.flatten_cons, List.flatten_nil, List.append_nil]
    exact List.Perm.append_left _ (sortI_perm ks)
  have hnd' := hp.nodup_iff.2 hnd
  unfold homeL
  refine List.map_congr_left fun v _ => ?_
  by_cases hv : (v : Int) ∈ (out ++ [ks]).flatten
  · obtain ⟨l, hl, hvl⟩ := List.mem_flatten.1 hv
    obtain ⟨j, hj, rfl⟩ := List.getElem_of_mem hl
    have hj' : j < (out ++ [sortI ks]).length := by simpa using hj
    rw [homeOf_at hnd hj hvl, homeOf_at hnd' hj' (j := j)]
    by_cases hjo : j < out.length
    · rw [List.getElem_append_left hjo] at hvl ⊢; exact hvl
    · have : j = out.length := by simp at hj; omega
      subst this
      rw [List.getElem_concat_length rfl] at hvl ⊢
      exact (sortI_perm ks).mem_iff.2 hvl
  · rw [homeOf_out fun l hl h => hv (List.mem_flatten.2 ⟨l, hl, h⟩), homeOf_out fun l hl h => hv (hp.mem_iff.1 (List.mem_flatten.2 ⟨l, hl, h⟩))]
theorem refP_loop {V : Ws} (hV : V.length ≤ 1000) (L : Ls) (hL : LsOK L) : LoopP (offcutref09_Parse_L2 V L (resN (foldN V [] [] L))) ((0 : Int), homeL V.length []) := by
  have hl1 := hL.1
  refine LoopP.natS (σ := List Int) L.length (fun k home => ∃ had out, home = homeL V.length out ∧ out.length = k ∧ JP V had out ∧ (∀ l, l ∈ out → SrtK id l) ∧ foldN V [] [] L = foldN V had out (L.drop k)) ⟨[], [], rfl, rfl, JP.zero V, by simp, by simp⟩ ?_
  rintro X k home hk ⟨had, out, rfl, ho, hJ, hS, hF⟩ hX
  unfold offcutref09_Parse_L2
  dsimp only
  obtain ⟨n1, n2⟩ := hJ.len
  refine IfB.dc (fun h => ?_) (fun h => ?_)
  · have hkl : k < L.length := by omega
    obtain ⟨hw, hne⟩ := hL.2 _ (List.getElem_mem hkl)
    rw [List.drop_eq_getElem_cons hkl] at hF
    have hI : Idx L (k : Int) (L[k].1, L[k].2) := Idx.nat hkl
    rw [foldN] at hF
    generalize L[k].1 = a at *
    generalize L[k].2 = q at *
    cases q with
    | nil => exact absurd rfl hne
    | cons w ws =>
      refine ⟨a, _, hI, w, ⟨by omega, rfl⟩, IfB.nbe (fun hb => ⟨_, _, hI, ?_⟩) (fun hb => IfB.dc (fun h2 => ⟨_, _, hI, ?_⟩) (fun h2 => ?_))⟩
      · rw [hF, if_pos (.inl hb)]; rfl
      · rw [hF, if_pos (.inr (by omega))]; rfl
      · have hn : ¬ ((w :: ws).headD [] ≠ bkW ∨ (w :: ws).length < 2) := by
          rintro (h | h)
          · exact h hb
          · omega
        rw [if_neg hn, List.tail_cons] at hF
        have ht : 1 ≤ ws.length := by simp at h2; omega
        have hwl := hw.1
        rw [List.length_cons] at hwl
        refine LoopP.intro (fun z : Int × List Int => ∃ j : Nat, z.1 = (j : Int) + 1 ∧ j ≤ ws.length ∧ ∃ ks, z.2 = homeL V.length (out ++ [ks]) ∧ (had ++ ks).Nodup ∧ (∀ k, k ∈ ks → 0 ≤ k ∧ k < V.length) ∧ plS V had ws = (plS V (had ++ ks) (ws.drop j)).map (ks ++ ·)) (fun z => ws.length + 1 - z.1.toNat) ⟨0, by simp, by omega, [], by rw [homeL_nil], by simpa using hJ.nd, by simp, by simp⟩ ?_
        rintro Y ⟨z, home⟩ ⟨j, e1, hj, ks, e2, hnd, hrg, hpl⟩ hY
        dsimp only at e1 e2
        subst e1 e2
        have hfl : (out ++ [ks]).flatten.Perm (had ++ ks) := by
          simp only [List.flatten_append, List.flatten_cons, List.flatten_nil, List.append_nil]
          exact List.Perm.append_right _ hJ.perm
        have hndf : (out ++ [ks]).flatten.Nodup := hfl.nodup_iff.2 hnd
        unfold offcutref09_Parse_L3
        dsimp only
        refine IfB.dc (fun h => ?_) (fun h => ?_)
        · have hjk : j < ws.length := by rw [List.length_cons] at h; omega
          rw [List.drop_eq_getElem_cons hjk, plS] at hpl
          have hIw : Idx (w :: ws) ((j : Int) + 1) ws[j] := ⟨by omega, by
            have : ((j : Int) + 1).toNat = j + 1 := by omega
            rw [this, List.getElem?_cons_succ, List.getElem?_eq_getElem hjk]⟩
          refine ⟨_, hIw, _, Find9_says V _ hV, IfB.dc (fun hneg => ⟨_, _, hI, ?_⟩) (fun hpos => ?_)⟩
          · rw [if_neg (fun hc => (idxN_neg.1 hneg) hc.1)] at hpl
            rw [hF, hpl]; rfl
          · have hin : ws[j] ∈ V := Decidable.byContradiction fun hn => hpos (idxN_neg.2 hn)
            have hi := idxN_at hin
            have hlt : idxN V ws[j] < (V.length : Int) := by rw [hi.1]; omega
            have hat := homeL_at (B := out ++ [ks]) (q := idxN V ws[j]) (n := V.length) (by omega) hlt
            have hcast : (((idxN V ws[j]).toNat : Nat) : Int) = idxN V ws[j] := by omega
            refine ⟨_, hat, IfB.dc (fun hge => ⟨_, _, hI, ?_⟩) (fun hno => ⟨_, hat, ?_⟩)⟩
            · have hd : idxN V ws[j] ∈ had ++ ks := by
                have := (home_ge hndf).1 hge
                rw [hcast] at this
                exact hfl.mem_iff.1 this
              rw [if_neg (fun hc => hc.2 hd)] at hpl
              rw [hF, hpl]; rfl
            · have hnf : idxN V ws[j] ∉ (out ++ [ks]).flatten := fun hm => hno ((home_ge hndf).2 (by rw [hcast]; exact hm))
              have hd : idxN V ws[j] ∉ had ++ ks := fun hm => hnf (hfl.mem_iff.2 hm)
              rw [if_pos ⟨hin, hd⟩] at hpl
              rw [wrap64' (by omega) (by omega), ← ho, homeL_add (by omega) hlt hnf]
              refine hY _ ⟨j + 1, by simp, by omega, ks ++ [idxN V ws[j]], rfl, ?_, fun q hq => ?_, ?_⟩ (by dsimp only; omega)
              · rw [← List.append_assoc, List.nodup_append]
                exact ⟨hnd, by simp, fun a ha b hb => by rw [List.mem_singleton.1 hb]; exact fun e => hd (e ▸ ha)⟩
              · rcases List.mem_append.1 hq with hq | hq
                · exact hrg q hq
                · rw [List.mem_singleton.1 hq]; omega
              · rw [hpl, ← List.append_assoc, Option.map_map]
                congr 1
                funext z
                simp
        · have ej : j = ws.length := by rw [List.length_cons] at h; omega
          subst ej
          rw [List.drop_length, plS] at hpl
          simp only [Option.map_some, List.append_nil] at hpl
          rw [hpl] at hF
          rw [wrap64' (by omega) (by omega), homeL_srt hndf]
          refine hX _ hkl ⟨had ++ ks, out ++ [sortI ks], rfl, by rw [List.length_append, ho]; rfl, hJ.step hpl ht, fun l hl => ?_, hF⟩
          rcases List.mem_append.1 hl with hl | hl
          · exact hS l hl
          · rw [List.mem_singleton.1 hl]; exact sortI_srt ks
  · have ek : k = L.length := by omega
    rw [ek, List.drop_length, foldN] at hF
    rw [hF]
    exact ⟨sortB out, Blocks_says (by omega) (by omega) fun seen res hB => JB.end hJ hS hB, rfl⟩
theorem refP_says {V : Ws} {s : By} (hV : V.length ≤ 1000) (hl : s.length ≤ 65536) (hr : RightP s) : offcutref09_Parse V s (resN (foldN V [] [] (allL s))) := by
  unfold offcutref09_Parse
  refine ⟨⟨by omega, by unfold Fits; simp; omega, by unfold Fits; simp; omega⟩, ?_⟩
  rw [Int.toNat_natCast]
  refine LoopP.natS (σ := List Int) V.length (fun k home => home.length = V.length ∧ ∀ i, i < k → home[i]? = some (-1)) ⟨by simp, fun i h => by omega⟩ ?_
  rintro X k home hk ⟨hlen, hall⟩ hX
  unfold offcutref09_Parse_L1
  dsimp only
  rw [hlen]
  refine IfB.dc (fun h => ?_) (fun h => ?_)
  · have hkl : k < home.length := by omega
    refine ⟨_, Idx.nat hkl, ?_⟩
    rw [wrap64' (by omega) (by omega), Int.toNat_natCast]
    refine hX _ (by omega) ⟨by simpa using hlen, fun i hi => ?_⟩
    rw [List.getElem?_set]
    split
    · rename_i e; subst e; simp [hkl]
    · exact hall i (by omega)
  · have ek : k = V.length := by omega
    subst ek
    have eh : home = homeL V.length [] := by
      apply List.ext_getElem?
      intro i
      by_cases hi : i < V.length
      · rw [hall i hi]; simp [homeL, homeOf, entB, hi]
      · rw [List.getElem?_eq_none (by omega), List.getElem?_eq_none (by rw [homeL_len]; omega)]
    rw [eh]
    exact ⟨allL s, by rw [← goL_all hr]; exact offcutref07_All_says (by omega), refP_loop hV _ (allLs_ok hl)⟩
theorem fold_err {V : Ws} : ∀ (L : Ls) (had : List Int) (out : Bks) {a e : Int}, foldN V had out L = .inl (a, e) → e ≠ 0
  | [], had, out, a, e, h => by cases h
  | p :: r, had, out, a, e, h => by
    rw [foldN] at h
    split at h
    · cases h; omega
    · split at h
      · cases h; omega
      · exact fold_err r _ _ h
theorem fold_JP {V : Ws} : ∀ (L : Ls) (had : List Int) (out : Bks) {out' : Bks}, JP V had out → (∀ l, l ∈ out → SrtK id l) → foldN V had out L = .inr out' → ∃ had', JP V had' out' ∧ ∀ l, l ∈ out' → SrtK id l
  | [], had, out, out', hJ, hS, h => by cases h; exact ⟨had, hJ, hS⟩
  | p :: r, had, out, out', hJ, hS, h => by
    rw [foldN] at h
    split at h
    · cases h
    · rename_i hc
      split at h
      · cases h
      · rename_i ks hp
        have ht : 1 ≤ p.2.tail.length := by
          rw [List.length_tail]
          have : ¬ p.2.length < 2 := fun hh => hc (.inr hh)
          omega
        refine fold_JP r _ _ (hJ.step hp ht) (fun l hl => ?_) h
        rcases List.mem_append.1 hl with hl | hl
        · exact hS l hl
        · rw [List.mem_singleton.1 hl]; exact sortI_srt ks
theorem JP.ok {V : Ws} {had : List Int} {out : Bks} (hJ : JP V had out) (hS : ∀ l, l ∈ out → SrtK id l) : okBs V.length (sortB out) := by
  have hpm := sortB_perm out
  have hpf : (sortB out).flatten.Perm out.flatten := hpm.flatten
  have hnd : (sortB out).flatten.Nodup := hpf.nodup_iff.2 (hJ.perm.nodup_iff.2 hJ.nd)
  have hne : ∀ l, l ∈ sortB out → l ≠ [] := fun l hl => hJ.ne l (hpm.mem_iff.1 hl)
  have hdm : ∀ l, l ∈ sortB out → hdK l ∈ l := fun l hl => by
    cases l with
    | nil => exact absurd rfl (hne _ hl)
    | cons a l => simp [hdK]
  refine ⟨⟨fun k hk => hJ.rng k (hJ.perm.mem_iff.1 (hpf.mem_iff.1 hk)), hnd⟩, fun l hl => ⟨hne l hl, (hS l (hpm.mem_iff.1 hl)).imp fun h => h⟩, ?_⟩
  rw [List.pairwise_cons]
  constructor
  · intro x hx
    obtain ⟨l, hl, rfl⟩ := List.mem_map.1 hx
    have h1 := hJ.rng _ (hJ.perm.mem_iff.1 (hpf.mem_iff.1 (List.mem_flatten.2 ⟨l, hl, hdm l hl⟩)))
    have : hdK l = l.headD 0 := rfl
    omega
  · refine List.pairwise_map.2 (List.Pairwise.imp_of_mem (fun {a b} ha hb hab => ?_) (List.Pairwise.and (sortB_srt out) (List.pairwise_flatten.1 hnd).2))
    have h1 := hab.1
    have h2 := hab.2 _ (hdm a ha) _ (hdm b hb)
    have e1 : hdK a = a.headD 0 := rfl
    have e2 : hdK b = b.headD 0 := rfl
    omega
theorem law_nparses (V : List By) (C : List Fr) (R : List MRow) (s : By) : offcutlaw09_NotesParses V C R s true := by
  unfold offcutlaw09_NotesParses
  refine ⟨_, Few8_says V C R, IfB.dc (fun hF => IfB.dc (fun _ => awk9 rfl) (fun hl => ?_)) (fun _ => awk9 rfl)⟩
  have v8 := hF.1
  have hR := model_Right_says V C R
  by_cases hm : MayM V C R
  · rw [decide_eq_true hm] at hR
    by_cases hr : RightP s
    · have hr1 : offcutref07_Right s true := offcutref07_Right_says (by omega) (by simpa using hr)
      have hp := Parse9_says (C := C) (R := R) (s := s) hm (by omega) (by omega) hr
      have hq := refP_says (V := V) (s := s) (by omega) (by omega) hr
      generalize hG : foldN V [] [] (allL s) = G at hp hq
      cases G with
      | inl z =>
        obtain ⟨a, e⟩ := z
        have he := fold_err _ _ _ hG
        have hs : offcutlaw09_same ([] : Bks) [] true := by have := same9_says (A := []) (B := []) ⟨by simp, by simp⟩; rwa [decide_eq_true rfl] at this
        exact ⟨_, _, _, hp, true, hR, IfB_true.2 ⟨true, hr1, IfB_true.2 ⟨_, _, _, hq, true, hs, IfB_true.2 (IfB.eqI (fun _ => IfB.eqI (fun _ => IfB.neI (fun _ => awk9 rfl) (fun h => absurd h he)) (fun h => absurd rfl h)) (fun h => absurd rfl h))⟩⟩⟩
      | inr out =>
        obtain ⟨had, hJ, hS⟩ := fold_JP _ _ _ (JP.zero V) (by simp) hG
        have hok := hJ.ok hS
        have hfew : FewB (sortB out) := by
          obtain ⟨n1, n2⟩ := hJ.len
          refine ⟨by rw [(sortB_perm out).length_eq]; omega, fun l hl => ?_⟩
          have h1 := (List.pairwise_flatten.1 hok.1.2).1 l hl
          have := nodup_int (n := V.length) h1 fun k hk => hok.1.1 k (List.mem_flatten.2 ⟨l, hl, hk⟩)
          omega
        have hs : offcutlaw09_same (sortB out) (sortB out) true := by have := same9_says (B := sortB out) hfew; rwa [decide_eq_true rfl] at this
        have hRt := Right9_says V C R hfew (by omega)
        rw [decide_eq_true ⟨hok, hm⟩] at hRt
        exact ⟨_, _, _, hp, true, hR, IfB_true.2 ⟨true, hr1, IfB_true.2 ⟨_, _, _, hq, true, hs, IfB_true.2 (IfB.eqI (fun _ => IfB.eqI (fun _ => IfB.neI (fun h => absurd rfl h) (fun _ => ⟨true, hRt, IfB_true.2 (awk9 rfl)⟩)) (fun h => absurd rfl h)) (fun h => absurd rfl h))⟩⟩⟩
    · have hr1 : offcutref07_Right s false := offcutref07_Right_says (by omega) (by simpa using hr)
      exact ⟨_, _, _, Parse9_form hm (by omega) hr, true, hR, IfB_true.2 ⟨false, hr1, IfB_false.2 (IfB.eqI (fun _ => IfB.eqI (fun _ => IfB.eqI (fun _ => awk9 rfl) (fun h => absurd rfl h)) (fun h => absurd rfl h)) (fun h => absurd rfl h))⟩⟩
  · rw [decide_eq_false hm] at hR
    exact ⟨_, _, _, Parse9_no hm, false, hR, IfB_false.2 (IfB.eqI (fun _ => IfB.eqI (fun _ => IfB.eqI (fun _ => awk9 rfl) (fun h => absurd rfl h)) (fun h => absurd rfl h)) (fun h => absurd rfl h))⟩
end Go.Abs
end
